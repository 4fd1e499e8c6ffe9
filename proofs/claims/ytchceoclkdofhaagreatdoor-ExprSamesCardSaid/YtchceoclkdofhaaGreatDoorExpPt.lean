/- The reference's Put of a name among rising ones, walked. Condition: rows that fit. -/
import Derived.Test.YtchceoclkdofhaaGreatDoorExpN
import Derived.Test.YtchceoclkdofhaaGreatDoorExpM
import Derived.Test.YtchceoclkdofhaaGreatDoorOwn
namespace Go.Proofs.YtchceoclkdofhaaGreatDoor
set_option linter.unusedVariables false
set_option linter.unusedSimpArgs false
open Go.RowKit
namespace ExpW
open CalP CalW ExpP
open MemP (lt)
/-- A name put among rising ones. -/
def putB (xs : List ByteArray) (nm : ByteArray) : List ByteArray :=
  if (xs.dropWhile (fun x => lt x nm)).head? = some nm then xs else xs.takeWhile (fun x => lt x nm) ++ nm :: xs.dropWhile (fun x => lt x nm)
theorem put_at {xs : List ByteArray} {nm : ByteArray} {k : Nat} (h : (xs.take k).all (fun x => lt x nm) = true) (h2 : k = xs.length ∨ ∃ x, xs[k]? = some x ∧ lt x nm = false) (hk : k ≤ xs.length) : xs.takeWhile (fun x => lt x nm) = xs.take k ∧ xs.dropWhile (fun x => lt x nm) = xs.drop k := by
  have hs : ∀ p ∈ xs.take k, lt p nm = true := List.all_eq_true.1 h
  conv => lhs; lhs; rw [← List.take_append_drop k xs]
  conv => rhs; lhs; rw [← List.take_append_drop k xs]
  rw [List.takeWhile_append_of_pos hs, List.dropWhile_append_of_pos hs]
  rcases h2 with h2 | ⟨p, hp, hq⟩
  · rw [List.drop_eq_nil_of_le (by omega)]; simp
  · have hlt := (List.getElem?_eq_some_iff.1 hp).1
    have hd : xs.drop k = p :: xs.drop (k + 1) := by
      rw [List.drop_eq_getElem_cons hlt, (List.getElem?_eq_some_iff.1 hp).2]
    rw [hd]
    simp [hq]
theorem put_new {xs : List ByteArray} {nm : ByteArray} {k : Nat} (h : (xs.take k).all (fun x => lt x nm) = true) (h2 : k = xs.length ∨ ∃ x, xs[k]? = some x ∧ lt x nm = false ∧ x ≠ nm) (hk : k ≤ xs.length) : putB xs nm = xs.take k ++ nm :: xs.drop k := by
  obtain ⟨e1, e2⟩ := put_at h (h2.imp id (fun ⟨x, a, b, _⟩ => ⟨x, a, b⟩)) hk
  unfold putB
  rw [e1, e2, if_neg]
  rw [List.head?_drop]
  rcases h2 with h2 | ⟨x, hx, _, hn⟩
  · rw [List.getElem?_eq_none (by omega)]; simp
  · rw [hx]; intro e; injection e with e; exact hn e
theorem put_old {xs : List ByteArray} {nm : ByteArray} {k : Nat} (h : (xs.take k).all (fun x => lt x nm) = true) (h2 : xs[k]? = some nm) (h3 : lt nm nm = false) : putB xs nm = xs := by
  have hk := (List.getElem?_eq_some_iff.1 h2).1
  obtain ⟨e1, e2⟩ := put_at h (.inr ⟨nm, h2, h3⟩) (by omega)
  unfold putB
  rw [e2, if_pos]
  rw [List.head?_drop]; exact h2
theorem all_more {xs : List ByteArray} {p : ByteArray → Bool} {k : Nat} {x : ByteArray} (h : (xs.take k).all p = true) (hx : xs[k]? = some x) (hp : p x = true) : (xs.take (k + 1)).all p = true := by
  have hlt := (List.getElem?_eq_some_iff.1 hx).1
  rw [List.take_succ_eq_append_getElem hlt, List.all_append, h, (List.getElem?_eq_some_iff.1 hx).2]; simp [hp]
theorem str_one {l : List ByteArray} : ∀ u ∈ l.map Value.string, u.oneCell' = true := by
  intro u hu
  obtain ⟨x, _, rfl⟩ := List.mem_map.1 hu
  rfl
theorem cell_at0 (w : World) (g o j : Nat) : w.cell? ((⟨g, o, none⟩ : Addr).add j) = w.cell? ⟨g, o + j, none⟩ := by
  unfold Addr.add; split
  · next h => subst h; rfl
  · rfl
def PutPost (B : Nat) (xs : List ByteArray) (w : World) (x : Ending) (w' : World) : Prop := ∃ v', x = .returned v' ∧ OwnS w' B v' xs ∧ Below w.heap.size w w'
theorem ownS_n {w : World} {B : Nat} {v : Value} {n : Nat} {xs : List ByteArray} (h : w.ownsRow B 9 1 v n (xs.map Value.string)) (hn : n = xs.length) : OwnS w B v xs := by
  unfold OwnS; rw [← hn]; exact h
set_option maxRecDepth 100000 in
set_option maxHeartbeats 6400000 in
theorem put_c {B : Nat} (v : Value) (xs : List ByteArray) (nm : ByteArray) (w : World) (h : OwnS w B v xs) (hB : B ≤ w.heap.size) (hl : xs.length ≤ 1000000) :
    Calls Tryz.prog 27 #[v, .string nm] w (PutPost B (putB xs nm) w) := by
  obtain ⟨i0, hi0, hz0, hz1, hz2⟩ := (show ∃ i, Tryz.prog.info? 9 = some i ∧ i.zero = some (.string noB) ∧ i.size = 1 ∧ i.bytes = 16 from ⟨_, rfl, by kernel_rfl, by kernel_rfl, by kernel_rfl⟩)
  have hirr : lt nm nm = false := by
    cases e : lt nm nm with
    | false => rfl
    | true => exact absurd rfl (MemP.lt_ne e)
  obtain ⟨P, hP⟩ : ∃ P, putB xs nm = P := ⟨_, rfl⟩
  rw [hP]
  have hnew := fun k h1 h2 h3 => (put_new (xs := xs) (nm := nm) (k := k) h1 h2 h3).symm.trans hP
  have hold := fun k h1 h2 => (put_old (xs := xs) (nm := nm) (k := k) h1 h2 hirr).symm.trans hP
  have HNEW := Lib.hid hnew
  have HOLD := Lib.hid hold
  have HOWN := Lib.hid h
  clear hnew hold hP hirr
  rcases h.2 with ⟨rfl, h0⟩ | ⟨g, cap, cur, rfl, hBg, hhg, hncap, hcapm, hcur, htake⟩
  · obtain rfl : xs = [] := List.eq_nil_of_length_eq_zero h0
    have hz : P = [nm] := (HNEW.out 0 rfl (.inl rfl) (Nat.le_refl _)).symm
    subst hz
    clear HNEW HOLD HOWN h h0 hl
    have g1 : 1 ≤ (Question.appendCap 1 0 9).cut (w.tape w.drawn (Question.appendCap 1 0 9)) := grownCap_ge w 1 0 9
    have g2 : (Question.appendCap 1 0 9).cut (w.tape w.drawn (Question.appendCap 1 0 9)) ≤ maxLen := grownCap_le_maxLen w 1 0 9 (by unfold maxLen; omega)
    have G1 := Lib.hid g1
    have G2 := Lib.hid g2
    clear g1 g2
    go_enter Tryz.func27, Tryz.ntmps27
    go_wp2_with fail
    go_loop [5] (fun kv => kv = .int .i64 0) (fun kv => 0)
    case atStart => rfl
    case round =>
      subst hrel
      go_wp2
      go_ret
      refine ⟨_, rfl, ?_, ?_⟩
      · refine ownS_n (n := 1) ?_ rfl
        refine Own.of_blk (xs := [nm].map Value.string) (Blk.new2 w _ _ _ _) (by omega) rfl G1.out G2.out ?_ ?_
        · rw [Array.size_append, size_zeroCells]
          have := G1.out
          simp; omega
        · simp
      · exact below_dn (((Below.refl _ _).alloc (Nat.le_refl _) _).alloc (by rw [World.size_alloc]; omega) _ |>.alloc (by rw [World.size_alloc, World.size_alloc]; omega) _) 1
  obtain ⟨m, hm⟩ : ∃ m, xs.length = m := ⟨_, rfl⟩
  have hc : ∀ j u, (xs.map Value.string)[j]? = some u → w.cell? ⟨g, j, none⟩ = some u := fun j u hu => by
    have hj : j < xs.length := by simpa using (List.getElem?_eq_some_iff.1 hu).1
    exact (World.ownsRow.cellAt h j (by omega)).trans hu
  have hgw : g < w.heap.size := (Array.getElem?_eq_some_iff.1 hhg).1
  rw [hm] at hl hncap ⊢
  have HC := Lib.hid hc
  have HL := Lib.hid hm
  have hBw : B ≤ w.heap.size := hB
  clear hc h hhg hcur htake hm
  go_enter Tryz.func27, Tryz.ntmps27
  go_wp2_with fail
  go_loop [5] (fun kv => ∃ k : Nat, kv = .int .i64 k ∧ k ≤ m ∧ Hid ((xs.take k).all (fun p => lt p nm) = true)) (fun kv => m - (intOf kv).toNat)
  case atStart => exact ⟨0, rfl, by omega, rfl⟩
  case round =>
    obtain ⟨k, rfl, hk, hx⟩ := hrel
    by_cases hlt : k < m
    · have hxk : xs[k]? = some (xs[k]'(by have := HL.out; omega)) := List.getElem?_eq_getElem _
      obtain ⟨a, ha⟩ : ∃ a, xs[k]'(by have := HL.out; omega) = a := ⟨_, rfl⟩
      rw [ha] at hxk
      have q0 := HC.out k (.string a) (by rw [List.getElem?_map, hxk]; rfl)
      have HXK := Lib.hid hxk
      clear hxk ha
      cases hq : lt a nm
      · have hq2 : Op.bytesLess a.toList nm.toList = false := hq
        have HQ := Lib.hid hq
        clear hq
        cases he : (a.toList == nm.toList)
        · have HE := Lib.hid (HNEW.out k hx.out (.inr ⟨a, HXK.out, HQ.out, by
            intro e; rw [e] at he; simp at he⟩) (by have := HL.out; omega))
          have hck : ¬ cap = k := by omega
          clear HNEW HOLD HOWN HXK HQ hx
          have hcT := Lib.hid (fun j u (hj : ((xs.take k).map Value.string)[j]? = some u) => HC.out j u (by rw [List.map_take, List.getElem?_take] at hj; split at hj; exact hj; cases hj))
          have hcD := Lib.hid (fun j u (hj : ((xs.drop k).map Value.string)[j]? = some u) => HC.out (k + j) u (by rw [List.map_drop, List.getElem?_drop] at hj; exact hj))
          have hlT : ((xs.take k).map Value.string).length = k := by have := HL.out; rw [List.length_map, List.length_take]; omega
          have hlD : ((xs.drop k).map Value.string).length = m - k := by have := HL.out; rw [List.length_map, List.length_drop]; omega
          have HLT := Lib.hid hlT
          have HLD := Lib.hid hlD
          clear hlT hlD
          obtain ⟨XT, hXT⟩ : ∃ z, (xs.take k).map Value.string = z := ⟨_, rfl⟩
          obtain ⟨XD, hXD⟩ : ∃ z, (xs.drop k).map Value.string = z := ⟨_, rfl⟩
          rw [hXT] at hcT HLT
          rw [hXD] at hcD HLD
          have hone : ∀ u ∈ XT, u.oneCell' = true := hXT ▸ str_one
          have hone2 : ∀ u ∈ XD, u.oneCell' = true := hXD ▸ str_one
          have HXT := Lib.hid hXT
          have HXD := Lib.hid hXD
          clear hXT hXD
          go_wp2_with (at_builtin; refine wpList_append_own _ rfl _ _ 27 rfl w.heap.size 9 i0 (.string noB) 1 16 Tryz.underlying27 hi0 hz0 hz1 hz2 rfl (by decide) _ 0 [] rfl (World.ownsRow_made w #[] 0 (Nat.le_refl _) (Nat.zero_le _) (by simp)) ⟨g, 0, none⟩ k cap XT rfl (by rw [HLT.out]; omega) (by intro j u hj; exact Lib.cell?_alloc_some _ (by rw [cell_at0]; rw [Nat.zero_add]; exact hcT.out j u hj)) hone (by unfold maxLen; omega) (by omega) (by rw [World.size_alloc]; omega) ?_)
          intro v1 w3 hown1 hgrow1 _
          have hb3 : Below w.heap.size w w3 := ((Below.refl _ w).alloc (Nat.le_refl _) _).grown hgrow1 (by rw [World.size_alloc]; omega) (by intro j hj; simp [Value.ownBlock] at hj; omega)
          have hz3 := hb3.size
          go_wp2_with (at_builtin; refine wpList_append_lies _ rfl _ _ 27 rfl w.heap.size 9 i0 (.string noB) 1 16 Tryz.underlying27 hi0 hz0 hz1 hz2 rfl (by decide) _ k XT rfl (hown1.alloc _) ⟨w3.heap.size, 0, none⟩ 1 1 [.string nm] rfl rfl (World.news_of_block (heap_alloc_new w3 _)) (by intro u hu; simp at hu; subst hu; rfl) (by omega) (by unfold maxLen; omega) (by omega) (by rw [World.size_alloc]; omega) (w3.heap.size + 1) (by rw [World.size_alloc]) ?_)
          intro g5 cap5 w5 hown5 hgrow5 _ _
          have hlt1 := hown1.lt
          have hb5 : Below w.heap.size w w5 := (hb3.alloc hz3 _).grown hgrow5 (by rw [World.size_alloc]; omega) (fun j hj => by have := (hlt1 j hj).1; omega)
          have hcD5 := Lib.hid (fun j u hj => (hb5.cell (p := ⟨g, k + j, none⟩) hgw).trans (hcD.out j u hj))
          have hz5 : w.heap.size ≤ w5.heap.size := hb5.size
          have hpos5 : k + 1 ≤ cap5 := (Own.blk_of hown5).2.2.2.2.1
          clear hgrow5 hown1 hlt1 hgrow1
          go_wp2_with (at_builtin; refine wpList_append_own _ rfl _ _ 27 rfl w.heap.size 9 i0 (.string noB) 1 16 Tryz.underlying27 hi0 hz0 hz1 hz2 rfl (by decide) _ _ _ rfl hown5 ⟨g, k, none⟩ (m - k) (cap - k) XD rfl (by rw [HLD.out]; omega) (by intro j u hj; rw [cell_at0]; exact hcD5.out j u hj) hone2 (by unfold maxLen; omega) (by omega) (by omega) ?_)
          intro v6 w6 hown6 hgrow6 _
          have hb6 : Below w.heap.size w w6 := hb5.grown hgrow6 (by omega) (fun j hj => by have := (hown5.lt j hj).1; omega)
          go_wp2
          go_ret
          refine ⟨v6, rfl, ?_, hb6⟩
          rw [← HE.out]
          refine ownS_n (n := k + 1 + (m - k)) ?_ (by have h1 := HLT.out; have h2 := HLD.out; rw [← HXT.out, List.length_map] at h1; rw [← HXD.out, List.length_map] at h2; rw [List.length_append, List.length_cons, h1, h2]; omega)
          rw [List.map_append, List.map_cons, HXT.out, HXD.out]
          exact ⟨hown6.1, hown6.2.imp id (fun ⟨g', cap', cur', h1, h2, h3⟩ => ⟨g', cap', cur', h1, Nat.le_trans hBw h2, h3⟩)⟩
        · have hae : a = nm := (MemP.eq_iff a nm).1 he
          subst hae
          have HE := Lib.hid (HOLD.out k hx.out HXK.out)
          have hown := HOWN.out
          clear HNEW HOLD HOWN HXK HQ hx
          go_wp2
          go_ret
          refine ⟨_, rfl, ?_, Below.refl _ _⟩
          rw [← HE.out]
          have := HL.out
          rw [this] at hown
          exact hown
      · have hq2 : Op.bytesLess a.toList nm.toList = true := hq
        have HQ := Lib.hid hq
        clear hq
        go_wp2
        go_round
        case rel => exact ⟨k + 1, by go_num, by omega, all_more hx.out HXK.out HQ.out⟩
        case measure => simp [intOf]; omega
    · have hkm : k = m := by omega
      have HE := Lib.hid (HNEW.out k hx.out (.inl (by have := HL.out; omega)) (by have := HL.out; omega))
      clear HNEW HOLD HOWN hx
      by_cases hm0 : m = 0
      · subst hm0
        subst hkm
        have hxs0 : xs = [] := List.eq_nil_of_length_eq_zero HL.out
        have HE2 := Lib.hid (show P = [nm] by rw [← HE.out, hxs0]; rfl)
        clear HE hxs0 HC HL
        have g1 : 1 ≤ (Question.appendCap 1 0 9).cut (w.tape w.drawn (Question.appendCap 1 0 9)) := grownCap_ge w 1 0 9
        have g2 : (Question.appendCap 1 0 9).cut (w.tape w.drawn (Question.appendCap 1 0 9)) ≤ maxLen := grownCap_le_maxLen w 1 0 9 (by unfold maxLen; omega)
        have G1 := Lib.hid g1
        have G2 := Lib.hid g2
        clear g1 g2
        go_wp2
        all_goals
          go_ret
          rw [HE2.out]
          refine ⟨_, rfl, ?_, ?_⟩
          · refine ownS_n (n := 1) ?_ rfl
            refine Own.of_blk (xs := [nm].map Value.string) (Blk.new2 w _ _ _ _) (by omega) rfl G1.out G2.out ?_ ?_
            · rw [Array.size_append, size_zeroCells]
              have := G1.out
              simp; omega
            · simp
          · exact below_dn (((Below.refl _ _).alloc (Nat.le_refl _) _).alloc (by rw [World.size_alloc]; omega) _ |>.alloc (by rw [World.size_alloc, World.size_alloc]; omega) _) 1
      have hk0 : 0 < k := by omega
      clear hkm
      by_cases hck : cap = k
      · subst hck
        have hcT := Lib.hid (fun j u (hj : ((xs.take cap).map Value.string)[j]? = some u) => HC.out j u (by rw [List.map_take, List.getElem?_take] at hj; split at hj; exact hj; cases hj))
        have hcD := Lib.hid (fun j u (hj : ((xs.drop cap).map Value.string)[j]? = some u) => HC.out (cap + j) u (by rw [List.map_drop, List.getElem?_drop] at hj; exact hj))
        have hlT : ((xs.take cap).map Value.string).length = cap := by have := HL.out; rw [List.length_map, List.length_take]; omega
        have hlD : ((xs.drop cap).map Value.string).length = m - cap := by have := HL.out; rw [List.length_map, List.length_drop]; omega
        have HLT := Lib.hid hlT
        have HLD := Lib.hid hlD
        clear hlT hlD
        obtain ⟨XT, hXT⟩ : ∃ z, (xs.take cap).map Value.string = z := ⟨_, rfl⟩
        obtain ⟨XD, hXD⟩ : ∃ z, (xs.drop cap).map Value.string = z := ⟨_, rfl⟩
        rw [hXT] at hcT HLT
        rw [hXD] at hcD HLD
        have hone : ∀ u ∈ XT, u.oneCell' = true := hXT ▸ str_one
        have hone2 : ∀ u ∈ XD, u.oneCell' = true := hXD ▸ str_one
        have HXT := Lib.hid hXT
        have HXD := Lib.hid hXD
        clear hXT hXD
        go_wp2_with (at_builtin; refine wpList_append_own _ rfl _ _ 27 rfl w.heap.size 9 i0 (.string noB) 1 16 Tryz.underlying27 hi0 hz0 hz1 hz2 rfl (by decide) _ 0 [] rfl (World.ownsRow_made w #[] 0 (Nat.le_refl _) (Nat.zero_le _) (by simp)) ⟨g, 0, none⟩ cap cap XT rfl (by rw [HLT.out]; omega) (by intro j u hj; exact Lib.cell?_alloc_some _ (by rw [cell_at0]; rw [Nat.zero_add]; exact hcT.out j u hj)) hone (by unfold maxLen; omega) (by omega) (by rw [World.size_alloc]; omega) ?_)
        intro v1 w3 hown1 hgrow1 _
        have hb3 : Below w.heap.size w w3 := ((Below.refl _ w).alloc (Nat.le_refl _) _).grown hgrow1 (by rw [World.size_alloc]; omega) (by intro j hj; simp [Value.ownBlock] at hj; omega)
        have hz3 := hb3.size
        go_wp2_with (at_builtin; refine wpList_append_lies _ rfl _ _ 27 rfl w.heap.size 9 i0 (.string noB) 1 16 Tryz.underlying27 hi0 hz0 hz1 hz2 rfl (by decide) _ cap XT rfl (hown1.alloc _) ⟨w3.heap.size, 0, none⟩ 1 1 [.string nm] rfl rfl (World.news_of_block (heap_alloc_new w3 _)) (by intro u hu; simp at hu; subst hu; rfl) (by omega) (by unfold maxLen; omega) (by omega) (by rw [World.size_alloc]; omega) (w3.heap.size + 1) (by rw [World.size_alloc]) ?_)
        intro g5 cap5 w5 hown5 hgrow5 _ _
        have hlt1 := hown1.lt
        have hb5 : Below w.heap.size w w5 := (hb3.alloc hz3 _).grown hgrow5 (by rw [World.size_alloc]; omega) (fun j hj => by have := (hlt1 j hj).1; omega)
        have hcD5 := Lib.hid (fun j u hj => (hb5.cell (p := ⟨g, cap + j, none⟩) hgw).trans (hcD.out j u hj))
        have hz5 : w.heap.size ≤ w5.heap.size := hb5.size
        have hpos5 : cap + 1 ≤ cap5 := (Own.blk_of hown5).2.2.2.2.1
        clear hgrow5 hown1 hlt1 hgrow1
        go_wp2
        go_ret
        refine ⟨_, rfl, ?_, hb5⟩
        rw [← HE.out]
        have hd0 : xs.drop cap = [] := List.drop_eq_nil_of_le (by have := HL.out; omega)
        rw [hd0]
        refine ownS_n (n := cap + 1) ?_ (by have h1 := HLT.out; rw [← HXT.out, List.length_map] at h1; rw [List.length_append, h1]; rfl)
        rw [List.map_append, HXT.out]
        exact ⟨hown5.1, hown5.2.imp id (fun ⟨g', cap', cur', h1, h2, h3⟩ => ⟨g', cap', cur', h1, Nat.le_trans hBw h2, h3⟩)⟩
      · skip
        have hcT := Lib.hid (fun j u (hj : ((xs.take k).map Value.string)[j]? = some u) => HC.out j u (by rw [List.map_take, List.getElem?_take] at hj; split at hj; exact hj; cases hj))
        have hcD := Lib.hid (fun j u (hj : ((xs.drop k).map Value.string)[j]? = some u) => HC.out (k + j) u (by rw [List.map_drop, List.getElem?_drop] at hj; exact hj))
        have hlT : ((xs.take k).map Value.string).length = k := by have := HL.out; rw [List.length_map, List.length_take]; omega
        have hlD : ((xs.drop k).map Value.string).length = m - k := by have := HL.out; rw [List.length_map, List.length_drop]; omega
        have HLT := Lib.hid hlT
        have HLD := Lib.hid hlD
        clear hlT hlD
        obtain ⟨XT, hXT⟩ : ∃ z, (xs.take k).map Value.string = z := ⟨_, rfl⟩
        obtain ⟨XD, hXD⟩ : ∃ z, (xs.drop k).map Value.string = z := ⟨_, rfl⟩
        rw [hXT] at hcT HLT
        rw [hXD] at hcD HLD
        have hone : ∀ u ∈ XT, u.oneCell' = true := hXT ▸ str_one
        have hone2 : ∀ u ∈ XD, u.oneCell' = true := hXD ▸ str_one
        have HXT := Lib.hid hXT
        have HXD := Lib.hid hXD
        clear hXT hXD
        go_wp2_with (at_builtin; refine wpList_append_own _ rfl _ _ 27 rfl w.heap.size 9 i0 (.string noB) 1 16 Tryz.underlying27 hi0 hz0 hz1 hz2 rfl (by decide) _ 0 [] rfl (World.ownsRow_made w #[] 0 (Nat.le_refl _) (Nat.zero_le _) (by simp)) ⟨g, 0, none⟩ k cap XT rfl (by rw [HLT.out]; omega) (by intro j u hj; exact Lib.cell?_alloc_some _ (by rw [cell_at0]; rw [Nat.zero_add]; exact hcT.out j u hj)) hone (by unfold maxLen; omega) (by omega) (by rw [World.size_alloc]; omega) ?_)
        intro v1 w3 hown1 hgrow1 _
        have hb3 : Below w.heap.size w w3 := ((Below.refl _ w).alloc (Nat.le_refl _) _).grown hgrow1 (by rw [World.size_alloc]; omega) (by intro j hj; simp [Value.ownBlock] at hj; omega)
        have hz3 := hb3.size
        go_wp2_with (at_builtin; refine wpList_append_lies _ rfl _ _ 27 rfl w.heap.size 9 i0 (.string noB) 1 16 Tryz.underlying27 hi0 hz0 hz1 hz2 rfl (by decide) _ k XT rfl (hown1.alloc _) ⟨w3.heap.size, 0, none⟩ 1 1 [.string nm] rfl rfl (World.news_of_block (heap_alloc_new w3 _)) (by intro u hu; simp at hu; subst hu; rfl) (by omega) (by unfold maxLen; omega) (by omega) (by rw [World.size_alloc]; omega) (w3.heap.size + 1) (by rw [World.size_alloc]) ?_)
        intro g5 cap5 w5 hown5 hgrow5 _ _
        have hlt1 := hown1.lt
        have hb5 : Below w.heap.size w w5 := (hb3.alloc hz3 _).grown hgrow5 (by rw [World.size_alloc]; omega) (fun j hj => by have := (hlt1 j hj).1; omega)
        have hcD5 := Lib.hid (fun j u hj => (hb5.cell (p := ⟨g, k + j, none⟩) hgw).trans (hcD.out j u hj))
        have hz5 : w.heap.size ≤ w5.heap.size := hb5.size
        have hpos5 : k + 1 ≤ cap5 := (Own.blk_of hown5).2.2.2.2.1
        clear hgrow5 hown1 hlt1 hgrow1
        go_wp2_with (at_builtin; refine wpList_append_own _ rfl _ _ 27 rfl w.heap.size 9 i0 (.string noB) 1 16 Tryz.underlying27 hi0 hz0 hz1 hz2 rfl (by decide) _ _ _ rfl hown5 ⟨g, k, none⟩ (m - k) (cap - k) XD rfl (by rw [HLD.out]; omega) (by intro j u hj; have h1 := (List.getElem?_eq_some_iff.1 hj).1; rw [HLD.out] at h1; omega) hone2 (by unfold maxLen; omega) (by omega) (by omega) ?_)
        intro v6 w6 hown6 hgrow6 _
        have hb6 : Below w.heap.size w w6 := hb5.grown hgrow6 (by omega) (fun j hj => by have := (hown5.lt j hj).1; omega)
        go_wp2
        go_ret
        refine ⟨v6, rfl, ?_, hb6⟩
        rw [← HE.out]
        refine ownS_n (n := k + 1 + (m - k)) ?_ (by have h1 := HLT.out; have h2 := HLD.out; rw [← HXT.out, List.length_map] at h1; rw [← HXD.out, List.length_map] at h2; rw [List.length_append, List.length_cons, h1, h2]; omega)
        rw [List.map_append, List.map_cons, HXT.out, HXD.out]
        exact ⟨hown6.1, hown6.2.imp id (fun ⟨g', cap', cur', h1, h2, h3⟩ => ⟨g', cap', cur', h1, Nat.le_trans hBw h2, h3⟩)⟩
end ExpW
end Go.Proofs.YtchceoclkdofhaaGreatDoor
