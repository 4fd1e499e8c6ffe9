/- The walk of the reference's Set. Conditions: lists that fit. -/
import Derived.Test.YtfhnocelmpnjgaaMemS
namespace Go.Proofs.Ytfhnocelmpnjgaa
open Go.RowKit
namespace MemW
open QuoW MemP Own
theorem all_below_take {r : List Vr} {nm : ByteArray} {k : Nat} (h : (r.take k).all (fun p => lt p.1 nm) = true) (h2 : k = r.length ∨ ∃ p, r[k]? = some p ∧ lt p.1 nm = false) (_hk : k ≤ r.length) : below r nm = r.take k ∧ from_ r nm = r.drop k := by
  unfold below from_
  have hs : ∀ p ∈ r.take k, lt p.1 nm = true := List.all_eq_true.1 h
  conv => lhs; lhs; rw [← List.take_append_drop k r]
  conv => rhs; lhs; rw [← List.take_append_drop k r]
  rw [List.takeWhile_append_of_pos hs, List.dropWhile_append_of_pos hs]
  rcases h2 with h2 | ⟨p, hp, hq⟩
  · rw [List.drop_eq_nil_of_le (by omega)]; simp
  · have hlt := (List.getElem?_eq_some_iff.1 hp).1
    have hd : r.drop k = p :: r.drop (k + 1) := by
      rw [List.drop_eq_getElem_cons hlt, (List.getElem?_eq_some_iff.1 hp).2]
    rw [hd]
    simp [hq]
theorem set_ref {l : List Vr} {nm v : ByteArray} (h : mayB l = true) (h2 : nmB nm = true) (h3 : ¬ 32 < v.size) (h4 : ¬ (dropV l nm).length = 16) {k : Nat} (h5 : ((dropV l nm).take k).all (fun p => lt p.1 nm) = true) (h6 : k = (dropV l nm).length ∨ ∃ p, (dropV l nm)[k]? = some p ∧ lt p.1 nm = false) (hk : k ≤ (dropV l nm).length) :
    setV l nm v = ((dropV l nm).take k ++ (nm, v) :: (dropV l nm).drop k, 0) := by
  obtain ⟨e1, e2⟩ := all_below_take h5 h6 hk
  unfold setV; rw [h, h2, if_neg (by simp), if_neg h3, if_neg h4]
  unfold putV; rw [e1, e2]
theorem set_ref_full {l : List Vr} {nm v : ByteArray} (h : mayB l = true) (h2 : nmB nm = true) (h3 : ¬ 32 < v.size) (h4 : (dropV l nm).length = 16) : setV l nm v = ([], 9) := by
  unfold setV; rw [h, h2, if_neg (by simp), if_neg h3, if_pos h4]
theorem own_len {w : World} {B : Nat} {v : Value} {l : List Vr} (h : OwnV w B v l) : ∃ A c, v = .slice A l.length c ∧ (A = none → l = []) := by
  rcases h.2 with ⟨rfl, e⟩ | ⟨g, cap, cur, rfl, _⟩
  · exact ⟨none, 0, by rw [e], fun _ => List.eq_nil_of_length_eq_zero e⟩
  · exact ⟨_, _, rfl, fun e => by cases e⟩
/-- The last step: the three parts put together. -/
def TailPost (w0 : World) (l : List Vr) (nm v : ByteArray) (e : Ending) (w' : World) : Prop := SetPost l nm v w0 e w'
set_option maxHeartbeats 3200000 in
set_option maxRecDepth 100000 in
theorem rset_c (A : Option Addr) (n c : Nat) (l : List Vr) (nm v : ByteArray) (w : World) (hr : Vrs w w.heap.size A n l) (hf : FitV l) (hn : n ≤ 1048576) (hnm : nm.size ≤ 4611686018427387904) (hv : v.size ≤ 4611686018427387904) :
    Calls Try.prog 11 #[.slice A n c, .string nm, .string v] w (SetPost l nm v w) := by
  have hl := Vrs.len hr
  have cm := rmay_c A n c l w hr hf (by omega)
  have cn := fun W => rnm_c nm W hnm
  cases ha : mayB l
  · rw [ha] at cm
    have HE := Lib.hid (set_arg1 (nm := nm) (v := v) ha)
    clear ha
    go_enter Try.func11, Try.ntmps11
    go_wp2_with fail
    (with_reducible refine cm.mono ?_)
    rintro e w1 ⟨rfl, hb⟩
    go_wp2
    go_ret2
    exact set_err HE.out hb
  rw [ha] at cm
  cases hb : nmB nm
  · rw [hb] at cn
    have HE := Lib.hid (set_arg2 (l := l) (v := v) hb)
    clear ha hb
    go_enter Try.func11, Try.ntmps11
    go_wp2_with fail
    (with_reducible refine cm.mono ?_)
    rintro e w1 ⟨rfl, hb⟩
    go_wp2_with (first | (with_reducible refine (cn _).mono ?_; rintro e w' ⟨rfl, rfl⟩))
    go_ret2
    exact set_err HE.out hb
  rw [hb] at cn
  cases hs : decide (32 < (v.size : Int))
  rotate_left
  · have HE := Lib.hid (set_long (v := v) ha hb (by simp at hs; omega))
    clear ha hb
    go_enter Try.func11, Try.ntmps11
    go_wp2_with fail
    (with_reducible refine cm.mono ?_)
    rintro e w1 ⟨rfl, hb⟩
    go_wp2_with (first | (with_reducible refine (cn _).mono ?_; rintro e w' ⟨rfl, rfl⟩))
    go_ret2
    exact set_err HE.out hb
  have hs2 : ¬ 32 < v.size := by simp at hs; omega
  have HM := Lib.hid ha
  have HB := Lib.hid hb
  clear ha hb
  obtain ⟨i0, hi0, hz0, hz1, hz2⟩ := info_parts info_V
  have hdl : (dropV l nm).length ≤ n := by rw [← hl]; exact List.length_filter_le _ _
  go_enter Try.func11, Try.ntmps11
  go_wp2_with fail
  (with_reducible refine cm.mono ?_)
  rintro e w1 ⟨rfl, hb1⟩
  have cd := rdrop_c A n c l nm w1 (Rd.more (hr.below hb1) hb1.size) hn
  clear cm hr
  go_wp2_with (first | (with_reducible refine (cn _).mono ?_; rintro e w' ⟨rfl, rfl⟩))
  (with_reducible refine cd.mono ?_)
  rintro e w2 ⟨sv, rfl, hown, hb2⟩
  have hB2 := via (a := w) hb2 hb1
  have hz12 := hb1.size
  clear cd cn hb1 hl
  by_cases h9 : (dropV l nm).length = 16
  · have HE := Lib.hid (set_ref_full (v := v) HM.out HB.out hs2 h9)
    obtain ⟨A', c', rfl, _⟩ := own_len hown
    rw [h9]
    clear h9 hown hdl
    go_wp2
    go_ret2
    exact set_err HE.out hB2
  · have HE := Lib.hid (fun k h5 h6 hk => set_ref (v := v) HM.out HB.out hs2 h9 (k := k) h5 h6 hk)
    obtain ⟨A', c', rfl, hnil⟩ := own_len hown
    obtain ⟨A2, c2, e2, hrd, hc, hcm⟩ := Own.rd hown
    injection e2 with e2 _ e3
    subst e2; subst e3
    have hA : A' = none ∨ ∃ g, A' = some ⟨g, 0, none⟩ := by
      rcases hown.2 with ⟨e, _⟩ | ⟨g, cap, cur, e, _⟩
      · injection e with e; exact Or.inl e
      · injection e with e; exact Or.inr ⟨g, e⟩
    have HCM := Lib.hid hcm
    clear hcm hown
    generalize dropV l nm = r at *
    have hrl : r.length = r.length := rfl
    obtain ⟨m, hm⟩ : ∃ m, r.length = m := ⟨_, rfl⟩
    have d9 : ((m : Int) == 16) = false := by rw [beq_eq_false_iff_ne]; omega
    have hmn : m ≤ n := by omega
    rw [hm] at hrd hc ⊢
    have HL := Lib.hid hm
    have HN := Lib.hid hnil
    clear hrl hm hdl h9 hnil
    have hz2w := hB2.size
    go_wp2_with fail
    go_loop [9] (fun kv => ∃ k : Nat, kv = .int .i64 k ∧ k ≤ m ∧ Hid ((r.take k).all (fun p => lt p.1 nm) = true)) (fun kv => m - (intOf kv).toNat)
    case atStart => exact ⟨0, rfl, by omega, rfl⟩
    case round =>
      obtain ⟨k, rfl, hk, hx⟩ := hrel
      have fin : ∀ h6 : (k = r.length ∨ ∃ p, r[k]? = some p ∧ lt p.1 nm = false), setV l nm v = (r.take k ++ (nm, v) :: r.drop k, 0) := fun h6 => HE.out k hx.out h6 (by have := HL.out; omega)
      have FIN := Lib.hid fin
      clear fin
      rcases hA with rfl | ⟨g, rfl⟩
      · have hr0 := HN.out rfl
        have hl0 := HL.out
        rw [hr0] at hl0
        have hm0 : m ≤ 0 := by simp at hl0; omega
        have e := FIN.out (Or.inl (by rw [hr0]; simp; omega))
        rw [hr0] at e
        have e' : setV l nm v = ([(nm, v)], 0) := by rw [e]; simp
        have HE2 := Lib.hid e'
        have k0 : k ≤ 0 := by omega
        clear hr0 hl0 e e'
        obtain rfl : m = 0 := by omega
        obtain rfl : k = 0 := by omega
        have g1 : 1 ≤ (Question.appendCap 1 0 25).cut (w2.tape w2.drawn (Question.appendCap 1 0 25)) := grownCap_ge w2 1 0 25
        have g2 : (Question.appendCap 1 0 25).cut (w2.tape w2.drawn (Question.appendCap 1 0 25)) ≤ maxLen := grownCap_le_maxLen w2 1 0 25 (by unfold maxLen; omega)
        have G1 := Lib.hid g1
        have G2 := Lib.hid g2
        clear g1 g2
        go_wp2
        go_ret2
        refine ⟨_, by rw [HE2.out]; rfl, ?_, ?_⟩
        · rw [HE2.out]
          refine Own.of_blk (xs := vcs [(nm, v)]) (Blk.new2 w2 _ _ _ _) (by omega) rfl G1.out G2.out ?_ ?_
          · rw [Array.size_append, size_zeroCells]
            have := G1.out
            simp; omega
          · simp [vcs, vcell]
        · exact below_dn (((hB2.alloc hz2w _).alloc (by rw [World.size_alloc]; omega) _).alloc (by rw [World.size_alloc, World.size_alloc]; omega) _) 1
      · have key : ∀ h6 : (k = r.length ∨ ∃ p, r[k]? = some p ∧ lt p.1 nm = false), setV l nm v = (r.take k ++ (nm, v) :: r.drop k, 0) := FIN.out
        have hcell : ∀ j u, (vcs r)[j]? = some u → w2.cell? ⟨g, j, none⟩ = some u := by
          intro j u hu
          rcases Nat.eq_zero_or_pos m with h | h
          · have h2 := HL.out; rw [h] at h2; rw [List.eq_nil_of_length_eq_zero h2] at hu; cases hu
          · obtain ⟨ad, e, _, h'⟩ := hrd.2 h
            cases e; have := h' j u hu; rwa [cell_lit] at this
        have hgw : 0 < m → g < w2.heap.size := by
          intro h
          obtain ⟨ad, e, h1, _⟩ := hrd.2 h
          cases e; exact h1
        by_cases hlt : k < m
        · replace hgw := hgw (by omega)
          obtain ⟨g', o, ⟨a, u⟩, he, hg, hp, q1, q2⟩ := Vrs.get hrd hlt
          cases he
          simp only [Nat.zero_add] at q1 q2
          cases hq : lt a nm
          · have HE2 := Lib.hid (key (Or.inr ⟨_, hp, hq⟩))
            have hq2 : Op.bytesLess a.toList nm.toList = false := hq
            have hck : ¬ c' = k := by omega
            clear key hp hq FIN HE
            have hcT := Lib.hid (fun j u (hj : (vcs (r.take k))[j]? = some u) => hcell j u (by rw [← vcs_take, List.getElem?_take] at hj; split at hj; exact hj; cases hj))
            have hcD := Lib.hid (fun j u (hj : (vcs (r.drop k))[j]? = some u) => hcell (k * 2 + j) u (by rw [← vcs_drop, List.getElem?_drop] at hj; exact hj))
            have hlT : (r.take k).length = k := by have := HL.out; rw [List.length_take]; omega
            have hlD : (r.drop k).length = m - k := by have := HL.out; rw [List.length_drop]; omega
            have HLT := Lib.hid hlT
            have HLD := Lib.hid hlD
            clear hlT hlD hcell
            go_wp2_with (at_builtin; refine wpList_append_own _ rfl _ _ 22 rfl w2.heap.size 25 i0 (.agg #[.string ⟨#[]⟩, .string ⟨#[]⟩]) 2 32 Try.underlying22 hi0 hz0 hz1 hz2 rfl (by decide) _ 0 [] rfl (World.ownsRow_made w2 #[] 0 (Nat.le_refl _) (Nat.zero_le _) (by simp)) ⟨g, 0, none⟩ k c' (vcs (r.take k)) rfl (by rw [vcs_len, HLT.out]) (by intro j u hj; exact Lib.cell?_alloc_some _ (by rw [cell_lit]; exact hcT.out j u hj)) vcs_one (by unfold maxLen; omega) (by omega) (by simp) ?_)
            intro v1 w3 hown1 hgrow1 _
            have hB3 : Below w.heap.size w w3 := (hB2.alloc hz2w _).grown hgrow1 (by rw [World.size_alloc]; omega) (by intro j hj; simp [Value.ownBlock] at hj; omega)
            have hb3 : Below w2.heap.size w2 w3 := ((Below.refl _ w2).alloc (Nat.le_refl _) _).grown hgrow1 (by rw [World.size_alloc]; omega) (by intro j hj; simp [Value.ownBlock] at hj; omega)
            have hz3 := hb3.size
            go_wp2_with (at_builtin; refine wpList_append_lies _ rfl _ _ 22 rfl w2.heap.size 25 i0 (.agg #[.string ⟨#[]⟩, .string ⟨#[]⟩]) 2 32 Try.underlying22 hi0 hz0 hz1 hz2 rfl (by decide) _ k (vcs (r.take k)) rfl (hown1.alloc _) ⟨w3.heap.size, 0, none⟩ 1 1 [.string nm, .string v] rfl rfl (World.news_of_block (heap_alloc_new w3 _)) (by intro u hu; simp at hu; rcases hu with rfl | rfl <;> rfl) (by omega) (by unfold maxLen; omega) (by omega) (by rw [World.size_alloc]; omega) _ rfl ?_)
            intro g5 cap5 w5 hown5 hgrow5 _ _
            have hlt1 := hown1.lt
            have hB5 : Below w.heap.size w w5 := (hB3.alloc (by omega) _).grown hgrow5 (by rw [World.size_alloc]; omega) (fun j hj => by have := (hlt1 j hj).1; omega)
            have hb5 : Below w2.heap.size w2 w5 := (hb3.alloc hz3 _).grown hgrow5 (by rw [World.size_alloc]; omega) (fun j hj => by have := (hlt1 j hj).1; omega)
            have hcD5 := Lib.hid (fun j u hj => (hb5.cell (p := ⟨g, k * 2 + j, none⟩) hgw).trans (hcD.out j u hj))
            have hz5 : w2.heap.size ≤ w5.heap.size := by have h1 := hgrow5.size; rw [World.size_alloc] at h1; omega
            clear hgrow5 hown1 hlt1
            go_wp2_with (at_builtin; refine wpList_append_own _ rfl _ _ 22 rfl w2.heap.size 25 i0 (.agg #[.string ⟨#[]⟩, .string ⟨#[]⟩]) 2 32 Try.underlying22 hi0 hz0 hz1 hz2 rfl (by decide) _ _ _ rfl hown5 ⟨g, k * 2, none⟩ (m - k) (c' - k) (vcs (r.drop k)) rfl (by rw [vcs_len, HLD.out]) (by intro j u hj; rw [Addr.add_lit]; exact hcD5.out j u hj) vcs_one (by unfold maxLen; omega) (by omega) (by omega) ?_)
            intro v6 w6 hown6 hgrow6 _
            have hB6 : Below w.heap.size w w6 := hB5.grown hgrow6 (by omega) (fun j hj => by have := (hown5.lt j hj).1; omega)
            go_wp2
            go_ret2
            refine ⟨v6, by rw [HE2.out]; rfl, ?_, hB6⟩
            rw [HE2.out]
            have e1 : vcs (r.take k) ++ .string nm :: .string v :: vcs (r.drop k) = vcs (r.take k ++ (nm, v) :: r.drop k) := by rw [vcs_app, vcs_cons]; rfl
            have e2 : (r.take k ++ (nm, v) :: r.drop k).length = k + 1 + (m - k) := by rw [List.length_append, List.length_cons, HLT.out, HLD.out]; omega
            unfold OwnV
            rw [e2, ← e1]
            exact ⟨hown6.1, hown6.2.imp (fun ⟨h1, h2⟩ => ⟨h1, h2⟩) (fun ⟨g, cap, cur, h1, h2, h3⟩ => ⟨g, cap, cur, h1, by omega, h3⟩)⟩
          · have HP := Lib.hid hp
            have hq2 : Op.bytesLess a.toList nm.toList = true := hq
            have HQ := Lib.hid hq
            clear key hp hq
            go_wp2
            go_round
            case rel => exact ⟨k + 1, by go_num, by omega, by show _ = true; rw [all_take r _ k _ HP.out, hx.out, HQ.out]; rfl⟩
            case measure => simp [intOf]; omega
        · have HE2 := Lib.hid (key (Or.inl (by have := HL.out; omega)))
          clear key FIN HE
          by_cases hck : c' = k
          · subst hck
            have hcT := Lib.hid (fun j u (hj : (vcs (r.take c'))[j]? = some u) => hcell j u (by rw [← vcs_take, List.getElem?_take] at hj; split at hj; exact hj; cases hj))
            have hlT : (r.take c').length = c' := by have := HL.out; rw [List.length_take]; omega
            have hlD : (r.drop c').length = m - c' := by have := HL.out; rw [List.length_drop]; omega
            have HLT := Lib.hid hlT
            have HLD := Lib.hid hlD
            clear hlT hlD hcell
            go_wp2_with (at_builtin; refine wpList_append_own _ rfl _ _ 22 rfl w2.heap.size 25 i0 (.agg #[.string ⟨#[]⟩, .string ⟨#[]⟩]) 2 32 Try.underlying22 hi0 hz0 hz1 hz2 rfl (by decide) _ 0 [] rfl (World.ownsRow_made w2 #[] 0 (Nat.le_refl _) (Nat.zero_le _) (by simp)) ⟨g, 0, none⟩ c' c' (vcs (r.take c')) rfl (by rw [vcs_len, HLT.out]) (by intro j u hj; exact Lib.cell?_alloc_some _ (by rw [cell_lit]; exact hcT.out j u hj)) vcs_one (by unfold maxLen; omega) (by omega) (by simp) ?_)
            intro v1 w3 hown1 hgrow1 _
            have hB3 : Below w.heap.size w w3 := (hB2.alloc hz2w _).grown hgrow1 (by rw [World.size_alloc]; omega) (by intro j hj; simp [Value.ownBlock] at hj; omega)
            have hb3 : Below w2.heap.size w2 w3 := ((Below.refl _ w2).alloc (Nat.le_refl _) _).grown hgrow1 (by rw [World.size_alloc]; omega) (by intro j hj; simp [Value.ownBlock] at hj; omega)
            have hz3 := hb3.size
            go_wp2_with (at_builtin; refine wpList_append_lies _ rfl _ _ 22 rfl w2.heap.size 25 i0 (.agg #[.string ⟨#[]⟩, .string ⟨#[]⟩]) 2 32 Try.underlying22 hi0 hz0 hz1 hz2 rfl (by decide) _ c' (vcs (r.take c')) rfl (hown1.alloc _) ⟨w3.heap.size, 0, none⟩ 1 1 [.string nm, .string v] rfl rfl (World.news_of_block (heap_alloc_new w3 _)) (by intro u hu; simp at hu; rcases hu with rfl | rfl <;> rfl) (by omega) (by unfold maxLen; omega) (by omega) (by rw [World.size_alloc]; omega) _ rfl ?_)
            intro g5 cap5 w5 hown5 hgrow5 _ _
            have hlt1 := hown1.lt
            have hB5 : Below w.heap.size w w5 := (hB3.alloc (by omega) _).grown hgrow5 (by rw [World.size_alloc]; omega) (fun j hj => by have := (hlt1 j hj).1; omega)
            have hz5 : w2.heap.size ≤ w5.heap.size := by have h1 := hgrow5.size; rw [World.size_alloc] at h1; omega
            clear hgrow5 hown1 hlt1
            have hcap5 : c' + 1 ≤ cap5 := (Own.blk_of hown5).2.2.2.2.1
            go_wp2
            go_ret2
            refine ⟨_, by rw [HE2.out]; rfl, ?_, hB5⟩
            rw [HE2.out]
            have hd0 : r.drop c' = [] := List.eq_nil_of_length_eq_zero (by rw [HLD.out]; omega)
            have e1 : vcs (r.take c') ++ [.string nm, .string v] = vcs (r.take c' ++ (nm, v) :: r.drop c') := by rw [hd0, vcs_app]; rfl
            have e2 : (r.take c' ++ (nm, v) :: r.drop c').length = c' + 1 := by rw [List.length_append, List.length_cons, HLT.out, HLD.out]; omega
            unfold OwnV
            rw [e2, ← e1]
            exact ⟨hown5.1, hown5.2.imp (fun ⟨h1, h2⟩ => ⟨h1, h2⟩) (fun ⟨g, cap, cur, h1, h2, h3⟩ => ⟨g, cap, cur, h1, by omega, h3⟩)⟩
          · skip
            have hcT := Lib.hid (fun j u (hj : (vcs (r.take k))[j]? = some u) => hcell j u (by rw [← vcs_take, List.getElem?_take] at hj; split at hj; exact hj; cases hj))
            have hlT : (r.take k).length = k := by have := HL.out; rw [List.length_take]; omega
            have hlD : (r.drop k).length = m - k := by have := HL.out; rw [List.length_drop]; omega
            have HLT := Lib.hid hlT
            have HLD := Lib.hid hlD
            clear hlT hlD hcell
            go_wp2_with (at_builtin; refine wpList_append_own _ rfl _ _ 22 rfl w2.heap.size 25 i0 (.agg #[.string ⟨#[]⟩, .string ⟨#[]⟩]) 2 32 Try.underlying22 hi0 hz0 hz1 hz2 rfl (by decide) _ 0 [] rfl (World.ownsRow_made w2 #[] 0 (Nat.le_refl _) (Nat.zero_le _) (by simp)) ⟨g, 0, none⟩ k c' (vcs (r.take k)) rfl (by rw [vcs_len, HLT.out]) (by intro j u hj; exact Lib.cell?_alloc_some _ (by rw [cell_lit]; exact hcT.out j u hj)) vcs_one (by unfold maxLen; omega) (by omega) (by simp) ?_)
            intro v1 w3 hown1 hgrow1 _
            have hB3 : Below w.heap.size w w3 := (hB2.alloc hz2w _).grown hgrow1 (by rw [World.size_alloc]; omega) (by intro j hj; simp [Value.ownBlock] at hj; omega)
            have hb3 : Below w2.heap.size w2 w3 := ((Below.refl _ w2).alloc (Nat.le_refl _) _).grown hgrow1 (by rw [World.size_alloc]; omega) (by intro j hj; simp [Value.ownBlock] at hj; omega)
            have hz3 := hb3.size
            go_wp2_with (at_builtin; refine wpList_append_lies _ rfl _ _ 22 rfl w2.heap.size 25 i0 (.agg #[.string ⟨#[]⟩, .string ⟨#[]⟩]) 2 32 Try.underlying22 hi0 hz0 hz1 hz2 rfl (by decide) _ k (vcs (r.take k)) rfl (hown1.alloc _) ⟨w3.heap.size, 0, none⟩ 1 1 [.string nm, .string v] rfl rfl (World.news_of_block (heap_alloc_new w3 _)) (by intro u hu; simp at hu; rcases hu with rfl | rfl <;> rfl) (by omega) (by unfold maxLen; omega) (by omega) (by rw [World.size_alloc]; omega) _ rfl ?_)
            intro g5 cap5 w5 hown5 hgrow5 _ _
            have hlt1 := hown1.lt
            have hB5 : Below w.heap.size w w5 := (hB3.alloc (by omega) _).grown hgrow5 (by rw [World.size_alloc]; omega) (fun j hj => by have := (hlt1 j hj).1; omega)
            have hz5 : w2.heap.size ≤ w5.heap.size := by have h1 := hgrow5.size; rw [World.size_alloc] at h1; omega
            clear hgrow5 hown1 hlt1
            go_wp2_with (at_builtin; refine wpList_append_own _ rfl _ _ 22 rfl w2.heap.size 25 i0 (.agg #[.string ⟨#[]⟩, .string ⟨#[]⟩]) 2 32 Try.underlying22 hi0 hz0 hz1 hz2 rfl (by decide) _ _ _ rfl hown5 ⟨g, k * 2, none⟩ (m - k) (c' - k) (vcs (r.drop k)) rfl (by rw [vcs_len, HLD.out]) (by intro j u hj; have h1 := (List.getElem?_eq_some_iff.1 hj).1; rw [vcs_len, HLD.out] at h1; omega) vcs_one (by unfold maxLen; omega) (by omega) (by omega) ?_)
            intro v6 w6 hown6 hgrow6 _
            have hB6 : Below w.heap.size w w6 := hB5.grown hgrow6 (by omega) (fun j hj => by have := (hown5.lt j hj).1; omega)
            go_wp2
            go_ret2
            refine ⟨v6, by rw [HE2.out]; rfl, ?_, hB6⟩
            rw [HE2.out]
            have e1 : vcs (r.take k) ++ .string nm :: .string v :: vcs (r.drop k) = vcs (r.take k ++ (nm, v) :: r.drop k) := by rw [vcs_app, vcs_cons]; rfl
            have e2 : (r.take k ++ (nm, v) :: r.drop k).length = k + 1 + (m - k) := by rw [List.length_append, List.length_cons, HLT.out, HLD.out]; omega
            unfold OwnV
            rw [e2, ← e1]
            exact ⟨hown6.1, hown6.2.imp (fun ⟨h1, h2⟩ => ⟨h1, h2⟩) (fun ⟨g, cap, cur, h1, h2, h3⟩ => ⟨g, cap, cur, h1, by omega, h3⟩)⟩
end MemW
end Go.Proofs.Ytfhnocelmpnjgaa
