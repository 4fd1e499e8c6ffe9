/- The names of variables in an expression: the program's gather. Condition: trees that fit. -/
import Derived.Test.YtchceoclkdofhaaGreatDoorExpE
import Derived.Test.YtchceoclkdofhaaGreatDoorExpV
import Derived.Deep.DeepCutAuto
import Derived.Deep.CutBlock
namespace Go.Proofs.YtchceoclkdofhaaGreatDoor
set_option linter.unusedVariables false
set_option linter.unusedSimpArgs false
open Go.RowKit
namespace ExpW
open CalP CalW ExpP
mutual
def gathE : Ex → List ByteArray
  | .mk k _ nm _ l => (if k = 1 then [nm] else []) ++ gathL l
def gathL : List Ex → List ByteArray
  | [] => []
  | x :: l => gathE x ++ gathL l
end
theorem gath_take : ∀ (l : List Ex) (i : Nat) (h : i < l.length), gathL (l.take (i + 1)) = gathL (l.take i) ++ gathE (l[i]'h)
  | [], i, h => absurd h (Nat.not_lt_zero _)
  | x :: l, 0, _ => by simp [gathL]
  | x :: l, i + 1, h => by simp [gathL, gath_take l i (by simpa using h)]
mutual
theorem gath_nodes : ∀ r : Ex, (gathE r).length ≤ nodesE r
  | .mk k n nm op l => by
    rw [gathE, nodesE, List.length_append]
    have := gath_nodesL l
    split <;> simp <;> omega
theorem gath_nodesL : ∀ l : List Ex, (gathL l).length ≤ nodesL l
  | [] => by simp [gathL]
  | x :: l => by rw [gathL, nodesL, List.length_append]; have := gath_nodes x; have := gath_nodesL l; omega
end
/-- A row of strings of one's own. -/
def OwnS (w : World) (B : Nat) (v : Value) (xs : List ByteArray) : Prop := w.ownsRow B 9 1 v xs.length (xs.map Value.string)
theorem nodesL_take : ∀ (l : List Ex) (i : Nat) (h : i < l.length), nodesL (l.take i) + nodesE (l[i]'h) ≤ nodesL l
  | [], i, h => absurd h (Nat.not_lt_zero _)
  | x :: l, 0, _ => by simp [nodesL]
  | x :: l, i + 1, h => by have := nodesL_take l i (by simpa using h); simp [nodesL]; omega
set_option maxRecDepth 100000 in
set_option maxHeartbeats 3200000 in
theorem gather_c {B : Nat} : ∀ (N : Nat) (r : Ex), nodesE r ≤ N → ∀ (w : World) (cs : List Value) (v : Value) (xs : List ByteArray), Et w (· < B) r cs → OwnS w B v xs → B ≤ w.heap.size → xs.length + nodesE r ≤ 1000000 →
    Calls Tryz.prog 24 #[.agg cs.toArray, v] w fun x w' => ∃ v', x = .returned v' ∧ OwnS w' B v' (xs ++ gathE r) ∧ Below B w w' := by
  intro N
  induction N with
  | zero => intro r h; cases r; simp [nodesE] at h
  | succ N ih =>
    intro r hN w cs v xs h hown hBw hbig
    obtain ⟨A, c, rfl⟩ := h.shape
    obtain ⟨k, n, nm, op, kids⟩ := r
    simp only [Ex.kind, Ex.n, Ex.name, Ex.op, Ex.kids] at h ⊢
    have hN2 : nodesL kids ≤ N := by simp [nodesE] at hN; omega
    have hln := len_nodes kids
    have hnn : nodesE (.mk k n nm op kids) = 1 + nodesL kids := by rw [nodesE]
    rw [hnn] at hbig
    have HRT := Lib.hid h
    obtain ⟨G0, hG0⟩ : ∃ G, (if k = 1 then [nm] else ([] : List ByteArray)) = G := ⟨_, rfl⟩
    have hg0 : G0.length ≤ 1 := by rw [← hG0]; split <;> simp
    obtain ⟨GR, hGR⟩ : ∃ G, xs ++ gathE (.mk k n nm op kids) = G := ⟨_, rfl⟩
    have HGR := Lib.hid (show (xs ++ G0) ++ gathL kids = GR by rw [← hGR, gathE, hG0, List.append_assoc])
    rw [hGR]
    have HG0 := Lib.hid hG0
    obtain ⟨kl, hkl⟩ : ∃ kl, kids.length = kl := ⟨_, rfl⟩
    rw [hkl] at HRT hln ⊢
    clear hGR hG0 h hnn hN
    obtain ⟨wa, hwa⟩ : ∃ z : World, w.alloc (.cells (exC k n nm op A kl c).toArray 24) = z := ⟨_, rfl⟩
    have xa : Blk wa w.heap.size 24 (exC k n nm op A kl c).toArray := by rw [← hwa]; exact Blk.new _ _ _
    have ba : Below w.heap.size w wa := by rw [← hwa]; go_grown
    have hbB : Below B w wa := ba.mono hBw
    have hown1 : OwnS wa B v xs := ExpT.own_bel hown ba
    have hxl : w.heap.size < wa.heap.size := xa.lt
    have hownlt := hown.lt
    obtain ⟨i0, hi0, hz0, hz1, hz2⟩ := (show ∃ i, Tryz.prog.info? 9 = some i ∧ i.zero = some (.string noB) ∧ i.size = 1 ∧ i.bytes = 16 from ⟨_, rfl, by kernel_rfl, by kernel_rfl, by kernel_rfl⟩)
    clear hown
    go_enter Tryz.func24, Tryz.ntmps24
    go_upto_region 1 with fail
    try rw [hwa]
    clear hwa
    go_cut [9] (fun b wx => b = .bool (k == 1) ∧ wa = wx)
    case first =>
      have p0 := xa.cell 0
      simp only [List.getElem?_toArray, List.getElem?_cons_zero] at p0
      cases hk : (k == 1)
      all_goals
        go_wp2_with fail
        go_meet
        exact ⟨by rw [hk], rfl⟩
    case rest =>
      obtain ⟨rfl, rfl⟩ := hcut
      go_step
      go_cut [1] (fun v1 wx => OwnS wx B v1 (xs ++ G0) ∧ Blk wx w.heap.size 24 (exC k n nm op A kl c).toArray ∧ Below B w wx)
      case first =>
        have p2 := xa.cell 2
        simp only [List.getElem?_toArray, List.getElem?_cons_zero, List.getElem?_cons_succ] at p2
        cases hk : (k == 1) with
        | false =>
          have hg : G0 = [] := by rw [← HG0.out, if_neg (by simpa using hk)]
          subst hg
          have FIN := Lib.hid (And.intro (show OwnS wa B v (xs ++ []) by rw [List.append_nil]; exact hown1) (And.intro xa hbB))
          clear hown1 xa hbB
          go_wp2_with fail
          go_meet
          exact FIN.out
        | true =>
          have hg : G0 = [nm] := by rw [← HG0.out, if_pos (by simpa using hk)]
          subst hg
          go_wp2_with (at_builtin; refine wpList_append_lies _ rfl _ _ 27 rfl B 9 i0 (.string noB) 1 16 Tryz.underlying27 hi0 hz0 hz1 hz2 rfl (by decide) _ xs.length (xs.map Value.string) rfl (hown1.alloc _) ⟨wa.heap.size, 0, none⟩ 1 1 [.string nm] rfl rfl (World.news_of_block (heap_alloc_new wa _)) (by intro u hu; simp at hu; subst hu; rfl) (by omega) (by unfold maxLen; omega) (by omega) (by rw [World.size_alloc]; have := hbB.size; omega) (wa.heap.size + 1) (by rw [World.size_alloc]) ?_)
          intro g5 cap w5 hown5 hgrow hat hlt5
          have hb5 : Below B w w5 := by
            refine ⟨hgrow.os.trans hbB.os, hgrow.tape.trans hbB.tape, hgrow.output.trans hbB.output, ?_, fun b hbl => ?_⟩
            · have := hgrow.size; rw [World.size_alloc] at this; have := hbB.size; omega
            · exact (hgrow.block b (by rw [World.size_alloc]; omega) (fun ee => by have := (hown1.lt b ee.symm).1; omega)).trans ((Below.heap_alloc wa _ b (by omega)).trans (hbB.block b hbl))
          have x5 : Blk w5 w.heap.size 24 (exC k n nm op A kl c).toArray := by
            refine (hgrow.block w.heap.size (by rw [World.size_alloc]; omega) (fun ee => ?_)).trans ((Below.heap_alloc wa _ _ hxl).trans xa)
            have := (hownlt _ ee.symm).2; omega
          have hown6 : OwnS w5 B (.slice (some ⟨g5, 0, none⟩) (xs.length + 1) cap) (xs ++ [nm]) := by
            unfold OwnS
            rw [List.length_append, List.map_append]; exact hown5
          clear hown5 hgrow
          go_wp2_with fail
          go_meet
          exact ⟨hown6, x5, hb5⟩
      case rest =>
        clear hown1 xa hbB ba hxl
        obtain ⟨hown1, xa, hbB⟩ := hcut
        have p4 := xa.cell 4
        simp only [List.getElem?_toArray, List.getElem?_cons_zero, List.getElem?_cons_succ] at p4
        go_upto_region 3 with fail
        go_wp2_with fail
        go_loopw [1, 18] (fun lv iv wr => ∃ (i : Nat), iv = .int .i64 i ∧ i ≤ kl ∧ OwnS wr B lv ((xs ++ G0) ++ gathL (kids.take i)) ∧ Below B w wr) (fun _ iv _ => kl - (intOf iv).toNat)
        case atStart => exact ⟨0, rfl, by omega, by simpa [gathL] using hown1, hbB⟩
        case round =>
          clear hown1 xa hbB p4
          obtain ⟨i, rfl, hi, hown2, hb2⟩ := hrel
          by_cases hlt : i < kl
          · have hEr : Et _ (· < B) _ _ := HRT.out.keep (fun _ hb => hb) (fun b hb _ => hb2.block b hb)
            obtain ⟨g, o, A2, c2, rfl, hk, hc⟩ := Et.kid_ hEr (i := i) (by omega)
            have fk0 := hc 0 _ rfl
            have fk1 := hc 1 _ rfl
            have fk2 := hc 2 _ rfl
            have fk3 := hc 3 _ rfl
            have fk4 := hc 4 _ rfl
            simp only [Nat.add_zero] at fk0
            clear hc hEr
            have hnk := nodesL_take kids i (by omega)
            have hgt := gath_take kids i (by omega)
            have hgn := gath_nodesL (kids.take i)
            obtain ⟨x, hx⟩ : ∃ x, kids[i]'(by omega) = x := ⟨_, rfl⟩
            rw [hx] at fk0 fk1 fk2 fk3 fk4 hk hnk hgt
            have hxn : nodesE x ≤ N := by omega
            have b3 : Below wr.heap.size wr (wr.alloc (.cells (exC x.kind x.n x.name x.op A2 x.kids.length c2).toArray 24)) := by go_grown
            have ci := ih x hxn (wr.alloc (.cells (exC x.kind x.n x.name x.op A2 x.kids.length c2).toArray 24)) _ _ _ (hk.bel b3) (ExpT.own_bel hown2 b3) (by rw [World.size_alloc]; have := hb2.size; omega) (by simp only [List.length_append]; omega)
            have hbw := hb2.alloc (by have := hb2.size; omega) (.cells (exC x.kind x.n x.name x.op A2 x.kids.length c2).toArray 24)
            have HGT := Lib.hid (show (xs ++ G0 ++ gathL (kids.take i)) ++ gathE x = xs ++ G0 ++ gathL (kids.take (i + 1)) by rw [hgt, List.append_assoc])
            rw [HGT.out] at ci
            clear hk hgt hx b3 hown2 hgn
            generalize x.kind = k0 at *
            generalize x.n = k1 at *
            generalize x.name = k3 at *
            generalize x.op = k4 at *
            generalize x.kids.length = k2 at *
            go_wp2_with fail
            (with_reducible refine ci.mono ?_)
            clear ci
            rintro e w2 ⟨v2, rfl, hown3, b4⟩
            have hb5 := hbw.trans b4
            go_wp2_with fail
            go_roundw
            case rel => exact ⟨i + 1, by go_num, by omega, hown3, hb5⟩
            case measure => simp [intOf]; omega
          · have hi2 : i = kids.length := by omega
            rw [hi2, List.take_length, HGR.out] at hown2
            subst hi2
            go_wp2_with fail
            go_ret
            exact ⟨_, rfl, hown2, hb2⟩
end ExpW
end Go.Proofs.YtchceoclkdofhaaGreatDoor
