/- The reference's Join of an expression's tokens, walked. Condition: such tokens. -/
import Derived.Test.YtchceoclkdofhaaGreatDoorExpTw
namespace Go.Proofs.YtchceoclkdofhaaGreatDoor
set_option linter.unusedVariables false
set_option linter.unusedSimpArgs false
open Go.RowKit
namespace ExpW
open CalP CalW ExpP ExpT QuoP Tok
theorem rtext_c (t : Tk) (h : OkT t) (w : World) : Calls Tryz.prog 38 #[.agg (tk0 t).toArray] w (TxtPost (txtS t) w) := by
  obtain ⟨ho, hb, h0, hk⟩ := one_txt h
  have hS := txt_size h
  obtain ⟨k, wd, n⟩ := t
  rcases h with ⟨h1, h2, h3, h4⟩ | ⟨h1, h2, u, hu, h3⟩ | ⟨h1, h2, h3, h4⟩
  · dsimp only at h1 h2 h3 h4
    subst h1 h2
    exact rtext2_c n h3 h4 _ hS h0 hb ho rfl w
  · dsimp only at h1 h2 h3
    subst h1 h2 h3
    exact rtext4_c _ hS h0 hb ho w
  · dsimp only at h1 h2 h3 h4
    subst h1 h2
    have hw : wd.size ≤ 1010 := by omega
    exact rtext6_c wd _ hS h0 hb ho (bytes_ext (by simp [txtS])) hw w
theorem tail_snoc (sep : List UInt8) (x : List UInt8) : ∀ r : List (List UInt8), Lib.joinTail sep (r ++ [x]) = Lib.joinTail sep r ++ (sep ++ x)
  | [] => by simp [Lib.joinTail]
  | y :: r => by
    have := tail_snoc sep x r
    simp only [List.cons_append, Lib.joinTail] at *
    simp [this]
/-- So many texts joined. -/
def joinN (l : List Tk) (i : Nat) : ByteArray := ⟨(joinS (l.take i)).toArray⟩
theorem join_step {l : List Tk} {i : Nat} (h : i < l.length) : joinN l (i + 1) = (if 0 < i then joinN l i ++ ⟨#[32]⟩ else joinN l i) ++ txtS (l[i]'h) := by
  apply bytes_ext
  have e : l.take (i + 1) = l.take i ++ [l[i]'h] := List.take_succ_eq_append_getElem h
  unfold joinN
  rw [e]
  unfold joinS
  rw [List.map_append, List.map_cons, List.map_nil]
  by_cases hi : 0 < i
  · rw [if_pos hi]
    have hne : (l.take i).map (fun t => (txtS t).data.toList) ≠ [] := by
      intro e
      have := congrArg List.length e
      rw [List.length_map, List.length_take, List.length_nil, Nat.min_eq_left (by omega)] at this
      omega
    obtain ⟨x, r, hx⟩ := List.exists_cons_of_ne_nil hne
    rw [hx, List.cons_append, Lib.join_cons, Lib.join_cons, tail_snoc]
    simp
  · obtain rfl : i = 0 := by omega
    rw [if_neg hi]
    simp [Lib.join_one, Lib.join_nil]
theorem own_cells {w : World} {B : Nat} {v : Value} {l : List Tk} (ho : OwnT w B v l) : ∃ A c, v = .slice A l.length c ∧ ∀ i (hi : i < l.length), ∃ g, A = some ⟨g, 0, none⟩ ∧ g < w.heap.size ∧ ∀ j u, (tk0 (l[i]'hi))[j]? = some u → w.cell? ⟨g, i * 5 + j, none⟩ = some u := by
  have hl := tk0_len l
  have hlt := ho.lt
  rcases ho.2 with ⟨rfl, h0⟩ | ⟨g, cap, cur, rfl, hrest⟩
  · exact ⟨none, 0, by rw [h0], fun i hi => by omega⟩
  · refine ⟨_, _, rfl, fun i hi => ⟨g, rfl, (hlt g rfl).2, fun j u hu => ?_⟩⟩
    have hx : (l.flatMap tk0)[i * 5 + j]? = some u := by
      clear ho hl hrest hlt
      induction l generalizing i with
      | nil => exact absurd hi (Nat.not_lt_zero _)
      | cons t l ih =>
        rw [List.flatMap_cons]
        cases i with
        | zero =>
          have hj : j < (tk0 t).length := (List.getElem?_eq_some_iff.1 hu).1
          rw [Nat.zero_mul, Nat.zero_add, List.getElem?_append_left hj]; exact hu
        | succ i =>
          rw [List.getElem?_append_right (by simp; omega)]
          have := ih i (by simpa using hi) hu
          rw [show (i + 1) * 5 + j - (tk0 t).length = i * 5 + j by simp; omega]; exact this
    exact (World.ownsRow.cellAt ho (i * 5 + j) (by rw [← hl]; exact (List.getElem?_eq_some_iff.1 hx).1)).trans hx
set_option maxRecDepth 100000 in
set_option maxHeartbeats 6400000 in
theorem rjoin_c {B : Nat} (v : Value) (l : List Tk) (w : World) (hT : OwnT w B v l) (hok : ∀ t ∈ l, OkT t) (hl : l.length ≤ 1000) :
    Calls Tryz.prog 21 #[v] w fun x w' => x = .returned (if 2000 < (joinS l).length then .tuple #[.string noB, .int .i64 2] else .tuple #[.string ⟨(joinS l).toArray⟩, .int .i64 0]) ∧ Below w.heap.size w w' := by
  obtain ⟨A, c, rfl, hc⟩ := own_cells hT
  have hfin : joinN l l.length = ⟨(joinS l).toArray⟩ := by unfold joinN; rw [List.take_length]
  rw [← hfin, show (joinS l).length = (joinN l l.length).size by rw [hfin, Lib.size_eq]]
  have hsz : ∀ i, (joinN l i).size ≤ 1011 * l.length := fun i => by
    rw [Lib.size_eq]
    have := join_len (l := l.take i) (fun t ht => hok t (List.mem_of_mem_take ht))
    rw [List.length_take] at this
    show (joinS (l.take i)).length ≤ _
    have h2 : 1011 * min i l.length ≤ 1011 * l.length := Nat.mul_le_mul_left _ (Nat.min_le_right _ _)
    omega
  have HSZ := Lib.hid hsz
  have HC := Lib.hid hc
  have HOK := Lib.hid hok
  have HST := Lib.hid (fun i (h : i < l.length) => join_step (l := l) h)
  have hn0 : joinN l 0 = noB := rfl
  have HN0 := Lib.hid hn0
  clear hfin hsz hc hok hT hn0
  obtain ⟨RES, hRES⟩ : ∃ z : Value, (if 2000 < (joinN l l.length).size then .tuple #[.string noB, .int .i64 2] else .tuple #[.string (joinN l l.length), .int .i64 0]) = z := ⟨_, rfl⟩
  rw [hRES]
  have HRES := Lib.hid hRES
  clear hRES
  obtain ⟨N, hN⟩ : ∃ N, l.length = N := ⟨_, rfl⟩
  have HN := Lib.hid hN
  rw [hN] at hl ⊢
  clear hN
  go_enter Tryz.func21, Tryz.ntmps21
  go_wp2_with fail
  go_loopw [4, 5] (fun ov iv wr => ∃ (i : Nat) (S : ByteArray), ov = .string S ∧ iv = .int .i64 i ∧ i ≤ N ∧ Hid (S = joinN l i) ∧ S.size ≤ 1011000 ∧ Below w.heap.size w wr) (fun _ iv _ => N - (intOf iv).toNat)
  case atStart => exact ⟨0, _, rfl, rfl, by omega, HN0.out.symm, by decide, Below.refl _ _⟩
  case round =>
    obtain ⟨i, S, rfl, rfl, hi, hS, hSz, hb⟩ := hrel
    by_cases hlt : i < N
    rotate_left
    · have hiN : i = l.length := by have := HN.out; omega
      have hr := HRES.out
      rw [← hiN, ← hS.out] at hr
      clear HRES HSZ HC HOK HST HN0 hS
      by_cases hbig : 2000 < S.size
      · rw [if_pos hbig] at hr
        subst hr
        have d2 : decide ((2000 : Int) < (S.size : Int)) = true := decide_eq_true (by omega)
        clear hiN
        go_wp2_with fail
        go_ret2
        exact ⟨rfl, hb⟩
      · rw [if_neg hbig] at hr
        subst hr
        have d2 : decide ((2000 : Int) < (S.size : Int)) = false := decide_eq_false (by omega)
        clear hiN
        go_wp2_with fail
        go_ret2
        exact ⟨rfl, hb⟩
    · have hil : i < l.length := by have := HN.out; omega
      obtain ⟨g, rfl, hg, hc⟩ := HC.out i hil
      have f0 := (hb.cell (p := ⟨g, i * 5 + 0, none⟩) hg).trans (hc 0 _ rfl)
      have f1 := (hb.cell (p := ⟨g, i * 5 + 1, none⟩) hg).trans (hc 1 _ rfl)
      have f2 := (hb.cell (p := ⟨g, i * 5 + 2, none⟩) hg).trans (hc 2 _ rfl)
      have f3 := (hb.cell (p := ⟨g, i * 5 + 3, none⟩) hg).trans (hc 3 _ rfl)
      have f4 := (hb.cell (p := ⟨g, i * 5 + 4, none⟩) hg).trans (hc 4 _ rfl)
      simp only [Nat.add_zero] at f0
      have hot := HOK.out _ (List.getElem_mem hil)
      have hst := HST.out i hil
      rw [← hS.out] at hst
      have hsz2 := HSZ.out (i + 1)
      have hN2 := HN.out
      have ct := fun W => rtext_c (l[i]'hil) hot W
      have hts := txt_size hot
      obtain ⟨t, ht⟩ : ∃ t, l[i]'hil = t := ⟨_, rfl⟩
      rw [ht] at f0 f1 f2 hst ct hts
      unfold TxtPost at ct
      obtain ⟨T, hT⟩ : ∃ T, txtS t = T := ⟨_, rfl⟩
      rw [hT] at hst ct hts
      clear hc ht hT hot hS
      have hbd : (joinN l (i + 1)).size ≤ 1011000 := by omega
      have HST2 := Lib.hid hst
      have HBD := Lib.hid hbd
      clear hst hsz2 hN2 hbd
      obtain ⟨k, wd, n⟩ := t
      have ct := ct wr
      have ct' : Calls Tryz.prog 38 #[.agg #[.int .i64 k, .string wd, .int .i64 n, .slice none 0 0, .int .i64 0]] wr _ := ct
      clear ct hil
      dsimp only at f0 f1 f2
      by_cases h0 : 0 < i
      · have d0 : decide ((0 : Int) < (i : Int)) = true := decide_eq_true (by omega)
        have hz := HST2.out
        rw [if_pos h0] at hz
        have HZ := Lib.hid hz.symm
        have hz2 := HBD.out
        rw [hz] at hz2
        clear hz HST2 HBD
        go_wp2_with fail
        (with_reducible refine ct'.mono ?_)
        clear ct' f0 f1 f2 f3 f4
        rintro x w3 ⟨rfl, b3⟩
        have B3 := via b3 hb
        go_wp2_with fail
        go_roundw
        case rel => exact ⟨i + 1, _, rfl, by go_num, by omega, HZ.out, hz2, B3⟩
        case measure => simp [intOf]; omega
      · have d0 : decide ((0 : Int) < (i : Int)) = false := decide_eq_false (by omega)
        have hz := HST2.out
        rw [if_neg h0] at hz
        have HZ := Lib.hid hz.symm
        have hz2 := HBD.out
        rw [hz] at hz2
        clear hz HST2 HBD
        go_wp2_with fail
        (with_reducible refine ct'.mono ?_)
        clear ct' f0 f1 f2 f3 f4
        rintro x w3 ⟨rfl, b3⟩
        have B3 := via b3 hb
        go_wp2_with fail
        go_roundw
        case rel => exact ⟨i + 1, _, rfl, by go_num, by omega, HZ.out, hz2, B3⟩
        case measure => simp [intOf]; omega
end ExpW
end Go.Proofs.YtchceoclkdofhaaGreatDoor
