/- The walks of slices.Clone, IndexFunc, DeleteFunc at variables, of mem.Drop and its reference. Conditions: lists that fit. -/
import Derived.Test.YtfhnocelmpnjgaaMemV
import Derived.Test.YtfhnocelmpnjgaaOwn
namespace Go.Proofs.Ytfhnocelmpnjgaa
open Go.RowKit
namespace MemW
open QuoW MemP Own
theorem info_V : (Try.prog.info? 25).map (fun i => (i.zero, i.size, i.bytes)) = some (some (.agg #[.string ⟨#[]⟩, .string ⟨#[]⟩]), 2, 32) := by kernel_rfl
theorem vcs_one {l : List Vr} : ∀ u ∈ vcs l, u.oneCell' = true := by
  intro u hu
  unfold vcs at hu
  rw [List.mem_flatMap] at hu
  obtain ⟨p, _, hp⟩ := hu
  simp only [vcell, List.mem_cons, List.not_mem_nil, or_false] at hp
  rcases hp with rfl | rfl <;> rfl
theorem vcs_take (l : List Vr) : ∀ k, (vcs l).take (k * 2) = vcs (l.take k) := by
  induction l with
  | nil => intro k; simp [vcs]
  | cons p l ih =>
    intro k
    cases k with
    | zero => simp [vcs]
    | succ k =>
      have e : vcs (p :: l) = .string p.1 :: .string p.2 :: vcs l := rfl
      rw [e, show (k + 1) * 2 = k * 2 + 1 + 1 by omega, List.take_succ_cons, List.take_succ_cons, ih k]; rfl
theorem vcs_drop (l : List Vr) : ∀ k, (vcs l).drop (k * 2) = vcs (l.drop k) := by
  induction l with
  | nil => intro k; simp [vcs]
  | cons p l ih =>
    intro k
    cases k with
    | zero => simp
    | succ k =>
      have e : vcs (p :: l) = .string p.1 :: .string p.2 :: vcs l := rfl
      rw [e, show (k + 1) * 2 = k * 2 + 1 + 1 by omega, List.drop_succ_cons, List.drop_succ_cons, ih k]; rfl
/-- A list in memory of the call's own. -/
abbrev OwnV (w : World) (B : Nat) (v : Value) (l : List Vr) : Prop := w.ownsRow B 25 2 v l.length (vcs l)
def ClonePost (l : List Vr) (w : World) (e : Ending) (w' : World) : Prop := ∃ v, e = .returned v ∧ OwnV w' w.heap.size v l ∧ Below w.heap.size w w'
set_option maxHeartbeats 800000 in
theorem clone_c (A : Option Addr) (n c : Nat) (l : List Vr) (w : World) (hr : Vrs w w.heap.size A n l) (hn : n ≤ 1048576) :
    Calls Try.prog 22 #[.slice A n c] w (ClonePost l w) := by
  have hl := Vrs.len hr
  have q := fun (w : World) (a : Option Addr) (n c n' c' : Nat) => Lib.run_eql_slice_nil w 22 25 a n c n' c' Try.underlying22
  cases A with
  | none =>
    obtain rfl : n = 0 := by
      rcases Nat.eq_zero_or_pos n with h | h
      · exact h
      · obtain ⟨ad, e, _⟩ := hr.2 h; cases e
    obtain rfl : l = [] := List.eq_nil_of_length_eq_zero hl
    clear hr hl
    go_enter Try.func22, Try.ntmps22
    go_wp2
    go_ret
    exact ⟨_, rfl, World.ownsRow_nil _ _ _ _, Below.refl _ _⟩
  | some ad =>
    obtain ⟨i0, hi0, hz0, hz1, hz2⟩ := info_parts info_V
    have hcell : ∀ j u, (vcs l)[j]? = some u → w.cell? (ad.add j) = some u := by
      intro j u hu
      rcases Nat.eq_zero_or_pos n with h | h
      · subst h; have := List.eq_nil_of_length_eq_zero hl; subst this; cases hu
      · obtain ⟨a', e, _, h'⟩ := hr.2 h
        cases e; exact h' j u hu
    have HC := Lib.hid hcell
    clear hcell
    subst hl
    clear hr
    go_enter Try.func22, Try.ntmps22
    go_wp2_with (at_builtin; refine wpList_append_own _ rfl _ _ 22 rfl w.heap.size 25 i0 (.agg #[.string ⟨#[]⟩, .string ⟨#[]⟩]) 2 32 Try.underlying22 hi0 hz0 hz1 hz2 rfl (by decide) _ _ _ rfl (World.ownsRow_made w #[] 0 (Nat.le_refl _) (Nat.zero_le _) (by simp)) ad l.length c (vcs l) rfl (by rw [vcs_len]) ?qc2 vcs_one (by unfold maxLen; omega) (by omega) (by simp) ?_)
    case qc2 => intro j u hu; exact Lib.cell?_alloc_some _ (HC.out j u hu)
    intro v' w1 hown hgrow hnil
    go_wp2
    go_ret
    exact ⟨v', rfl, hown, ((Below.refl _ w).alloc (Nat.le_refl _) _).grown hgrow (by simp) (by intro k hk; simp [Value.ownBlock] at hk; omega)⟩
/-- The closure of Drop: is it of that name? -/
theorem del_c (B : Nat) (a v nm : ByteArray) (w : World) (hB : Blk w B 9 #[.string nm]) :
    Calls Try.prog 26 #[.agg #[.string a, .string v], .pointer (some ⟨B, 0, none⟩)] w fun e w' => e = .returned (.bool (eq a nm)) ∧ Below w.heap.size w w' := by
  have x0 := hB.cell 0
  have hlt := hB.lt
  simp only [List.getElem?_toArray, List.getElem?_cons_zero] at x0
  generalize hE : eq a nm = b
  have hE2 : (a.toList == nm.toList) = b := hE
  clear hE hB
  go_enter Try.func26, Try.ntmps26
  go_wp2
  go_ret
  exact ⟨rfl, by go_grown⟩
theorem drop_take {l : List Vr} {nm : ByteArray} {k : Nat} {p : Vr} (hp : l[k]? = some p) : dropV (l.take (k + 1)) nm = dropV (l.take k) nm ++ (if eq p.1 nm = true then [] else [p]) := by
  unfold dropV
  rw [List.take_add_one, hp, List.filter_append]
  congr 1
  cases h : eq p.1 nm <;> simp [h]
/-- The first of that name, or -1. -/
def IdxPost (l : List Vr) (nm : ByteArray) (w : World) (e : Ending) (w' : World) : Prop := Below w.heap.size w w' ∧
  ((∃ k p, l[k]? = some p ∧ eq p.1 nm = true ∧ dropV (l.take k) nm = l.take k ∧ e = .returned (.int .i64 (k : Nat))) ∨ (dropV l nm = l ∧ e = .returned (.int .i64 (-1))))
set_option maxHeartbeats 800000 in
theorem index_c (A : Option Addr) (n c : Nat) (l : List Vr) (B : Nat) (nm : ByteArray) (w : World) (hr : Vrs w w.heap.size A n l) (hn : n ≤ 1048576) (hB : Blk w B 9 #[.string nm]) :
    Calls Try.prog 32 #[.slice A n c, .func (.func 26) #[] #[.pointer (some ⟨B, 0, none⟩)]] w (IdxPost l nm w) := by
  have hl := Vrs.len hr
  go_enter Try.func32, Try.ntmps32
  go_wp2
  go_loopw [8] (fun v wr => ∃ k : Nat, v = .int .i64 k ∧ k ≤ n ∧ Hid (dropV (l.take k) nm = l.take k) ∧ Below w.heap.size w wr) (fun v _ => n - (intOf v).toNat)
  case atStart => exact ⟨0, rfl, by omega, rfl, Below.refl _ _⟩
  case round =>
    obtain ⟨k, rfl, hk, hx, hb⟩ := hrel
    by_cases hlt : k < n
    · obtain ⟨g, o, ⟨a, v⟩, rfl, hg, hp, q1, q2⟩ := Vrs.get (hr.below hb) hlt
      simp only at q1 q2
      have c1 := del_c B a v nm wr (hB.below hb hB.lt)
      have HP := Lib.hid hp
      have ST := Lib.hid (drop_take (nm := nm) hp)
      clear hp
      cases he : eq a nm
      · rw [he] at c1
        have HE := Lib.hid he
        clear he
        go_wp2_with fail
        (with_reducible refine c1.mono ?_)
        rintro e w1 ⟨rfl, hb1⟩
        have hB1 := hb.trans (hb1.mono hb.size)
        go_wp2
        go_roundw
        case rel => exact ⟨k + 1, by go_num, by omega, by show _ = _; rw [ST.out, hx.out, if_neg (by rw [HE.out]; decide), List.take_add_one, HP.out]; rfl, hB1⟩
        case measure => simp [intOf]; omega
      · rw [he] at c1
        have HE := Lib.hid he
        clear he
        go_wp2_with fail
        (with_reducible refine c1.mono ?_)
        rintro e w1 ⟨rfl, hb1⟩
        have hB1 := hb.trans (hb1.mono hb.size)
        go_wp2
        go_ret
        exact ⟨hB1, Or.inl ⟨k, _, HP.out, HE.out, hx.out, rfl⟩⟩
    · obtain rfl : k = n := by omega
      have ha := hx.out
      rw [List.take_of_length_le (by omega)] at ha
      have HA := Lib.hid ha
      clear ha
      go_wp2
      go_ret
      exact ⟨hb, Or.inr ⟨HA.out, rfl⟩⟩
end MemW
end Go.Proofs.Ytfhnocelmpnjgaa
