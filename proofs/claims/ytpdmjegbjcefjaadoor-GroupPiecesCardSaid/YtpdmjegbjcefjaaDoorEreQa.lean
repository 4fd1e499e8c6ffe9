/- The walks of the reference's Has, within, Items. Conditions: none. -/
import Derived.Test.YtpdmjegbjcefjaaDoorEreTx
namespace Go.Proofs.YtpdmjegbjcefjaaDoor
set_option linter.unusedVariables false
set_option linter.unusedSimpArgs false
open Go.RowKit
namespace EreX
open EreP EreW
attribute [local go_sem] conv_one
theorem odd_test (x m : Nat) : ((((x : Int) / 2 ^ m).tmod 2) == 1) = x.testBit m := by
  have h1 : ((x : Int) / 2 ^ m) = ((x / 2 ^ m : Nat) : Int) := by simp
  rw [h1, Nat.testBit_eq_decide_div_mod_eq, Bool.eq_iff_iff]
  generalize x / 2 ^ m = y
  have h2 : (y : Int).tmod 2 = ((y % 2 : Nat) : Int) := by
    rw [Int.tmod_eq_emod_of_nonneg (by omega)]; omega
  rw [h2]; simp; omega
set_option maxHeartbeats 1600000 in
set_option maxRecDepth 100000 in
theorem hasq_c (S c : Nat) (hc : c < 256) (w : World) : Calls Tryd.prog 28 #[setV S, .int .u8 c] w fun x w' => x = .returned (.bool (hasS S c)) ∧ Below w.heap.size w w' := by
  have h6 : (c : Int).tdiv 64 = ((c / 64 : Nat) : Int) := by rw [Int.tdiv_eq_ediv_of_nonneg (by omega)]; omega
  have h7 : (c : Int).tmod 64 = ((c % 64 : Nat) : Int) := by rw [Int.tmod_eq_emod_of_nonneg (by omega)]; omega
  have hq : c / 64 = 0 ∨ c / 64 = 1 ∨ c / 64 = 2 ∨ c / 64 = 3 := by omega
  have hbit := word_bit S c
  have hlt := fun k => word_lt S k
  have hm : c % 64 < 64 := Nat.mod_lt _ (by decide)
  rcases hq with hq | hq | hq | hq
  all_goals
    rw [hq] at hbit
    go_enter Tryd.func28, Tryd.ntmps28
    go_wp2
    go_ret
    refine ⟨?_, by go_grown⟩
    rw [odd_test, hbit]; rfl
/-- A byte of an item, in the reference. -/
def inB (c : UInt8) : Bs := if c = 93 ∨ c = 45 ∨ c = 92 then [92, c] else [c]
set_option maxHeartbeats 1600000 in
set_option maxRecDepth 100000 in
theorem within_c (c : Nat) (hc : c < 256) (w : World) : Calls Tryd.prog 89 #[.int .u8 c] w fun x w' => x = .returned (.string ⟨(inB (UInt8.ofNat c)).toArray⟩) ∧ Below w.heap.size w w' := by
  have e : ∀ k : Nat, k < 256 → (UInt8.ofNat c = UInt8.ofNat k ↔ c = k) := by
    intro k hk
    constructor
    · intro h
      have := congrArg UInt8.toNat h
      simpa [Nat.mod_eq_of_lt hc, Nat.mod_eq_of_lt hk] using this
    · rintro rfl; rfl
  have e1 := e 93 (by decide)
  have e2 := e 45 (by decide)
  have e3 := e 92 (by decide)
  have hb : UInt8.ofNat ((c : Int).toNat) = UInt8.ofNat c := by simp
  obtain ⟨R, hR⟩ : ∃ R, inB (UInt8.ofNat c) = R := ⟨_, rfl⟩
  rw [hR]
  have HR := Lib.hid hR
  clear hR e
  have key : ∀ W : World, Below w.heap.size w W → True := fun _ _ => trivial
  clear key
  by_cases c1 : c = 93
  · have hz : R = [92, 93] := by rw [← HR.out, c1]; rfl
    subst c1
    subst hz
    go_enter Tryd.func89, Tryd.ntmps89
    go_wp2
    go_ret
    exact ⟨rfl, by go_grown⟩
  by_cases c2 : c = 45
  · have hz : R = [92, 45] := by rw [← HR.out, c2]; rfl
    subst c2
    subst hz
    go_enter Tryd.func89, Tryd.ntmps89
    go_wp2
    go_ret
    exact ⟨rfl, by go_grown⟩
  by_cases c3 : c = 92
  · have hz : R = [92, 92] := by rw [← HR.out, c3]; rfl
    subst c3
    subst hz
    go_enter Tryd.func89, Tryd.ntmps89
    go_wp2
    go_ret
    exact ⟨rfl, by go_grown⟩
  have hz : R = [UInt8.ofNat c] := by rw [← HR.out]; unfold inB; rw [if_neg (by rintro (h | h | h); exact c1 (e1.1 h); exact c2 (e2.1 h); exact c3 (e3.1 h))]
  subst hz
  have d1 : ((c : Int) == 93) = false := by simp; omega
  have d2 : ((c : Int) == 45) = false := by simp; omega
  have d3 : ((c : Int) == 92) = false := by simp; omega
  clear e1 e2 e3
  go_enter Tryd.func89, Tryd.ntmps89
  go_wp2
  go_ret
  exact ⟨by simp, by go_grown⟩
/-- A span's text, in the reference. -/
def itB (a b : Nat) : Bs := inB (UInt8.ofNat a) ++ (if b = a then [] else 45 :: inB (UInt8.ofNat b))
theorem inB_len (c : UInt8) : (inB c).length ≤ 2 := by unfold inB; split <;> simp
set_option maxHeartbeats 3200000 in
set_option maxRecDepth 100000 in
theorem items1_c (a b : Nat) (ha : a < 256) (hb : b < 256) (g n c : Nat) (w : World) (h0 : w.cell? ⟨g, 0, none⟩ = some (.int .u8 a)) (h1 : w.cell? ⟨g, 1, none⟩ = some (.int .u8 b)) :
    Calls Tryd.prog 75 #[.slice (some ⟨g, 0, none⟩) 1 c] w fun x w' => x = .returned (.string ⟨(itB a b).toArray⟩) ∧ Below w.heap.size w w' := by
  have hg : g < w.heap.size := World.block_lt_of_cell? w _ h0
  have ca := fun W => within_c a ha W
  have cb := fun W => within_c b hb W
  have l0 := inB_len (UInt8.ofNat a)
  have l1 := inB_len (UInt8.ofNat b)
  obtain ⟨R, hR⟩ : ∃ R, itB a b = R := ⟨_, rfl⟩
  rw [hR]
  unfold itB at hR
  generalize inB (UInt8.ofNat a) = ta at *
  generalize inB (UInt8.ofNat b) = tb at *
  have HR := Lib.hid hR
  clear hR
  obtain ⟨T0, hT0⟩ : ∃ T : ByteArray, T = ⟨ta.toArray⟩ := ⟨_, rfl⟩
  obtain ⟨T1, hT1⟩ : ∃ T : ByteArray, T = ⟨tb.toArray⟩ := ⟨_, rfl⟩
  rw [← hT0] at ca
  rw [← hT1] at cb
  have hs0 : T0.size ≤ 2 := by rw [hT0]; simpa [ByteArray.size] using l0
  have hs1 : T1.size ≤ 2 := by rw [hT1]; simpa [ByteArray.size] using l1
  have HD0 := Lib.hid (show T0.data.toList = ta by rw [hT0])
  have HD1 := Lib.hid (show T1.data.toList = tb by rw [hT1])
  clear hT0 hT1 l0 l1
  have H0 := Lib.hid h0
  have H1 := Lib.hid h1
  clear h0 h1
  go_enter Tryd.func75, Tryd.ntmps75
  go_wp2_with fail
  go_loopw [3, 4] (fun o v wr => ∃ (i : Nat) (O : ByteArray), v = .int .i64 i ∧ i ≤ 1 ∧ o = .string O ∧ Hid (O.data.toList = if i = 0 then [] else R) ∧ O.size ≤ 6 ∧ Below w.heap.size w wr) (fun _ v _ => 1 - (intOf v).toNat)
  case atStart => exact ⟨0, ⟨#[]⟩, rfl, by omega, rfl, Lib.hid rfl, by decide, Below.refl _ _⟩
  case round =>
    obtain ⟨i, O, rfl, hi, rfl, HO, hOs, hBr⟩ := hrel
    by_cases hlt : i < 1
    · obtain rfl : i = 0 := by omega
      have hO : O = ⟨#[]⟩ := by
        apply bytes_ext
        rw [HO.out]; rfl
      subst hO
      rw [show ((0 : Nat) : Int) = 0 from rfl]
      have k0 : wr.cell? ⟨g, 0, none⟩ = some (.int .u8 a) := (hBr.cell (p := ⟨g, 0, none⟩) hg).trans H0.out
      have k1 : wr.cell? ⟨g, 1, none⟩ = some (.int .u8 b) := (hBr.cell (p := ⟨g, 1, none⟩) hg).trans H1.out
      go_wp2_with fail
      (with_reducible refine (ca _).mono ?_)
      rintro e w2 ⟨rfl, b2⟩
      have k0 : w2.cell? ⟨g, 0, none⟩ = some (.int .u8 a) := (b2.cell (p := ⟨g, 0, none⟩) (Nat.lt_of_lt_of_le hg hBr.size)).trans k0
      have k1 : w2.cell? ⟨g, 1, none⟩ = some (.int .u8 b) := (b2.cell (p := ⟨g, 1, none⟩) (Nat.lt_of_lt_of_le hg hBr.size)).trans k1
      have hB2 := via b2 hBr
      by_cases hab : b = a
      · have d : (((b : Nat) : Int) != ((a : Nat) : Int)) = false := by simp [hab]
        go_wp2_with fail
        go_simp
        go_quiet (fail)
        have hB3 : Below w.heap.size w (w2.drewN nq) := below_dn hB2 nq
        generalize w2.drewN nq = w3 at *
        go_wp2
        go_roundw
        case rel =>
          refine ⟨1, _, by go_num, by omega, rfl, Lib.hid ?_, ?_, hB3⟩
          · rw [← HR.out, if_pos hab, ByteArray.data_append, Array.toList_append, HD0.out]; simp
          · have z1 : (⟨#[]⟩ : ByteArray).size = 0 := rfl
            rw [ByteArray.size_append]; omega
        case measure => simp [intOf]
      · have d : (((b : Nat) : Int) != ((a : Nat) : Int)) = true := by simp; omega
        go_wp2_with fail
        go_simp
        go_quiet (fail)
        have hB3 : Below w.heap.size w (w2.drewN nq) := below_dn hB2 nq
        have k1 : (w2.drewN nq).cell? ⟨g, 1, none⟩ = some (.int .u8 b) := k1
        generalize w2.drewN nq = w3 at *
        go_wp2_with fail
        (with_reducible refine (cb _).mono ?_)
        rintro e w4 ⟨rfl, b4⟩
        have hB4 := via b4 hB3
        have z0 : (⟨#[45]⟩ : ByteArray).size = 1 := rfl
        have z1 : (⟨#[]⟩ : ByteArray).size = 0 := rfl
        go_wp2
        go_roundw
        case rel =>
          refine ⟨1, _, by go_num, by omega, rfl, Lib.hid ?_, ?_, hB4⟩
          · rw [← HR.out, if_neg hab]; simp only [ByteArray.data_append, Array.toList_append, HD0.out, HD1.out]; simp
          · simp only [ByteArray.size_append]; omega
        case measure => simp [intOf]
    · obtain rfl : i = 1 := by omega
      have hO : R = O.data.toList := by rw [HO.out]; rfl
      subst hO
      rw [show ((1 : Nat) : Int) = 1 from rfl]
      go_wp2
      go_ret
      exact ⟨rfl, hBr⟩
end EreX
end Go.Proofs.YtpdmjegbjcefjaaDoor
namespace Go.Proofs.YtpdmjegbjcefjaaDoor
set_option linter.unusedVariables false
set_option linter.unusedSimpArgs false
open Go.RowKit
namespace EreX
open EreP EreW
attribute [local go_sem] conv_one
@[local go_sem] theorem conv_one1 (W : World) (o : Obj) (z : Int) : (convert 98 9 (.slice (some ⟨W.heap.size + 1, 0, none⟩) 1 1)).run Tryd.prog ((W.alloc o).alloc (.cells #[.int .u8 z] 5)) = .ok (.string ⟨#[UInt8.ofNat z.toNat]⟩) ((W.alloc o).alloc (.cells #[.int .u8 z] 5)) := by
  have := conv_one (W.alloc o) z
  rwa [World.size_alloc] at this
set_option maxHeartbeats 1600000 in
set_option maxRecDepth 100000 in
theorem signq_c (lo hi : Int) (h0 : 0 ≤ lo) (h1 : lo ≤ 8) (h2 : -1 ≤ hi) (h3 : hi ≤ 8) (w : World) :
    Calls Tryd.prog 59 #[.int .i64 lo, .int .i64 hi] w fun x w' => x = .returned (.string ⟨(signB lo hi).toArray⟩) ∧ Below w.heap.size w w' := by
  obtain ⟨SG, hSG⟩ : ∃ SG, signB lo hi = SG := ⟨_, rfl⟩
  rw [hSG]
  have HSG := Lib.hid hSG
  clear hSG
  have u1 : IntKind.u8.wrap (48 + lo) = 48 + lo := by simp [IntKind.wrap, IntKind.bits, IntKind.signed]; omega
  have t1 : (48 + lo).toNat = 48 + lo.toNat := by omega
  by_cases a1 : lo = 0 ∧ hi = -1
  · have hz : SG = [42] := by rw [← HSG.out]; unfold signB; rw [if_pos a1]
    obtain ⟨rfl, rfl⟩ := a1
    subst hz
    go_enter Tryd.func59, Tryd.ntmps59
    go_wp2
    go_ret
    exact ⟨rfl, by go_grown⟩
  by_cases a2 : lo = 1 ∧ hi = -1
  · have hz : SG = [43] := by rw [← HSG.out]; unfold signB; rw [if_neg a1, if_pos a2]
    obtain ⟨rfl, rfl⟩ := a2
    subst hz
    go_enter Tryd.func59, Tryd.ntmps59
    go_wp2
    go_ret
    exact ⟨rfl, by go_grown⟩
  by_cases a3 : lo = 0 ∧ hi = 1
  · have hz : SG = [63] := by rw [← HSG.out]; unfold signB; rw [if_neg a1, if_neg a2, if_pos a3]
    obtain ⟨rfl, rfl⟩ := a3
    subst hz
    go_enter Tryd.func59, Tryd.ntmps59
    go_wp2
    go_ret
    exact ⟨rfl, by go_grown⟩
  have hsg : SG = if lo = hi then [123] ++ digB lo ++ [125] else if hi = -1 then [123] ++ digB lo ++ [44, 125] else [123] ++ digB lo ++ [44] ++ digB hi ++ [125] := by
    rw [← HSG.out]; unfold signB; rw [if_neg a1, if_neg a2, if_neg a3]
  have HS2 := Lib.hid hsg
  clear hsg HSG
  cases c0 : (lo == 0) <;> cases m1 : (hi == -1) <;> cases c1 : (lo == 1) <;> cases p1 : (hi == 1)
  all_goals first
    | (exfalso; simp only [beq_iff_eq, beq_eq_false_iff_ne, ne_eq] at c0 m1 c1 p1; omega)
    | skip
  all_goals clear a1 a2 a3
  all_goals
    by_cases e : hi = lo
    · have d : (hi != lo) = false := by simp [e]
      have hz : SG = [123] ++ digB lo ++ [125] := by rw [HS2.out, if_pos e.symm]
      subst hz
      clear e HS2
      go_enter Tryd.func59, Tryd.ntmps59
      go_wp2
      go_ret
      exact ⟨ret_str (bytes_ext (by simp [ByteArray.data_append, digB, t1])), by go_grown⟩
    · have d : (hi != lo) = true := by simp [e]
      by_cases e2 : hi = -1
      · have d2 : decide ((0 : Int) ≤ hi) = false := by simp; omega
        have hz : SG = [123] ++ digB lo ++ [44, 125] := by rw [HS2.out, if_neg (fun h => e h.symm), if_pos e2]
        subst hz
        clear e e2 HS2
        go_enter Tryd.func59, Tryd.ntmps59
        go_wp2
        go_ret
        exact ⟨ret_str (bytes_ext (by simp [ByteArray.data_append, digB, t1])), by go_grown⟩
      · have d2 : decide ((0 : Int) ≤ hi) = true := by simp; omega
        have z2 : 0 ≤ hi := by omega
        have u2 : IntKind.u8.wrap (48 + hi) = 48 + hi := by simp [IntKind.wrap, IntKind.bits, IntKind.signed]; omega
        have t2 : (48 + hi).toNat = 48 + hi.toNat := by omega
        have hz : SG = [123] ++ digB lo ++ [44] ++ digB hi ++ [125] := by rw [HS2.out, if_neg (fun h => e h.symm), if_neg e2]
        subst hz
        clear e e2 HS2
        go_enter Tryd.func59, Tryd.ntmps59
        go_wp2
        go_ret
        exact ⟨ret_str (bytes_ext (by simp [ByteArray.data_append, digB, t1, t2])), by go_grown⟩
end EreX
end Go.Proofs.YtpdmjegbjcefjaaDoor
namespace Go.Proofs.YtpdmjegbjcefjaaDoor
set_option linter.unusedVariables false
set_option linter.unusedSimpArgs false
open Go.RowKit
namespace EreX
open EreP EreW
/-- The last span's end moved on. -/
def stretch (l : List (Nat × Nat)) (c : Nat) : List (Nat × Nat) := match l.getLast? with
  | some (a, b) => if b + 1 = c then l.dropLast ++ [(a, c)] else l ++ [(c, c)]
  | none => l ++ [(c, c)]
/-- The runs within the first bytes. -/
def accS (s : Nat) : Nat → List (Nat × Nat)
  | 0 => []
  | c + 1 => if hasS s c = true then stretch (accS s c) c else accS s c
theorem stretch_far (l : List (Nat × Nat)) (c : Nat) (hl : ∀ a b, l.getLast? = some (a, b) → b + 1 ≠ c) : stretch l c = l ++ [(c, c)] := by
  unfold stretch
  split
  · next a b e => rw [if_neg (hl a b e)]
  · rfl
theorem stretch_near (l : List (Nat × Nat)) (a c : Nat) : stretch (l ++ [(a, c)]) (c + 1) = l ++ [(a, c + 1)] := by
  unfold stretch
  rw [List.getLast?_append]
  simp
theorem acc_lt (s : Nat) : ∀ c, ∀ p ∈ accS s c, p.2 < c := by
  intro c
  induction c with
  | zero => intro p hp; cases hp
  | succ c ih =>
    intro p hp
    unfold accS at hp
    split at hp
    · unfold stretch at hp
      split at hp
      · next a b e =>
        split at hp
        · rcases List.mem_append.1 hp with hp | hp
          · have := ih p (List.dropLast_subset _ hp); omega
          · rw [List.mem_singleton] at hp; subst hp; show c < c + 1; omega
        · rcases List.mem_append.1 hp with hp | hp
          · have := ih p hp; omega
          · rw [List.mem_singleton] at hp; subst hp; show c < c + 1; omega
      · rcases List.mem_append.1 hp with hp | hp
        · have := ih p hp; omega
        · rw [List.mem_singleton] at hp; subst hp; show c < c + 1; omega
    · have := ih p hp; omega
theorem acc_len (s : Nat) : ∀ c, (accS s c).length ≤ c := by
  intro c
  induction c with
  | zero => exact Nat.le_refl _
  | succ c ih =>
    unfold accS
    split
    · unfold stretch
      split
      · next a b e =>
        split
        · have : (accS s c).length ≠ 0 := fun h => by rw [List.length_eq_zero_iff.1 h] at e; cases e
          rw [List.length_append, List.length_dropLast]; simp; omega
        · simp; omega
      · simp; omega
    · omega
theorem acc_succ (s n : Nat) : accS s (n + 1) = if hasS s n = true then stretch (accS s n) n else accS s n := rfl
/-- Along a run. -/
theorem acc_run (s c : Nat) (hb : ∀ a b, (accS s c).getLast? = some (a, b) → b + 1 ≠ c) : ∀ k, (∀ i, c ≤ i → i < c + (k + 1) → hasS s i = true) → accS s (c + (k + 1)) = accS s c ++ [(c, c + k)] := by
  intro k
  induction k with
  | zero =>
    intro h
    show (if hasS s c = true then _ else _) = _
    rw [if_pos (h c (Nat.le_refl _) (by omega))]
    exact stretch_far _ _ hb
  | succ k ih =>
    intro h
    rw [show c + (k + 1 + 1) = (c + (k + 1)) + 1 from rfl, acc_succ, if_pos (h _ (by omega) (by omega)), ih (fun i h1 h2 => h i h1 (by omega))]
    exact stretch_near _ _ _
theorem endS_step (s : Nat) : ∀ f c, c ≤ 256 → 256 - c ≤ f → (∀ k, c ≤ k → k < endS s f c → hasS s k = true) ∧ (endS s f c < 256 → hasS s (endS s f c) = false) := by
  intro f
  induction f with
  | zero =>
    intro c h1 h2
    have : c = 256 := by omega
    subst this
    exact ⟨fun k h h' => by unfold endS at h'; omega, fun h => by unfold endS at h; omega⟩
  | succ f ih =>
    intro c h1 h2
    unfold endS
    split
    · next hh =>
      obtain ⟨h3, h4⟩ := ih (c + 1) (by omega) (by omega)
      refine ⟨fun k hk hk2 => ?_, h4⟩
      by_cases e : k = c
      · subst e; exact hh.2
      · exact h3 k (by omega) hk2
    · next hh =>
      refine ⟨fun k hk hk2 => by omega, fun hc => ?_⟩
      cases hb : hasS s c
      · rfl
      · exact absurd ⟨hc, hb⟩ hh
theorem acc_spans (s : Nat) : ∀ f c, c ≤ 257 → 257 - c ≤ f → (∀ a b, (accS s (min c 256)).getLast? = some (a, b) → b + 1 ≠ c) → accS s 256 = accS s (min c 256) ++ spansF s f c := by
  intro f
  induction f with
  | zero =>
    intro c h1 h2 _
    have : c = 257 := by omega
    subst this
    simp [spansF]
  | succ f ih =>
    intro c h1 h2 hb
    unfold spansF
    by_cases hc : c < 256
    · rw [if_pos hc]
      rw [show min c 256 = c by omega] at hb ⊢
      obtain ⟨e1, e2⟩ := endS_le s (256 - c) c (by omega)
      obtain ⟨s1, s2⟩ := endS_step s (256 - c) c (by omega) (by omega)
      generalize endS s (256 - c) c = E at *
      have hE : accS s E = accS s c ++ (if c < E then [(c, E - 1)] else []) := by
        by_cases hlt : c < E
        · rw [if_pos hlt]
          have := acc_run s c hb (E - c - 1) (fun i h3 h4 => s1 i h3 (by omega))
          rw [show c + (E - c - 1 + 1) = E by omega, show c + (E - c - 1) = E - 1 by omega] at this
          exact this
        · rw [if_neg hlt, List.append_nil, show E = c by omega]
      by_cases h5 : E = 256
      · subst h5
        have h9 : spansF s f (256 + 1) = [] := by
          cases f with
          | zero => rfl
          | succ f => unfold spansF; rw [if_neg (by omega)]
        rw [hE, h9, List.append_nil]
      · have hE2 : accS s (E + 1) = accS s E := by
          show (if hasS s E = true then _ else _) = _
          rw [if_neg (by rw [s2 (by omega)]; decide)]
        have := ih (E + 1) (by omega) (by omega) (by
          rw [show min (E + 1) 256 = E + 1 by omega, hE2]
          intro a b e
          have := acc_lt s E (a, b) (List.mem_of_getLast? e)
          show b + 1 ≠ E + 1
          have : b < E := this
          omega)
        rw [this, show min (E + 1) 256 = E + 1 by omega, hE2, hE, List.append_assoc]
    · rw [if_neg hc, List.append_nil]
      rw [show min c 256 = 256 by omega]
theorem acc_all (s : Nat) : accS s 256 = spansS s := by
  have := acc_spans s 257 0 (by omega) (by omega) (by intro a b e; cases e)
  rw [this]
  rfl
end EreX
end Go.Proofs.YtpdmjegbjcefjaaDoor
