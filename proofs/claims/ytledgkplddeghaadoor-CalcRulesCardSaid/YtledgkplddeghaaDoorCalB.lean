/- The law's awake. Conditions: the tables of strconv. -/
import Derived.Test.YtledgkplddeghaaDoorCalA
import Derived.Deep.AppendLies
namespace Go.Proofs.YtledgkplddeghaaDoor
set_option linter.unusedVariables false
set_option linter.unusedSimpArgs false
open Go.RowKit
namespace CalW
open CalP QuoP QuoW MemP MemW
def sa : ByteArray := ⟨#[97]⟩
def s5 : ByteArray := ⟨#[53]⟩
def l0 : List Vr := [(⟨#[97]⟩, ⟨#[53]⟩)]
def q0 : Cu := ⟨⟨#[]⟩, ⟨#[]⟩, ⟨#[]⟩, ⟨#[]⟩, ⟨#[]⟩, ⟨#[]⟩, ⟨#[]⟩, ⟨#[]⟩, ⟨#[]⟩, ⟨#[]⟩⟩
def q1 : Cu := ⟨⟨#[]⟩, ⟨#[121]⟩, ⟨#[]⟩, ⟨#[]⟩, ⟨#[]⟩, ⟨#[]⟩, ⟨#[]⟩, ⟨#[]⟩, ⟨#[]⟩, ⟨#[]⟩⟩
def r0 : Ex := .mk 4 0 ⟨#[]⟩ ⟨#[45]⟩ [.mk 1 0 ⟨#[97]⟩ ⟨#[]⟩ [], .mk 0 7 ⟨#[]⟩ ⟨#[]⟩ []]
def p0s : List Pt := [([], [120]), ([97], []), ([49], [])]
theorem v0 : valE l0 q0 r0 = (-2, 0) := by kernel_rfl
theorem v1 : valP l0 q1 p0s = ([120, 53, 121], 0) := by kernel_rfl
theorem r0_short : shortE r0 := by unfold r0; simp [shortE, shortL]; decide
theorem r0_et (w : World) (g : Nat) (h : Blk w g 24 #[.int .i64 1, .int .i64 0, .string ⟨#[97]⟩, .string ⟨#[]⟩, .slice none 0 0, .int .i64 0, .int .i64 7, .string ⟨#[]⟩, .string ⟨#[]⟩, .slice none 0 0]) : Et w (fun _ => True) r0 (exC 4 0 ⟨#[]⟩ ⟨#[45]⟩ (some ⟨g, 0, none⟩) 2 2) := by
  have e0 : (⟨#[97]⟩ : ByteArray).size ≤ maxLen := by decide
  have e1 : (⟨#[]⟩ : ByteArray).size ≤ maxLen := by decide
  have e2 : (⟨#[45]⟩ : ByteArray).size ≤ maxLen := by decide
  refine .mk 4 0 ⟨#[]⟩ ⟨#[45]⟩ _ (some ⟨g, 0, none⟩) 2 (fun i => if i = 0 then exC 1 0 ⟨#[97]⟩ ⟨#[]⟩ none 0 0 else exC 0 7 ⟨#[]⟩ ⟨#[]⟩ none 0 0) (by unfold CalW.I64; omega) (by unfold CalW.I64; omega) e1 e2 (by decide) (fun i hi => ?_) (fun _ => ⟨g, 0, rfl, trivial, fun i hi j u hu => ?_⟩)
  · have : i = 0 ∨ i = 1 := by simp at hi; omega
    rcases this with rfl | rfl
    · exact Et.leaf 1 0 ⟨#[97]⟩ ⟨#[]⟩ 0 (by unfold CalW.I64; omega) (by unfold CalW.I64; omega) e0 e1
    · exact Et.leaf 0 7 ⟨#[]⟩ ⟨#[]⟩ 0 (by unfold CalW.I64; omega) (by unfold CalW.I64; omega) e1 e1
  · have : i = 0 ∨ i = 1 := by simp at hi; omega
    have hj : j < 5 := by
      have := (List.getElem?_eq_some_iff.1 hu).1
      split at this <;> simpa using this
    have hj5 : j = 0 ∨ j = 1 ∨ j = 2 ∨ j = 3 ∨ j = 4 := by omega
    rw [h.cell]
    rcases this with rfl | rfl <;> rcases hj5 with rfl | rfl | rfl | rfl | rfl <;> simpa using hu
set_option maxHeartbeats 3200000 in
set_option maxRecDepth 100000 in
theorem awake_c (w : World) (hw : NumW.Rdy w) : Calls Tryd.prog 6 #[] w fun x w' => x = .returned (.bool true) ∧ Below w.heap.size w w' := by
  obtain ⟨V, hV⟩ : ∃ V, w.heap.size = V := ⟨_, rfl⟩
  obtain ⟨wa, hwa⟩ : ∃ z : World, z = (w.alloc (.cells #[.string ⟨#[97]⟩, .string ⟨#[53]⟩] 53)).alloc (.cells #[.int .i64 1, .int .i64 0, .string ⟨#[97]⟩, .string ⟨#[]⟩, .slice none 0 0, .int .i64 0, .int .i64 7, .string ⟨#[]⟩, .string ⟨#[]⟩, .slice none 0 0] 24) := ⟨_, rfl⟩
  have BA : Below w.heap.size w wa := by rw [hwa]; go_grown
  have XV : Blk wa w.heap.size 53 #[.string ⟨#[97]⟩, .string ⟨#[53]⟩] := by rw [hwa]; exact (Blk.new _ _ _).alloc _
  have XX : Blk wa (w.heap.size + 1) 24 #[.int .i64 1, .int .i64 0, .string ⟨#[97]⟩, .string ⟨#[]⟩, .slice none 0 0, .int .i64 0, .int .i64 7, .string ⟨#[]⟩, .string ⟨#[]⟩, .slice none 0 0] := by rw [hwa]; exact Blk.new1 _ _ _ _
  have vrs : ∀ W, Blk W w.heap.size 53 #[.string ⟨#[97]⟩, .string ⟨#[53]⟩] → Vrs W W.heap.size (some ⟨w.heap.size, 0, none⟩) 1 l0 := fun W h => ⟨rfl, fun _ => ⟨⟨w.heap.size, 0, none⟩, rfl, h.lt, fun j u hj => World.news_of_block h j u hj⟩⟩
  have hfit : ∀ p ∈ l0, p.2.size ≤ 60 := by intro p hp; simp [l0] at hp; subst hp; decide
  have hc0 : ∀ s ∈ q0.list, s.size ≤ 60 := by intro s hs; simp [q0, Cu.list] at hs; subst hs; decide
  have hc1 : ∀ s ∈ q1.list, s.size ≤ 60 := by intro s hs; simp [q1, Cu.list] at hs; rcases hs with rfl | rfl | rfl <;> decide
  have env0 : Env (some ⟨w.heap.size, 0, none⟩) 1 l0 q0 wa := ⟨vrs wa XV, by omega, hw.below BA, hfit, hc0⟩
  have ce := Eval_c (some ⟨w.heap.size, 0, none⟩) 1 1 l0 q0 r0 _ wa env0 (r0_et wa _ XX) r0_short
  rw [v0] at ce
  have ce : Calls Tryd.prog 10 #[.agg #[.int .i64 4, .int .i64 0, .string ⟨#[]⟩, .string ⟨#[45]⟩, .slice (some ⟨w.heap.size + 1, 0, none⟩) 2 2], .slice (some ⟨w.heap.size, 0, none⟩) 1 1, .agg #[.string ⟨#[]⟩, .string ⟨#[]⟩, .string ⟨#[]⟩, .string ⟨#[]⟩, .string ⟨#[]⟩, .string ⟨#[]⟩, .string ⟨#[]⟩, .string ⟨#[]⟩, .string ⟨#[]⟩, .string ⟨#[]⟩]] wa fun x w' => x = .returned (.tuple #[.int .i64 (-2), .int .i64 0]) ∧ Below wa.heap.size wa w' := ce
  have HV := Lib.hid XV
  have HVR := Lib.hid vrs
  clear XX env0 vrs hV XV
  go_enter Tryd.func6, Tryd.ntmps6
  go_wp2_with fail
  rw [← hwa]
  clear hwa
  (with_reducible refine ce.mono ?_)
  rintro x w2 ⟨rfl, b2⟩
  have B2 := via b2 BA
  have X2 := HV.out.next b2
  obtain ⟨w3, hw3⟩ : ∃ z : World, z = w2.alloc (.cells #[.string ⟨#[]⟩, .string ⟨#[120]⟩, .string ⟨#[97]⟩, .string ⟨#[]⟩, .string ⟨#[49]⟩, .string ⟨#[]⟩] 42) := ⟨_, rfl⟩
  have U3 : Below w2.heap.size w2 w3 := by rw [hw3]; exact (Below.refl _ _).alloc (Nat.le_refl _) _
  have B3 := via U3 B2
  have X3 := X2.next U3
  have Y3 : Blk w3 w2.heap.size 42 #[.string ⟨#[]⟩, .string ⟨#[120]⟩, .string ⟨#[97]⟩, .string ⟨#[]⟩, .string ⟨#[49]⟩, .string ⟨#[]⟩] := by rw [hw3]; exact Blk.new _ _ _
  have env1 : Env (some ⟨w.heap.size, 0, none⟩) 1 l0 q1 w3 := ⟨HVR.out w3 X3, by omega, hw.below B3, hfit, hc1⟩
  have hpt : Pts w3 w3.heap.size (some ⟨w2.heap.size, 0, none⟩) 3 p0s := ⟨rfl, fun _ => ⟨⟨w2.heap.size, 0, none⟩, rfl, Y3.lt, fun j u hj => World.news_of_block Y3 j u hj⟩⟩
  have cv := Value_c (some ⟨w.heap.size, 0, none⟩) 1 1 l0 q1 (some ⟨w2.heap.size, 0, none⟩) 3 3 p0s w3 env1 hpt (by intro p hp; simp [p0s] at hp; rcases hp with rfl | rfl | rfl <;> decide) (by omega)
  rw [v1] at cv
  have hba : ba ([120, 53, 121], (0 : Int)).1 = ⟨#[120, 53, 121]⟩ := rfl
  rw [hba] at cv
  have cv : Calls Tryd.prog 14 #[.slice (some ⟨w2.heap.size, 0, none⟩) 3 3, .slice (some ⟨w.heap.size, 0, none⟩) 1 1, .agg #[.string ⟨#[]⟩, .string ⟨#[121]⟩, .string ⟨#[]⟩, .string ⟨#[]⟩, .string ⟨#[]⟩, .string ⟨#[]⟩, .string ⟨#[]⟩, .string ⟨#[]⟩, .string ⟨#[]⟩, .string ⟨#[]⟩]] w3 fun x w' => x = .returned (.tuple #[.string ⟨#[120, 53, 121]⟩, .int .i64 0]) ∧ Below w3.heap.size w3 w' := cv
  have ct := fun W => true_c (-1) W
  clear env1 hpt Y3 X2 X3 ce b2 U3 HV HVR hba
  go_wp2_with fail
  rw [← hw3]
  clear hw3
  (with_reducible refine cv.mono ?_)
  rintro x w4 ⟨rfl, b4⟩
  have B4 := via b4 B3
  go_wp2_with fail
  (with_reducible refine (ct _).mono ?_)
  rintro x w5 ⟨rfl, rfl⟩
  go_wp2
  go_ret
  exact ⟨rfl, B4⟩
end CalW
end Go.Proofs.YtledgkplddeghaaDoor
