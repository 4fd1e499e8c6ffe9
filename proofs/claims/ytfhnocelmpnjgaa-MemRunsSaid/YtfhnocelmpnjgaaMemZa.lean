/- The walk of layer 14's awake. No condition. -/
import Derived.Test.YtfhnocelmpnjgaaMemR
namespace Go.Proofs.Ytfhnocelmpnjgaa
open Go.RowKit
namespace MemW
open QuoW MemP Own
def s_a : ByteArray := ⟨#[97]⟩
def s_b : ByteArray := ⟨#[98]⟩
def s_c : ByteArray := ⟨#[99]⟩
def s_1 : ByteArray := ⟨#[49]⟩
def s_2 : ByteArray := ⟨#[50]⟩
def s_e : ByteArray := ⟨#[]⟩
abbrev lA : List Vr := [(s_a, s_1), (s_c, s_e)]
abbrev lB : List Vr := [(s_a, s_1), (s_b, s_2), (s_c, s_e)]
theorem setA : setV lA s_b s_2 = (lB, 0) := by kernel_rfl
theorem getB : getV lB s_b = some s_2 := by kernel_rfl
theorem mayB_B : MemP.mayB lB = true := by kernel_rfl
set_option maxHeartbeats 1600000 in
theorem awake_c (w : World) : Calls Try.prog 5 #[] w fun e w' => e = .returned (.bool true) ∧ Below w.heap.size w w' := by
  obtain ⟨z, hz⟩ : ∃ z : World, z = w.alloc (.cells #[.string ⟨#[97]⟩, .string ⟨#[49]⟩, .string ⟨#[99]⟩, .string ⟨#[]⟩] 25) := ⟨_, rfl⟩
  have hB0 : Blk z w.heap.size 25 #[.string ⟨#[97]⟩, .string ⟨#[49]⟩, .string ⟨#[99]⟩, .string ⟨#[]⟩] := by rw [hz]; exact Blk.new _ _ _
  have hbz : Below w.heap.size w z := by rw [hz]; exact (Below.refl _ _).alloc (Nat.le_refl _) _
  have hr : Vrs z z.heap.size (some ⟨w.heap.size, 0, none⟩) 2 lA := ⟨rfl, fun _ => ⟨_, rfl, hB0.lt, fun j u hu => World.news_of_block hB0 j u hu⟩⟩
  have fit : FitV lA := by intro p hp; simp at hp; rcases hp with rfl | rfl <;> exact ⟨by decide, by decide⟩
  have c1 := set_c (some ⟨w.heap.size, 0, none⟩) 2 2 lA s_b s_2 z hr fit (by decide) (by decide) (by decide)
  clear hr
  go_enter Try.func5, Try.ntmps5
  go_wp2_with fail
  rw [← hz]
  refine c1.mono ?_
  rintro e w1 ⟨sv, rfl, hown, hb1⟩
  have hB1 := hbz.trans (hb1.mono hbz.size)
  rw [setA] at hown ⊢
  obtain ⟨A, c, rfl, hr, -, -⟩ := Own.rd hown
  have c2 := get_c A 3 c lB s_b w1 hr (by decide)
  clear c1 hown hz
  go_wp2_with fail
  refine c2.mono ?_
  rintro e w2 ⟨rfl, hb2⟩
  rw [getB]
  have hB2 := via (a := w) hb2 hB1
  have hr2 := hr.below hb2
  obtain ⟨g, o, p, rfl, hg, hp, q1, q2⟩ := Vrs.get (k := 1) hr2 (by decide)
  cases hp
  have fit2 : FitV lB := by intro p hp; simp at hp; rcases hp with rfl | rfl | rfl <;> exact ⟨by decide, by decide⟩
  have c3 := may_c (some ⟨g, o, none⟩) 3 c lB w2 (Rd.more hr2 hb2.size) fit2 (by decide)
  rw [mayB_B] at c3
  have e1 : (s_2.toList == [50]) = true := by kernel_rfl
  have e2 : (s_b.toList == [98]) = true := by kernel_rfl
  clear c2 hr hr2
  go_wp2_with fail
  refine c3.mono ?_
  rintro e w3 ⟨rfl, hb3⟩
  go_wp2
  go_ret
  exact ⟨rfl, via (a := w) hb3 hB2⟩
end MemW
end Go.Proofs.Ytfhnocelmpnjgaa
