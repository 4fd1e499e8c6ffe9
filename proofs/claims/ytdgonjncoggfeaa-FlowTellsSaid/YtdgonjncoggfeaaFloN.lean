/- The law's first check: the walk. No condition. -/
import Derived.Test.YtdgonjncoggfeaaFloL
import Derived.Deep.DeepCutAuto
namespace Go.Proofs.Ytdgonjncoggfeaa
set_option linter.unusedVariables false
set_option linter.unusedSimpArgs false
open Go.RowKit
namespace FloW
open FloP
def ix0 (op : Int) : Ix := ⟨op, 0, ⟨#[]⟩, 0, none, 0, 0, 0, 0, ⟨#[]⟩, ⟨#[]⟩, none, 0, 0, none, 0, 0, []⟩
def wx0 : Wx := ⟨0, 0, 0, ⟨#[]⟩, 1, true, 0⟩
theorem aw_cd {w : World} {g g' : Nat} {B : Nat} (h : Blk w g 31 ([ix0 16, ix0 1, ix0 5].flatMap ixc).toArray) (h' : Blk w g' 41 ([wx0].flatMap wxc).toArray) (hg : g < B) (hg' : g' < B) :
    Cd w B (some ⟨g, 0, none⟩) 3 (some ⟨g', 0, none⟩) 1 [ix0 16, ix0 1, ix0 5] [wx0] := by
  refine ⟨⟨rfl, fun _ => ⟨_, rfl, hg, fun i u hu => ?_⟩⟩, ⟨rfl, fun _ => ⟨_, rfl, hg', fun i u hu => ?_⟩⟩, fun x hx => ?_, by omega, fun x hx => ?_⟩
  · rw [Addr.add]
    split
    · next e => subst e; rw [h.cell]; simpa using hu
    · rw [Nat.zero_add, h.cell]; simpa using hu
  · rw [Addr.add]
    split
    · next e => subst e; rw [h'.cell]; simpa using hu
    · rw [Nat.zero_add, h'.cell]; simpa using hu
  · simp only [List.mem_cons, List.not_mem_nil, or_false] at hx
    rcases hx with rfl | rfl | rfl <;> exact Rd.nil
  · simp only [List.mem_cons, List.not_mem_nil, or_false] at hx
    rcases hx with rfl | rfl | rfl <;> simp [ix0]
theorem aw_sm : Sm 3 1 [ix0 16, ix0 1, ix0 5] := ⟨by omega, by omega, fun x hx => by
  simp only [List.mem_cons, List.not_mem_nil, or_false] at hx
  rcases hx with rfl | rfl | rfl <;> simp [ix0]⟩
set_option maxHeartbeats 6400000 in
set_option maxRecDepth 100000 in
theorem awake_c (w : World) : Calls Try.prog 4 #[] w fun e w' => e = .returned (.bool true) ∧ Below w.heap.size w w' := by
  obtain ⟨C1, hC1⟩ : ∃ C, ([ix0 16, ix0 1, ix0 5].flatMap ixc).toArray = C := ⟨_, rfl⟩
  obtain ⟨C2, hC2⟩ : ∃ C, ([wx0].flatMap wxc).toArray = C := ⟨_, rfl⟩
  have HC1 := Lib.hid hC1
  have HC2 := Lib.hid hC2
  have I1 := ((Blk.new w 31 C1).alloc (.cells C2 41)).alloc (.cells #[.slice (some ⟨w.heap.size, 0, none⟩) 3 3, .slice (some ⟨w.heap.size + 1, 0, none⟩) 1 1] 33)
  have J1 := (Blk.new1 w (.cells C1 31) 41 C2).alloc (.cells #[.slice (some ⟨w.heap.size, 0, none⟩) 3 3, .slice (some ⟨w.heap.size + 1, 0, none⟩) 1 1] 33)
  have E1 := Blk.new2 w (.cells C1 31) (.cells C2 41) 33 #[.slice (some ⟨w.heap.size, 0, none⟩) 3 3, .slice (some ⟨w.heap.size + 1, 0, none⟩) 1 1]
  have B1 : Below w.heap.size w (((w.alloc (.cells C1 31)).alloc (.cells C2 41)).alloc (.cells #[.slice (some ⟨w.heap.size, 0, none⟩) 3 3, .slice (some ⟨w.heap.size + 1, 0, none⟩) 1 1] 33)) := by go_grown
  go_enter Try.func4, Try.ntmps4
  go_upto_region 2 with fail
  obtain ⟨w1, hw1⟩ : ∃ x, ((w.alloc (.cells C1 31)).alloc (.cells C2 41)).alloc (.cells #[.slice (some ⟨w.heap.size, 0, none⟩) 3 3, .slice (some ⟨w.heap.size + 1, 0, none⟩) 1 1] 33) = x := ⟨_, rfl⟩
  rw [hw1] at I1 J1 E1 B1
  rw [← hC1, ← hC2] at hw1
  simp only [List.flatMap_cons, List.flatMap_nil, List.append_nil, List.cons_append, List.nil_append, ix0, wx0] at hw1
  rw [hw1]
  clear hw1 hC1 hC2
  have cd1 : Cd w1 w1.heap.size (some ⟨w.heap.size, 0, none⟩) 3 (some ⟨w.heap.size + 1, 0, none⟩) 1 [ix0 16, ix0 1, ix0 5] [wx0] := aw_cd (by rw [HC1.out]; exact I1) (by rw [HC2.out]; exact J1) I1.lt J1.lt
  have cr := reach_c _ _ 3 3 1 1 _ _ w1 cd1 aw_sm
  simp only [cdv] at cr
  have u0 := E1.cell 0
  have u1 := E1.cell 1
  simp only [List.getElem?_toArray, List.getElem?_cons_zero, List.getElem?_cons_succ] at u0 u1
  go_wp2_with fail
  (with_reducible refine cr.mono ?_)
  clear cr
  rintro e w2 ⟨v2, L2, rfl, own2, hi2, hm2, b2⟩
  obtain rfl := aw_reach hi2 hm2
  obtain ⟨A2, c2, rfl, _, _, r2, _⟩ := owi_rd own2
  obtain ⟨g2, o2, y2, e2, hg2, hy2, hc2⟩ := ils_get r2 (k := 0) (by decide)
  simp at hy2
  subst hy2
  subst e2
  have B2 := via b2 B1
  have E2 := E1.next b2
  have cd2 := cd1.next b2 b2.size
  clear u0 u1
  have u0 := E2.cell 0
  have u1 := E2.cell 1
  simp only [List.getElem?_toArray, List.getElem?_cons_zero, List.getElem?_cons_succ] at u0 u1
  have cn := next_c _ _ 3 3 1 1 _ _ 2 w2 cd2 aw_sm
  simp only [cdv] at cn
  clear own2 r2 hi2 hm2 E1 I1 J1 cd1 B1
  go_wp2_with fail
  (with_reducible refine cn.mono ?_)
  clear cn
  rintro e w3 ⟨v3, rfl, own3, b3⟩
  rw [show nextN ([ix0 16, ix0 1, ix0 5].map inOf) ([wx0].map wtOf) 2 = [0, 3] from aw_next2] at own3
  obtain ⟨A3, c3, rfl, _, _, r3, _⟩ := owi_rd own3
  obtain ⟨g3, o3, y3, e3, hg3, hy3, hc3⟩ := ils_get r3 (k := 1) (by decide)
  simp at hy3
  subst hy3
  subst e3
  have B3 := via b3 B2
  have E3 := E2.next b3
  have cd3 := cd2.next b3 b3.size
  have hc2' : w3.cell? ⟨g2, o2 + 0, none⟩ = some (.int .i64 0) := (b3.cell hg2).trans hc2
  rw [Nat.add_zero] at hc2'
  clear u0 u1 hc2 own3 r3 E2 cd2 B2
  have u0 := E3.cell 0
  have u1 := E3.cell 1
  simp only [List.getElem?_toArray, List.getElem?_cons_zero, List.getElem?_cons_succ] at u0 u1
  have ci := idle_c _ _ 3 3 1 1 _ _ w3 cd3 aw_sm
  simp only [cdv] at ci
  go_wp2_with fail
  (with_reducible refine ci.mono ?_)
  clear ci
  rintro e w4 ⟨v4, L4, rfl, own4, hid4, b4⟩
  obtain rfl := aw_idle hid4
  obtain ⟨A4, c4, rfl, _, _, r4, _⟩ := owi_rd own4
  have B4 := via b4 B3
  go_wp2_with fail
  go_ret
  exact ⟨rfl, B4⟩
end FloW
end Go.Proofs.Ytdgonjncoggfeaa
