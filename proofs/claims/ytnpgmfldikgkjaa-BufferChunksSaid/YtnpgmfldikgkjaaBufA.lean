/- The walk of awake. Conditions: texts that fit, numbers of 64 bits. -/
import Derived.Test.YtnpgmfldikgkjaaBufU
import Derived.Test.YtnpgmfldikgkjaaBufV
import Derived.Deep.RegionHeld3
namespace Go.Proofs.Ytnpgmfldikgkjaa
open Go.RowKit
namespace BufW
def aw0 : Sd := { zero with a := true, re := ⟨#[97, 98, 99]⟩, bu := ⟨#[120, 121]⟩ }
def aw1 : Sd := { zero with a := true, re := ⟨#[99]⟩, bu := ⟨#[120, 121, 97, 98]⟩ }
def aw2 : Sd := { zero with a := true, b := true }
theorem field_bu (x0 x1 x2 x3 x4 x5 x6 x7 x8 x9 x10 : Value) (W : World) : Sem.run Try.prog (Instr.field 32 (.agg #[x0, x1, x2, x3, x4, x5, x6, x7, x8, x9, x10]) 10) W = .ok x10 W := by kernel_rfl
attribute [local go_sem] field_bu
set_option maxHeartbeats 400000 in
theorem awake_c (w : World) : Calls Try.prog 15 #[] w fun e w' => e = .returned (.bool true) ∧ Below w.heap.size w w' := by
  have hm : mostI aw0.re aw0.bu 4 = 2 := by decide
  have ht : take aw0 2 = aw1 := by
    have h1 : aw0.bu ++ aw0.re.extract 0 2 = aw1.bu := by apply bytes_ext; decide
    have h2 : aw0.re.extract 2 aw0.re.size = aw1.re := by apply bytes_ext; decide
    show Sd.mk _ _ _ _ _ _ _ _ _ _ _ _ _ _ _ = _
    rw [show (2 : Int).toNat = 2 from rfl, h1, h2]; rfl
  have hd : dropS aw1.bu 3 = ⟨#[98]⟩ := by apply bytes_ext; rw [dropS_list]; decide
  have c1 := fun W => take_yes aw0 W 2 4 ⟨by decide, by decide, by decide⟩ (by omega) (by omega) (by omega) (by rw [hm]; omega)
  have c2 := fun W => most_c aw0 W 4 ⟨by decide, by decide, by decide⟩ (by omega) (by omega)
  have c3 := fun W => full_c aw1 W 4
  have c4 := fun W => drop_c aw1 W 3 ⟨by decide, by decide, by decide⟩
  have c5 := fun W => over_c aw2 W
  rw [ht] at c1
  rw [hm] at c2
  rw [hd] at c4
  rw [show decide ((4 : Int) ≤ aw1.bu.size) = true from by decide] at c3
  rw [show overB aw2.a aw2.b aw2.c aw2.fl aw2.re = true from by simp [overB, aw2, zero, Lib.toList_data]] at c5
  have e1 : (aw1.bu.toList == [120, 121, 97, 98]) = true := by simp [aw1, zero, Lib.toList_data]
  have e2 : (aw1.re.toList == [99]) = true := by simp [aw1, zero, Lib.toList_data]
  clear hm ht hd
  go_enter Try.func15, Try.ntmps15
  go_wp2_with fail
  refine (c1 _).mono ?_
  rintro e w1 ⟨rfl, hb⟩
  have hB := via (a := w) hb (by go_grown)
  have B1 := (Blk.new _ _ _).next hb
  have k1 := B1.cell
  have z1 := B1.lt
  clear hb
  go_wp2_with fail
  refine (c2 _).mono ?_
  rintro e w2 ⟨rfl, hb⟩
  have hB2 := via (a := w) hb (by go_grown)
  replace B1 := (B1.alloc _).next hb
  have B2 := (Blk.new _ _ _).next hb
  clear k1 z1 hb hB
  have k1 := B1.cell
  have z1 := B1.lt
  have k2 := B2.cell
  have z2 := B2.lt
  go_wp2_with fail
  refine (c3 _).mono ?_
  rintro e w3 ⟨rfl, hb⟩
  have hB3 := via (a := w) hb (by go_grown)
  replace B1 := B1.next hb
  replace B2 := B2.next hb
  clear k1 k2 z1 z2 hb hB2
  have k1 := B1.cell
  have z1 := B1.lt
  have k2 := B2.cell
  have z2 := B2.lt
  go_wp2_with fail
  refine (c4 _).mono ?_
  rintro e w4 ⟨rfl, hb⟩
  have hB4 := via (a := w) hb (by go_grown)
  clear k1 k2 z1 z2 hb hB3 B1 B2
  go_wp2_with fail
  refine (c5 _).mono ?_
  rintro e w5 ⟨rfl, hb⟩
  have hB5 := via (a := w) hb (by go_grown)
  go_wp2_with fail
  go_ret
  exact ⟨rfl, hB5⟩
/-- What Take comes to, here and in the reference. -/
theorem take_both (s : Sd) (n m : Int) (hs : s.Fits) (m0 : -9223372036854775808 ≤ m) (m1 : m ≤ 9223372036854775807) :
    ∃ (r : Sd) (q : Int), (r.la = s.la ∧ r.ln = s.ln ∧ r.ga = s.ga ∧ r.gn = s.gn ∨ r = zero) ∧
      (∀ W, Calls Try.prog 17 #[s.v, .int .i64 n, .int .i64 m] W fun e w' => e = .returned (.tuple #[r.v, .int .i64 q]) ∧ Below W.heap.size W w') ∧
      (∀ W, Calls Try.prog 19 #[s.v, .int .i64 n, .int .i64 m] W fun e w' => e = .returned (.tuple #[r.v, .int .i64 q]) ∧ Below W.heap.size W w') := by
  by_cases h : n < 1 ∨ mostI s.re s.bu m < n
  · exact ⟨zero, 5, .inr rfl, fun W => take_no s W n m hs m0 m1 h, fun W => rtake_no s W n m hs m0 m1 h⟩
  · exact ⟨take s n, 0, .inl ⟨rfl, rfl, rfl, rfl⟩, fun W => take_yes s W n m hs m0 m1 (by omega) (by omega), fun W => rtake_yes s W n m hs m0 m1 (by omega) (by omega)⟩
theorem lists_of (s r : Sd) (w : World) (ls : List ByteArray) (gs : List Int) (hl : Lists s w ls gs) (hq : r.la = s.la ∧ r.ln = s.ln ∧ r.ga = s.ga ∧ r.gn = s.gn ∨ r = zero) :
    ∃ ls2 gs2, ∀ W, Below w.heap.size w W → Lists r W ls2 gs2 := by
  rcases hq with ⟨h1, h2, h3, h4⟩ | rfl
  · refine ⟨ls, gs, fun W hb => ?_⟩
    obtain ⟨a1, a2, a3, a4⟩ := hl.keep hb
    exact ⟨by rw [h1, h2]; exact a1, by rw [h3, h4]; exact a2, by rw [h2]; exact a3, by rw [h4]; exact a4⟩
  · exact ⟨[], [], fun W _ => ⟨Rd.nil, Rd.nil, by decide, by decide⟩⟩
end BufW
end Go.Proofs.Ytnpgmfldikgkjaa
