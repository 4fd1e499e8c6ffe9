/- The walk of the laws' awake on stores. Conditions: none. -/
import Derived.Test.YtcmpgiahjbopnaaStoG
import Derived.Test.YtcmpgiahjbopnaaStoE
namespace Go.Proofs.Ytcmpgiahjbopnaa
set_option linter.unusedVariables false
set_option linter.unusedSimpArgs false
open Go.RowKit
namespace StoW
open StoP
theorem add_at {R g : Nat} {most size : Int} {seed mask : Nat} {T : Value} {X X' : List ByteArray} {sl : List Nat} {key : ByteArray} {w : World} {i er : Int} {f : Bool} (h : St w R most size seed mask T g X sl) (hA : addS X most key = (i, f, er, X'))
    (hsd : seed < 18446744073709551616) (hmk : mask < 18446744073709551616) (hk : key.size ≤ 4611686018427387904) (hXl : X.length ≤ 4000) (hkl : ∀ x ∈ X, x.size ≤ 4611686018427387904) :
    Calls Try.prog 7 #[.pointer (some ⟨R, 0, none⟩), .string key] w fun e w' => e = .returned (.tuple #[.int .i64 i, .bool f, .int .i64 er]) ∧
      ∃ (T' : Value) (g' : Nat) (sl' : List Nat), St w' R most size seed mask T' g' X' sl' ∧ Tch (ow R g T) w w' ∧ ∀ k, ow R g' T' k → ow R g T k ∨ w.heap.size ≤ k := by
  refine (add_c grow_all R g most size seed mask T X sl key w h hsd hmk hk hXl hkl).mono ?_
  rintro e w' ⟨i', f', er', X2, T', g', sl', hA', rfl, hS, hT, hO⟩
  rw [hA] at hA'
  injection hA' with h1 h2
  injection h2 with h2 h3
  injection h3 with h3 h4
  subst h1 h2 h3 h4
  exact ⟨rfl, T', g', sl', hS, hT, hO⟩
set_option maxRecDepth 100000 in
set_option maxHeartbeats 4000000 in
theorem awake_c (w : World) : Calls Try.prog 5 #[] w fun e w' => e = .returned (.bool true) ∧ Below w.heap.size w w' := by
  have cn := new_c 9 0 0 0 w
  rw [show mostI 9 = 9 from by decide, show ((0 : Nat) : Int) = 0 from rfl] at cn
  have ha1 : addS [] 9 ⟨#[97]⟩ = (0, true, 0, [⟨#[97]⟩]) := by rfl
  have ha2 : addS [⟨#[97]⟩] 9 ⟨#[98]⟩ = (1, true, 0, [⟨#[97]⟩, ⟨#[98]⟩]) := by rfl
  have ha3 : addS [⟨#[97]⟩, ⟨#[98]⟩] 9 ⟨#[97]⟩ = (0, false, 0, [⟨#[97]⟩, ⟨#[98]⟩]) := by rfl
  have c1 := fun W R g T sl (h : St W R 9 0 0 0 T g [] sl) => add_at h ha1 (by decide) (by decide) (by decide) (by decide) (by simp)
  have c2 := fun W R g T sl (h : St W R 9 0 0 0 T g [⟨#[97]⟩] sl) => add_at h ha2 (by decide) (by decide) (by decide) (by decide) (by intro x hx; simp at hx; subst hx; decide)
  have c3 := fun W R g T sl (h : St W R 9 0 0 0 T g [⟨#[97]⟩, ⟨#[98]⟩] sl) => add_at h ha3 (by decide) (by decide) (by decide) (by decide) (by intro x hx; simp at hx; rcases hx with rfl | rfl <;> decide)
  have C1 := Lib.hid c1
  have C2 := Lib.hid c2
  have C3 := Lib.hid c3
  clear c1 c2 c3 ha1 ha2 ha3
  go_enter Try.func5, Try.ntmps5
  go_wp2_with fail
  (with_reducible refine cn.mono ?_)
  clear cn
  rintro e w1 ⟨R, g, m, rfl, hS, hB, hR, hg⟩
  have cc := C1.out _ _ _ _ _ hS
  have ho : ∀ k, ow R g (.slice none 0 0) k → w.heap.size ≤ k := by
    rintro k (h | h | h)
    · omega
    · omega
    · cases h
  have HO := Lib.hid ho
  clear C1 hS ho
  go_wp2_with fail
  (with_reducible refine cc.mono ?_)
  clear cc
  rintro e w2 ⟨rfl, T2, g2, sl2, hS2, ht, hf⟩
  have B2 := ht.below hB HO.out hB.size
  have HO2 : Hid (∀ k, ow R g2 T2 k → w.heap.size ≤ k) := Lib.hid (fun k hk => (hf k hk).elim (HO.out k) (fun h => Nat.le_trans hB.size h))
  clear HO hB ht hf hg
  have cc := C2.out _ _ _ _ _ hS2
  clear C2 hS2
  go_wp2_with fail
  (with_reducible refine cc.mono ?_)
  clear cc
  rintro e w3 ⟨rfl, T3, g3, sl3, hS3, ht, hf⟩
  have B3 := ht.below B2 HO2.out B2.size
  have HO3 : Hid (∀ k, ow R g3 T3 k → w.heap.size ≤ k) := Lib.hid (fun k hk => (hf k hk).elim (HO2.out k) (fun h => Nat.le_trans B2.size h))
  clear HO2 B2 ht hf
  have cc := C3.out _ _ _ _ _ hS3
  clear C3 hS3
  go_wp2_with fail
  (with_reducible refine cc.mono ?_)
  clear cc
  rintro e w4 ⟨rfl, T4, g4, sl4, hS4, ht, hf⟩
  have B4 := ht.below B3 HO3.out B3.size
  clear HO3 B3 ht hf
  obtain ⟨A, c, rfl, _, _, hX, _⟩ := ows_rd hS4.row
  have cg := get_yes R _ A c 1 [⟨#[97]⟩, ⟨#[98]⟩] ⟨#[98]⟩ w4 hS4.blk rfl hX rfl (by decide)
  have cl := len_c R _ A 2 c w4 hS4.blk rfl
  rw [show ((1 : Nat) : Int) = 1 from rfl] at cg
  rw [show ((2 : Nat) : Int) = 2 from rfl] at cl
  clear hS4 hX
  go_wp2_with fail
  (with_reducible refine cg.mono ?_)
  clear cg
  rintro e w5 ⟨rfl, rfl⟩
  go_wp2_with fail
  (with_reducible refine cl.mono ?_)
  rintro e w5 ⟨rfl, rfl⟩
  go_wp2_with fail
  go_ret
  exact ⟨rfl, B4⟩
end StoW
end Go.Proofs.Ytcmpgiahjbopnaa
