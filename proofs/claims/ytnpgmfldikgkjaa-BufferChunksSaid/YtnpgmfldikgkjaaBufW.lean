/- The walks of package buffer and of its reference. Conditions: texts that fit, numbers of 64 bits. -/
import Derived.Test.YtnpgmfldikgkjaaMem
namespace Go.Proofs.Ytnpgmfldikgkjaa
open Go.RowKit
/-- A side: what its cells hold. -/
structure Sd where
  (a b c : Bool) (p k : Int) (ty : ByteArray) (la : Option Addr) (ln lc : Nat) (fl : ByteArray) (ga : Option Addr) (gn gc : Nat) (re bu : ByteArray)
abbrev Sd.v (s : Sd) : Value :=
  .agg #[.bool s.a, .bool s.b, .bool s.c, .int .i64 s.p, .int .i64 s.k, .string s.ty, .slice s.la s.ln s.lc, .string s.fl, .slice s.ga s.gn s.gc, .string s.re, .string s.bu]
attribute [go_sem] Sd.v
/-- Its texts fit. -/
structure Sd.Fits (s : Sd) : Prop where
  (fl : s.fl.size ≤ 4611686018427387904) (re : s.re.size ≤ 4611686018427387904) (bu : s.bu.size ≤ 4611686018427387904)
namespace BufW
section
variable (s : Sd) (w : World)
/-- How many bytes may be taken. -/
def mostI (re bu : ByteArray) (m : Int) : Int := if m ≤ bu.size then 0 else min (re.size : Int) (m - bu.size)
set_option maxHeartbeats 400000 in
theorem most_c (m : Int) (hs : s.Fits) (m0 : -9223372036854775808 ≤ m) (m1 : m ≤ 9223372036854775807) :
    Calls Try.prog 23 #[s.v, .int .i64 m] w fun e w' => e = .returned (.int .i64 (mostI s.re s.bu m)) ∧ Below w.heap.size w w' := by
  obtain ⟨h0, h1, h2⟩ := hs
  go_enter Try.func23, Try.ntmps23
  go_wp2
  all_goals
    go_ret
    refine ⟨ret_i64 ?_, by go_grown⟩
    simp [mostI]; omega
set_option maxHeartbeats 400000 in
theorem full_c (m : Int) :
    Calls Try.prog 25 #[s.v, .int .i64 m] w fun e w' => e = .returned (.bool (decide (m ≤ s.bu.size))) ∧ Below w.heap.size w w' := by
  go_enter Try.func25, Try.ntmps25
  go_wp2
  go_ret
  exact ⟨ret_bool rfl, by go_grown⟩
def overB (a b c : Bool) (fl re : ByteArray) : Bool := a && b && fl.toList.isEmpty && re.toList.isEmpty && !c
set_option maxHeartbeats 400000 in
theorem over_c :
    Calls Try.prog 24 #[s.v] w fun e w' => e = .returned (.bool (overB s.a s.b s.c s.fl s.re)) ∧ Below w.heap.size w w' := by
  obtain ⟨a, b, c, p, k, ty, la, ln, lc, fl, ga, gn, gc, re, bu⟩ := s
  cases a <;> cases b <;> cases hf : fl.toList.isEmpty <;> cases hr : re.toList.isEmpty
  all_goals
    go_enter Try.func24, Try.ntmps24
    go_wp2
    go_ret
    exact ⟨ret_bool (by simp [overB, hf, hr]), by go_grown⟩
set_option maxHeartbeats 400000 in
theorem rover_c :
    Calls Try.prog 21 #[s.v] w fun e w' => e = .returned (.bool (overB s.a s.b s.c s.fl s.re)) ∧ Below w.heap.size w w' := by
  obtain ⟨a, b, c, p, k, ty, la, ln, lc, fl, ga, gn, gc, re, bu⟩ := s
  cases a <;> cases b <;> cases hf : fl.toList.isEmpty <;> cases hr : re.toList.isEmpty
  all_goals
    go_enter Try.func21, Try.ntmps21
    go_wp2
    go_ret
    exact ⟨ret_bool (by simp [overB, hf, hr]), by go_grown⟩
def dropS (bu : ByteArray) (n : Int) : ByteArray := bu.extract n.toNat bu.size
theorem dropS_list (bu : ByteArray) (n : Int) : (dropS bu n).data.toList = bu.data.toList.drop n.toNat := Lib.extract_to_end _ _
theorem dropS_step (x : ByteArray) (m : Int) (h : 0 < m) : dropS (x.extract 1 x.size) (m - 1) = dropS x m := by
  apply bytes_ext
  rw [dropS_list, dropS_list, Lib.extract_to_end, List.drop_drop]
  congr 1; omega
theorem dropS_empty (m : Int) : dropS ByteArray.empty m = ByteArray.empty := by
  apply bytes_ext; rw [dropS_list]; simp
theorem dropS_neg (bu : ByteArray) (n : Int) (h : n ≤ 0) : bu = dropS bu n := by
  apply bytes_ext; rw [dropS_list, show n.toNat = 0 from by omega]; rfl
theorem dropS_all (bu : ByteArray) (n : Int) (h : (bu.size : Int) ≤ n) : ByteArray.empty = dropS bu n := by
  apply bytes_ext; rw [dropS_list, List.drop_eq_nil_of_le (by rw [← Lib.size_eq]; omega)]; rfl
theorem ret_bu (s : Sd) {x y : ByteArray} (h : x = y) : Ending.returned { s with bu := x }.v = .returned { s with bu := y }.v := by rw [h]
set_option maxHeartbeats 400000 in
theorem drop_c (n : Int) (hs : s.Fits) :
    Calls Try.prog 26 #[s.v, .int .i64 n] w fun e w' => e = .returned { s with bu := dropS s.bu n }.v ∧ Below w.heap.size w w' := by
  obtain ⟨h0, h1, h2⟩ := hs
  by_cases hn : n < 0
  · go_enter Try.func26, Try.ntmps26
    go_wp2
    go_returns
    exact ⟨ret_bu s (dropS_neg _ _ (by omega)), by go_grown⟩
  · obtain ⟨m, rfl⟩ := Int.eq_ofNat_of_zero_le (Int.not_lt.1 hn)
    by_cases hm : s.bu.size < m
    · go_enter Try.func26, Try.ntmps26
      go_wp2
      go_returns
      exact ⟨ret_bu s (dropS_all _ _ (by omega)), by go_grown⟩
    · go_enter Try.func26, Try.ntmps26
      go_wp2
      go_returns
      exact ⟨rfl, by go_grown⟩
set_option maxHeartbeats 400000 in
theorem rdrop_c (n : Int) (n0 : -9223372036854775808 ≤ n) (n1 : n ≤ 9223372036854775807) :
    Calls Try.prog 27 #[s.v, .int .i64 n] w fun e w' => e = .returned { s with bu := dropS s.bu n }.v ∧ Below w.heap.size w w' := by
  go_enter Try.func27, Try.ntmps27
  go_wp2
  go_loopw [1] (fun v wr => ∃ (m : Int) (x : ByteArray), v = .int .i64 m ∧ -9223372036854775808 ≤ m ∧ m ≤ 9223372036854775807 ∧ Hid (dropS x m = dropS s.bu n) ∧
    wr = (w.alloc (Obj.cells #[.bool s.a, .bool s.b, .bool s.c, .int .i64 s.p, .int .i64 s.k, .string s.ty, .slice s.la s.ln s.lc, .string s.fl, .slice s.ga s.gn s.gc, .string s.re, .string x] 32)).alloc
      (Obj.cells #[.bool false, .bool false, .bool false, .int .i64 0, .int .i64 0, .string { data := #[] }, .slice none 0 0, .string { data := #[] }, .slice none 0 0, .string { data := #[] }, .string { data := #[] }] 32)) (fun v _ => (intOf v).toNat)
  case atStart => exact ⟨n, s.bu, rfl, n0, n1, rfl, rfl⟩
  case round =>
    obtain ⟨m, x, rfl, m0, m1, HX, rfl⟩ := hrel
    by_cases hm : 0 < m
    · cases hx : x.toList.isEmpty
      · have h1 := one_le hx
        go_wp2
        go_roundw
        case rel => exact ⟨m - 1, _, rfl, by omega, by omega, (dropS_step x m hm).trans HX.out, rfl⟩
        case measure => simp [intOf]; omega
      · go_wp2
        go_returns
        have hx' : x = dropS s.bu n := by rw [← HX.out, empty_eq hx, dropS_empty]
        exact ⟨ret_bu s hx', by go_grown⟩
    · go_wp2
      go_returns
      exact ⟨ret_bu s ((dropS_neg x m (by omega)).trans HX.out), by go_grown⟩
end
end BufW
end Go.Proofs.Ytnpgmfldikgkjaa
