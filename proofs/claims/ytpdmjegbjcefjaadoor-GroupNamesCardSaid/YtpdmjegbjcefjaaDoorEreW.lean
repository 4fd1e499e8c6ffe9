/- The walks of the expression reader's small methods. Conditions: texts that fit. -/
import Derived.Test.YtpdmjegbjcefjaaDoorEreQ
import Derived.Test.YtpdmjegbjcefjaaDoorShelf
namespace Go.Proofs.YtpdmjegbjcefjaaDoor
open Go.RowKit
namespace EreW
open EreP
abbrev On (R : Nat) : Nat → Prop := fun k => k = R
abbrev pt (R : Nat) : Value := .pointer (some ⟨R, 0, none⟩)
/-- What is left. -/
abbrev rest (s : ByteArray) (i : Nat) : Bs := s.data.toList.drop i
theorem rest_cons (s : ByteArray) (i : Nat) (h : i < s.size) : rest s i = (s[i]'h) :: rest s (i + 1) := by
  unfold rest; rw [List.drop_eq_getElem_cons (by simpa using h)]; rfl
theorem rest_nil (s : ByteArray) (i : Nat) (h : s.size ≤ i) : rest s i = [] := List.drop_eq_nil_of_le (by rw [← Lib.size_eq]; exact h)
theorem rest_len (s : ByteArray) (i : Nat) : (rest s i).length = s.size - i := by unfold rest; rw [List.length_drop, ← Lib.size_eq]
theorem rest_inj {s : ByteArray} {i : Nat} {r : Bs} {k : Nat} (h : rest s i = r) (hk : r.length = s.size - k) (hi : i ≤ s.size) (hks : k ≤ s.size) : i = k := by
  have := rest_len s i; rw [h] at this; omega
def failS (k e : Nat) : Nat := if e = 0 then k else e
def peekB (any : Bs) (l : Bs) (e : Nat) : Bool := e == 0 && (match l with | [] => false | c :: _ => any.contains c)
theorem idx_any (any : Bs) (c : UInt8) : decide ((0 : Int) ≤ Lib.indexByte any c) = any.contains c := by
  rw [Bool.eq_iff_iff, decide_eq_true_eq, List.contains_iff_mem]
  have hge := Lib.indexByte_ge any c
  constructor
  · intro h
    obtain ⟨o, ho⟩ : ∃ o : Nat, Lib.indexByte any c = o := ⟨(Lib.indexByte any c).toNat, by omega⟩
    exact List.mem_of_getElem? (Lib.indexByte_some ho).1
  · intro h
    rcases (by omega : Lib.indexByte any c < 0 ∨ 0 ≤ Lib.indexByte any c) with h1 | h1
    · obtain ⟨k, hk, hc⟩ := List.getElem_of_mem h
      exact absurd (by rw [List.getElem?_eq_getElem hk, hc]) (Lib.indexByte_none (show Lib.indexByte any c = -1 by omega) k)
    · exact h1
theorem back (c : UInt8) : (c.toNat : Int).toNat.toUInt8 = c := by simp
theorem idx_c (c : UInt8) (w : World) (s : ByteArray) : Calls Tryd.prog 93 #[.string s, .int .u8 c.toNat] w fun e w' => e = .returned (.int .i64 (Lib.indexByte s.data.toList c)) ∧ w = w' := by
  have h := Tryd.strings_IndexByte s c.toNat w
  rw [back] at h
  exact h.mono fun _ _ ⟨he, hw⟩ => ⟨he, hw.symm⟩
theorem quiet_w {P : Program} {f : FuncId} {args : Array Value} {w : World} {n : Nat} {v : Value} (h : ∀ m, Calls P f args (w.drewN m) fun e w' => e = .returned v ∧ w.drewN m = w') :
    Calls P f args (w.drewN n) fun e w'' => e = .returned v ∧ ∃ m, w'' = w.drewN m := (h _).mono fun _ _ ⟨he, hm⟩ => ⟨he, n, hm.symm⟩
/-- Is the next byte one of some? -/
def PeekPost (b : Bool) (w : World) (x : Ending) (w' : World) : Prop := x = .returned (.bool b) ∧ ∃ m, w' = w.drewN m
end EreW
end Go.Proofs.YtpdmjegbjcefjaaDoor
