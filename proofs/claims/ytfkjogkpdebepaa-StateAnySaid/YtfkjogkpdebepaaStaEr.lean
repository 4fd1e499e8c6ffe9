/- What a text is decoded to; a refusal tells why. Plain law. No condition. -/
import Derived.Test.YtfkjogkpdebepaaStaQ
namespace Go.Proofs.Ytfkjogkpdebepaa
open Go.RowKit
namespace StaAn
open StaP StaL StaW StaG StaV StaN StaX StaD StaZ StaQ
/-! A refusal tells why. -/
def Errs {α : Type} (p : Pr α) : Prop := ∀ l er, p l = .error er → er.2 ≠ 0
theorem e_digs : ∀ (l : Bs) (k n : Nat) (er : Er), digs k n l = .error er → er.2 ≠ 0 := by
  intro l
  induction l with
  | nil => intro k n er h; rw [digs_nil] at h; injection h with h; rw [← h]; decide
  | cons b r ih =>
    intro k n er h
    rw [digs_cons] at h
    split at h
    · injection h with h; rw [← h]; show (1 : Nat) ≠ 0; decide
    · split at h
      · cases h
      · exact ih _ _ _ h
theorem e_num : Errs numP := by
  intro l er h
  cases l with
  | nil => rw [numP] at h; injection h with h; rw [← h]; decide
  | cons c r =>
    rw [numP] at h
    split at h
    · injection h with h; rw [← h]; show (1 : Nat) ≠ 0; decide
    · split at h
      · next e hd => injection h with h; rw [← h]; exact e_digs _ _ _ _ hd
      · cases h
theorem e_many (lo hi : Int) : Errs (manyP lo hi) := by
  intro l er h
  rw [manyP] at h
  split at h
  · next e hd => injection h with h; rw [← h]; exact e_num _ _ hd
  · split at h
    · injection h with h; rw [← h]; show (1 : Nat) ≠ 0; decide
    · split at h
      · injection h with h; rw [← h]; show (2 : Nat) ≠ 0; decide
      · cases h
theorem e_text : Errs textP := by
  intro l er h
  rw [textP] at h
  split at h
  · next e hd => injection h with h; rw [← h]; exact e_many _ _ _ _ hd
  · split at h
    · injection h with h; rw [← h]; show (1 : Nat) ≠ 0; decide
    · cases h
theorem e_pair {α β : Type} {p : Pr α} {q : Pr β} (hp : Errs p) (hq : Errs q) : Errs (pairP p q) := by
  intro l er h
  rw [pairP] at h
  split at h
  · next e hd => injection h with h; rw [← h]; exact hp _ _ hd
  · split at h
    · next e hd => injection h with h; rw [← h]; exact hq _ _ hd
    · cases h
theorem e_rep {α : Type} {p : Pr α} (hp : Errs p) : ∀ n, Errs (repP p n) := by
  intro n
  induction n with
  | zero => intro l er h; cases h
  | succ n ih =>
    intro l er h
    rw [repP_succ] at h
    split at h
    · next e hd => injection h with h; rw [← h]; exact hp _ _ hd
    · split at h
      · next e hd => injection h with h; rw [← h]; exact ih _ _ hd
      · cases h
theorem e_list {α : Type} {p : Pr α} (hp : Errs p) : Errs (listP p) := by
  intro l er h
  rw [listP] at h
  split at h
  · next e hd => injection h with h; rw [← h]; exact e_many _ _ _ _ hd
  · exact e_rep hp _ _ _ h
theorem e_age : ∀ (n : Nat) (out : List Int), Errs (ageP n out) := by
  intro n
  induction n with
  | zero => intro out l er h; cases h
  | succ n ih =>
    intro out l er h
    rw [ageP_succ] at h
    split at h
    · next e hd => injection h with h; rw [← h]; exact e_many _ _ _ _ hd
    · split at h
      · next e hd => injection h with h; rw [← h]; exact e_num _ _ hd
      · split at h
        · injection h with h; rw [← h]; show (1 : Nat) ≠ 0; decide
        · exact ih _ _ _ h
theorem e_ages : Errs agesP := by
  intro l er h
  rw [agesP] at h
  split at h
  · next e hd => injection h with h; rw [← h]; exact e_many _ _ _ _ hd
  · exact e_age _ _ _ _ h
theorem e_flag : Errs flagP := by
  intro l er h
  cases l with
  | nil => rw [flagP] at h; injection h with h; rw [← h]; decide
  | cons c r =>
    rw [flagP] at h
    split at h
    · injection h with h; rw [← h]; show (1 : Nat) ≠ 0; decide
    · cases h
theorem e_side : Errs sideP := e_pair e_flag (e_pair e_num (e_pair e_num (e_pair e_text (e_pair (e_list e_text) (e_pair e_text (e_pair e_ages (e_pair e_text e_text)))))))
theorem e_node : Errs nodeP := e_pair e_num (e_pair e_num (e_pair e_num (e_pair e_num (e_pair e_num (e_pair e_num (e_pair e_num (e_pair (e_list (e_pair e_text e_text)) (e_pair (e_rep e_text 10) (e_pair (e_list e_num) (e_pair (e_list e_num) (e_pair (e_list e_num) (e_list e_side))))))))))))
theorem e_dec {l : Bs} {er : Er} (h : decP l = .error er) : er.2 ≠ 0 := by
  rw [decP] at h
  split at h
  · next e hd => injection h with h; rw [← h]; exact e_node _ _ hd
  · cases h
  · injection h with h; rw [← h]; show (1 : Nat) ≠ 0; decide
/-! What a text is decoded to: the node, the place, the error. -/
def mz : MNd := (0, 0, 0, 0, 0, 0, 0, [], [[], [], [], [], [], [], [], [], [], []], [], [], [], [])
def resM (s : ByteArray) : MNd := match decP s.data.toList with
  | .ok m => m
  | .error _ => mz
def resP (s : ByteArray) : Nat := match decP s.data.toList with
  | .ok _ => 0
  | .error er => s.size - er.1.length
def resK (s : ByteArray) : Nat := match decP s.data.toList with
  | .ok _ => 0
  | .error er => er.2
theorem i64_0 : I64 0 := ⟨by omega, by omega⟩
theorem mz_ok : OkN mz := by
  refine ⟨i64_0, i64_0, i64_0, i64_0, i64_0, i64_0, i64_0, ⟨by decide, fun b h => by cases h⟩, ⟨rfl, fun b h => ?_⟩, ⟨by decide, fun b h => by cases h⟩, ⟨by decide, fun b h => by cases h⟩, ⟨by decide, fun b h => by cases h⟩, ⟨by decide, fun b h => by cases h⟩⟩
  have : b = [] := by simp only [mz, List.mem_cons, List.not_mem_nil, or_false, or_self] at h; exact h
  rw [this]; decide
theorem mz_rd (w : World) : NdR w w.heap.size znode mz := by
  refine ⟨none, 0, none, 0, none, 0, none, 0, none, 0, [], ?_, mz_ok, Rd.nil, Rd.nil, Rd.nil, Rd.nil, Rd.nil, ⟨rfl, fun _ _ _ h => by cases h⟩⟩
  simp only [ndArr, mz]
  rw [cut10]
  rfl
/-- What either Decode answers. -/
def RPost (s : ByteArray) (w : World) (e : Ending) (w' : World) : Prop := ∃ cs, e = .returned (.tuple #[.agg cs, .int .i64 (resP s : Nat), .int .i64 (resK s : Nat)]) ∧ NdR w' w'.heap.size cs (resM s) ∧ Below w.heap.size w w'
theorem res_of {s : ByteArray} {w w' : World} {e : Ending} (h : DPost s w e w') : RPost s w e w' := by
  obtain ⟨hb, ⟨cs, m, hd, rfl, hn⟩ | ⟨i, k, hd, hi, rfl⟩⟩ := h
  · refine ⟨cs, ?_, ?_, hb⟩
    · simp only [resP, resK, hd]; rfl
    · simp only [resM, hd]; exact nd_rd hn (dec_back hd).2
  · refine ⟨znode, ?_, ?_, hb⟩
    · simp only [resP, resK, hd]
      rw [show s.size - (s.data.toList.drop i).length = i by rw [List.length_drop, ← Lib.size_eq]; omega]
    · simp only [resM, hd]; exact mz_rd _
theorem res_back {s : ByteArray} (h : resK s = 0) : s.data.toList = nodeB (resM s) ∧ OkN (resM s) := by
  unfold resK at h
  unfold resM
  cases hd : decP s.data.toList with
  | error er => rw [hd] at h; exact absurd h (e_dec hd)
  | ok m => exact dec_back hd
end StaAn
end Go.Proofs.Ytfkjogkpdebepaa
