/- The text of one token of an expression is scanned as this token. No condition. -/
import Derived.Test.YtchceoclkdofhaaGreatDoorExpHM
import Derived.Test.YtchceoclkdofhaaGreatDoorExpBM
import Derived.Test.YtchceoclkdofhaaGreatDoorNumM
namespace Go.Proofs.YtchceoclkdofhaaGreatDoor
set_option linter.unusedVariables false
set_option linter.unusedSimpArgs false
open Go.RowKit
namespace ExpT
open QuoP CalP CalW ExpP ExpW
open NumP (pv formB)
theorem take_all {p : UInt8 → Bool} : ∀ {l : List UInt8}, (∀ b ∈ l, p b = true) → l.takeWhile p = l
  | [], _ => rfl
  | x :: l, h => by rw [List.takeWhile_cons, if_pos (h x (by simp)), take_all (fun b hb => h b (by simp [hb]))]
theorem run_all {p : UInt8 → Bool} {s : ByteArray} {i : Nat} (hi : i ≤ s.size) (h : ∀ b ∈ s.data.toList.drop i, p b = true) : runN p s i = s.size := by
  unfold runN
  rw [take_all h, List.length_drop, ← Lib.size_eq]; omega
theorem ext_all (s : ByteArray) : s.extract 0 s.size = s := by
  apply bytes_ext
  rw [ext_list, List.drop_zero, List.take_of_length_le (by rw [← Lib.size_eq]; omega)]
theorem name_with {l : Bs} (h : nameB l = true) : ∀ b ∈ l, withB b = true := by
  match l, h with
  | [c], h =>
    have h' : (letterB c || digB c) = true := h
    intro b hb
    rw [List.mem_singleton] at hb
    subst hb
    unfold withB; rw [h']; rfl
  | c :: d :: r, h =>
    simp only [nameB, Bool.and_eq_true] at h
    intro b hb
    rcases List.mem_cons.1 hb with rfl | hb
    · unfold withB; rw [h.1.1]; rfl
    rcases List.mem_cons.1 hb with rfl | hb
    · exact h.1.2.1
    · exact List.all_eq_true.1 h.1.2.2 b hb
/-- How a token's text begins. -/
def Beg (s : ByteArray) : Prop := ∃ c, s.data.toList[0]? = some c ∧ ¬ (c = 32 ∨ c = 9 ∨ c = 10) ∧ c ≠ 35
theorem sign_all : ∀ u ∈ signL, oneX (baS u) 0 = some (⟨4, baS u, 0⟩, (baS u).size) ∧ ∃ c, u[0]? = some c ∧ ¬ (c = 32 ∨ c = 9 ∨ c = 10) ∧ c ≠ 35 := by
  intro u hu
  simp only [signL, List.mem_cons, List.not_mem_nil, or_false] at hu
  rcases hu with rfl | rfl | rfl | rfl | rfl | rfl | rfl | rfl | rfl | rfl | rfl | rfl | rfl | rfl | rfl | rfl | rfl | rfl
  all_goals exact ⟨by kernel_rfl, _, rfl, by decide, by decide⟩
theorem one_txt {t : Tk} (h : OkT t) : oneX (txtS t) 0 = some (t, (txtS t).size) ∧ Beg (txtS t) ∧ 0 < (txtS t).size ∧ t.kind ≠ 3 := by
  obtain ⟨k, wd, n⟩ := t
  rcases h with ⟨h1, h2, h3, h4⟩ | ⟨h1, h2, u, hu, h3⟩ | ⟨h1, h2, h3, h4⟩
  · dsimp only at h1 h2 h3 h4
    subst h1 h2
    have ht : txtS ⟨2, noB, n⟩ = ⟨(Lib.itoa n).toArray⟩ := rfl
    rw [ht]
    obtain ⟨s, hs⟩ : ∃ s : ByteArray, ⟨(Lib.itoa n).toArray⟩ = s := ⟨_, rfl⟩
    have hl : s.data.toList = Lib.itoa n := by rw [← hs]
    rw [hs]
    have hd : ∀ b ∈ s.data.toList, digB b = true := by
      rw [hl, Lib.itoa, if_neg (by omega)]
      exact List.all_eq_true.1 (NumP.dec_all _)
    have hf := NumP.itoa_form n
    rw [← hl] at hf
    have hne : s.data.toList ≠ [] := by
      intro e; rw [e] at hf; revert hf; decide
    have hz : 0 < s.size := by
      rw [Lib.size_eq]; exact List.length_pos_iff.2 hne
    obtain ⟨c, r, hcr⟩ := List.exists_cons_of_ne_nil hne
    have hc : digB c = true := hd c (by rw [hcr]; simp)
    have hcb : 48 ≤ c.toNat ∧ c.toNat ≤ 57 := by unfold digB at hc; simpa using hc
    have h0 : s.data.toList[0]? = some c := by rw [hcr]; rfl
    have hlc : letterB c = false := by unfold letterB; simp; omega
    have hrun : runN digB s 0 = s.size := run_all (by omega) (by simpa using hd)
    refine ⟨?_, ⟨c, h0, ?_, ?_⟩, hz, by simp⟩
    · unfold oneX
      rw [h0]
      dsimp only
      rw [if_neg (by rw [hlc]; decide), if_pos hc, hrun, ext_all, if_pos ⟨hf, by rw [hl, NumP.itoa_pv]; exact ⟨by omega, h4⟩⟩, hl, NumP.itoa_pv]
    · rintro (rfl | rfl | rfl) <;> revert hcb <;> decide
    · rintro rfl; revert hcb; decide
  · dsimp only at h1 h2 h3
    subst h1 h2 h3
    obtain ⟨a, c, b1, b2, b3⟩ := sign_all u hu
    have hl := sig_len u hu
    refine ⟨a, ⟨c, b1, b2, b3⟩, ?_, by simp⟩
    show 0 < (baS u).size
    rw [Lib.size_eq]; simp [baS]; omega
  · dsimp only at h1 h2 h3 h4
    subst h1 h2
    obtain ⟨s, hs⟩ : ∃ s : ByteArray, txtS ⟨6, wd, 0⟩ = s := ⟨_, rfl⟩
    have hl : s.data.toList = 36 :: wd.data.toList := by rw [← hs]; rfl
    have hz : s.size = wd.size + 1 := by rw [Lib.size_eq, hl, List.length_cons, ← Lib.size_eq]
    rw [hs]
    have hrun : runN withB s 1 = s.size := run_all (by omega) (by rw [hl]; exact name_with h4)
    have hext : s.extract 1 s.size = wd := by
      apply bytes_ext
      rw [ext_list, List.take_of_length_le (by rw [← Lib.size_eq]; omega), hl]; rfl
    have h0 : s.data.toList[0]? = some 36 := by rw [hl]; rfl
    refine ⟨?_, ⟨36, h0, by decide, by decide⟩, by omega, by simp⟩
    unfold oneX
    rw [h0]
    dsimp only
    rw [if_neg (by decide), if_neg (by decide), if_neg (by decide), if_pos rfl, Nat.zero_add, hrun, hext, if_pos h4]
theorem txt_size {t : Tk} (h : OkT t) : (txtS t).size ≤ 1010 := by rw [Lib.size_eq]; exact txt_len h
end ExpT
end Go.Proofs.YtchceoclkdofhaaGreatDoor
