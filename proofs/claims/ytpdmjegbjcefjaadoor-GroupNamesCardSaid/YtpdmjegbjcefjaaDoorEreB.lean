/- Sets of bytes as numbers, bit by bit and word by word. No program. No condition. -/
import Derived.Test.YtpdmjegbjcefjaaDoorEreP
import Derived.Laws.BitsAllLaws
namespace Go.Proofs.YtpdmjegbjcefjaaDoor
open Go.RowKit
namespace EreP
theorem one_bit (c k : Nat) : (oneS c).testBit k = decide (c = k) := by
  unfold oneS; rw [Nat.one_shiftLeft, Nat.testBit_two_pow]
theorem from_succ (low c : Nat) : fromS low (c + 1) = if low ≤ c then fromS low c ||| oneS c else fromS low c := by
  unfold fromS; rw [List.range_succ, List.foldl_append]; rfl
theorem from_le (low : Nat) : ∀ c, c ≤ low → fromS low c = 0 := by
  intro c
  induction c with
  | zero => intro _; rfl
  | succ c ih => intro h; rw [from_succ, if_neg (by omega), ih (by omega)]
theorem from_bit (low k : Nat) : ∀ c, (fromS low c).testBit k = (decide (low ≤ k) && decide (k < c)) := by
  intro c
  induction c with
  | zero => show (0 : Nat).testBit k = _; simp
  | succ c ih =>
    rw [from_succ]
    split
    · rw [Nat.testBit_or, ih, one_bit, Bool.eq_iff_iff]; simp; omega
    · rw [ih, Bool.eq_iff_iff]; simp; omega
theorem range_bit (low high k : Nat) : (rangeS low high).testBit k = (decide (low ≤ k) && decide (k ≤ high)) := by
  unfold rangeS; rw [from_bit, Bool.eq_iff_iff]; simp; omega
theorem all_bit (k : Nat) : allS.testBit k = decide (k < 256) := by
  unfold allS; rw [Nat.testBit_two_pow_sub_one]
theorem not_bit (s k : Nat) : (notS s).testBit k = (decide (k < 256) != s.testBit k) := by
  unfold notS; rw [Nat.testBit_xor, all_bit]
theorem word_bit (s j i : Nat) : (word s j).testBit i = (decide (i < 64) && s.testBit (64 * j + i)) := by
  unfold word
  rw [show (18446744073709551616 : Nat) = 2 ^ 64 from rfl, Nat.testBit_mod_two_pow, Nat.testBit_shiftRight]
theorem word_lt (s j : Nat) : word s j < 18446744073709551616 := Nat.mod_lt _ (by decide)
theorem word_or (s t j : Nat) : word (s ||| t) j = word s j ||| word t j := by
  apply Nat.eq_of_testBit_eq; intro i
  rw [Nat.testBit_or, word_bit, word_bit, word_bit, Nat.testBit_or]
  cases decide (i < 64) <;> simp
theorem word_one (c j : Nat) : word (oneS c) j = if c / 64 = j then 1 <<< (c % 64) else 0 := by
  apply Nat.eq_of_testBit_eq; intro i
  rw [word_bit, one_bit]
  split
  · rw [Nat.one_shiftLeft, Nat.testBit_two_pow, Bool.eq_iff_iff]; simp; omega
  · rw [Nat.zero_testBit, Bool.eq_false_iff]; simp; try omega
theorem word_not (s j : Nat) (h : j < 4) : word (notS s) j = 18446744073709551615 - word s j := by
  apply Nat.eq_of_testBit_eq; intro i
  have hw := word_lt s j
  rw [word_bit, not_bit, show 18446744073709551615 - word s j = 2 ^ 64 - (word s j + 1) by omega, Nat.testBit_two_pow_sub_succ (by omega), word_bit, Bool.eq_iff_iff]
  by_cases hi : i < 64
  · have : 64 * j + i < 256 := by omega
    simp [hi, this]
  · simp [hi]
/-- Sets are the same just if their words are. -/
theorem set_ext {s t : Nat} (hs : s < 2 ^ 256) (ht : t < 2 ^ 256) (h : ∀ j, j < 4 → word s j = word t j) : s = t := by
  apply Nat.eq_of_testBit_eq; intro i
  by_cases hi : i < 256
  · have h1 := congrArg (fun n => n.testBit (i % 64)) (h (i / 64) (by omega))
    simp only [word_bit] at h1
    rw [show 64 * (i / 64) + i % 64 = i by omega] at h1
    have : i % 64 < 64 := Nat.mod_lt _ (by decide)
    simpa [this] using h1
  · rw [Nat.testBit_lt_two_pow (Nat.lt_of_lt_of_le hs (Nat.pow_le_pow_right (by decide) (by omega))), Nat.testBit_lt_two_pow (Nat.lt_of_lt_of_le ht (Nat.pow_le_pow_right (by decide) (by omega)))]
theorem bits_lt {s : Nat} (h : ∀ i, 256 ≤ i → s.testBit i = false) : s < 2 ^ 256 := Nat.lt_pow_two_of_testBit s h
theorem one_lt {c : Nat} (h : c < 256) : oneS c < 2 ^ 256 := bits_lt (fun i hi => by rw [one_bit]; simp; omega)
theorem range_lt {a b : Nat} (h : b < 256) : rangeS a b < 2 ^ 256 := bits_lt (fun i hi => by rw [range_bit]; simp; omega)
theorem all_lt : allS < 2 ^ 256 := bits_lt (fun i hi => by rw [all_bit]; simp; omega)
theorem bit_out {s i : Nat} (hs : s < 2 ^ 256) (hi : 256 ≤ i) : s.testBit i = false := Nat.testBit_lt_two_pow (Nat.lt_of_lt_of_le hs (Nat.pow_le_pow_right (by decide) hi))
theorem not_lt {s : Nat} (hs : s < 2 ^ 256) : notS s < 2 ^ 256 := bits_lt (fun i hi => by rw [not_bit, bit_out hs hi]; simp; omega)
theorem or_lt {s t : Nat} (hs : s < 2 ^ 256) (ht : t < 2 ^ 256) : s ||| t < 2 ^ 256 := Nat.or_lt_two_pow hs ht
theorem w64 {x i : Nat} (h : x < 18446744073709551616) (hi : 64 ≤ i) : x.testBit i = false :=
  Nat.testBit_lt_two_pow (Nat.lt_of_lt_of_le (show x < 2 ^ 64 from h) (Nat.pow_le_pow_right (by decide) hi))
/-- Four words as a set. -/
def ofWords (a b c d : Nat) : Nat := a ||| b <<< 64 ||| c <<< 128 ||| d <<< 192
theorem of_words (a b c d : Nat) (ha : a < 18446744073709551616) (hb : b < 18446744073709551616) (hc : c < 18446744073709551616) (hd : d < 18446744073709551616) :
    ofWords a b c d < 2 ^ 256 ∧ word (ofWords a b c d) 0 = a ∧ word (ofWords a b c d) 1 = b ∧ word (ofWords a b c d) 2 = c ∧ word (ofWords a b c d) 3 = d := by
  have ta : ∀ i, 64 ≤ i → a.testBit i = false := fun i hi => w64 ha hi
  have tb : ∀ i, 64 ≤ i → b.testBit i = false := fun i hi => w64 hb hi
  have tc : ∀ i, 64 ≤ i → c.testBit i = false := fun i hi => w64 hc hi
  have td : ∀ i, 64 ≤ i → d.testBit i = false := fun i hi => w64 hd hi
  have tw : ∀ i, (ofWords a b c d).testBit i = (a.testBit i || (decide (64 ≤ i) && b.testBit (i - 64)) || (decide (128 ≤ i) && c.testBit (i - 128)) || (decide (192 ≤ i) && d.testBit (i - 192))) := by
    intro i; unfold ofWords; simp only [Nat.testBit_or, Nat.testBit_shiftLeft]
  refine ⟨bits_lt (fun i hi => by rw [tw, ta i (by omega), tb _ (by omega), tc _ (by omega), td _ (by omega)]; simp), ?_, ?_, ?_, ?_⟩
  all_goals
    apply Nat.eq_of_testBit_eq; intro i
    rw [word_bit, tw]
    by_cases hi : i < 64
  · simp [hi, show ¬ 64 ≤ i by omega, show ¬ 128 ≤ i by omega, show ¬ 192 ≤ i by omega]
  · rw [ta i (by omega)]; simp [hi]
  · rw [ta _ (by omega), show 64 * 1 + i - 64 = i by omega]; simp [hi, show ¬ 128 ≤ 64 + i by omega, show ¬ 192 ≤ 64 + i by omega]
  · rw [tb i (by omega)]; simp [hi]
  · rw [ta _ (by omega), tb _ (by omega), show 64 * 2 + i - 128 = i by omega]; simp [hi, show ¬ 192 ≤ 128 + i by omega]
  · rw [tc i (by omega)]; simp [hi]
  · rw [ta _ (by omega), tb _ (by omega), tc _ (by omega), show 64 * 3 + i - 192 = i by omega]; simp [hi]
  · rw [td i (by omega)]; simp [hi]
end EreP
end Go.Proofs.YtpdmjegbjcefjaaDoor
