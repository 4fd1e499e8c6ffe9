/- Plain facts on 64-bit numbers (xor bit by bit, the mixing function and its inverse): no program. No condition. -/
import Derived.Laws.Bits64
import Derived.Laws.BitsAllLaws
import Derived.Lib.Strings
import Derived.RowKit
import Derived.IntWalk
namespace Go.Proofs.Ytcmpgiahjbopnaa.HashP
def M : Nat := 18446744073709551616
theorem mod_succ (z k : Nat) : z % 2 ^ (k + 1) = z % 2 ^ k + 2 ^ k * (z / 2 ^ k % 2) := by
  rw [Nat.pow_succ, Nat.mod_mul]
theorem bit_xor (x y k : Nat) : (x ^^^ y) / 2 ^ k % 2 = if x / 2 ^ k % 2 = y / 2 ^ k % 2 then 0 else 1 := by
  have h := Nat.testBit_xor x y k
  rw [Nat.testBit_eq_decide_div_mod_eq, Nat.testBit_eq_decide_div_mod_eq, Nat.testBit_eq_decide_div_mod_eq] at h
  have h0 : (x ^^^ y) / 2 ^ k % 2 < 2 := Nat.mod_lt _ (by omega)
  have h1 : x / 2 ^ k % 2 < 2 := Nat.mod_lt _ (by omega)
  have h2 : y / 2 ^ k % 2 < 2 := Nat.mod_lt _ (by omega)
  by_cases a : x / 2 ^ k % 2 = 1 <;> by_cases b : y / 2 ^ k % 2 = 1 <;> simp [a, b] at h ⊢ <;> (try split) <;> omega
theorem xor_step (x y k : Nat) (h : x / 2 ^ k % 2 = y / 2 ^ k % 2) : (x ^^^ y) % 2 ^ (k + 1) = (x ^^^ y) % 2 ^ k := by
  rw [mod_succ, bit_xor, if_pos h]; omega
theorem xor_step' (x y k : Nat) (h : x / 2 ^ k % 2 ≠ y / 2 ^ k % 2) : (x ^^^ y) % 2 ^ (k + 1) = (x ^^^ y) % 2 ^ k + 2 ^ k := by
  rw [mod_succ, bit_xor, if_neg h]; omega
/-- One step of the mixing function. -/
def st (x : Nat) : Nat := (x ^^^ x / 4294967296) * 15485907386658061715 % M
def fin (x : Nat) : Nat := x ^^^ x / 4294967296
def mix (x : Nat) : Nat := fin (st (st x))
theorem st_lt (x : Nat) : st x < M := Nat.mod_lt _ (by decide)
theorem fin_lt (x : Nat) (h : x < M) : fin x < M :=
  Nat.xor_lt_two_pow (n := 64) h (Nat.lt_of_le_of_lt (Nat.div_le_self _ _) h)
theorem mix_lt (x : Nat) : mix x < M := fin_lt _ (st_lt _)
theorem fin_inv (x : Nat) (h : x < M) : fin (fin x) = x := by
  unfold fin
  have hd : (x ^^^ x / 4294967296) / 4294967296 = x / 4294967296 := by
    have e : (4294967296 : Nat) = 2 ^ 32 := by decide
    rw [e, ← Nat.shiftRight_eq_div_pow, ← Nat.shiftRight_eq_div_pow, Nat.shiftRight_xor_distrib, ← Nat.shiftRight_add]
    have : x >>> (32 + 32) = 0 := by rw [Nat.shiftRight_eq_div_pow]; exact Nat.div_eq_of_lt h
    rw [this, Nat.xor_zero]
  rw [hd, Nat.xor_assoc, Nat.xor_self, Nat.xor_zero]
theorem mul_inj (x y : Nat) (hx : x < M) (hy : y < M) (h : x * 15485907386658061715 % M = y * 15485907386658061715 % M) : x = y := by
  have e : ∀ z, z < M → z * 15485907386658061715 % M * 14982988110149298331 % M = z := by
    intro z hz
    rw [Nat.mod_mul_mod, Nat.mul_assoc]
    have hc : 15485907386658061715 * 14982988110149298331 = M * (15485907386658061715 * 14982988110149298331 / M) + 1 := by decide
    rw [hc, Nat.mul_add, Nat.mul_one, ← Nat.mul_assoc, Nat.mul_comm z M, Nat.mul_assoc, Nat.mul_add_mod]
    exact Nat.mod_eq_of_lt hz
  rw [← e x hx, ← e y hy, h]
theorem st_inj (x y : Nat) (hx : x < M) (hy : y < M) (h : st x = st y) : x = y := by
  have := mul_inj (fin x) (fin y) (fin_lt _ hx) (fin_lt _ hy) h
  rw [← fin_inv x hx, ← fin_inv y hy, this]
theorem mix_inj (x y : Nat) (hx : x < M) (hy : y < M) (h : mix x = mix y) : x = y := by
  apply st_inj x y hx hy
  apply st_inj _ _ (st_lt _) (st_lt _)
  rw [← fin_inv _ (st_lt (st x)), ← fin_inv _ (st_lt (st y))]
  exact congrArg fin h
theorem bits_fin (x : Nat) (h : x < M) : bits .xor .u64 (x : Int) ((x : Int) / 4294967296) = ((fin x : Nat) : Int) := xorShift_u64 x 4294967296 h
theorem bits_st (x : Nat) (h : x < M) : IntKind.u64.wrap (bits .xor .u64 (x : Int) ((x : Int) / 4294967296) * 15485907386658061715) = ((st x : Nat) : Int) := mixStep_u64 x 4294967296 15485907386658061715 h
/-- The number of up to eight bytes, the first the least. -/
def num : List UInt8 → Nat
  | [] => 0
  | b :: l => b.toNat + 256 * num l
theorem num_lt (l : List UInt8) : num l < 256 ^ l.length := by
  induction l with
  | nil => simp [num]
  | cons b l ih => have := b.toNat_lt; simp only [num, List.length_cons, Nat.pow_succ]; omega
theorem num_lt8 (l : List UInt8) (h : l.length ≤ 8) : num l < M :=
  Nat.lt_of_lt_of_le (num_lt l) (Nat.le_trans (Nat.pow_le_pow_right (by omega) h) (by decide))
theorem num_snoc (l : List UInt8) (b : UInt8) : num (l ++ [b]) = num l + 256 ^ l.length * b.toNat := by
  induction l with
  | nil => simp [num]
  | cons c l ih => simp only [List.cons_append, num, ih, List.length_cons, Nat.pow_succ, Nat.mul_add]; rw [← Nat.mul_assoc, Nat.mul_comm 256 (256 ^ l.length)]; omega
/-- All chunks of eight bytes mixed in. -/
def chunks : Nat → List UInt8 → Nat → Nat
  | 0, _, h => h
  | n + 1, l, h => if l = [] then h else chunks n (l.drop 8) (mix (h ^^^ num (l.take 8)))
theorem chunks_lt (n : Nat) (l : List UInt8) (h : Nat) (hh : h < M) : chunks n l h < M := by
  induction n generalizing l h with
  | zero => exact hh
  | succ n ih => simp only [chunks]; split; exact hh; exact ih _ _ (mix_lt _)
def of (l : List UInt8) (seed : Nat) : Nat := mix (chunks l.length l (mix seed) ^^^ l.length)
theorem chunks_enough (n m : Nat) (l : List UInt8) (h : Nat) (hn : l.length ≤ n) (hm : l.length ≤ m) : chunks n l h = chunks m l h := by
  induction n generalizing m l h with
  | zero =>
    have : l = [] := List.eq_nil_of_length_eq_zero (by omega)
    subst this
    cases m <;> simp [chunks]
  | succ n ih =>
    cases m with
    | zero =>
      have : l = [] := List.eq_nil_of_length_eq_zero (by omega)
      subst this; simp [chunks]
    | succ m =>
      simp only [chunks]
      split
      · rfl
      · rename_i hl
        have : 0 < l.length := List.length_pos_iff.2 hl
        exact ih _ _ _ (by simp; omega) (by simp; omega)
theorem chunks_step (n : Nat) (l : List UInt8) (h : Nat) (hl : l ≠ []) (hn : l.length ≤ n) : chunks n l h = chunks n (l.drop 8) (mix (h ^^^ num (l.take 8))) := by
  have : 0 < l.length := List.length_pos_iff.2 hl
  cases n with
  | zero => omega
  | succ n =>
    rw [chunks, if_neg hl]
    exact chunks_enough _ _ _ _ (by simp; omega) (by simp; omega)
theorem xor_lt (a b : Nat) (ha : a < M) (hb : b < M) : a ^^^ b < M := Nat.xor_lt_two_pow (n := 64) ha hb
theorem of_lt (l : List UInt8) (seed : Nat) : of l seed < M := mix_lt _
theorem bit_tests (x y k : Nat) : ((((x : Int) / 2 ^ k).tmod 2 != ((y : Int) / 2 ^ k).tmod 2) = true → x / 2 ^ k % 2 ≠ y / 2 ^ k % 2) ∧
    ((((x : Int) / 2 ^ k).tmod 2 != ((y : Int) / 2 ^ k).tmod 2) = false → x / 2 ^ k % 2 = y / 2 ^ k % 2) := by
  have e : ∀ z : Nat, ((z : Int) / 2 ^ k).tmod 2 = ((z / 2 ^ k % 2 : Nat) : Int) := fun z => by
    have : ((z : Int) / 2 ^ k) = ((z / 2 ^ k : Nat) : Int) := by simp
    rw [this]; rfl
  rw [e, e]
  constructor
  · intro h hc; rw [hc] at h; simp at h
  · intro h; exact Int.ofNat_inj.1 (by simpa using h)
theorem xor_next (x y k : Nat) (hk : k < 64) : (x / 2 ^ k % 2 ≠ y / 2 ^ k % 2 → IntKind.u64.wrap (((x ^^^ y : Nat) : Int) % 2 ^ k + IntKind.u64.wrap (2 ^ k)) = (((x ^^^ y) % 2 ^ (k + 1) : Nat) : Int)) ∧
    (x / 2 ^ k % 2 = y / 2 ^ k % 2 → (((x ^^^ y) % 2 ^ k : Nat) : Int) = (((x ^^^ y) % 2 ^ (k + 1) : Nat) : Int)) := by
  constructor
  · intro h
    rw [xor_step' x y k h]
    have hp : 2 ^ k ≤ 2 ^ 63 := Nat.pow_le_pow_right (by omega) (by omega)
    have hm : (x ^^^ y) % 2 ^ k < 2 ^ k := Nat.mod_lt _ (Nat.pow_pos (by omega))
    have e1 : ((2 : Int) ^ k) = ((2 ^ k : Nat) : Int) := by simp
    have e2 : (((x ^^^ y : Nat) : Int) % 2 ^ k) = (((x ^^^ y) % 2 ^ k : Nat) : Int) := by simp
    rw [e2, e1]
    generalize 2 ^ k = q at *
    generalize (x ^^^ y) % q = r at *
    rw [IntWalk.u64_in q (by omega), IntWalk.u64_in _ (by omega)]
    simp
  · intro h; rw [xor_step x y k h]
def stN : Nat → Nat → Nat
  | 0, x => x
  | n + 1, x => st (stN n x)
theorem stN_lt (n x : Nat) (h : x < M) : stN n x < M := by
  cases n with
  | zero => exact h
  | succ n => exact st_lt _
theorem wrap_st (z : Nat) : IntKind.u64.wrap (((fin z : Nat) : Int) * 15485907386658061715) = ((st z : Nat) : Int) := by
  rw [IntKind.wrap_u64]; unfold st fin M; omega
/-- The byte at a place as it is read from the front of what is left. -/
theorem num_back (l : List UInt8) (i j : Nat) (hj : j < 8) (b : UInt8) (hb : l[i + j]? = some b) :
    num ((l.drop (i + (j + 1))).take (8 - (j + 1))) * 256 + b.toNat = num ((l.drop (i + j)).take (8 - j)) := by
  have hd : l.drop (i + j) = b :: l.drop (i + (j + 1)) := by
    have hlt : i + j < l.length := by
      rcases Nat.lt_or_ge (i + j) l.length with h | h
      · exact h
      · rw [List.getElem?_eq_none h] at hb; cases hb
    rw [List.drop_eq_getElem_cons hlt]
    rw [List.getElem?_eq_getElem hlt] at hb
    cases hb; rfl
  rw [hd]
  have : 8 - j = (8 - (j + 1)) + 1 := by omega
  rw [this, List.take_succ_cons, num]
  omega
theorem num_gone (l : List UInt8) (i j : Nat) (h : l.length ≤ i + j) : num ((l.drop (i + (j + 1))).take (8 - (j + 1))) = 0 ∧ num ((l.drop (i + j)).take (8 - j)) = 0 := by
  rw [List.drop_eq_nil_of_le (by omega), List.drop_eq_nil_of_le h]; simp [num]
theorem num_lt7 (l : List UInt8) (n : Nat) (h : n ≤ 7) : num (l.take n) < 72057594037927936 :=
  Nat.lt_of_lt_of_le (num_lt _) (Nat.le_trans (Nat.pow_le_pow_right (by omega) (Nat.le_trans (List.length_take_le _ _) h)) (by decide))
theorem back_eq (l : List UInt8) (i j : Nat) (hj : j < 8) (b : UInt8) (hb : l[i + j]? = some b) :
    IntKind.u64.wrap (IntKind.u64.wrap ((num ((l.drop (i + (j + 1))).take (7 - j)) : Int) * 256) + IntKind.u64.wrap b.toNat) = (num ((l.drop (i + j)).take (8 - j)) : Int) := by
  have h := num_back l i j hj b hb
  have e : 8 - (j + 1) = 7 - j := by omega
  rw [e] at h
  have h7 := num_lt7 (l.drop (i + (j + 1))) (7 - j) (by omega)
  have hb := b.toNat_lt
  rw [← h, IntWalk.u64_in b.toNat (by omega), IntWalk.u64_in (_ * 256) (by omega), IntWalk.u64_in _ (by omega)]
  omega
theorem gone_eq (l : List UInt8) (i j : Nat) (h : l.length ≤ i + j) :
    IntKind.u64.wrap ((num ((l.drop (i + (j + 1))).take (7 - j)) : Int) * 256) = (num ((l.drop (i + j)).take (8 - j)) : Int) := by
  have := num_gone l i j h
  have e : 8 - (j + 1) = 7 - j := by omega
  rw [e] at this
  rw [this.1, this.2]; decide
theorem at_list (s : ByteArray) (k : Nat) (h : k < s.size) : s.data.toList[k]? = some s[k] := by
  rw [List.getElem?_eq_getElem (by simpa using h)]; rfl
/-- The bytes from the front. -/
theorem front (l : List UInt8) (k : Nat) (b : UInt8) (hb : l[k]? = some b) : num (l.take k) + 256 ^ k * b.toNat = num (l.take (k + 1)) := by
  have hlt : k < l.length := by
    rcases Nat.lt_or_ge k l.length with h | h
    · exact h
    · rw [List.getElem?_eq_none h] at hb; cases hb
  rw [List.take_add_one, hb, Option.toList_some, num_snoc, List.length_take, Nat.min_eq_left (by omega)]
theorem front_eq (l : List UInt8) (k : Nat) (hk : k < 8) (b : UInt8) (hb : l[k]? = some b) :
    bits .or .u64 (num (l.take k) : Int) (IntKind.u64.wrap (IntKind.u64.wrap b.toNat * 2 ^ (8 * k))) = (num (l.take (k + 1)) : Int) := by
  have hf := front l k b hb
  have h8 := num_lt8 (l.take (k + 1)) (Nat.le_trans (List.length_take_le _ _) (by omega))
  have hb8 := b.toNat_lt
  have hp : 256 ^ k = 2 ^ (8 * k) := by rw [Nat.pow_mul]
  have hn : num (l.take k) < 2 ^ (8 * k) := by
    rw [← hp]; exact Nat.lt_of_lt_of_le (num_lt _) (Nat.pow_le_pow_right (by omega) (List.length_take_le _ _))
  rw [hp] at hf
  have e1 : ((2 : Int) ^ (8 * k)) = ((2 ^ (8 * k) : Nat) : Int) := by simp
  rw [IntWalk.u64_in b.toNat (by omega), e1]
  have hw : 2 ^ (8 * k) * b.toNat < M := by omega
  have e2 : (b.toNat : Int) * ((2 ^ (8 * k) : Nat) : Int) = ((2 ^ (8 * k) * b.toNat : Nat) : Int) := by rw [← Int.natCast_mul, Nat.mul_comm]
  unfold M at *
  rw [e2, IntWalk.u64_in _ (by omega), u64_or_nat _ _ (by omega) hw, Nat.or_comm, ← Nat.two_pow_add_eq_or_of_lt hn, ← hf, Nat.add_comm]
theorem bit1 (x k : Nat) (h : x < M) : bits .and .u64 ((x : Int) / 2 ^ k) 1 = ((x / 2 ^ k % 2 : Nat) : Int) := by
  have e : ((x : Int) / 2 ^ k) = ((x / 2 ^ k : Nat) : Int) := by simp
  have := u64_and_nat (x / 2 ^ k) 1 (Nat.lt_of_le_of_lt (Nat.div_le_self _ _) h) (by decide)
  rw [e]
  rw [Nat.and_one_is_mod] at this
  exact this
theorem bit_and (x y k : Nat) : (x &&& y) / 2 ^ k % 2 = 1 ↔ (x / 2 ^ k % 2 = 1 ∧ y / 2 ^ k % 2 = 1) := by
  have h := Nat.testBit_and x y k
  rw [Nat.testBit_eq_decide_div_mod_eq, Nat.testBit_eq_decide_div_mod_eq, Nat.testBit_eq_decide_div_mod_eq] at h
  rw [Bool.eq_iff_iff] at h
  simpa using h
theorem mask_yes (x y k : Nat) (hx : x < M) (hy : y < M) (h : y / 2 ^ k % 2 = 1) : bits .and .u64 ((y : Int) / 2 ^ k) 1 = 1 ∧
    (!(bits .and .u64 (((x &&& y : Nat) : Int) / 2 ^ k) 1 == 1) == (bits .and .u64 ((x : Int) / 2 ^ k) 1 == 1)) = false := by
  have ha : x &&& y < M := Nat.lt_of_le_of_lt Nat.and_le_left hx
  rw [bit1 y k hy, bit1 _ k ha, bit1 x k hx, h]
  refine ⟨rfl, ?_⟩
  have := bit_and x y k
  by_cases a : x / 2 ^ k % 2 = 1
  · rw [this.2 ⟨a, h⟩, a]; rfl
  · have b : ¬ (x &&& y) / 2 ^ k % 2 = 1 := fun e => a (this.1 e).1
    have b0 : (x &&& y) / 2 ^ k % 2 = 0 := by omega
    have a0 : x / 2 ^ k % 2 = 0 := by omega
    rw [b0, a0]; rfl
theorem mask_no (x y k : Nat) (hx : x < M) (hy : y < M) (h : ¬ y / 2 ^ k % 2 = 1) : (¬ bits .and .u64 ((y : Int) / 2 ^ k) 1 = 1) ∧
    (bits .and .u64 (((x &&& y : Nat) : Int) / 2 ^ k) 1 == 1) = false := by
  have ha : x &&& y < M := Nat.lt_of_le_of_lt Nat.and_le_left hx
  rw [bit1 y k hy, bit1 _ k ha]
  have b : ¬ (x &&& y) / 2 ^ k % 2 = 1 := fun e => h ((bit_and x y k).1 e).2
  have b0 : (x &&& y) / 2 ^ k % 2 = 0 := by omega
  rw [b0]
  exact ⟨by omega, rfl⟩
end Go.Proofs.Ytcmpgiahjbopnaa.HashP
