/- Encode: the walk. Conditions: a list that fits; the tables of strconv. -/
import Derived.Test.YtooinkhjoppijaaDoorTraD
import Derived.Test.YtooinkhjoppijaaDoorBldS
import Derived.Deep.DeepCutAuto
namespace Go.Proofs.YtooinkhjoppijaaDoor
set_option linter.unusedVariables false
set_option linter.unusedSimpArgs false
open Go.RowKit
namespace TraW
open TraP NumP NumW QuoB
theorem isb_below {B b : Nat} {l : Bs} {w w' : World} (h : IsB B b l w) (hb : Below w.heap.size w w') : IsB B b l w' := by
  have key : ∀ p, Lib.BuilderAtF BT 5 B b p (Lib.byteCells l) w → Lib.BuilderAtF BT 5 B b p (Lib.byteCells l) w' := by
    intro p h
    have hlt := h.lt
    obtain ⟨hB, v, hbk, hown, hne⟩ := h
    exact ⟨hB, v, (hb.block b hlt).trans hbk, hown.kept (row := none) ⟨hb.os, hb.tape, hb.output, hb.size, fun k hk _ => hb.block k hk⟩ (by cases hv : v.ownBlock <;> simp), hne⟩
  exact h.elim (fun x => .inl (key _ x)) (fun x => .inr (key _ x))
theorem lineL_len {c : Ch} (h : oneB c = true) : (lineL c).length ≤ 60 := by
  have key : ∀ n : Int, 0 ≤ n → n ≤ 64 → (Lib.itoa n).length ≤ 20 := by
    intro n h0 h1
    obtain ⟨q, rfl⟩ : ∃ q : Nat, n = q := ⟨n.toNat, by omega⟩
    rw [itoa_nat]; exact dec_small q (by omega)
  rcases one_cases h with rfl | rfl | rfl | ⟨p, n, rfl, a, b, d, e⟩ | ⟨p, rfl, a, b⟩ | ⟨p, n, rfl, a, b, d, e⟩
  · simp [lineL, wSc]
  · simp [lineL, wTi]
  · simp [lineL, wTo]
  · have := key p a (by omega)
    have := key n d (by omega)
    rw [show lineL (3, p, n) = wEd ++ 32 :: (Lib.itoa p ++ 32 :: Lib.itoa n) from rfl]; simp [wEd]; omega
  · have := key p a (by omega)
    rw [show lineL (4, p, 0) = wAr ++ 32 :: Lib.itoa p from rfl]; simp [wAr]; omega
  · have := key p a (by omega)
    have := key n d (by omega)
    by_cases h0 : n = 0
    · subst h0
      rw [show lineL (5, p, 0) = wEn ++ 32 :: Lib.itoa p from rfl]; simp [wEn]; omega
    · rw [show lineL (5, p, n) = wRe ++ 32 :: (Lib.itoa p ++ 32 :: Lib.itoa n) by unfold lineL; simp [h0]]; simp [wRe]; omega
theorem headL_len {k n : Int} (h : headB k n = true) : (headL k n).length ≤ 60 := by
  rcases head_cases h with ⟨rfl, rfl⟩ | ⟨rfl, rfl | rfl | rfl | rfl⟩ | ⟨rfl, h0, h1⟩
  · simp [headL, wWa]
  · simp [headL, wFa, nameF]
  · simp [headL, wFa, nameF]
  · simp [headL, wFa, nameF]
  · simp [headL, wFa, nameF]
  · obtain ⟨q, rfl⟩ : ∃ q : Nat, n = q := ⟨n.toNat, by omega⟩
    have := dec_small q (by omega)
    rw [show headL 2 q = wRu ++ 32 :: Lib.itoa q from rfl, itoa_nat]; simp [wRu]; omega
theorem lead_at {c : Ch} : ∀ {r : List Ch} {j : Nat} {d : Ch}, r[j]? = some d → j ≤ lead c r → (d = c ↔ j < lead c r) := by
  intro r
  induction r with
  | nil => intro j d h; cases h
  | cons x r ih =>
    intro j d h hj
    rw [lead] at hj ⊢
    by_cases hx : x = c
    · rw [if_pos hx] at hj ⊢
      cases j with
      | zero => simp at h; subst h; simp [hx]
      | succ j => rw [List.getElem?_cons_succ] at h; rw [ih h (by omega)]; omega
    · rw [if_neg hx] at hj ⊢
      obtain rfl : j = 0 := by omega
      simp at h; subst h; simp [hx]
theorem itoa_any (n : Int) (h0 : -9223372036854775808 ≤ n) (h1 : n ≤ 9223372036854775807) (w : World) (hw : Rdy w) : Calls Tryd.prog 19 #[.int .i64 n] w fun e w' => e = .returned (.string (ba (Lib.itoa n))) ∧ Below w.heap.size w w' := by
  refine (Tryd.strconv_Itoa n h0 h1 w hw.tab).mono ?_
  rintro e w' ⟨rfl, k, os, rfl⟩
  exact ⟨rfl, Go.Lib.below_grow _ _ (Nat.le_refl _) _ _⟩
def lenOf (v : Value) : Nat := match v with
  | .slice _ n _ => n
  | _ => 0
theorem lenOf_slice (A : Option Addr) (n c : Nat) : lenOf (.slice A n c) = n := rfl
theorem drop_cells : ∀ (l : List Ch) (k : Nat), ccs (l.drop k) = (ccs l).drop (k * 3)
  | [], k => by simp [ccs]
  | p :: l, 0 => by simp
  | p :: l, k + 1 => by
    rw [List.drop_succ_cons, drop_cells l k, ccs_cons, show (k + 1) * 3 = k * 3 + 1 + 1 + 1 by omega]; rfl
theorem Chs.drop {w : World} {B n k g o : Nat} {l : List Ch} (h : Chs w B (some ⟨g, o, none⟩) n l) (hk : k ≤ n) : Chs w B (some ⟨g, o + k * 3, none⟩) (n - k) (l.drop k) := by
  have hl := Chs.len h
  refine ⟨by rw [ccs_len, List.length_drop, hl], fun hn => ?_⟩
  obtain ⟨ad, e, hb, hc⟩ := h.2 (by omega)
  cases e
  refine ⟨_, rfl, hb, fun j u hu => ?_⟩
  rw [drop_cells, List.getElem?_drop] at hu
  have := hc _ u hu
  unfold Addr.add at this ⊢
  by_cases h0 : j = 0
  · subst h0
    by_cases h1 : k * 3 = 0
    · rw [if_pos rfl]; rw [h1] at this ⊢; simpa using this
    · rw [if_neg (by omega)] at this; rw [if_pos rfl]; simpa using this
  · rw [if_neg (by omega)] at this; rw [if_neg h0]; rw [← Nat.add_assoc] at this; exact this
/-- What is told of a trace. -/
def EncPost (t : Tr) (w : World) (e : Ending) (w' : World) : Prop :=
  e = .returned (.tuple #[.string (if mayB t = true then ba (encL t) else ByteArray.empty), .int .i64 (if mayB t = true then 0 else 5)]) ∧ Below w.heap.size w w'
theorem enc_ok {t : Tr} {w w' : World} {x : ByteArray} (h : mayB t = true) (hx : x = ba (encL t)) (hb : Below w.heap.size w w') : EncPost t w (.returned (.tuple #[.string x, .int .i64 0])) w' :=
  ⟨by rw [if_pos h, if_pos h, hx], hb⟩
set_option maxHeartbeats 6400000 in
set_option maxRecDepth 100000 in
theorem encode_c (k n : Int) (A : Option Addr) (m c : Nat) (l : List Ch) (w : World) (hr : Chs w w.heap.size A m l) (hm : m ≤ 9223372036854775807) (hmc : m ≤ c) (hw : Rdy w) :
    Calls Tryd.prog 7 #[trV k n A m c] w (EncPost (k, n, l) w) := by
  have hl := Chs.len hr
  have hbx : Below w.heap.size w (w.alloc (.cells #[.int .i64 k, .int .i64 n, .slice A m c] 24)) := by go_grown
  have cm := fun W (h : Below w.heap.size w W) => may_c k n A m c l W ((hr.below h).more h.size) hm
  simp only [trV] at cm ⊢
  obtain ⟨OK, hOK⟩ : ∃ b, mayB (k, n, l) = b := ⟨_, rfl⟩
  rw [hOK] at cm
  have HOK := Lib.hid hOK
  clear hOK
  have E0 := Blk.new w 24 #[.int .i64 k, .int .i64 n, .slice A m c]
  obtain ⟨w1, hw1⟩ : ∃ q, w.alloc (.cells #[.int .i64 k, .int .i64 n, .slice A m c] 24) = q := ⟨_, rfl⟩
  rw [hw1] at E0 hbx
  have hz1 : w1.heap.size = w.heap.size + 1 := by rw [← hw1]; simp
  have x0 := E0.cell 0
  have x1 := E0.cell 1
  have x2 := E0.cell 2
  simp only [List.getElem?_toArray, List.getElem?_cons_zero, List.getElem?_cons_succ] at x0 x1 x2
  cases OK
  · clear hr hl hz1 E0
    go_enter Tryd.func7, Tryd.ntmps7
    go_wp2_with fail
    try rw [hw1]
    clear hw1
    (with_reducible refine (cm _ hbx).mono ?_)
    rintro e w2 ⟨rfl, b2⟩
    have B2 := via b2 hbx
    go_wp2
    go_ret2
    exact ⟨by rw [HOK.out]; rfl, B2⟩
  obtain ⟨hh, hl4, hone⟩ := may_parts HOK.out
  simp only at hh hl4 hone
  have HONE := Lib.hid hone
  have cf := fun W => first_c k n A m c W hh
  have hhl := headL_len hh
  have HHL := Lib.hid hhl
  simp only [trV] at cf
  have hfz : (ba (headL k n)).size ≤ 60 := by rw [ba_size]; exact hhl
  have HHB := Lib.hid (ba_list (headL k n))
  obtain ⟨H0, hH0⟩ : ∃ x, ba (headL k n) = x := ⟨_, rfl⟩
  rw [hH0] at cf hfz HHB
  clear hH0 hh hone hhl
  rw [hl] at hl4
  have HL := Lib.hid hl
  clear hl
  have HW := Lib.hid hw
  clear hw
  go_enter Tryd.func7, Tryd.ntmps7
  go_wp2_with fail
  try rw [hw1]
  clear hw1
  (with_reducible refine (cm _ hbx).mono ?_)
  rintro e w2 ⟨rfl, b2⟩
  have E2 := E0.next b2
  have b12 := b2
  clear E0 x0 x1 x2 cm
  have E2a := E2.alloc (.cells #[.pointer none, .slice none 0 0] BT)
  have x0 := E2a.cell 0
  have x1 := E2a.cell 1
  have x2 := E2a.cell 2
  simp only [List.getElem?_toArray, List.getElem?_cons_zero, List.getElem?_cons_succ] at x0 x1 x2
  go_wp2_with fail
  obtain ⟨w3, hw3⟩ : ∃ z : World, w2.alloc (.cells #[.pointer none, .slice none 0 0] BT) = z := ⟨_, rfl⟩
  have bb : Blk w3 w2.heap.size BT #[.pointer none, .slice none 0 0] := by rw [← hw3]; exact Blk.new _ _ _
  have hI : IsB w1.heap.size w2.heap.size [] w3 := Or.inl ⟨b12.size, .slice none 0 0, bb, World.ownsRowF_nil _ _ _ _, by simp [Value.ownBlock]⟩
  have E3 : Blk w3 w.heap.size 24 #[.int .i64 k, .int .i64 n, .slice A m c] := by rw [← hw3]; exact E2.alloc _
  have B3 : Below w1.heap.size w1 w3 := by rw [← hw3]; exact b12.alloc b12.size _
  rw [hw3]
  clear hw3 E2 E2a x0 x1 x2 bb b12
  (with_reducible refine (cf _).mono ?_)
  rintro e w4 ⟨rfl, b4⟩
  have I4 := isb_below hI b4
  have E4 := E3.next b4
  have B4 := via b4 B3
  clear hI E3 B3 b4 cf
  have hbz2 : w2.heap.size = w2.heap.size := rfl
  have cw := fun (T : Bs) (s : ByteArray) (W : World) (h : IsB w1.heap.size w2.heap.size T W) (h1 : T.length + s.size ≤ 140737488355328) (h2 : w1.heap.size ≤ W.heap.size) => wstr_c w1.heap.size w2.heap.size T s W h h1 h2
  go_wp2_with fail
  have hsz0 : (H0 ++ ⟨#[10]⟩ : ByteArray).size = H0.size + 1 := by rw [Lib.size_eq, Lib.size_eq]; simp
  have cw4 := cw [] (H0 ++ ⟨#[10]⟩) w4 I4 (by rw [hsz0]; simp; omega) B4.size
  rw [List.nil_append] at cw4
  have hT0 : (H0 ++ ⟨#[10]⟩ : ByteArray).data.toList = headL k n ++ [10] := by simp [HHB.out]
  rw [hT0] at cw4
  clear hT0 hsz0
  (with_reducible refine cw4.mono ?_)
  rintro e w5 ⟨rfl, I5, W5⟩
  have B5 := B4.trans W5.below
  have E5 := E4.below W5.below (by omega)
  clear I4 E4 B4 W5 cw4
  have x0 := E5.cell 0
  have x1 := E5.cell 1
  have x2 := E5.cell 2
  simp only [List.getElem?_toArray, List.getElem?_cons_zero, List.getElem?_cons_succ] at x0 x1 x2
  go_wp2_with fail
  clear x0 x1 x2 E5
  go_loopw [5] (fun lv wr => ∃ (l' : List Ch) (A' : Option Addr) (M c' : Nat) (T : Bs), lv = .slice A' M c' ∧ Chs wr w.heap.size A' M l' ∧ M ≤ c' ∧ M ≤ m ∧ Hid (l'.all oneB = true) ∧ Hid (T ++ runsL l' = encL (k, n, l)) ∧ T.length + 5000 * M ≤ 20000100 ∧ IsB w1.heap.size w2.heap.size T wr ∧ Below w1.heap.size w1 wr) (fun lv _ => lenOf lv)
  case atStart => exact ⟨l, A, m, c, headL k n ++ [10], rfl, (hr.below (hbx.trans (B5.mono (by omega)))), hmc, Nat.le_refl _, HONE, Lib.hid (by unfold encL; simp), by rw [List.length_append]; have := HHL.out; simp; omega, I5, B5⟩
  case round =>
    clear I5 B5
    obtain ⟨l', A', M, c', T, rfl, hr', hMc, hMm, hone', HT, hTl, I6, B6⟩ := hrel
    obtain ⟨w6, rfl⟩ : ∃ x : World, x = wr := ⟨_, rfl⟩
    have hl' := Chs.len hr'
    cases M with
    | zero =>
      have hle : l' = [] := List.eq_nil_of_length_eq_zero hl'
      subst hle
      have hT := HT.out
      simp only [runsL, List.append_nil] at hT
      have HT2 := Lib.hid hT
      have cst := Tryd.Builder_String_any_f _ _ _ w6 I6 B6.size
      clear hT HT hr' hone' hl'
      go_wp2_with fail
      (with_reducible refine cst.mono ?_)
      rintro e w7 ⟨rfl, _, b7⟩
      go_wp2
      go_ret2
      exact enc_ok HOK.out (by rw [← HT2.out]; rfl) (hbx.trans ((B6.trans b7).mono (by omega)))
    | succ M =>
      cases l' with
      | nil => cases hl'
      | cons ch r =>
        obtain ⟨g, o, pp, rfl, hg, hp, y0, y1, y2⟩ := Chs.get hr' (k := 0) (by omega)
        obtain rfl : ch = pp := by simpa using hp
        simp only [Nat.zero_mul, Nat.add_zero] at y0 y1 y2
        have hoc : oneB ch = true := List.all_eq_true.1 hone'.out ch (List.mem_cons_self ..)
        have hrl : r.length = M := by simpa using hl'
        have HRL := Lib.hid hrl
        have hll := lead_le ch r
        clear hl' hp hrl
        have d0 : decide ((0 : Int) < (M : Int) + 1) = true := decide_eq_true (by omega)
        go_upto_block 2 with fail
        go_cut [6] (fun qv wx => qv = .int .i64 ((1 + lead ch r : Nat) : Int) ∧ Below w6.heap.size w6 wx)
        case first =>
          go_wp2_with fail
          go_loopw [6] (fun qv wz => ∃ q : Nat, qv = .int .i64 q ∧ 1 ≤ q ∧ q ≤ 1 + lead ch r ∧ Below w6.heap.size w6 wz) (fun qv _ => M + 1 - (intOf qv).toNat)
          case atStart => exact ⟨1, rfl, by omega, by omega, Below.refl _ _⟩
          case round =>
            obtain ⟨q, rfl, hq1, hq2, b7⟩ := hrel
            obtain ⟨w7, rfl⟩ : ∃ x : World, x = wr := ⟨_, rfl⟩
            have y0 := (b7.cell (p := ⟨g, o, none⟩) (World.block_lt_of_cell? w6 _ y0)).trans y0
            have y1 := (b7.cell (p := ⟨g, o + 1, none⟩) (World.block_lt_of_cell? w6 _ y1)).trans y1
            have y2 := (b7.cell (p := ⟨g, o + 2, none⟩) (World.block_lt_of_cell? w6 _ y2)).trans y2
            by_cases hqM : q < M + 1
            · have dq : decide ((q : Int) < (M : Int) + 1) = true := decide_eq_true (by omega)
              obtain ⟨g', o', p, e, _, hp, z0, z1, z2⟩ := Chs.get hr' (k := q) (by omega)
              cases e
              have hpr : r[q - 1]? = some p := by
                rw [show q = (q - 1) + 1 by omega, List.getElem?_cons_succ] at hp; exact hp
              have hlead := lead_at (c := ch) hpr (by omega)
              have HLD := Lib.hid hlead
              have z0 := (b7.cell (p := ⟨g, o + q * 3, none⟩) (World.block_lt_of_cell? w6 _ z0)).trans z0
              have z1 := (b7.cell (p := ⟨g, o + q * 3 + 1, none⟩) (World.block_lt_of_cell? w6 _ z1)).trans z1
              have z2 := (b7.cell (p := ⟨g, o + q * 3 + 2, none⟩) (World.block_lt_of_cell? w6 _ z2)).trans z2
              have qe := fun W => ch_eq p ch W
              obtain ⟨EQ, hEQ⟩ : ∃ b, decide (p = ch) = b := ⟨_, rfl⟩
              rw [hEQ] at qe
              have HEQ := Lib.hid hEQ
              clear hEQ hp hpr hlead
              go_wp2_with fail
              go_quiet (fail)
              have b8 := below_dn b7 nq
              cases EQ
              · have hqe : q = 1 + lead ch r := by
                  have := HEQ.out
                  rw [decide_eq_false_iff_not] at this
                  have h2 : ¬ q - 1 < lead ch r := fun h => this (HLD.out.2 h)
                  omega
                have HQE := Lib.hid hqe
                clear hqe
                go_wp2_with fail
                go_meet
                case rel => exact ⟨by rw [HQE.out], b8⟩
              · have hqe : q - 1 < lead ch r := HLD.out.1 (by simpa using HEQ.out)
                go_wp2_with fail
                go_roundw
                case rel => exact ⟨q + 1, by go_num, by omega, by omega, b8⟩
                case measure => simp [intOf]; omega
            · have dq : decide ((q : Int) < (M : Int) + 1) = false := decide_eq_false (by omega)
              have hqe : q = 1 + lead ch r := by have := HRL.out; omega
              have HQE := Lib.hid hqe
              clear hqe
              go_wp2_with fail
              go_quiet (fail)
              have b8 := below_dn b7 nq
              go_wp2_with fail
              go_meet
              case rel => exact ⟨by rw [HQE.out], b8⟩
        case rest =>
          obtain ⟨rfl, b7⟩ := hcut
          have I7 := isb_below I6 b7
          have B7 := B6.trans (b7.mono B6.size)
          have y0 := (b7.cell (p := ⟨g, o, none⟩) (World.block_lt_of_cell? w6 _ y0)).trans y0
          have y1 := (b7.cell (p := ⟨g, o + 1, none⟩) (World.block_lt_of_cell? w6 _ y1)).trans y1
          have y2 := (b7.cell (p := ⟨g, o + 2, none⟩) (World.block_lt_of_cell? w6 _ y2)).trans y2
          have hr7 : Chs wc w.heap.size (some ⟨g, o, none⟩) (M + 1) (ch :: r) := hr'.below (b7.mono (by have := hbx.size; have := B6.size; omega))
          have hrq := Chs.drop hr7 (k := 1 + lead ch r) (by have := HRL.out; omega)
          have hqM : 1 + lead ch r ≤ M + 1 := by have := HRL.out; omega
          have hsplit : T ++ (Lib.itoa ((1 + lead ch r : Nat) : Int) ++ 32 :: lineL ch ++ [10]) ++ runsL ((ch :: r).drop (1 + lead ch r)) = encL (k, n, l) := by
            rw [← HT.out, runs_lead, show 1 + lead ch r = lead ch r + 1 by omega, List.drop_succ_cons, seg]; simp
          have HSP := Lib.hid hsplit
          have hone2 : ((ch :: r).drop (1 + lead ch r)).all oneB = true := by
            have := hone'.out
            rw [List.all_eq_true] at this ⊢
            exact fun x hx => this x (List.mem_of_mem_drop hx)
          have HO2 := Lib.hid hone2
          have cl := fun W => line_c ch W hoc
          have hll2 := lineL_len hoc
          have hzl : (ba (lineL ch)).size ≤ 60 := by rw [ba_size]; exact hll2
          have HLB := Lib.hid (ba_list (lineL ch))
          clear hsplit hone2 hll2 hr' hr7 I6 B6 hoc
          generalize (ch :: r).drop (1 + lead ch r) = l2 at *
          obtain ⟨q, hq⟩ : ∃ q : Nat, 1 + lead ch r = q := ⟨_, rfl⟩
          have hq1 : 1 ≤ q := by omega
          rw [hq] at hrq hqM HSP ⊢
          clear hq hll
          have ci := fun W h => itoa_any (q : Int) (by omega) (by omega) W h
          have hzi : (ba (Lib.itoa (q : Int))).size ≤ 4100 := by rw [ba_size, itoa_nat]; have := dec_len q; omega
          have HIB := Lib.hid (ba_list (Lib.itoa (q : Int)))
          obtain ⟨LB, hLB⟩ : ∃ x, ba (lineL ch) = x := ⟨_, rfl⟩
          obtain ⟨IB, hIB⟩ : ∃ x, ba (Lib.itoa (q : Int)) = x := ⟨_, rfl⟩
          rw [hLB] at cl hzl HLB
          rw [hIB] at ci hzi HIB
          clear hLB hIB
          simp only [chV] at cl
          go_wp2_with fail
          (with_reducible refine (cl _).mono ?_)
          rintro e w8 ⟨rfl, b8⟩
          have I8 := isb_below I7 b8
          have B8 := via b8 B7
          have hr8 := hrq.below (b8.mono (by have := hbx.size; have := B7.size; omega))
          clear I7 B7 hrq b7 y0 y1 y2
          go_wp2_with fail
          (with_reducible refine (ci _ (HW.out.below (hbx.trans (B8.mono (by omega))))).mono ?_)
          rintro e w9 ⟨rfl, b9⟩
          have I9 := isb_below I8 b9
          have B9 := via b9 B8
          have hr9 := hr8.below (b9.mono (by have := hbx.size; have := B8.size; omega))
          clear I8 B8 hr8 b8 b9 ci cl
          have hS : (IB ++ ⟨#[32]⟩ ++ LB ++ ⟨#[10]⟩ : ByteArray).data.toList = Lib.itoa (q : Int) ++ 32 :: lineL ch ++ [10] := by simp [HIB.out, HLB.out]
          have hSz : (IB ++ ⟨#[32]⟩ ++ LB ++ ⟨#[10]⟩ : ByteArray).size ≤ 4200 := by
            have e1 := Lib.size_eq IB
            have e2 := Lib.size_eq LB
            rw [HIB.out] at e1
            rw [HLB.out] at e2
            rw [Lib.size_eq, hS]; simp; omega
          have cw9 := cw T (IB ++ ⟨#[32]⟩ ++ LB ++ ⟨#[10]⟩) w9 I9 (by omega) B9.size
          rw [hS] at cw9
          have HS2 := Lib.hid hS
          have HSz := Lib.hid hSz
          clear hS hSz
          go_wp2_with fail
          (with_reducible refine cw9.mono ?_)
          rintro e w10 ⟨rfl, I10, W10⟩
          have B10 := B9.trans W10.below
          have hr10 := hr9.below (W10.below.mono (by omega))
          have hTl2 : (T ++ (Lib.itoa (q : Int) ++ 32 :: lineL ch ++ [10])).length + 5000 * (M + 1 - q) ≤ 20000100 := by
            have := HSz.out
            rw [Lib.size_eq, HS2.out] at this
            rw [List.length_append]
            omega
          have HTL2 := Lib.hid hTl2
          clear hTl2 I9 B9 hr9 W10 cw9 hTl
          have s1 : (0 : Int) ≤ (q : Int) := by omega
          have s2 : (q : Int) ≤ (M : Int) + 1 := by omega
          have s3 : (M : Int) + 1 ≤ (c' : Int) := by omega
          by_cases hcq : c' = q
          · obtain rfl : c' = M + 1 := by omega
            subst hcq
            have hl2 : l2 = [] := by
              have := Chs.len hr10
              exact List.eq_nil_of_length_eq_zero (by omega)
            go_wp2
            go_roundw
            case rel =>
              refine ⟨l2, some ⟨g, o, none⟩, 0, 0, _, by first | rfl | simp, ?_, by omega, by omega, HO2, HSP, by have := HTL2.out; omega, I10, B10⟩
              rw [hl2]; exact ⟨by simp [ccs], fun h => absurd h (by omega)⟩
            case measure => simp [lenOf]
          · go_wp2
            go_roundw
            case rel => exact ⟨l2, _, _, _, _, rfl, hr10, by omega, by omega, HO2, HSP, HTL2.out, I10, B10⟩
            case measure => simp [lenOf]; omega
end TraW
end Go.Proofs.YtooinkhjoppijaaDoor
