/- The walk of quote.Print. Conditions: at most 1000 parts, texts of at most 10^6 bytes. -/
import Derived.Test.YtmhhmdnikopdlaaQuoX
import Derived.Test.YtmhhmdnikopdlaaQuoI
namespace Go.Proofs.Ytmhhmdnikopdlaa
open Go.RowKit
namespace QuoK
open QuoP QuoW QuoR QuoI QuoB
/-- Small parts. -/
def SmP (l : List Pt) : Prop := l.length ≤ 1000 ∧ ∀ p ∈ l, p.1.length ≤ 1000000 ∧ p.2.length ≤ 1000000
theorem one_len (c : UInt8) : (one c).length ≤ 4 := by unfold one; (repeat' split) <;> simp
theorem ones_len : ∀ l : Bs, (l.flatMap one).length ≤ 4 * l.length := by
  intro l; induction l with
  | nil => simp
  | cons c l ih => rw [List.flatMap_cons, List.length_append, List.length_cons]; have := one_len c; omega
theorem part_len (p : Pt) : (partB p).length ≤ p.1.length + 4 * p.2.length + 3 := by
  rw [partB, List.length_append]; have := ones_len p.2
  have h : (if p.1 = [] then ([] : Bs) else 36 :: 123 :: (p.1 ++ [125])).length ≤ p.1.length + 3 := by split <;> simp
  omega
theorem parts_len : ∀ l : List Pt, (∀ p ∈ l, p.1.length ≤ 1000000 ∧ p.2.length ≤ 1000000) → (l.flatMap partB).length ≤ 5000003 * l.length := by
  intro l; induction l with
  | nil => intro _; simp
  | cons p l ih =>
    intro h
    rw [List.flatMap_cons, List.length_append, List.length_cons]
    have h1 := part_len p
    have h2 := h p (List.mem_cons_self ..)
    have h3 := ih (fun q hq => h q (List.mem_cons_of_mem _ hq))
    omega
theorem isb_alloc {B b : Nat} {t : Bs} {w : World} (h : IsB B b t w) (o : Obj) : IsB B b t (w.alloc o) := isb_keep h fun g c e f _ hg => (Below.heap_alloc w o g (Array.getElem?_eq_some_iff.1 hg).1).trans hg
theorem blk_wr {B b g : Nat} {t : Bs} {w w' : World} {e : TypeId} {cs : Array Value} (hb : IsB B b t w) (k : Wr B b w w') (h1 : e ≠ BT) (h2 : e ≠ 5) (h : Blk w g e cs) : Blk w' g e cs := by
  obtain ⟨c, hbb⟩ := isb_blk hb
  exact k.kept g _ h (by intro x; injection x with x; exact blk_ne h hbb h1 x) (by rintro c' f' hx; injection hx with _ h3 _; exact h2 h3)
theorem take_flat {α : Type} (f : α → Bs) (l : List α) (k : Nat) (x : α) (h : l[k]? = some x) : (l.take (k + 1)).flatMap f = (l.take k).flatMap f ++ f x := by
  rw [List.take_add_one, h, List.flatMap_append]; simp
set_option maxHeartbeats 3200000 in
set_option maxRecDepth 100000 in
theorem print_no (A : Option Addr) (n c : Nat) (l : List Pt) (w : World) (hr : Pts w w.heap.size A n l) (hf : SmP l) (hm : mayB l = false) :
    Calls Try.prog 16 #[.slice A n c] w fun e w' => e = .returned (.tuple #[.string ⟨#[]⟩, .int .i64 5]) ∧ Below w.heap.size w w' := by
  have hl := Pts.len hr
  have cm := may_c A n c l w hr (fun p hp => by have := hf.2 p hp; omega) (by have := hf.1; omega)
  rw [hm] at cm
  go_enter Try.func16, Try.ntmps16
  go_wp2_with fail
  (with_reducible refine cm.mono ?_)
  rintro e w1 ⟨rfl, hb1⟩
  go_wp2
  go_ret2
  exact ⟨rfl, hb1⟩
set_option maxHeartbeats 6400000 in
set_option maxRecDepth 100000 in
theorem print_yes (A : Option Addr) (n c : Nat) (l : List Pt) (w : World) (hr : Pts w w.heap.size A n l) (hf : SmP l) (hm : mayB l = true) :
    Calls Try.prog 16 #[.slice A n c] w fun e w' => e = .returned (.tuple #[.string (ba (printB l)), .int .i64 0]) ∧ Below w.heap.size w w' := by
  have hl := Pts.len hr
  have cm := may_c A n c l w hr (fun p hp => by have := hf.2 p hp; omega) (by have := hf.1; omega)
  rw [hm] at cm
  obtain ⟨hf1, hf2⟩ := hf
  have HF := Lib.hid hf2
  clear hf2 hm
  go_enter Try.func16, Try.ntmps16
  go_wp2_with fail
  (with_reducible refine cm.mono ?_)
  rintro e w1 ⟨rfl, hb1⟩
  have hz1 := hb1.size
  clear cm
  have hI0 : IsB w.heap.size w1.heap.size [] (w1.alloc (.cells #[.pointer none, .slice none 0 0] BT)) := Or.inl ⟨hz1, .slice none 0 0, heap_alloc_new w1 _, World.ownsRowF_nil _ _ _ _, by simp [Value.ownBlock]⟩
  have cq := wbyte_c w.heap.size w1.heap.size [] 34 _ hI0 (by simp) (by simp; omega)
  rw [show (((34 : UInt8).toNat : Nat) : Int) = 34 from rfl] at cq
  go_wp2_with fail
  (with_reducible refine cq.mono ?_)
  rintro e w2 ⟨rfl, hI2, hW2⟩
  have hb2 : Below w.heap.size w w2 := (hb1.alloc hz1 _).trans hW2.below
  clear cq hI0 hW2
  go_wp2_with fail
  go_loopw [14] (fun v wr => ∃ k : Nat, v = .int .i64 k ∧ k ≤ n ∧ IsB w.heap.size w1.heap.size (34 :: (l.take k).flatMap partB) wr ∧ Below w.heap.size w wr) (fun v _ => n - (intOf v).toNat)
  case atStart => exact ⟨0, rfl, by omega, hI2, hb2⟩
  case round =>
    clear hI2 hb2
    obtain ⟨k, rfl, hk, hI, hB⟩ := hrel
    have hzr := hB.size
    have hlen : ((l.take k).flatMap partB).length ≤ 5000003 * k := by
      have := parts_len (l.take k) (fun p hp => HF.out p (List.mem_of_mem_take hp))
      rw [List.length_take] at this; omega
    by_cases hlt : k < n
    · obtain ⟨g, o, ⟨nm, tx⟩, rfl, hg, hp, q1, q2⟩ := Pts.get (hr.below hB) hlt
      have hfp := HF.out _ (List.mem_of_getElem? hp)
      simp only at q1 q2 hfp
      have TK := Lib.hid (take_flat partB l k _ hp)
      have en := ba_empty nm
      have hsn := ba_size nm
      have hst := ba_size tx
      obtain ⟨bn, hbn⟩ : ∃ x, ba nm = x := ⟨_, rfl⟩
      obtain ⟨bt, hbt⟩ : ∃ x, ba tx = x := ⟨_, rfl⟩
      rw [hbn] at q1 en hsn
      rw [hbt] at q2 hst
      obtain ⟨acc, hacc⟩ : ∃ x, (l.take k).flatMap partB = x := ⟨_, rfl⟩
      rw [hacc] at hI hlen TK
      cases h0 : nm.isEmpty <;> rw [h0] at en
      · have hPB : partB (nm, tx) = 36 :: 123 :: (nm ++ [125]) ++ tx.flatMap one := by rw [partB, if_neg (by intro e; simp only at e; rw [e] at h0; cases h0)]
        have hBn : Below w.heap.size w (wr.alloc (Obj.cells #[.string bn, .string bt] ET)) := hB.alloc hzr _
        have cs := wstr_c w.heap.size w1.heap.size _ (⟨#[36, 123]⟩ ++ bn ++ ⟨#[125]⟩) _ (isb_alloc hI (Obj.cells #[.string bn, .string bt] ET)) (by rw [List.length_cons, ByteArray.size_append, ByteArray.size_append, show (⟨#[36, 123]⟩ : ByteArray).size = 2 from rfl, show (⟨#[125]⟩ : ByteArray).size = 1 from rfl]; omega) hBn.size
        go_wp2_with fail
        (with_reducible refine cs.mono ?_)
        rintro e w3 ⟨rfl, hI3, hW3⟩
        have hP3 := blk_wr (isb_alloc hI (Obj.cells #[.string bn, .string bt] ET)) hW3 (by decide) (by decide) (Blk.new wr ET #[.string bn, .string bt])
        have hB3 := hBn.trans hW3.below
        have kq0 := hP3.cell 0
        have kq1 := hP3.cell 1
        simp only [List.getElem?_toArray, List.getElem?_cons_zero, List.getElem?_cons_succ] at kq0 kq1
        have hb5 : (⟨#[36, 123]⟩ ++ bn ++ ⟨#[125]⟩ : ByteArray).data.toList = 36 :: 123 :: (nm ++ [125]) := by rw [← hbn]; simp [ba]
        rw [hb5] at hI3
        clear cs hb5
        go_wp2_with fail
        go_loopw [29] (fun v wi => ∃ j : Nat, v = .int .i64 j ∧ j ≤ tx.length ∧ IsB w.heap.size w1.heap.size ((34 :: acc ++ (36 :: 123 :: (nm ++ [125]))) ++ (tx.take j).flatMap one) wi ∧ Blk wi wr.heap.size ET #[.string bn, .string bt] ∧ Below w.heap.size w wi) (fun v _ => tx.length - (intOf v).toNat)
        case atStart => exact ⟨0, rfl, by omega, by simpa using hI3, hP3, hB3⟩
        case round =>
          obtain ⟨j, rfl, hj, hIj, hP, hBj⟩ := hrel
          have hzj := hBj.size
          have hlj : ((tx.take j).flatMap one).length ≤ 4 * j := by have := ones_len (tx.take j); rw [List.length_take] at this; omega
          have kp0 := hP.cell 0
          have kp1 := hP.cell 1
          simp only [List.getElem?_toArray, List.getElem?_cons_zero, List.getElem?_cons_succ] at kp0 kp1
          by_cases hjl : j < tx.length
          · have hjb : j < bt.size := by omega
            have hx : tx[j]? = some (bt[j]'hjb) := by rw [← ba_list tx, List.getElem?_eq_getElem (by rw [← Lib.size_eq, hbt]; exact hjb)]; subst hbt; rfl
            obtain ⟨x, hxx⟩ : ∃ x, bt[j]'hjb = x := ⟨_, rfl⟩
            rw [hxx] at hx
            have TF := Lib.hid (take_flat one tx j x hx)
            have co := fun W => one_c x W
            have hol := one_len x
            clear hx
            go_wp2_with fail
            (with_reducible refine (co _).mono ?_)
            rintro e w5 ⟨rfl, hb5⟩
            have hI5 := isb_keep hIj fun g c e f _ hg => (hb5.block g (Array.getElem?_eq_some_iff.1 hg).1).trans hg
            have hP5 := hP.next hb5
            have hB5 := via (a := w) hb5 hBj
            have cs := wstr_c w.heap.size w1.heap.size _ (⟨(one x).toArray⟩ : ByteArray) w5 hI5 (by simp; show _ + (one x).toArray.size ≤ _; simp at *; omega) hB5.size
            go_wp2_with fail
            (with_reducible refine cs.mono ?_)
            rintro e w6 ⟨rfl, hI6, hW6⟩
            have hP6 := blk_wr hI5 hW6 (by decide) (by decide) hP5
            go_wp2
            go_roundw
            case rel => exact ⟨j + 1, by go_num, by omega, by rw [TF.out, ← List.append_assoc]; simpa using hI6, hP6, hB5.trans hW6.below⟩
            case measure => simp [intOf]; omega
          · obtain rfl : j = tx.length := by omega
            rw [List.take_of_length_le (Nat.le_refl _)] at hIj
            go_wp2
            go_roundw
            case rel => exact ⟨k + 1, by go_num, by omega, by rw [TK.out]; rw [hPB]; simpa using hIj, hBj⟩
            case measure => simp [intOf]; omega
      · have hPB : partB (nm, tx) = tx.flatMap one := by rw [partB, if_pos (List.isEmpty_iff.1 h0)]; rfl
        go_wp2_with fail
        go_loopw [29] (fun v wi => ∃ j : Nat, v = .int .i64 j ∧ j ≤ tx.length ∧ IsB w.heap.size w1.heap.size ((34 :: acc) ++ (tx.take j).flatMap one) wi ∧ Blk wi wr.heap.size ET #[.string bn, .string bt] ∧ Below w.heap.size w wi) (fun v _ => tx.length - (intOf v).toNat)
        case atStart => exact ⟨0, rfl, by omega, by simpa using isb_alloc hI _, Blk.new _ _ _, hB.alloc hzr _⟩
        case round =>
          obtain ⟨j, rfl, hj, hIj, hP, hBj⟩ := hrel
          have hzj := hBj.size
          have hlj : ((tx.take j).flatMap one).length ≤ 4 * j := by have := ones_len (tx.take j); rw [List.length_take] at this; omega
          have kp0 := hP.cell 0
          have kp1 := hP.cell 1
          simp only [List.getElem?_toArray, List.getElem?_cons_zero, List.getElem?_cons_succ] at kp0 kp1
          by_cases hjl : j < tx.length
          · have hjb : j < bt.size := by omega
            have hx : tx[j]? = some (bt[j]'hjb) := by rw [← ba_list tx, List.getElem?_eq_getElem (by rw [← Lib.size_eq, hbt]; exact hjb)]; subst hbt; rfl
            obtain ⟨x, hxx⟩ : ∃ x, bt[j]'hjb = x := ⟨_, rfl⟩
            rw [hxx] at hx
            have TF := Lib.hid (take_flat one tx j x hx)
            have co := fun W => one_c x W
            have hol := one_len x
            clear hx
            go_wp2_with fail
            (with_reducible refine (co _).mono ?_)
            rintro e w5 ⟨rfl, hb5⟩
            have hI5 := isb_keep hIj fun g c e f _ hg => (hb5.block g (Array.getElem?_eq_some_iff.1 hg).1).trans hg
            have hP5 := hP.next hb5
            have hB5 := via (a := w) hb5 hBj
            have cs := wstr_c w.heap.size w1.heap.size _ (⟨(one x).toArray⟩ : ByteArray) w5 hI5 (by simp; show _ + (one x).toArray.size ≤ _; simp at *; omega) hB5.size
            go_wp2_with fail
            (with_reducible refine cs.mono ?_)
            rintro e w6 ⟨rfl, hI6, hW6⟩
            have hP6 := blk_wr hI5 hW6 (by decide) (by decide) hP5
            go_wp2
            go_roundw
            case rel => exact ⟨j + 1, by go_num, by omega, by rw [TF.out, ← List.append_assoc]; simpa using hI6, hP6, hB5.trans hW6.below⟩
            case measure => simp [intOf]; omega
          · obtain rfl : j = tx.length := by omega
            rw [List.take_of_length_le (Nat.le_refl _)] at hIj
            go_wp2
            go_roundw
            case rel => exact ⟨k + 1, by go_num, by omega, by rw [TK.out]; rw [hPB]; simpa using hIj, hBj⟩
            case measure => simp [intOf]; omega
    · obtain rfl : k = n := by omega
      rw [List.take_of_length_le (by omega)] at hI hlen
      have cq := wbyte_c w.heap.size w1.heap.size _ 34 _ hI (by rw [List.length_cons]; omega) hzr
      rw [show (((34 : UInt8).toNat : Nat) : Int) = 34 from rfl] at cq
      go_wp2_with fail
      (with_reducible refine cq.mono ?_)
      rintro e w5 ⟨rfl, hI5, hW5⟩
      have hB5 := hB.trans hW5.below
      have ct := Try.Builder_String_k w.heap.size w1.heap.size (34 :: l.flatMap partB ++ [34]) w5 hI5 (by simp)
      go_wp2_with fail
      (with_reducible refine ct.mono ?_)
      rintro e w6 ⟨rfl, _, hb6, _⟩
      go_wp2
      go_ret2
      exact ⟨rfl, hB5.trans hb6⟩
end QuoK
end Go.Proofs.Ytmhhmdnikopdlaa
