/- The walks of awake and of QuoteAny. No condition. -/
import Derived.Test.YtmhhmdnikopdlaaQuoG
import Derived.Test.YtmhhmdnikopdlaaQuoJ
import Derived.Test.YtmhhmdnikopdlaaQuoK
namespace Go.Proofs.Ytmhhmdnikopdlaa
open Go.RowKit
namespace QuoN
open QuoP QuoW QuoR QuoE QuoJ QuoK
theorem own_rd {w : World} {B : Nat} {n : Nat} {v : Value} {xs : List Value} (h : w.ownsRow B ET 2 v n xs) : ∃ A c, v = .slice A n c ∧ Rd w w.heap.size 2 A n xs := by
  rcases h.2 with ⟨rfl, rfl⟩ | ⟨g, cap, cur, rfl, hb, hg, rest⟩
  · exact ⟨none, 0, rfl, h.1, fun h => by omega⟩
  · exact ⟨_, _, rfl, h.1, fun _ => ⟨⟨g, 0, none⟩, rfl, (Array.getElem?_eq_some_iff.1 hg).1, h.cells rfl⟩⟩
theorem drop_size {s : ByteArray} {i : Nat} (hi : i ≤ s.size) {r : Bs} (h : s.data.toList.drop i = r) : i = s.size - r.length := by
  rw [← h, List.length_drop, ← Lib.size_eq]; omega
/-- Parse where it ends well, and where it does not. -/
def OkPost (o : List Pt) (k : Nat) (w : World) (e : Ending) (w' : World) : Prop := ∃ A c, e = .returned (.tuple #[.slice A o.length c, .int .i64 (k : Nat), .int .i64 0]) ∧ Pts w' w'.heap.size A o.length o ∧ Below w.heap.size w w'
def BadPost (k : Nat) (w : World) (e : Ending) (w' : World) : Prop := e = .returned (.tuple #[.slice none 0 0, .int .i64 (k : Nat), .int .i64 1]) ∧ Below w.heap.size w w'
theorem pa_ok {s : ByteArray} {w w' : World} {e : Ending} {o : List Pt} {r : Bs} (h : PaPost s w e w') (hp : parse s.data.toList = .ok o r) : OkPost o (s.size - r.length) w e w' := by
  obtain ⟨hb, ⟨o', i, v, h1, hi, rfl, hown⟩ | ⟨i, h1, _⟩⟩ := h
  · rw [hp] at h1; injection h1 with e1 e2; subst e1
    obtain ⟨A, c, rfl, hr⟩ := own_rd hown
    rw [← drop_size hi e2.symm]
    exact ⟨A, c, rfl, hr, hb⟩
  · rw [hp] at h1; cases h1
theorem pa_bad {s : ByteArray} {w w' : World} {e : Ending} {r : Bs} (h : PaPost s w e w') (hp : parse s.data.toList = .bad r) : BadPost (s.size - r.length) w e w' := by
  obtain ⟨hb, ⟨o', i, v, h1, _⟩ | ⟨i, h1, hi, rfl⟩⟩ := h
  · rw [hp] at h1; cases h1
  · rw [hp] at h1; injection h1 with e2
    rw [← drop_size hi e2.symm]
    exact ⟨rfl, hb⟩
abbrev sA : ByteArray := ⟨#[34, 97, 36, 123, 98, 125, 92, 120, 48, 48, 34, 32, 109, 111, 114, 101]⟩
abbrev lA : List Pt := [([], [97]), ([98], []), ([], [0])]
theorem parse_A : parse sA.data.toList = .ok lA [32, 109, 111, 114, 101] := by rfl
theorem print_A : ba (printB lA) = ⟨#[34, 97, 36, 123, 98, 125, 92, 120, 48, 48, 34]⟩ := by rfl
theorem may_A : mayB lA = true := by decide
set_option maxHeartbeats 1600000 in
theorem awake_c (w : World) : Calls Try.prog 8 #[] w fun e w' => e = .returned (.bool true) ∧ Below w.heap.size w w' := by
  have c1 := (parse_c sA w (by decide)).mono (fun e w' h => pa_ok h parse_A)
  go_enter Try.func8, Try.ntmps8
  go_wp2_with fail
  refine c1.mono ?_
  rintro e w1 ⟨A, c, rfl, hr, hb⟩
  have c2 := print_yes A _ c lA w1 hr ⟨by decide, by decide⟩ may_A
  rw [print_A] at c2
  clear c1
  go_wp2_with fail
  refine c2.mono ?_
  rintro e w2 ⟨rfl, hb2⟩
  have hr2 := hr.below hb2
  obtain ⟨g, o, p, rfl, hg, hp, q1, q2⟩ := Pts.get hr2 (k := 1) (by decide)
  obtain ⟨g', o', p', he, hg', hp', q1', q2'⟩ := Pts.get hr2 (k := 2) (by decide)
  cases he
  cases hp
  cases hp'
  clear c2 hr hr2
  have e1 : ((ba [98]).toList == [98]) = true := by rw [Lib.toList_data, ba_list]; rfl
  have e2 : ((ba [0]).toList == [0]) = true := by rw [Lib.toList_data, ba_list]; rfl
  go_wp2
  go_ret
  exact ⟨rfl, via (a := w) hb2 hb⟩
/-- Parts of a text are no longer than it. -/
def Le (N : Nat) (o : List Pt) : Prop := ∀ p ∈ o, p.1.length ≤ N ∧ p.2.length ≤ N
def stl : St → Nat
  | .nam a => a.length
  | _ => 0
theorem le_snoc {N : Nat} {o : List Pt} {p : Pt} (h : Le N o) (h1 : p.1.length ≤ N) (h2 : p.2.length ≤ N) : Le N (o ++ [p]) := by
  intro q hq
  rcases List.mem_append.1 hq with hq | hq
  · exact h q hq
  · obtain rfl := List.mem_singleton.1 hq; exact ⟨h1, h2⟩
theorem le_flush {N : Nat} {o : List Pt} {t : Bs} (h : Le N o) (h1 : t.length ≤ N) : Le N (flush o t) := by
  unfold flush; split
  · exact h
  · exact le_snoc h (Nat.zero_le _) h1
theorem step_fin_le {s : St} {o o' : List Pt} {t : Bs} {c : UInt8} {N : Nat} (e : QuoP.step s o t c = .fin o') (h : Le N o) (h1 : t.length ≤ N) : Le N o' := by
  cases s <;> simp only [QuoP.step] at e <;> (repeat' split at e) <;> first | (cases e; done) | skip
  cases e; exact le_flush h h1
theorem step_go_le {s s' : St} {o o' : List Pt} {t t' : Bs} {c : UInt8} {N k : Nat} (e : QuoP.step s o t c = .go s' o' t') (h : Le N o) (h1 : t.length + (k + 1) ≤ N) (h2 : stl s + (k + 1) ≤ N) :
    Le N o' ∧ t'.length + k ≤ N ∧ stl s' + k ≤ N := by
  cases s <;> simp only [QuoP.step] at e <;> (repeat' split at e) <;> first | (cases e; done) | skip
  all_goals cases e
  all_goals simp only [stl] at h2
  all_goals refine ⟨?_, ?_, ?_⟩
  all_goals first
    | exact h
    | omega
    | exact le_flush h (by omega)
    | exact le_snoc h (by simp only; omega) (by simp)
    | (simp [stl]; omega)
    | (simp [stl]; done)
    | skip
theorem run_le : ∀ (l : Bs) (s : St) (o : List Pt) (t : Bs) (o2 : List Pt) (r : Bs) (N : Nat), Le N o → t.length + l.length ≤ N → stl s + l.length ≤ N → run s o t l = .ok o2 r → Le N o2 := by
  intro l
  induction l with
  | nil => intro s o t o2 r N _ _ _ h; cases h
  | cons c l ih =>
    intro s o t o2 r N h0 h1 h2 h
    rw [List.length_cons] at h1 h2
    cases e : QuoP.step s o t c with
    | no => rw [run_no l e] at h; cases h
    | go s1 o1 t1 =>
      rw [run_go l e] at h
      obtain ⟨g0, g1, g2⟩ := step_go_le e h0 h1 h2
      exact ih _ _ _ _ _ _ g0 g1 g2 h
    | fin o' => rw [run_fin l e] at h; cases h; exact step_fin_le e h0 (by omega)
theorem parse_le {l r : Bs} {o : List Pt} (h : parse l = .ok o r) : Le l.length o := run_le l .start [] [] o r l.length (fun p hp => by cases hp) (by simp) (by simp [stl]) h
theorem run_count : ∀ (l : Bs) (s : St) (o : List Pt) (t : Bs) (o2 : List Pt) (r : Bs), run s o t l = .ok o2 r → o2.length ≤ o.length + 2 * l.length := by
  intro l
  induction l with
  | nil => intro s o t o2 r h; cases h
  | cons c l ih =>
    intro s o t o2 r h
    have hf := flush_len o t
    cases e : QuoP.step s o t c with
    | no => rw [run_no l e] at h; cases h
    | go s1 o1 t1 =>
      rw [run_go l e] at h
      have h1 := ih _ _ _ _ _ h
      have : o1.length ≤ o.length + 2 := by
        cases s <;> simp only [QuoP.step] at e <;> (repeat' split at e) <;> first | (cases e; done) | skip
        all_goals cases e
        all_goals first | omega | (simp; done) | (simp; omega)
      rw [List.length_cons]; omega
    | fin o' =>
      rw [run_fin l e] at h; cases h
      have : o2.length ≤ o.length + 2 := by
        cases s <;> simp only [QuoP.step] at e <;> (repeat' split at e) <;> first | (cases e; done) | skip
        cases e; omega
      rw [List.length_cons]; omega
set_option maxHeartbeats 3200000 in
theorem any_c (s : ByteArray) (w : World) (hs : s.size ≤ 9223372036854775807) : Calls Try.prog 3 #[.string s] w fun e w' => e = .returned (.bool true) ∧ Below w.heap.size w w' := by
  have cw := awake_c w
  by_cases hl : 80 < s.size
  · have d : decide (80 < (s.size : Int)) = true := by simp; omega
    go_enter Try.func3, Try.ntmps3
    go_wp2_with fail
    (with_reducible refine cw.mono ?_)
    rintro e w1 ⟨rfl, hb⟩
    go_wp2
    go_ret
    exact ⟨rfl, hb⟩
  have d : decide (80 < (s.size : Int)) = false := by simp; omega
  have cn := fun W => name_c s W (by omega)
  have cn2 := fun W => rname_c s W (by omega)
  obtain ⟨b, hb⟩ : ∃ b, nameB s.data.toList = b := ⟨_, rfl⟩
  rw [hb] at cn cn2
  clear hb
  have hsz := Lib.size_eq s
  cases hP : parse s.data.toList with
  | bad r =>
    clear hsz
    obtain ⟨k, hk⟩ : ∃ k, s.size - r.length = k := ⟨_, rfl⟩
    have c1 := fun W => (parse_c s W (by omega)).mono (fun e w' h => pa_bad h hP)
    have c2 := fun W => (rparse_c s W (by omega)).mono (fun e w' h => pa_bad h hP)
    rw [hk] at c1 c2
    have c3 := fun W => same_c none none 0 0 0 0 [] [] W 0 Rd.nil Rd.nil (by omega) (by omega)
    rw [show decide (([] : List Pt) = []) = true from rfl] at c3
    clear hk hP
    go_enter Try.func3, Try.ntmps3
    go_wp2_with fail
    (with_reducible refine cw.mono ?_)
    rintro e w1 ⟨rfl, hb⟩
    go_wp2_with fail
    refine (c1 _).mono ?_
    rintro e w2 ⟨rfl, hb2⟩
    have hB := via (a := w) hb2 hb
    go_wp2_with fail
    refine (c2 _).mono ?_
    rintro e w3 ⟨rfl, hb3⟩
    replace hB := via (a := w) hb3 hB
    go_wp2_with fail
    refine (c3 _).mono ?_
    rintro e w4 ⟨rfl, hb4⟩
    replace hB := via (a := w) hb4 hB
    go_wp2_with (first | (with_reducible refine (cn _).mono ?_; rintro e w' ⟨rfl, rfl⟩) | (with_reducible refine (cn2 _).mono ?_; rintro e w' ⟨rfl, rfl⟩))
    go_ret
    exact ⟨rfl, hB⟩
  | ok o r =>
    have hm := parse_may hP
    have hle := parse_le hP
    have hct := run_count _ _ _ _ _ _ hP
    simp only [List.length_nil] at hct
    rw [← hsz] at hle hct
    have HL := Lib.hid hle
    clear hle
    clear hsz
    obtain ⟨k, hk⟩ : ∃ k, s.size - r.length = k := ⟨_, rfl⟩
    have c1 := fun W => (parse_c s W (by omega)).mono (fun e w' h => pa_ok h hP)
    have c2 := fun W => (rparse_c s W (by omega)).mono (fun e w' h => pa_ok h hP)
    rw [hk] at c1 c2
    clear hk hP
    go_enter Try.func3, Try.ntmps3
    go_wp2_with fail
    (with_reducible refine cw.mono ?_)
    rintro e w1 ⟨rfl, hb⟩
    go_wp2_with fail
    refine (c1 _).mono ?_
    rintro e w2 ⟨A, c, rfl, hr, hb2⟩
    have hB := via (a := w) hb2 hb
    go_wp2_with fail
    refine (c2 _).mono ?_
    rintro e w3 ⟨A2, cc, rfl, hr2, hb3⟩
    replace hB := via (a := w) hb3 hB
    have hr' := Rd.more (hr.below hb3) hb3.size
    have c3 := same_c A A2 _ c _ cc o o w3 w3.heap.size hr' hr2 (by omega) (by omega)
    rw [show decide (o = o) = true by simp] at c3
    clear c1 c2 hr hr2
    go_wp2_with fail
    refine c3.mono ?_
    rintro e w4 ⟨rfl, hb4⟩
    replace hB := via (a := w) hb4 hB
    have c4 := may_c A _ c o w4 (Rd.more (hr'.below hb4) hb4.size) (fun p hp => by have := HL.out p hp; omega) (by omega)
    rw [hm] at c4
    clear c3
    go_wp2_with (first | (with_reducible refine (cn _).mono ?_; rintro e w' ⟨rfl, rfl⟩) | (with_reducible refine (cn2 _).mono ?_; rintro e w' ⟨rfl, rfl⟩))
    refine c4.mono ?_
    rintro e w5 ⟨rfl, hb5⟩
    replace hB := via (a := w) hb5 hB
    go_wp2
    go_ret
    exact ⟨rfl, hB⟩
end QuoN
end Go.Proofs.Ytmhhmdnikopdlaa
