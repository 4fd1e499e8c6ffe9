/- The walk of QuoteBack, a part. Condition: the parts can be read. -/
import Derived.Test.YtmhhmdnikopdlaaQuoV
import Derived.Test.YtmhhmdnikopdlaaQuoVa
import Derived.Test.YtmhhmdnikopdlaaQuoVb
import Derived.Test.YtmhhmdnikopdlaaQuoVc
import Derived.Test.YtmhhmdnikopdlaaQuoVd
namespace Go.Proofs.Ytmhhmdnikopdlaa
open Go.RowKit
namespace QuoN
open QuoP QuoW QuoR QuoE QuoJ QuoK QuoL
section
variable (A : Option Addr) (n c : Nat) (l : List Pt) (m : ByteArray) (w : World) (hr : Pts w w.heap.size A n l) (hn : n ≤ 4611686018427387904) (hm : m.size ≤ 9223372036854775807)
include hr hn hm
omit hr hn hm in
theorem small_long (h20 : 20 < n) (hb : n ≤ 9223372036854775807) :
    Calls Try.prog 15 #[.slice A n c] w fun e w' => e = .returned (.bool false) ∧ Below w.heap.size w w' := by
  have d : decide (20 < (n : Int)) = true := by simp; omega
  go_enter Try.func15, Try.ntmps15
  go_wp2
  go_ret
  exact ⟨rfl, Below.refl _ _⟩
omit hr hn hm in
set_option maxHeartbeats 1600000 in
theorem back_long (h20 : 20 < n) (hb : n ≤ 9223372036854775807) : Calls Try.prog 5 #[.slice A n c, .string m] w fun e w' => e = .returned (.bool true) ∧ Below w.heap.size w w' := by
  have cw := awake_c w
  have cs := fun W => small_long A n c W h20 hb
  go_enter Try.func5, Try.ntmps5
  go_wp2_with fail
  (with_reducible refine cw.mono ?_)
  rintro e w1 ⟨rfl, hb⟩
  go_wp2_with fail
  (with_reducible refine (cs _).mono ?_)
  rintro e w2 ⟨rfl, hb2⟩
  go_wp2
  go_ret
  exact ⟨rfl, via (a := w) hb2 hb⟩
theorem back_c : Calls Try.prog 5 #[.slice A n c, .string m] w fun e w' => e = .returned (.bool true) ∧ Below w.heap.size w w' := by
  have hl := Pts.len hr
  cases h : smB l
  · exact back_big A n c l m w hr hn hm h
  by_cases h2 : 30 < m.size
  · exact back_more A n c l m w hr hn hm h h2
  cases hM : mayB l
  · exact back_no A n c l m w hr hn hm h h2 hM
  by_cases h0 : n = 0
  · exact back_0 A n c l m w hr hn hm h h2 hM h0
  by_cases h1 : 1 < n
  · exact back_2 A n c l m w hr hn hm h h2 hM h1
  have h3 : n = 1 := by omega
  match l, hl with
  | [p], _ =>
    cases hp : p.1.isEmpty
    · exact back_v A n c [p] m w hr hn hm h h2 hM h3 (fun q hq => by cases hq; exact hp)
    · exact back_t A n c [p] m w hr hn hm h h2 hM h3 (fun q hq => by cases hq; exact hp)
  | [], hl => exact absurd hl.symm (by simp; omega)
  | _ :: _ :: _, hl => exact absurd hl.symm (by simp; omega)
end
end QuoN
end Go.Proofs.Ytmhhmdnikopdlaa
