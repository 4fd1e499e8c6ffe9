/- The reference's reader of tokens: its small walks. Conditions: none. -/
import Derived.Test.YtchceoclkdofhaaGreatDoorExpO
namespace Go.Proofs.YtchceoclkdofhaaGreatDoor
set_option linter.unusedVariables false
set_option linter.unusedSimpArgs false
open Go.RowKit
namespace ExpW
open CalP CalW ExpP
set_option maxRecDepth 100000 in
set_option maxHeartbeats 1600000 in
theorem signq_c (R B : Nat) (A : Option Addr) (c : Nat) (l : List Tk) (i : Nat) (e : Int) (w : World) (h : Rdx RQ w R A c l i e) (ht : Tks w B A l) :
    Calls Tryz.prog 65 #[pt R] w (SignPost (signE l i e) w) := by
  obtain ⟨k0, k1, k2⟩ := h.cells
  clear h
  unfold SignPost
  by_cases he : e = 0
  · subst he
    by_cases hlt : i < l.length
    · obtain ⟨g, o, rfl, hg, hc⟩ := ht (by omega)
      obtain ⟨h0, h1, -, -⟩ := hc i hlt
      have d : decide ((i : Int) < (l.length : Int)) = true := decide_eq_true (by omega)
      have hs : signE l i 0 = if (l[i]'hlt).kind = 4 then (l[i]'hlt).word else noB := by rw [signE, if_pos rfl, signS, List.getElem?_eq_getElem hlt]
      rw [hs]
      clear hs hc ht
      generalize (l[i]'hlt).kind = kd at *
      generalize (l[i]'hlt).word = wd at *
      generalize l.length = n at *
      by_cases h4 : kd = 4
      · have d4 : (kd == 4) = true := by simpa using h4
        rw [if_pos h4]
        clear h4
        go_enter Tryz.func65, Tryz.ntmps65
        go_wp2_with fail
        go_quiet (fail)
        go_wp2_with fail
        go_quiet (fail)
        go_wp2_with fail
        go_ret
        exact ⟨rfl, _, drew_two _ _ _⟩
      · have d4 : (kd == 4) = false := by simpa using h4
        rw [if_neg h4]
        clear h4
        go_enter Tryz.func65, Tryz.ntmps65
        go_wp2_with fail
        go_quiet (fail)
        go_wp2_with fail
        go_ret
        exact ⟨rfl, _, rfl⟩
    · have d : decide ((i : Int) < (l.length : Int)) = false := decide_eq_false (by omega)
      have hs : signE l i 0 = noB := by rw [signE, if_pos rfl, signS, List.getElem?_eq_none (by omega)]
      rw [hs]
      generalize l.length = n at *
      clear hs ht
      go_enter Tryz.func65, Tryz.ntmps65
      go_wp2_with fail
      go_quiet (fail)
      go_wp2_with fail
      go_ret
      exact ⟨rfl, _, rfl⟩
  · have d : (e == 0) = false := by simpa using he
    have hs : signE l i e = noB := by rw [signE, if_neg he]
    rw [hs]
    generalize l.length = n at *
    clear hs ht he
    go_enter Tryz.func65, Tryz.ntmps65
    go_wp2_with fail
    go_quiet (fail)
    go_wp2_with fail
    go_ret
    exact ⟨rfl, _, rfl⟩
theorem failq_c (R : Nat) (A : Option Addr) (c : Nat) (l : List Tk) (i : Nat) (e k : Int) (w : World) (h : Rdx RQ w R A c l i e) :
    Calls Tryz.prog 66 #[pt R, .int .i64 k] w fun x w' => x = .returned (.tuple #[]) ∧ Rdx RQ w' R A c l i (failS k e) ∧ Tch (On R) w w' := by
  obtain ⟨k0, k1, k2⟩ := h.cells
  have f2 := Blk.loose h 2
  by_cases he : e = 0
  · subst he
    have H := Lib.hid (h.setE k)
    have T := Lib.hid ((Tch.refl (On R) w).setCell (p := ⟨R, 2, none⟩) rfl (.int .i64 k))
    clear h
    generalize l.length = n at *
    go_enter Tryz.func66, Tryz.ntmps66
    go_wp2_with fail
    go_end0
    exact ⟨rfl, H.out, T.out⟩
  · have d : (e == 0) = false := by simpa using he
    have d2 : failS k e = e := if_neg he
    rw [d2]
    have H := Lib.hid h
    clear h he d2
    generalize l.length = n at *
    go_enter Tryz.func66, Tryz.ntmps66
    go_wp2_with fail
    go_end0
    exact ⟨rfl, H.out, Tch.refl _ _⟩
end ExpW
end Go.Proofs.YtchceoclkdofhaaGreatDoor
