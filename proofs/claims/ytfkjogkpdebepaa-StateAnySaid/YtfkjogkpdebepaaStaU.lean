/- The walk of state.Runs. Conditions: fewer than 2^40 numbers. -/
import Derived.Test.YtfkjogkpdebepaaStaL
namespace Go.Proofs.Ytfkjogkpdebepaa
open Go.RowKit
namespace StaU
open StaP StaL
abbrev RnT : TypeId := 42
abbrev ints (l : List Int) : List Value := l.map (Value.int .i64)
def rcells (l : List Rn) : List Value := l.flatMap fun r => [.int .i64 (r.1 : Int), .int .i64 r.2]
theorem rcells_app (a b : List Rn) : rcells (a ++ b) = rcells a ++ rcells b := List.flatMap_append
/-- A part of a slice. -/
theorem rd_tail {w : World} {B n g o : Nat} {l : List Int} (h : Rd w B 1 (some ⟨g, o, none⟩) n (ints l)) (k : Nat) (hk : k ≤ n) : Rd w B 1 (some ⟨g, o + k, none⟩) (n - k) (ints (l.drop k)) := by
  have hl := h.1
  rw [List.length_map] at hl
  refine ⟨by rw [List.length_map, List.length_drop]; omega, fun hn => ?_⟩
  obtain ⟨ad, e, hb, hc⟩ := h.2 (by omega)
  injection e with e; subst e
  refine ⟨_, rfl, hb, fun j u hu => ?_⟩
  have := hc (k + j) u (by rw [ints, List.map_drop, List.getElem?_drop] at hu; exact hu)
  unfold Addr.add at this ⊢
  split at this
  · next hz =>
    have : k = 0 := by omega
    subst this
    have : j = 0 := by omega
    subst this
    simpa using by assumption
  · split
    · next hj => subst hj; simpa using this
    · simpa [Nat.add_assoc] using this
theorem runs_step {l : List Int} {k : Nat} {a : Int} (hk : 1 ≤ k) (ha : ∀ j, j < k → l[j]? = some a) (hn : l[k]? ≠ some a) : runs l = (k, a) :: runs (l.drop k) := by
  have e : l = List.replicate k a ++ l.drop k := by
    conv => lhs; rw [← List.take_append_drop k l]
    congr 1
    apply List.ext_getElem?
    intro j
    rw [List.getElem?_take, List.getElem?_replicate]
    split
    · next hj => exact ha j hj
    · rfl
  conv => lhs; rw [e]
  rw [runs_rep a k _ hk]
  rw [List.head?_eq_getElem?, List.getElem?_drop]; exact hn
theorem rn_i : (Try.prog.info? RnT).map (fun i => (i.zero, i.size, i.bytes)) = some (some (.agg #[.int .i64 0, .int .i64 0]), 2, 16) := by kernel_rfl
def slen : Value → Nat
  | .slice _ n _ => n
  | _ => 0
/-- What Runs answers. -/
def UPost (l : List Int) (w : World) (x : Ending) (w' : World) : Prop := ∃ v, x = .returned v ∧ w'.ownsRow w.heap.size RnT 2 v (runs l).length (rcells (runs l)) ∧ Below w.heap.size w w'
theorem own_shape {w : World} {B : Nat} {n : Nat} {v : Value} {e : TypeId} {xs : List Value} {size : Nat} (h : w.ownsRow B e size v n xs) : ∃ a c, v = .slice a n c := by
  rcases h.2 with ⟨rfl, rfl⟩ | ⟨g, cap, cur, rfl, _⟩ <;> exact ⟨_, _, rfl⟩
set_option maxHeartbeats 6400000 in
set_option maxRecDepth 100000 in
theorem runs_c (A : Option Addr) (n c : Nat) (l : List Int) (w : World) (hr : Rd w w.heap.size 1 A n (ints l)) (hc : n ≤ c) (hn : n ≤ 1000000000) :
    Calls Try.prog 12 #[.slice A n c] w (UPost l w) := by
  obtain ⟨i0, hi0, hz0, hz1, hz2⟩ := info_parts rn_i
  go_enter Try.func12, Try.ntmps12
  go_wp2_with fail
  go_loopw [0, 3] (fun lv ov wr => ∃ (A' : Option Addr) (n' c' : Nat) (l' : List Int) (rs : List Rn), lv = .slice A' n' c' ∧ n' ≤ c' ∧ n' + rs.length ≤ n ∧ Rd wr w.heap.size 1 A' n' (ints l') ∧ wr.ownsRow w.heap.size RnT 2 ov rs.length (rcells rs) ∧ Below w.heap.size w wr ∧ Hid (runs l = rs ++ runs l')) (fun lv _ _ => slen lv)
  case atStart => exact ⟨A, n, c, l, [], rfl, hc, by simp, hr, World.ownsRow_nil _ _ _ _, Below.refl _ _, Lib.hid rfl⟩
  case round =>
    obtain ⟨A', n', c', l', rs, rfl, hc', hl', hr', hown, hB, HR⟩ := hrel
    have hBz := hB.size
    have hll := hr'.1
    rw [List.length_map] at hll
    by_cases hz : n' = 0
    · subst hz
      have hl0 : l' = [] := List.length_eq_zero_iff.1 (by omega)
      have dz : decide ((0 : Int) < ((0 : Nat) : Int)) = false := by simp
      obtain ⟨oa, oc, rfl⟩ := own_shape hown
      go_wp2
      go_ret
      refine ⟨_, rfl, ?_, hB⟩
      rw [HR.out, hl0, show runs [] = [] from rfl, List.append_nil]; exact hown
    · have dz : decide ((0 : Int) < (n' : Int)) = true := by simp; omega
      obtain ⟨g, o, rfl, hg, hcell⟩ := Rd.flat hr' (by omega) (by omega)
      have hl1 : 0 < l'.length := by omega
      obtain ⟨a, ha⟩ : ∃ a, l'[0]? = some a := ⟨_, List.getElem?_eq_getElem hl1⟩
      have hcs : ∀ j x, l'[j]? = some x → wr.cell? ⟨g, o + j, none⟩ = some (.int .i64 x) := fun j x hj => hcell j _ (by rw [ints, List.getElem?_map, hj]; rfl)
      have c0 := hcs 0 a ha
      rw [Nat.add_zero] at c0
      have HC := Lib.hid hcs
      have HA := Lib.hid ha
      have HL := Lib.hid hll
      clear hcs hcell ha hl1 hll
      go_wp2_with fail
      obtain ⟨wo, rfl⟩ : ∃ wo : World, wo = wr := ⟨_, rfl⟩
      go_loopw [4] (fun kv wi => ∃ k : Nat, kv = .int .i64 k ∧ 1 ≤ k ∧ k ≤ n' ∧ (∃ q, wi = wo.drewN q) ∧ Hid (∀ j, j < k → l'[j]? = some a)) (fun kv _ => n' - (intOf kv).toNat)
      case atStart => exact ⟨1, rfl, by omega, by omega, ⟨0, rfl⟩, Lib.hid (fun j hj => by rw [show j = 0 by omega]; exact HA.out)⟩
      case round =>
        obtain ⟨k, rfl, hk1, hkn, ⟨q, rfl⟩, HK⟩ := hrel
        by_cases hlt : k < n'
        · have dk : decide ((k : Int) < (n' : Int)) = true := by simp; omega
          obtain ⟨x, hx⟩ : ∃ x, l'[k]? = some x := ⟨_, List.getElem?_eq_getElem (by have := HL.out; omega)⟩
          have hbk : wo.cell? ⟨g, o + k, none⟩ = some (.int .i64 x) := HC.out k x hx
          have HX := Lib.hid hx
          clear hx
          by_cases hxa : x = a
          · have de : (x == a) = true := by rw [beq_iff_eq]; exact hxa
            go_wp2_with fail
            go_quiet (fail)
            go_wp2
            go_roundw
            case rel => exact ⟨k + 1, by go_num, by omega, by omega, ⟨q + nq, by first | rfl | simp⟩, Lib.hid (fun j hj => by
              by_cases hjk : j < k
              · exact HK.out j hjk
              · rw [show j = k by omega, HX.out, hxa])⟩
            case measure => simp [intOf] <;> omega
          · have de : (x == a) = false := by rw [beq_eq_false_iff_ne]; exact hxa
            go_wp2_with fail
            go_quiet (fail)
            have HN : Hid (l'[k]? ≠ some a) := Lib.hid (by rw [HX.out]; intro hh; injection hh with hh; exact hxa hh)
            obtain ⟨wd, hwd⟩ : ∃ x, (wo.drewN q).drewN nq = x := ⟨_, rfl⟩
            have d0 : wd.cell? ⟨g, o, none⟩ = some (.int .i64 a) := by rw [← hwd]; exact c0
            have hownd : wd.ownsRow w.heap.size RnT 2 u3 rs.length (rcells rs) := by rw [← hwd]; exact hown
            have hBd : Below w.heap.size w wd := by rw [← hwd]; exact below_dn (below_dn hB q) nq
            have hrd : Rd wd w.heap.size 1 (some ⟨g, o, none⟩) n' (ints l') := by rw [← hwd]; exact hr'
            rw [hwd]
            have hBzd := hBd.size
            clear hwd c0 hown hB hr'
            go_wp2_with (at_builtin; refine wpList_append_lies _ rfl (.tmp 24) (.tmp 30) 40 rfl w.heap.size RnT i0 (.agg #[.int .i64 0, .int .i64 0]) 2 16 Try.underlying40 hi0 hz0 hz1 hz2 rfl (by decide) _ rs.length (rcells rs) rfl (hownd.alloc _) ⟨wd.heap.size, 0, none⟩ 1 1 [.int .i64 k, .int .i64 a] rfl rfl (World.news_of_block (heap_alloc_new wd _)) (by intro u hu; simp at hu; rcases hu with rfl | rfl <;> rfl) (by omega) (by unfold maxLen; omega) (by omega) (by simp; omega) _ rfl ?_)
            intro gg cap w5 hown5 hgrow hat hlt5
            have hB5 : Below w.heap.size w w5 := (hBd.alloc hBzd _).grown hgrow (by simp; omega) (fun k hk => (hownd.lt k hk).1)
            have hR5 := rd_tail (hrd.below (w' := w5) ⟨hB5.os.trans hBd.os.symm, hB5.tape.trans hBd.tape.symm, hB5.output.trans hBd.output.symm, by have := hgrow.size; simp at this; omega, fun k hk => (hB5.block k hk).trans (hBd.block k hk).symm⟩) k hkn
            have HR5 : Hid (runs l = (rs ++ [(k, a)]) ++ runs (l'.drop k)) := Lib.hid (by rw [HR.out, runs_step hk1 HK.out HN.out]; simp)
            have hown6 : w5.ownsRow w.heap.size RnT 2 (.slice (some ⟨gg, 0, none⟩) (rs.length + 1) cap) (rs ++ [(k, a)]).length (rcells (rs ++ [(k, a)])) := by rw [rcells_app, List.length_append]; exact hown5
            clear hown5 hrd hownd d0 HC
            go_wp2
            refine ⟨⟨_, _, _, l'.drop k, rs ++ [(k, a)], rfl, by omega, by simp; omega, hR5, hown6, hB5, HR5⟩, by simp only [slen]; omega⟩
        · have dk : decide ((k : Int) < (n' : Int)) = false := by simp; omega
          have HN : Hid (l'[k]? ≠ some a) := Lib.hid (by rw [List.getElem?_eq_none (by have := HL.out; omega)]; simp)
          go_wp2_with fail
          go_quiet (fail)
          obtain ⟨wd, hwd⟩ : ∃ x, (wo.drewN q).drewN nq = x := ⟨_, rfl⟩
          have d0 : wd.cell? ⟨g, o, none⟩ = some (.int .i64 a) := by rw [← hwd]; exact c0
          have hownd : wd.ownsRow w.heap.size RnT 2 u3 rs.length (rcells rs) := by rw [← hwd]; exact hown
          have hBd : Below w.heap.size w wd := by rw [← hwd]; exact below_dn (below_dn hB q) nq
          have hrd : Rd wd w.heap.size 1 (some ⟨g, o, none⟩) n' (ints l') := by rw [← hwd]; exact hr'
          rw [hwd]
          have hBzd := hBd.size
          clear hwd c0 hown hB hr'
          go_wp2_with (at_builtin; refine wpList_append_lies _ rfl (.tmp 24) (.tmp 30) 40 rfl w.heap.size RnT i0 (.agg #[.int .i64 0, .int .i64 0]) 2 16 Try.underlying40 hi0 hz0 hz1 hz2 rfl (by decide) _ rs.length (rcells rs) rfl (hownd.alloc _) ⟨wd.heap.size, 0, none⟩ 1 1 [.int .i64 k, .int .i64 a] rfl rfl (World.news_of_block (heap_alloc_new wd _)) (by intro u hu; simp at hu; rcases hu with rfl | rfl <;> rfl) (by omega) (by unfold maxLen; omega) (by omega) (by simp; omega) _ rfl ?_)
          intro gg cap w5 hown5 hgrow hat hlt5
          have hB5 : Below w.heap.size w w5 := (hBd.alloc hBzd _).grown hgrow (by simp; omega) (fun k hk => (hownd.lt k hk).1)
          have hR5 := rd_tail (hrd.below (w' := w5) ⟨hB5.os.trans hBd.os.symm, hB5.tape.trans hBd.tape.symm, hB5.output.trans hBd.output.symm, by have := hgrow.size; simp at this; omega, fun k hk => (hB5.block k hk).trans (hBd.block k hk).symm⟩) k hkn
          have HR5 : Hid (runs l = (rs ++ [(k, a)]) ++ runs (l'.drop k)) := Lib.hid (by rw [HR.out, runs_step hk1 HK.out HN.out]; simp)
          have hown6 : w5.ownsRow w.heap.size RnT 2 (.slice (some ⟨gg, 0, none⟩) (rs.length + 1) cap) (rs ++ [(k, a)]).length (rcells (rs ++ [(k, a)])) := by rw [rcells_app, List.length_append]; exact hown5
          clear hown5 hrd hownd d0 HC
          go_wp2
          refine ⟨⟨_, _, _, l'.drop k, rs ++ [(k, a)], rfl, by omega, by simp; omega, ⟨by have := hR5.1; exact this, fun hh => absurd hh (by omega)⟩, hown6, hB5, HR5⟩, by simp only [slen]; omega⟩
end StaU
end Go.Proofs.Ytfkjogkpdebepaa
