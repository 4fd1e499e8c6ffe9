/- The walks of the reference's May, of the law's small and of Plain. Conditions: texts that fit. -/
import Derived.Test.YtledgkplddeghaaDoorPartM
import Derived.Test.YtledgkplddeghaaDoorMemG
namespace Go.Proofs.YtledgkplddeghaaDoor
set_option linter.unusedVariables false
set_option linter.unusedSimpArgs false
open Go.RowKit
namespace QuoL
open QuoP QuoW
open MemW (quiet_w)
/-- The state behind k parts: whether the last is a text. -/
def Stt (l : List Pt) (k : Nat) (x : Bool) : Prop := (l.take k).foldl mstep (some false) = some x ∧ (k = 0 → x = false) ∧ ∀ j p, k = j + 1 → l[j]? = some p → x = p.1.isEmpty
theorem stt_zero (l : List Pt) : Stt l 0 false := ⟨rfl, fun _ => rfl, fun j p h => by omega⟩
theorem stt_next {l : List Pt} {k : Nat} {x y : Bool} {p : Pt} (h : Stt l k x) (hp : l[k]? = some p) (hm : mstep (some x) p = some y) (hy : y = p.1.isEmpty) : Stt l (k + 1) y := by
  refine ⟨by rw [mst_take l k p hp, h.1, hm], fun e => by omega, fun j q e hq => ?_⟩
  obtain rfl : j = k := by omega
  rw [hp] at hq; cases hq; exact hy
set_option maxHeartbeats 3200000 in
theorem rmay_c (A : Option Addr) (n c : Nat) (l : List Pt) (w : World) (hr : Pts w w.heap.size A n l) (hf : FitP l) (hn : n ≤ 4611686018427387904) :
    Calls Tryd.prog 29 #[.slice A n c] w fun e w' => e = .returned (.bool (mayB l)) ∧ Below w.heap.size w w' := by
  have hl := Pts.len hr
  obtain ⟨r, hR⟩ : ∃ r, mayB l = r := ⟨_, rfl⟩
  have HR := Lib.hid hR
  rw [hR]
  clear hR
  have HF := Lib.hid hf
  clear hf
  go_enter Tryd.func29, Tryd.ntmps29
  go_wp2
  go_loopw [3] (fun v wr => ∃ (k : Nat) (x : Bool), v = .int .i64 k ∧ k ≤ n ∧ Hid (Stt l k x) ∧ ∃ m, wr = w.drewN m) (fun v _ => n - (intOf v).toNat)
  case atStart => exact ⟨0, false, rfl, by omega, stt_zero l, 0, rfl⟩
  case round =>
    obtain ⟨k, x, rfl, hk, hx, m, rfl⟩ := hrel
    by_cases hlt : k < n
    · obtain ⟨g, o, ⟨nm, tx⟩, rfl, hb, hp, q1, q2⟩ := Pts.get hr hlt
      have MS := Lib.hid (mst_take l k _ hp)
      have HP := Lib.hid hp
      have fm := (HF.out _ (List.mem_of_getElem? hp)).1
      simp only at q1 q2 fm
      have en := ba_empty nm
      have et := ba_empty tx
      have cn := fun W => rname_c (ba nm) W (by rw [ba_size]; exact fm)
      rw [ba_list] at cn
      generalize ba nm = bn at *
      generalize ba tx = bt at *
      clear hp
      have hgr := hr
      obtain ⟨wd, hwd⟩ : ∃ x, w.drewN m = x := ⟨_, rfl⟩
      rw [hwd]
      have q1 : wd.cell? ⟨g, o + k * 2, none⟩ = some (.string bn) := by subst hwd; exact q1
      have q2 : wd.cell? ⟨g, o + k * 2 + 1, none⟩ = some (.string bt) := by subst hwd; exact q2
      cases h1 : nm.isEmpty <;> rw [h1] at en <;> cases h2 : tx.isEmpty <;> rw [h2] at et
      · have HB := Lib.hid (mst_bad l (k + 1) (by rw [MS.out, hx.out.1, ms_bad h1 (by rw [h2]; rfl)]))
        go_wp2_with fail
        go_quiet (fail)
        go_wp2_with fail
        go_ret
        exact ⟨by rw [← HR.out, HB.out]; rfl, by subst hwd; exact below_dn (below_dn (Below.refl _ _) _) _⟩
      · cases h3 : nameB nm <;> rw [h3] at cn
        · have HB := Lib.hid (mst_bad l (k + 1) (by rw [MS.out, hx.out.1, ms_bad h1 (by rw [h2, h3]; rfl)]))
          go_wp2_with fail
          go_quiet (fail)
          generalize hq : wd.drewN nq = wq
          have q1 : wq.cell? ⟨g, o + k * 2, none⟩ = some (.string bn) := by subst hq; exact q1
          go_wp2_with (first | (with_reducible refine (cn _).mono ?_; rintro e w' ⟨rfl, rfl⟩))
          go_ret
          exact ⟨by rw [← HR.out, HB.out]; rfl, by subst hq; subst hwd; exact below_dn (below_dn (Below.refl _ _) _) _⟩
        · have HG := Lib.hid (ms_var (x := x) h1 h2 h3)
          go_wp2_with fail
          go_quiet (fail)
          generalize hq : wd.drewN nq = wq
          have q1 : wq.cell? ⟨g, o + k * 2, none⟩ = some (.string bn) := by subst hq; exact q1
          go_wp2_with (first | (with_reducible refine (cn _).mono ?_; rintro e w' ⟨rfl, rfl⟩))
          all_goals (try go_wp2)
          all_goals go_roundw
          all_goals first
            | exact ⟨k + 1, false, by go_num, by omega, stt_next hx.out HP.out HG.out h1.symm, m + nq, by subst hq; subst hwd; simp [World.drewN, Nat.add_assoc]⟩
            | (simp [intOf]; omega)
      · by_cases hk0 : k = 0
        · subst hk0
          obtain rfl : x = false := hx.out.2.1 rfl
          have HG := Lib.hid (ms_text h1 h2)
          simp only [Nat.zero_mul, Nat.add_zero] at q1 q2
          go_wp2_with fail
          go_quiet (fail)
          generalize hq : wd.drewN nq = wq
          have q1 : wq.cell? ⟨g, o, none⟩ = some (.string bn) := by subst hq; exact q1
          go_wp2
          all_goals go_roundw
          all_goals first
            | exact ⟨0 + 1, true, by go_num, by omega, stt_next hx.out HP.out HG.out h1.symm, m + nq, by subst hq; subst hwd; simp [World.drewN, Nat.add_assoc]⟩
            | (simp [intOf]; omega)
        · obtain ⟨j, rfl⟩ : ∃ j, k = j + 1 := ⟨k - 1, by omega⟩
          obtain ⟨g', o', p', he, hg', hpj, r1, r2⟩ := Pts.get hgr (k := j) (by omega)
          cases he
          have hxx := hx.out.2.2 j p' rfl hpj
          have ej := ba_empty p'.1
          rw [← hxx] at ej
          obtain ⟨bj, hbj⟩ : ∃ y, ba p'.1 = y := ⟨_, rfl⟩
          rw [hbj] at r1 ej
          clear hpj hxx hbj r2
          cases x
          · have HG := Lib.hid (ms_text h1 h2)
            go_wp2_with fail
            go_quiet (fail)
            generalize hq : wd.drewN nq = wq
            have q1 : wq.cell? ⟨g, o + (j + 1) * 2, none⟩ = some (.string bn) := by subst hq; exact q1
            have r1 : wq.cell? ⟨g, o + j * 2, none⟩ = some (.string bj) := by subst hq; subst hwd; exact r1
            go_wp2
            all_goals go_roundw
            all_goals first
              | exact ⟨j + 1 + 1, true, by go_num, by omega, stt_next hx.out HP.out HG.out h1.symm, m + nq, by subst hq; subst hwd; simp [World.drewN, Nat.add_assoc]⟩
              | (simp [intOf]; omega)
          · have HB := Lib.hid (mst_bad l (j + 1 + 1) (by rw [MS.out, hx.out.1, ms_none h1 (by simp)]))
            go_wp2_with fail
            go_quiet (fail)
            generalize hq : wd.drewN nq = wq
            have q1 : wq.cell? ⟨g, o + (j + 1) * 2, none⟩ = some (.string bn) := by subst hq; exact q1
            have r1 : wq.cell? ⟨g, o + j * 2, none⟩ = some (.string bj) := by subst hq; subst hwd; exact r1
            go_wp2
            go_ret
            exact ⟨by rw [← HR.out, HB.out]; rfl, by subst hq; subst hwd; exact below_dn (below_dn (Below.refl _ _) _) _⟩
      · have HB := Lib.hid (mst_bad l (k + 1) (by rw [MS.out, hx.out.1, ms_none h1 (by rw [h2]; rfl)]))
        go_wp2_with fail
        go_quiet (fail)
        go_wp2_with fail
        go_ret
        exact ⟨by rw [← HR.out, HB.out]; rfl, by subst hwd; exact below_dn (below_dn (Below.refl _ _) _) _⟩
    · obtain rfl : k = n := by omega
      have HA := Lib.hid (mst_all l x _ (by omega) hx.out.1)
      go_wp2
      go_ret
      exact ⟨by rw [← HR.out, HA.out]; rfl, below_dn (Below.refl _ _) _⟩
end QuoL
end Go.Proofs.YtledgkplddeghaaDoor
