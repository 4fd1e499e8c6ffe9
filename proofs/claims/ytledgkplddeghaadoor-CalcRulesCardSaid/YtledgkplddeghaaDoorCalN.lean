/- A name's value (both), and its number. Conditions: texts that fit. -/
import Derived.Test.YtledgkplddeghaaDoorCalQ
import Derived.Test.YtledgkplddeghaaDoorCalO
import Derived.Test.YtledgkplddeghaaDoorMemG
namespace Go.Proofs.YtledgkplddeghaaDoor
set_option linter.unusedVariables false
set_option linter.unusedSimpArgs false
open Go.RowKit
namespace CalW
open CalP QuoP MemP MemW
/-- The cuts. -/
structure Cu where
  (s0 s1 s2 s3 s4 s5 s6 s7 s8 s9 : ByteArray)
namespace Cu
def list (q : Cu) : List ByteArray := [q.s0, q.s1, q.s2, q.s3, q.s4, q.s5, q.s6, q.s7, q.s8, q.s9]
/-- As a value. -/
abbrev v (q : Cu) : List Value := [.string q.s0, .string q.s1, .string q.s2, .string q.s3, .string q.s4, .string q.s5, .string q.s6, .string q.s7, .string q.s8, .string q.s9]
end Cu
theorem cut_at (q : Cu) : ∀ i, i < 10 → q.v[i]? = some (.string (q.list.getD i ByteArray.empty)) := by
  intro i hi
  match i, hi with
  | 0, _ => rfl
  | 1, _ => rfl
  | 2, _ => rfl
  | 3, _ => rfl
  | 4, _ => rfl
  | 5, _ => rfl
  | 6, _ => rfl
  | 7, _ => rfl
  | 8, _ => rfl
  | 9, _ => rfl
/-- What name leaves. -/
def NamePost (l : List Vr) (q : Cu) (nm : ByteArray) (w : World) (x : Ending) (w' : World) : Prop :=
  Below w.heap.size w w' ∧ ((∃ v, nameV l q.list nm = .ok v ∧ x = .returned (.tuple #[.string v, .int .i64 0])) ∨ (nameV l q.list nm = .error 6 ∧ x = .returned (.tuple #[.string ⟨#[]⟩, .int .i64 6])))
theorem name_dig (l : List Vr) (cs : List ByteArray) (nm : ByteArray) (h1 : nm.size = 1) (hd : digB (nm[0]'(by omega)) = true) : nameV l cs nm = .ok (cs.getD ((nm[0]'(by omega)).toNat - 48) ByteArray.empty) := by
  have hl : nm.data.toList = [nm[0]'(by omega)] := by
    have h2 : nm.data.toList.length = 1 := by rw [← Lib.size_eq]; exact h1
    match hh : nm.data.toList, h2 with
    | [c], _ =>
      have : nm.data.toList[0]? = some c := by rw [hh]; rfl
      have h3 : nm.data.toList[0]? = some (nm[0]'(by omega)) := by rw [List.getElem?_eq_getElem (by omega)]; rfl
      rw [this] at h3; injection h3 with h3; rw [h3]
  unfold nameV
  rw [hl]
  simp only [hd, if_true]
theorem name_get (l : List Vr) (cs : List ByteArray) (nm : ByteArray) (h : ∀ h1 : nm.size = 1, digB (nm[0]'(by omega)) = false) : nameV l cs nm = match getV l nm with | none => .error 6 | some v => .ok v := by
  unfold nameV
  split
  · rename_i c hc
    have h2 : nm.data.toList.length = 1 := by rw [hc]; rfl
    have h1 : nm.size = 1 := by rw [Lib.size_eq]; exact h2
    have h3 : nm.data.toList[0]? = some (nm[0]'(by omega)) := by rw [List.getElem?_eq_getElem (by omega)]; rfl
    rw [hc] at h3
    have h4 : c = nm[0]'(by omega) := by simpa using h3
    rw [h4, if_neg (by rw [h h1]; decide)]
    cases getV l nm <;> rfl
  · rfl
set_option maxHeartbeats 1600000 in
set_option maxRecDepth 100000 in
theorem name_c (A : Option Addr) (n c : Nat) (l : List Vr) (q : Cu) (nm : ByteArray) (w : World) (hr : Vrs w w.heap.size A n l) (hn : n ≤ 4611686018427387904) :
    Calls Tryd.prog 26 #[.agg #[.slice A n c, .string q.s0, .string q.s1, .string q.s2, .string q.s3, .string q.s4, .string q.s5, .string q.s6, .string q.s7, .string q.s8, .string q.s9], .string nm] w (NamePost l q nm w) := by
  obtain ⟨wa, hwa⟩ : ∃ z : World, z = w.alloc (.cells ([.slice A n c, .string q.s0, .string q.s1, .string q.s2, .string q.s3, .string q.s4, .string q.s5, .string q.s6, .string q.s7, .string q.s8, .string q.s9] : List Value).toArray 57) := ⟨_, rfl⟩
  have XA := Lib.hid (show Blk wa w.heap.size 57 ([.slice A n c, .string q.s0, .string q.s1, .string q.s2, .string q.s3, .string q.s4, .string q.s5, .string q.s6, .string q.s7, .string q.s8, .string q.s9] : List Value).toArray by rw [hwa]; exact Blk.new _ _ _)
  have BA : Below w.heap.size w wa := by rw [hwa]; go_grown
  by_cases h1 : nm.size = 1
  · have e1 : ((nm.size : Int) == 1) = true := by rw [beq_iff_eq]; omega
    have hlt : 0 < nm.size := by omega
    obtain ⟨b, hb⟩ : ∃ b, nm[0]'hlt = b := ⟨_, rfl⟩
    have hbl := b.toNat_lt
    by_cases hd : digB b = true
    · have hd2 : 48 ≤ b.toNat ∧ b.toNat ≤ 57 := by simpa [digB] using hd
      have d1 : decide ((48 : Int) ≤ (b.toNat : Int)) = true := by simp; omega
      have d2 : decide ((b.toNat : Int) ≤ 57) = true := by simp; omega
      have d1n : decide (48 ≤ b.toNat) = true := by simp; omega
      have d2n : decide (b.toNat ≤ 57) = true := by simp; omega
      have HN := Lib.hid (show nameV l q.list nm = .ok (q.list.getD (b.toNat - 48) ByteArray.empty) by rw [name_dig l q.list nm h1 (by rw [hb]; exact hd), hb])
      obtain ⟨k, hk⟩ : ∃ k : Nat, b.toNat - 48 = k := ⟨_, rfl⟩
      have hk10 : k < 10 := by omega
      have hsub : ((b.toNat : Int) - 48) = (k : Int) := by omega
      have hw8 : IntKind.u8.wrap ((b.toNat : Int) - 48) = (k : Int) := by rw [hsub]; simp only [IntKind.wrap_u8]; omega
      rw [hk] at HN
      have ck : wa.cell? ⟨w.heap.size, 1 + k, none⟩ = some (.string (q.list.getD k ByteArray.empty)) := by
        rw [XA.out.cell]
        simp only [List.getElem?_toArray]
        rw [show 1 + k = k + 1 by omega, List.getElem?_cons_succ]; exact cut_at q k hk10
      generalize q.list.getD k ByteArray.empty = VV at *
      have e10 : decide ((10 : Int) ≤ (k : Int)) = false := by simp; omega
      rw [hwa] at ck
      go_enter Tryd.func26, Tryd.ntmps26
      go_wp2
      go_ret2
      exact ⟨by go_grown, Or.inl ⟨VV, HN.out, rfl⟩⟩
    · have hnd : digB b = false := by simpa using hd
      have HN := Lib.hid (name_get l q.list nm (fun h => by rw [hb]; exact hnd))
      by_cases d48 : 48 ≤ b.toNat
      · have d1 : decide ((48 : Int) ≤ (b.toNat : Int)) = true := by simp; omega
        have d1n : decide (48 ≤ b.toNat) = true := by simp; omega
        have d57 : ¬ b.toNat ≤ 57 := fun h => by simp [digB] at hnd; omega
        have d2 : decide ((b.toNat : Int) ≤ 57) = false := by simp; omega
        have d2n : decide (b.toNat ≤ 57) = false := by simp; omega
        clear hd hnd
        have cg := get_c A n c l nm wa ((hr.below BA).more BA.size) hn
        unfold GetPost at cg
        go_enter Tryd.func26, Tryd.ntmps26
        go_wp2_with fail
        rw [← hwa]
        clear hwa
        (with_reducible refine cg.mono ?_)
        rintro x w2 ⟨rfl, b2⟩
        have B2 := via b2 BA
        clear cg
        cases hg : getV l nm with
        | none =>
          have HN2 := Lib.hid (show nameV l q.list nm = .error 6 by rw [HN.out, hg])
          clear HN
          go_wp2
          go_ret2
          exact ⟨B2, Or.inr ⟨HN2.out, rfl⟩⟩
        | some v =>
          have HN2 := Lib.hid (show nameV l q.list nm = .ok v by rw [HN.out, hg])
          clear HN
          go_wp2
          go_ret2
          exact ⟨B2, Or.inl ⟨v, HN2.out, rfl⟩⟩
      · have d1 : decide ((48 : Int) ≤ (b.toNat : Int)) = false := by simp; omega
        have d1n : decide (48 ≤ b.toNat) = false := by simp; omega
        clear hd hnd
        have cg := get_c A n c l nm wa ((hr.below BA).more BA.size) hn
        unfold GetPost at cg
        go_enter Tryd.func26, Tryd.ntmps26
        go_wp2_with fail
        rw [← hwa]
        clear hwa
        (with_reducible refine cg.mono ?_)
        rintro x w2 ⟨rfl, b2⟩
        have B2 := via b2 BA
        clear cg
        cases hg : getV l nm with
        | none =>
          have HN2 := Lib.hid (show nameV l q.list nm = .error 6 by rw [HN.out, hg])
          clear HN
          go_wp2
          go_ret2
          exact ⟨B2, Or.inr ⟨HN2.out, rfl⟩⟩
        | some v =>
          have HN2 := Lib.hid (show nameV l q.list nm = .ok v by rw [HN.out, hg])
          clear HN
          go_wp2
          go_ret2
          exact ⟨B2, Or.inl ⟨v, HN2.out, rfl⟩⟩
  · have e1 : ((nm.size : Int) == 1) = false := by rw [beq_eq_false_iff_ne]; omega
    have HN := Lib.hid (name_get l q.list nm (fun h => absurd h h1))
    have cg := get_c A n c l nm wa ((hr.below BA).more BA.size) hn
    unfold GetPost at cg
    go_enter Tryd.func26, Tryd.ntmps26
    go_wp2_with fail
    rw [← hwa]
    clear hwa
    (with_reducible refine cg.mono ?_)
    rintro x w2 ⟨rfl, b2⟩
    have B2 := via b2 BA
    clear cg
    cases hg : getV l nm with
    | none =>
      have HN2 := Lib.hid (show nameV l q.list nm = .error 6 by rw [HN.out, hg])
      clear HN
      go_wp2
      go_ret2
      exact ⟨B2, Or.inr ⟨HN2.out, rfl⟩⟩
    | some v =>
      have HN2 := Lib.hid (show nameV l q.list nm = .ok v by rw [HN.out, hg])
      clear HN
      go_wp2
      go_ret2
      exact ⟨B2, Or.inl ⟨v, HN2.out, rfl⟩⟩
set_option maxHeartbeats 1600000 in
set_option maxRecDepth 100000 in
theorem rname_c (A : Option Addr) (n c : Nat) (l : List Vr) (q : Cu) (nm : ByteArray) (w : World) (hr : Vrs w w.heap.size A n l) (hn : n ≤ 4611686018427387904) :
    Calls Tryd.prog 30 #[.string nm, .slice A n c, .agg #[.string q.s0, .string q.s1, .string q.s2, .string q.s3, .string q.s4, .string q.s5, .string q.s6, .string q.s7, .string q.s8, .string q.s9]] w (NamePost l q nm w) := by
  obtain ⟨wa, hwa⟩ : ∃ z : World, z = w.alloc (.cells ([.string q.s0, .string q.s1, .string q.s2, .string q.s3, .string q.s4, .string q.s5, .string q.s6, .string q.s7, .string q.s8, .string q.s9] : List Value).toArray 34) := ⟨_, rfl⟩
  have XA := Lib.hid (show Blk wa w.heap.size 34 ([.string q.s0, .string q.s1, .string q.s2, .string q.s3, .string q.s4, .string q.s5, .string q.s6, .string q.s7, .string q.s8, .string q.s9] : List Value).toArray by rw [hwa]; exact Blk.new _ _ _)
  have BA : Below w.heap.size w wa := by rw [hwa]; go_grown
  by_cases h1 : nm.size = 1
  · have e1 : ((nm.size : Int) == 1) = true := by rw [beq_iff_eq]; omega
    have hlt : 0 < nm.size := by omega
    obtain ⟨b, hb⟩ : ∃ b, nm[0]'hlt = b := ⟨_, rfl⟩
    have hbl := b.toNat_lt
    by_cases hd : digB b = true
    · have hd2 : 48 ≤ b.toNat ∧ b.toNat ≤ 57 := by simpa [digB] using hd
      have d1 : decide ((48 : Int) ≤ (b.toNat : Int)) = true := by simp; omega
      have d2 : decide ((b.toNat : Int) ≤ 57) = true := by simp; omega
      have d1n : decide (48 ≤ b.toNat) = true := by simp; omega
      have d2n : decide (b.toNat ≤ 57) = true := by simp; omega
      have HN := Lib.hid (show nameV l q.list nm = .ok (q.list.getD (b.toNat - 48) ByteArray.empty) by rw [name_dig l q.list nm h1 (by rw [hb]; exact hd), hb])
      obtain ⟨k, hk⟩ : ∃ k : Nat, b.toNat - 48 = k := ⟨_, rfl⟩
      have hk10 : k < 10 := by omega
      have hsub : ((b.toNat : Int) - 48) = (k : Int) := by omega
      have hw8 : IntKind.u8.wrap ((b.toNat : Int) - 48) = (k : Int) := by rw [hsub]; simp only [IntKind.wrap_u8]; omega
      rw [hk] at HN
      have ck : wa.cell? ⟨w.heap.size, k, none⟩ = some (.string (q.list.getD k ByteArray.empty)) := by
        rw [XA.out.cell]
        simp only [List.getElem?_toArray]
        exact cut_at q k hk10
      generalize q.list.getD k ByteArray.empty = VV at *
      have e10 : decide ((10 : Int) ≤ (k : Int)) = false := by simp; omega
      rw [hwa] at ck
      go_enter Tryd.func30, Tryd.ntmps30
      go_wp2
      go_ret2
      exact ⟨by go_grown, Or.inl ⟨VV, HN.out, rfl⟩⟩
    · have hnd : digB b = false := by simpa using hd
      have HN := Lib.hid (name_get l q.list nm (fun h => by rw [hb]; exact hnd))
      by_cases d48 : 48 ≤ b.toNat
      · have d1 : decide ((48 : Int) ≤ (b.toNat : Int)) = true := by simp; omega
        have d1n : decide (48 ≤ b.toNat) = true := by simp; omega
        have d57 : ¬ b.toNat ≤ 57 := fun h => by simp [digB] at hnd; omega
        have d2 : decide ((b.toNat : Int) ≤ 57) = false := by simp; omega
        have d2n : decide (b.toNat ≤ 57) = false := by simp; omega
        clear hd hnd
        have cg := rget_c A n c l nm wa ((hr.below BA).more BA.size) hn
        unfold GetPost at cg
        go_enter Tryd.func30, Tryd.ntmps30
        go_wp2_with fail
        rw [← hwa]
        clear hwa
        (with_reducible refine cg.mono ?_)
        rintro x w2 ⟨rfl, b2⟩
        have B2 := via b2 BA
        clear cg
        cases hg : getV l nm with
        | none =>
          have HN2 := Lib.hid (show nameV l q.list nm = .error 6 by rw [HN.out, hg])
          clear HN
          go_wp2
          go_ret2
          exact ⟨B2, Or.inr ⟨HN2.out, rfl⟩⟩
        | some v =>
          have HN2 := Lib.hid (show nameV l q.list nm = .ok v by rw [HN.out, hg])
          clear HN
          go_wp2
          go_ret2
          exact ⟨B2, Or.inl ⟨v, HN2.out, rfl⟩⟩
      · have d1 : decide ((48 : Int) ≤ (b.toNat : Int)) = false := by simp; omega
        have d1n : decide (48 ≤ b.toNat) = false := by simp; omega
        clear hd hnd
        have cg := rget_c A n c l nm wa ((hr.below BA).more BA.size) hn
        unfold GetPost at cg
        go_enter Tryd.func30, Tryd.ntmps30
        go_wp2_with fail
        rw [← hwa]
        clear hwa
        (with_reducible refine cg.mono ?_)
        rintro x w2 ⟨rfl, b2⟩
        have B2 := via b2 BA
        clear cg
        cases hg : getV l nm with
        | none =>
          have HN2 := Lib.hid (show nameV l q.list nm = .error 6 by rw [HN.out, hg])
          clear HN
          go_wp2
          go_ret2
          exact ⟨B2, Or.inr ⟨HN2.out, rfl⟩⟩
        | some v =>
          have HN2 := Lib.hid (show nameV l q.list nm = .ok v by rw [HN.out, hg])
          clear HN
          go_wp2
          go_ret2
          exact ⟨B2, Or.inl ⟨v, HN2.out, rfl⟩⟩
  · have e1 : ((nm.size : Int) == 1) = false := by rw [beq_eq_false_iff_ne]; omega
    have HN := Lib.hid (name_get l q.list nm (fun h => absurd h h1))
    have cg := rget_c A n c l nm wa ((hr.below BA).more BA.size) hn
    unfold GetPost at cg
    go_enter Tryd.func30, Tryd.ntmps30
    go_wp2_with fail
    rw [← hwa]
    clear hwa
    (with_reducible refine cg.mono ?_)
    rintro x w2 ⟨rfl, b2⟩
    have B2 := via b2 BA
    clear cg
    cases hg : getV l nm with
    | none =>
      have HN2 := Lib.hid (show nameV l q.list nm = .error 6 by rw [HN.out, hg])
      clear HN
      go_wp2
      go_ret2
      exact ⟨B2, Or.inr ⟨HN2.out, rfl⟩⟩
    | some v =>
      have HN2 := Lib.hid (show nameV l q.list nm = .ok v by rw [HN.out, hg])
      clear HN
      go_wp2
      go_ret2
      exact ⟨B2, Or.inl ⟨v, HN2.out, rfl⟩⟩
end CalW
end Go.Proofs.YtledgkplddeghaaDoor
