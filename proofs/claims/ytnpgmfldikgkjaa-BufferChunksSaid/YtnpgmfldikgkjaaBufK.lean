/- The walk of BufferChunks. Conditions: texts that fit, numbers of 64 bits. -/
import Derived.Test.YtnpgmfldikgkjaaBufA
namespace Go.Proofs.Ytnpgmfldikgkjaa
open Go.RowKit
namespace BufW
theorem take_app (s : Sd) (n : Int) : (take s n).bu ++ (take s n).re = s.bu ++ s.re := by
  apply bytes_ext
  simp only [take, ByteArray.data_append, Array.toList_append, Lib.extract_data]
  rw [List.append_assoc]
  congr 1
  rw [List.drop_zero, Nat.sub_zero, List.take_of_length_le (l := List.drop _ _) (by rw [List.length_drop, ← Lib.size_eq]; omega)]
  exact List.take_append_drop _ _
theorem take_len (s : Sd) (n : Int) (h0 : 0 ≤ n) (h : n ≤ s.re.size) : ((take s n).bu.size : Int) = s.bu.size + n ∧ (take s n).re.size + (take s n).bu.size = s.re.size + s.bu.size := by
  simp only [take, ByteArray.size_append, ByteArray.size_extract]
  omega
theorem setL {w : World} {g : Nat} {t : TypeId} {l : List Value} (h : Blk w g t l.toArray) (i : Nat) (u : Value) : Blk (w.setCell ⟨g, i, none⟩ u) g t (l.set i u).toArray := by
  have h1 := h.set_ i u
  rwa [List.setIfInBounds_toArray] at h1
theorem set11 {w : World} {g : Nat} {t : TypeId} {c0 c1 c2 c3 c4 c5 c6 c7 c8 c9 c10 : Value} (h : Blk w g t #[c0, c1, c2, c3, c4, c5, c6, c7, c8, c9, c10]) (v0 v1 v2 v3 v4 v5 v6 v7 v8 v9 v10 : Value) :
    Blk (((((((((((w.setCell ⟨g, 0, none⟩ v0).setCell ⟨g, 1, none⟩ v1).setCell ⟨g, 2, none⟩ v2).setCell ⟨g, 3, none⟩ v3).setCell ⟨g, 4, none⟩ v4).setCell ⟨g, 5, none⟩ v5).setCell ⟨g, 6, none⟩ v6).setCell ⟨g, 7, none⟩ v7).setCell ⟨g, 8, none⟩ v8).setCell ⟨g, 9, none⟩ v9).setCell ⟨g, 10, none⟩ v10) g t #[v0, v1, v2, v3, v4, v5, v6, v7, v8, v9, v10] := by
  have h1 := setL (setL (setL (setL (setL (setL (setL (setL (setL (setL (setL h 0 v0) 1 v1) 2 v2) 3 v3) 4 v4) 5 v5) 6 v6) 7 v7) 8 v8) 9 v9) 10 v10
  simpa only [List.set_cons_zero, List.set_cons_succ] using h1
set_option maxRecDepth 100000 in
set_option maxHeartbeats 1600000 in
theorem chunks_yes (s0 : Sd) (A : Option Addr) (ln cap : Nat) (ns : List Int) (m : Int) (w : World) (ls : List ByteArray) (gs : List Int) (hl : Lists s0 w ls gs) (hr : Rd w w.heap.size 1 A ln (ns.map (Value.int .i64))) (hns : ∀ z ∈ ns, -9223372036854775808 ≤ z ∧ z ≤ 9223372036854775807) (hln : ln ≤ maxLen)
    (m0 : -9223372036854775808 ≤ m) (m1 : m ≤ 9223372036854775807) :
    Calls Try.prog 5 #[s0.v, .slice A ln cap, .int .i64 m] w fun e w' => e = .returned (.bool true) ∧ Below w.heap.size w w' := by
  have ca := fun W => awake_c W
  simp only [maxLen] at hln
  have HN := Lib.hid hns
  have HR := Lib.hid hr
  clear hns hr
  go_enter Try.func5, Try.ntmps5
  go_wp2_with fail
  refine (ca _).mono ?_
  rintro e w1 ⟨rfl, hb⟩
  have hB := via (a := w) hb (by go_grown)
  have B1 := (Blk.new _ _ _).next hb
  have k1 := B1.cell
  have z1 := B1.lt
  clear hb
  go_wp2_with fail
  refine (small_c s0 w1 ls gs (hl.keep hB)).mono ?_
  rintro e w2 ⟨b, rfl, hfit, hb⟩
  have hB2 := via (a := w) hb hB
  replace B1 := B1.next hb
  clear hb hB k1 z1
  have k1 := B1.cell
  have z1 := B1.lt
  cases b
  · go_wp2_with fail
    go_ret
    exact ⟨rfl, hB2⟩
  obtain ⟨b0, b1, b2⟩ := hfit rfl
  clear hfit
  by_cases h30 : 30 < ln
  · go_wp2_with fail
    go_ret
    exact ⟨rfl, hB2⟩
  go_wp2_with fail
  clear k1 z1
  go_loopw [29] (fun v wr => ∃ (k : Nat) (s : Sd), k ≤ ln ∧ v = .int .i64 k ∧ Below w.heap.size w wr ∧ Blk wr w.heap.size 32 s.v.cells ∧ s.re.size + s.bu.size ≤ 200 ∧ s.fl.size ≤ 40 ∧ Hid (s.bu ++ s.re = s0.bu ++ s0.re)) (fun v _ => ln - (intOf v).toNat)
  case atStart => exact ⟨0, s0, by omega, rfl, hB2, B1, by omega, by omega, rfl⟩
  case round =>
    clear hB2 B1
    obtain ⟨k, s, hk, rfl, hB2, B1, hz, hf, HE⟩ := hrel
    have k1 : ∀ o, wr.cell? ⟨w.heap.size, o, none⟩ = #[Value.bool s.a, .bool s.b, .bool s.c, .int .i64 s.p, .int .i64 s.k, .string s.ty, .slice s.la s.ln s.lc, .string s.fl, .slice s.ga s.gn s.gc, .string s.re, .string s.bu][o]? := B1.cell
    have z1 := B1.lt
    by_cases hlt : k < ln
    · obtain ⟨ad, n, rfl, hb, hx, hc⟩ := (HR.out.below hB2).num hlt
      obtain ⟨n0, n1⟩ := HN.out n (List.mem_of_getElem? hx)
      have hs : s.Fits := ⟨by omega, by omega, by omega⟩
      clear hx
      by_cases hno : n < 1 ∨ mostI s.re s.bu m < n
      · have ct := fun W => take_no s W n m hs m0 m1 hno
        have crm := fun W => rmost_c s W m hs m0 m1
        generalize mostI s.re s.bu m = t at *
        go_wp2_with fail
        refine (ct _).mono ?_
        rintro e w3 ⟨rfl, hb3⟩
        have hB3 := via (a := w) hb3 hB2
        replace B1 := B1.next hb3
        clear hb3 k1 z1 hc
        have k1 : ∀ o, w3.cell? ⟨w.heap.size, o, none⟩ = #[Value.bool s.a, .bool s.b, .bool s.c, .int .i64 s.p, .int .i64 s.k, .string s.ty, .slice s.la s.ln s.lc, .string s.fl, .slice s.ga s.gn s.gc, .string s.re, .string s.bu][o]? := B1.cell
        have z1 := B1.lt
        by_cases h1 : n < 1
        · go_wp2_with fail
          go_roundw
          case rel => exact ⟨k + 1, s, by omega, by go_num, by go_grown, B1.alloc _, by omega, by omega, HE⟩
          case measure => simp [intOf]; omega
        · go_wp2_with fail
          refine (crm _).mono ?_
          rintro e w4 ⟨rfl, hb4⟩
          have hB4 := via (a := w) hb4 (by go_grown)
          replace B1 := (B1.alloc _).next hb4
          have hno2 : t < n := by omega
          clear hb4 k1 z1
          go_wp2_with fail
          go_roundw
          case rel => exact ⟨k + 1, s, by omega, by go_num, hB4, B1, by omega, by omega, HE⟩
          case measure => simp [intOf]; omega
      · have ct := fun W => take_yes s W n m hs m0 m1 (by omega) (by omega)
        obtain ⟨q1, q2⟩ := most_bd s.re s.bu m n (by omega) (by omega)
        obtain ⟨l1, l2⟩ := take_len s n (by omega) q1
        have ha := (take_app s n).trans HE.out
        have hfl : (take s n).fl = s.fl := rfl
        generalize take s n = r at *
        have HA := Lib.hid ha
        have HT : ((r.bu ++ r.re).toList == (s0.bu ++ s0.re).toList) = true := by rw [ha]; simp
        have HF := Lib.hid hfl
        clear ha hfl
        go_wp2_with fail
        refine (ct _).mono ?_
        rintro e w3 ⟨rfl, hb3⟩
        have hB3 := via (a := w) hb3 hB2
        replace B1 := B1.next hb3
        clear hb3 k1 z1 hc
        have k1 : ∀ o, w3.cell? ⟨w.heap.size, o, none⟩ = #[Value.bool s.a, .bool s.b, .bool s.c, .int .i64 s.p, .int .i64 s.k, .string s.ty, .slice s.la s.ln s.lc, .string s.fl, .slice s.ga s.gn s.gc, .string s.re, .string s.bu][o]? := B1.cell
        have f1 := B1.loose
        have z1 := B1.lt
        go_wp2_with fail
        go_roundw
        case rel =>
          have hfl := HF.out
          refine ⟨k + 1, r, by omega, by go_num, ?_, ?_, by omega, by rw [hfl]; omega, HA.out⟩
          · go_grown
          · exact (set11 B1 _ _ _ _ _ _ _ _ _ _ _).alloc _
        case measure => simp [intOf]; omega
    · go_wp2_with fail
      go_ret
      exact ⟨rfl, hB2⟩
end BufW
end Go.Proofs.Ytnpgmfldikgkjaa
