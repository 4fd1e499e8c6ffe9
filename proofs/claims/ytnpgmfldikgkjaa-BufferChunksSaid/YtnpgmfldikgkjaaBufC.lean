/- The walk of BufferCalls. Conditions: texts that fit, numbers of 64 bits. -/
import Derived.Test.YtnpgmfldikgkjaaBufA
namespace Go.Proofs.Ytnpgmfldikgkjaa
open Go.RowKit
namespace BufW
set_option maxRecDepth 100000 in
set_option maxHeartbeats 1600000 in
theorem calls_yes (s : Sd) (n m : Int) (w : World) (ls : List ByteArray) (gs : List Int) (hl : Lists s w ls gs) (n0 : -9223372036854775808 ≤ n) (n1 : n ≤ 9223372036854775807) (m0 : -9223372036854775808 ≤ m) (m1 : m ≤ 9223372036854775807) :
    Calls Try.prog 6 #[s.v, .int .i64 n, .int .i64 m] w fun e w' => e = .returned (.bool true) ∧ Below w.heap.size w w' := by
  have ca := fun W => awake_c W
  go_enter Try.func6, Try.ntmps6
  go_wp2_with fail
  refine (ca _).mono ?_
  rintro e w1 ⟨rfl, hb⟩
  have hB := via (a := w) hb (by go_grown)
  have B1 := (Blk.new _ _ _).next hb
  have k1 := B1.cell
  have z1 := B1.lt
  clear hb
  go_wp2_with fail
  refine (small_c s w1 ls gs (hl.keep hB)).mono ?_
  rintro e w2 ⟨b, rfl, hfit, hb⟩
  have hB2 := via (a := w) hb hB
  replace B1 := B1.next hb
  clear hb hB k1 z1
  have k1 := B1.cell
  have z1 := B1.lt
  cases b
  · go_wp2_with fail
    go_ret
    exact ⟨rfl, hB2⟩
  obtain ⟨b0, b1, b2⟩ := hfit rfl
  have hs : s.Fits := ⟨by omega, by omega, by omega⟩
  clear hfit
  obtain ⟨r, q, hq, ct, cr_⟩ := take_both s n m hs m0 m1
  go_wp2_with fail
  refine (ct _).mono ?_
  rintro e w3 ⟨rfl, hb⟩
  have hB3 := via (a := w) hb hB2
  replace B1 := B1.next hb
  clear hb hB2 k1 z1
  have k1 := B1.cell
  have z1 := B1.lt
  go_wp2_with fail
  refine (cr_ _).mono ?_
  rintro e w4 ⟨rfl, hb⟩
  have hB4 := via (a := w) hb (by go_grown)
  replace B1 := (B1.alloc _).next hb
  have B2 := (Blk.new _ _ _).next hb
  clear hb hB3 k1 z1
  have k1 := B1.cell
  have z1 := B1.lt
  have k2 := B2.cell
  have z2 := B2.lt
  have ce := end_c s
  have co := over_c s
  have cr := rover_c s
  generalize overB s.a s.b s.c s.fl s.re = t at *
  cases t
  · simp only [Bool.false_eq_true, if_false] at ce
    go_wp2_with fail
    refine (ce _).mono ?_
    rintro e w5 ⟨rfl, hb⟩
    have hB5 := via (a := w) hb (by go_grown)
    replace B1 := (B1.alloc _).next hb
    replace B2 := (B2.alloc _).next hb
    have B3 := (Blk.new _ _ _).next hb
    clear hb hB4 k1 z1 k2 z2
    have k1 := B1.cell
    have z1 := B1.lt
    go_wp2_with fail
    refine (cr _).mono ?_
    rintro e w6 ⟨rfl, hb⟩
    have hB6 := via (a := w) hb (by go_grown)
    replace B1 := (B1.alloc _).next hb
    replace B2 := (B2.alloc _).next hb
    replace B3 := (B3.alloc _).next hb
    have B4 := (Blk.new _ _ _).next hb
    clear hb hB5 k1 z1
    have k1 := B4.cell
    have z1 := B4.lt
    go_wp2_with fail
    refine (same_c zero _ [] [] ⟨Rd.nil, Rd.nil, by decide, by decide⟩).mono ?_
    rintro e w7 ⟨rfl, hb⟩
    have hB7 := via (a := w) hb hB6
    replace B1 := B1.next hb
    replace B2 := B2.next hb
    replace B3 := B3.next hb
    clear hb hB6 k1 z1 B4
    go_wp2_with fail
    obtain ⟨ls2, gs2, hr⟩ := lists_of s r w ls gs hl hq
    have K1 := B1.cls
    have K2 := B2.cls
    have K3 := B3.cls
    have cx := fun x : Cls w7 => call_cls (same_c r x.val ls2 gs2 (hr _ (via x.ok hB7)))
    have cm := fun x : Cls w7 => call_cls (most_c s x.val m hs m0 m1)
    have crm := fun x : Cls w7 => call_cls (rmost_c s x.val m hs m0 m1)
    have cov := fun x : Cls w7 => call_cls (co x.val)
    have crov := fun x : Cls w7 => call_cls (cr x.val)
    have cf := fun x : Cls w7 => call_cls (full_c s x.val m)
    have cd := fun x : Cls w7 => call_cls (drop_c s x.val n hs)
    have crd := fun x : Cls w7 => call_cls (rdrop_c s x.val n n0 n1)
    have cs := fun x : Cls w7 => call_cls (same_c { s with bu := dropS s.bu n } x.val ls gs (have h := hl.keep (via x.ok hB7); ⟨h.l, h.g, h.ll, h.gl⟩))
    generalize mostI s.re s.bu m = t1 at *
    generalize dropS s.bu n = t2 at *
    clear ce co cr ct cr_ ca hr
    refine wp_region_cls (by kernel_rfl) (by kernel_rfl) ?_
    repeat (quiet_step (first
        | (go_at_call 22; first | (with_reducible exact cx _) | (with_reducible exact cs _))
        | (go_at_call 23; with_reducible exact cm _)
        | (go_at_call 18; with_reducible exact crm _)
        | (go_at_call 24; with_reducible exact cov _)
        | (go_at_call 21; with_reducible exact crov _)
        | (go_at_call 25; with_reducible exact cf _)
        | (go_at_call 26; with_reducible exact cd _)
        | (go_at_call 27; with_reducible exact crd _)))
    refine wpQuiet_nil ?_
    rintro _ ⟨y, rfl⟩
    have hB9 := via (a := w) y.ok hB7
    generalize y.val = w9 at *
    go_wp2
    go_ret
    exact ⟨rfl, hB9⟩
  · simp only [if_true] at ce
    go_wp2_with fail
    refine (ce _).mono ?_
    rintro e w5 ⟨rfl, hb⟩
    have hB5 := via (a := w) hb (by go_grown)
    replace B1 := (B1.alloc _).next hb
    replace B2 := (B2.alloc _).next hb
    have B3 := (Blk.new _ _ _).next hb
    clear hb hB4 k1 z1 k2 z2
    have k1 := B1.cell
    have z1 := B1.lt
    go_wp2_with fail
    refine (cr _).mono ?_
    rintro e w6 ⟨rfl, hb⟩
    have hB6 := via (a := w) hb (by go_grown)
    replace B1 := (B1.alloc _).next hb
    replace B2 := (B2.alloc _).next hb
    replace B3 := (B3.alloc _).next hb
    have B4 := (Blk.new _ _ _).next hb
    clear hb hB5 k1 z1
    have k1 := B1.cell
    have z1 := B1.lt
    have k4 := B4.cell
    have z4 := B4.lt
    go_wp2_with fail
    have hle := hl.keep hB6
    refine (same_c { s with c := true } _ ls gs (have h := hl.keep (w' := w6.alloc _) (by go_grown); ⟨h.l, h.g, h.ll, h.gl⟩)).mono ?_
    rintro e w7 ⟨rfl, hb⟩
    have hB7 := via (a := w) hb (by go_grown)
    replace B1 := (B1.alloc _).next hb
    replace B2 := (B2.alloc _).next hb
    replace B3 := (B3.alloc _).next hb
    clear hb hB6 k1 z1 k4 z4 B4
    go_wp2_with fail
    obtain ⟨ls2, gs2, hr⟩ := lists_of s r w ls gs hl hq
    have K1 := B1.cls
    have K2 := B2.cls
    have K3 := B3.cls
    have cx := fun x : Cls w7 => call_cls (same_c r x.val ls2 gs2 (hr _ (via x.ok hB7)))
    have cm := fun x : Cls w7 => call_cls (most_c s x.val m hs m0 m1)
    have crm := fun x : Cls w7 => call_cls (rmost_c s x.val m hs m0 m1)
    have cov := fun x : Cls w7 => call_cls (co x.val)
    have crov := fun x : Cls w7 => call_cls (cr x.val)
    have cf := fun x : Cls w7 => call_cls (full_c s x.val m)
    have cd := fun x : Cls w7 => call_cls (drop_c s x.val n hs)
    have crd := fun x : Cls w7 => call_cls (rdrop_c s x.val n n0 n1)
    have cs := fun x : Cls w7 => call_cls (same_c { s with bu := dropS s.bu n } x.val ls gs (have h := hl.keep (via x.ok hB7); ⟨h.l, h.g, h.ll, h.gl⟩))
    generalize mostI s.re s.bu m = t1 at *
    generalize dropS s.bu n = t2 at *
    clear ce co cr ct cr_ ca hr
    refine wp_region_cls (by kernel_rfl) (by kernel_rfl) ?_
    repeat (quiet_step (first
        | (go_at_call 22; first | (with_reducible exact cx _) | (with_reducible exact cs _))
        | (go_at_call 23; with_reducible exact cm _)
        | (go_at_call 18; with_reducible exact crm _)
        | (go_at_call 24; with_reducible exact cov _)
        | (go_at_call 21; with_reducible exact crov _)
        | (go_at_call 25; with_reducible exact cf _)
        | (go_at_call 26; with_reducible exact cd _)
        | (go_at_call 27; with_reducible exact crd _)))
    refine wpQuiet_nil ?_
    rintro _ ⟨y, rfl⟩
    have hB9 := via (a := w) y.ok hB7
    generalize y.val = w9 at *
    go_wp2
    go_ret
    exact ⟨rfl, hB9⟩
end BufW
end Go.Proofs.Ytnpgmfldikgkjaa
