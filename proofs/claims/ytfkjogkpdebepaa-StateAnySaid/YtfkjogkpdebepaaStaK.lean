/- The walk of awake. No condition. -/
import Derived.Test.YtfkjogkpdebepaaStaO
import Derived.Test.YtfkjogkpdebepaaStaQ
import Derived.Test.YtfkjogkpdebepaaStaM
namespace Go.Proofs.Ytfkjogkpdebepaa
open Go.RowKit
namespace StaE
open StaP StaL StaW StaG StaX StaD StaZ StaQ Rowk
theorem nd_shape {w : World} {B : Nat} {cs : Array Value} {m : MNd} (h : NdR w B cs m) : cs.size = 22 ∧ cs.all (·.oneCell') = true := by
  obtain ⟨a1, c1, a2, c2, a3, c3, a4, c4, a5, c5, ds, rfl, ok, _⟩ := h
  have ocl := ok.2.2.2.2.2.2.2.2.1.1
  obtain ⟨ta, pc, md, er, us, ti, el, vs, cu, st, bf, af, so⟩ := m
  obtain ⟨x0, x1, x2, x3, x4, x5, x6, x7, x8, x9, rfl⟩ := ten cu ocl
  simp only [ndArr]
  rw [cut10]
  exact ⟨rfl, by simp [Value.oneCell']⟩
theorem side_len (m : MSd) (h : OkS m) : (sideB m).length ≤ 5000000000 := by
  obtain ⟨fl, p, q, ty, ls, fy, ag, re, bu⟩ := m
  obtain ⟨_, h1, h2, h3, ⟨h4, h5⟩, h6, ⟨h7, h8⟩, h9, h10⟩ := h
  simp only at h1 h2 h3 h4 h5 h6 h7 h8 h9 h10
  have e1 := num_len h1.1 h1.2
  have e2 := num_len h2.1 h2.2
  have e3 := text_len ty (by omega)
  have e4 := texts_len ls h5
  have e5 := text_len fy (by omega)
  have e6 := runsB_len (runs ag) (fun r hr => by have := runs_fit h8 r hr; exact ⟨by omega, this.2⟩)
  have e7 := runs_count ag
  have e8 := num_len (n := ((runs ag).length : Int)) (by omega) (by omega)
  have e9 := text_len re (by omega)
  have e10 := text_len bu (by omega)
  have e11 := num_len (n := (ls.length : Int)) (by omega) (by omega)
  simp only [sideB, listB, agesB, List.length_append, List.length_singleton]
  omega
theorem sides_len : ∀ xs : List MSd, (∀ x ∈ xs, OkS x) → (xs.flatMap sideB).length ≤ 5000000000 * xs.length := by
  intro xs
  induction xs with
  | nil => intro _; simp
  | cons x xs ih =>
    intro h
    have h1 := side_len x (h x (List.mem_cons_self ..))
    have h3 := ih (fun y hy => h y (List.mem_cons_of_mem _ hy))
    rw [List.flatMap_cons, List.length_append, List.length_cons]; omega
theorem node_len (m : MNd) (h : OkN m) (hs : m.2.2.2.2.2.2.2.2.2.2.2.2.length ≤ 100) : (nodeB m).length ≤ 1000000000000 := by
  obtain ⟨ta, pc, md, er, us, ti, el, vs, cu, st, bf, af, so⟩ := m
  obtain ⟨ota, opc, omd, oer, ous, oti, oel, ⟨ovl, ov⟩, ⟨ocl, oc⟩, ⟨osl, os⟩, ⟨obl, ob⟩, ⟨oal, oa⟩, ⟨odl, od⟩⟩ := h
  simp only at ota opc omd oer ous oti oel ovl ov ocl oc osl os obl ob oal oa odl od hs
  have e1 := num_len ota.1 ota.2
  have e2 := num_len opc.1 opc.2
  have e3 := num_len omd.1 omd.2
  have e4 := num_len oer.1 oer.2
  have e5 := num_len ous.1 ous.2
  have e6 := num_len oti.1 oti.2
  have e7 := num_len oel.1 oel.2
  have e8 := vars_len vs ov
  have e9 := num_len (n := (vs.length : Int)) (by omega) (by omega)
  have e10 := texts_len cu oc
  have e11 := list_len st os osl
  have e12 := list_len bf ob obl
  have e13 := list_len af oa oal
  have e14 := sides_len so od
  have e15 := num_len (n := (so.length : Int)) (by omega) (by omega)
  simp only [nodeB, List.length_append]
  have l1 : (listB varB vs).length = (numB (vs.length : Int)).length + (vs.flatMap varB).length := by rw [listB, List.length_append]
  have l2 : (listB sideB so).length = (numB (so.length : Int)).length + (so.flatMap sideB).length := by rw [listB, List.length_append]
  omega
theorem below_row {B : Nat} {a w : World} {g : Nat} (h : Below B a w) (hg : B ≤ g) (c : Array Value) : Below B a (w.setRow g c) := by
  have h1 := h.block
  refine ⟨h.os, h.tape, h.output, ?_, fun k hk => (heap_row (by omega) c).trans (h.block k hk)⟩
  have := h.size
  simp [World.setRow]; omega
theorem wpList_load_row' {P : Program} {ops : Array Oper} {rest : List Oper} {o : Oper} {a : Act} {w : World} {Q : Exit → Act → World → Prop} (hgd : Region.wanted o (yielded ops a.tmps) = true) (ty : TypeId) (x : Operand) (ho : o.op = .load ty x)
    (g : Nat) (hx : a.eval x = .pointer (some ⟨g, 0, none⟩)) (t : TypeId) (cs : Array Value) (fr : Nat × Nat) (d : TypeDesc) (hg : w.heap[g]? = some (.cells cs t fr))
    (hu : P.underlying ty = some d) (hd : (match d with | .struct _ | .array _ _ => true | _ => false) = true) (hi : (P.info? ty).map (·.size) = some cs.size)
    (h : wpList P ops Q rest (a.put o.dst (.agg cs)) w) : wpList P ops Q (o :: rest) a w := by
  rw [wpList, if_pos hgd]
  exact Or.inl (wp_load_row ty x ho g hx t cs fr d hg hu hd hi h)
theorem rd_blk {w : World} {g n B size : Nat} {t : TypeId} {l : Array Value} {xs : List Value} (h : Blk w g t l) (hg : g < B) (hx : l.toList = xs) (hl : l.toList.length = n * size) : Rd w B size (some ⟨g, 0, none⟩) n xs := by
  subst hx
  refine ⟨hl, fun _ => ⟨_, rfl, hg, fun j u hj => ?_⟩⟩
  have := h.cell j
  rw [show (⟨g, 0, none⟩ : Addr).add j = ⟨g, j, none⟩ by simp [Addr.add]; omega, this]
  simpa using hj
def m0 : MNd := (1, 300, 0, 0, -1, 0, 0, [([97], [98])], [[], [], [], [], [], [], [], [], [], []], [], [], [], [(5, 0, 0, [], [], [97, 98, 99], [3, 3, 0], [], [])])
theorem ok0 : OkN m0 := by
  refine ⟨⟨by decide, by decide⟩, ⟨by decide, by decide⟩, ⟨by decide, by decide⟩, ⟨by decide, by decide⟩, ⟨by decide, by decide⟩, ⟨by decide, by decide⟩, ⟨by decide, by decide⟩, ⟨by decide, ?_⟩, ⟨by decide, ?_⟩, ⟨by decide, ?_⟩, ⟨by decide, ?_⟩, ⟨by decide, ?_⟩, ⟨by decide, ?_⟩⟩
  · intro b hb; simp [m0] at hb; subst hb; exact ⟨by decide, by decide⟩
  · intro b hb; simp [m0] at hb; subst hb; decide
  · intro b hb; simp [m0] at hb
  · intro b hb; simp [m0] at hb
  · intro b hb; simp [m0] at hb
  · intro b hb; simp [m0] at hb; subst hb
    refine ⟨by decide, ⟨by decide, by decide⟩, ⟨by decide, by decide⟩, by decide, ⟨by decide, ?_⟩, by decide, ⟨by decide, ?_⟩, by decide, by decide⟩
    · intro b hb; simp at hb
    · intro b hb; simp at hb; rcases hb with rfl | rfl <;> exact ⟨by decide, by decide⟩
set_option maxHeartbeats 12800000 in
set_option maxRecDepth 100000 in
theorem awake_c (w : World) : Calls Try.prog 6 #[] w fun e w' => e = .returned (.bool true) ∧ Below w.heap.size w w' := by
  have i22 : (Try.prog.info? NT).map (·.size) = some 22 := by kernel_rfl
  have HI := Lib.hid i22
  clear i22
  have kn0 : Blk ((((w.alloc (.cells #[.string ⟨#[97]⟩, .string ⟨#[98]⟩] 45)).alloc (.cells #[.int .i64 3, .int .i64 3, .int .i64 0] 3)).alloc (.cells #[.bool true, .bool false, .bool true, .int .i64 0, .int .i64 0, .string ⟨#[]⟩, .slice none 0 0, .string ⟨#[97, 98, 99]⟩, .slice (some ⟨w.heap.size + 1, 0, none⟩) 3 3, .string ⟨#[]⟩, .string ⟨#[]⟩] 48)).alloc (.cells znode NT)) (w.heap.size + 1 + 1 + 1) NT znode := by
    have h := Blk.new2 (w.alloc (.cells #[.string ⟨#[97]⟩, .string ⟨#[98]⟩] 45)) (.cells #[.int .i64 3, .int .i64 3, .int .i64 0] 3) (.cells #[.bool true, .bool false, .bool true, .int .i64 0, .int .i64 0, .string ⟨#[]⟩, .slice none 0 0, .string ⟨#[97, 98, 99]⟩, .slice (some ⟨w.heap.size + 1, 0, none⟩) 3 3, .string ⟨#[]⟩, .string ⟨#[]⟩] 48) NT znode
    rw [World.size_alloc] at h; exact h
  obtain ⟨cs0, hcs0⟩ : ∃ cs : Array Value, #[.int .i64 300, .slice (some ⟨w.heap.size, 0, none⟩) 1 1, .string ⟨#[]⟩, .string ⟨#[]⟩, .string ⟨#[]⟩, .string ⟨#[]⟩, .string ⟨#[]⟩, .string ⟨#[]⟩, .string ⟨#[]⟩, .string ⟨#[]⟩, .string ⟨#[]⟩, .string ⟨#[]⟩, .slice none 0 0, .int .i64 0, .int .i64 0, .int .i64 (-1), .int .i64 0, .int .i64 0, .slice none 0 0, .slice none 0 0, .slice (some ⟨w.heap.size + 1 + 1, 0, none⟩) 1 1, .int .i64 1] = cs := ⟨_, rfl⟩
  go_enter Try.func6, Try.ntmps6
  go_upto_region 2 with (first
    | (refine wpList_store_row (by rfl) 31 (.tmp 1) (.tmp 15) (by rfl) (w.heap.size + 1 + 1 + 1) cs0 (by rfl) (by rfl) 31 _ (by exact kn0) (by rw [← hcs0]; exact HI.out) (by rw [← hcs0]; rfl) (by rw [← hcs0]; simp [Value.oneCell']) ?_))
  obtain ⟨W1, hW1⟩ : ∃ x, ((((w.alloc (.cells #[.string ⟨#[97]⟩, .string ⟨#[98]⟩] 45)).alloc (.cells #[.int .i64 3, .int .i64 3, .int .i64 0] 3)).alloc (.cells #[.bool true, .bool false, .bool true, .int .i64 0, .int .i64 0, .string ⟨#[]⟩, .slice none 0 0, .string ⟨#[97, 98, 99]⟩, .slice (some ⟨w.heap.size + 1, 0, none⟩) 3 3, .string ⟨#[]⟩, .string ⟨#[]⟩] 48)).alloc (.cells znode NT)).setRow (w.heap.size + 1 + 1 + 1) cs0 = x := ⟨_, rfl⟩
  change Code.wp _ _ _ _ (((((w.alloc (.cells #[.string ⟨#[97]⟩, .string ⟨#[98]⟩] 45)).alloc (.cells #[.int .i64 3, .int .i64 3, .int .i64 0] 3)).alloc (.cells #[.bool true, .bool false, .bool true, .int .i64 0, .int .i64 0, .string ⟨#[]⟩, .slice none 0 0, .string ⟨#[97, 98, 99]⟩, .slice (some ⟨w.heap.size + 1, 0, none⟩) 3 3, .string ⟨#[]⟩, .string ⟨#[]⟩] 48)).alloc (.cells znode NT)).setRow (w.heap.size + 1 + 1 + 1) cs0)
  rw [hW1]
  have hb1 : Below w.heap.size w W1 := by rw [← hW1]; exact below_row (by go_grown) (by omega) _
  have kv : Blk W1 w.heap.size 45 #[.string ⟨#[97]⟩, .string ⟨#[98]⟩] := by rw [← hW1]; exact far_row ((((Blk.new _ _ _).alloc _).alloc _).alloc _) (by omega) _
  have ki : Blk W1 (w.heap.size + 1) 3 #[.int .i64 3, .int .i64 3, .int .i64 0] := by rw [← hW1]; exact far_row (((Blk.new1 _ _ _ _).alloc _).alloc _) (by omega) _
  have ks : Blk W1 (w.heap.size + 1 + 1) 48 #[.bool true, .bool false, .bool true, .int .i64 0, .int .i64 0, .string ⟨#[]⟩, .slice none 0 0, .string ⟨#[97, 98, 99]⟩, .slice (some ⟨w.heap.size + 1, 0, none⟩) 3 3, .string ⟨#[]⟩, .string ⟨#[]⟩] := by rw [← hW1]; exact far_row ((Blk.new2 _ _ _ _ _).alloc _) (by omega) _
  have kn : Blk W1 (w.heap.size + 1 + 1 + 1) NT cs0 := by rw [← hW1]; exact blk_row kn0 _
  have hz1 : W1.heap.size = w.heap.size + 4 := by rw [← hW1, setRow_size]; simp only [World.size_alloc]
  have hnd : NdR W1 W1.heap.size cs0 m0 := by
    refine ⟨some ⟨w.heap.size, 0, none⟩, 1, none, 0, none, 0, none, 0, some ⟨w.heap.size + 1 + 1, 0, none⟩, 1, [⟨true, false, true, 0, 0, ⟨#[]⟩, none, 0, 0, ⟨#[97, 98, 99]⟩, some ⟨w.heap.size + 1, 0, none⟩, 3, 3, ⟨#[]⟩, ⟨#[]⟩⟩], ?_, ok0, ?_, Rd.nil, Rd.nil, Rd.nil, ?_, rfl, ?_⟩
    · rw [← hcs0]; rfl
    · exact rd_blk kv (by omega) rfl rfl
    · exact rd_blk ks (by omega) rfl rfl
    · intro k d m hd hm
      cases k with
      | zero =>
        simp at hd
        simp [m0] at hm
        subst hd; subst hm
        refine ⟨none, 0, some ⟨w.heap.size + 1, 0, none⟩, 3, rfl, Rd.nil, rd_blk ki (by omega) rfl rfl, by decide, ?_⟩
        exact ok0.2.2.2.2.2.2.2.2.2.2.2.2.2 _ (by simp [m0])
      | succ k => simp at hd
  have hne := node_len m0 ok0 (by decide)
  have ct := encode_c cs0 m0 W1 hnd hne
  clear hW1 kv ki ks hcs0 kn0
  obtain ⟨hs0, ho0⟩ := nd_shape hnd
  have HS0 := Lib.hid hs0
  have HO0 := Lib.hid ho0
  have HND := Lib.hid hnd
  clear hs0 ho0 hnd
  go_wp2_with (first
    | (refine wpList_load_row (by rfl) 31 (.tmp 1) (by rfl) (w.heap.size + 1 + 1 + 1) (by rfl) NT cs0 (0, 0) _ (by exact kn) Try.underlying31 (by rfl) (by rw [HS0.out]; exact HI.out) ?_)
    | (go_at_call 10; with_reducible refine ct.mono ?_))
  rintro e w2 ⟨rfl, hb2⟩
  obtain ⟨S, hS⟩ : ∃ x, bz (nodeB m0) = x := ⟨_, rfl⟩
  rw [hS]
  have hl : S.data.toList = nodeB m0 := by rw [← hS, bz_list]
  have hsz : S.size ≤ 1000000000000 := by rw [Lib.size_eq, hl]; exact hne
  have HL := Lib.hid hl
  clear hl hS hne ct
  have hB2 := via hb2 hb1
  replace kn := kn.next hb2
  have cd1 := decode_c S w2 (by omega)
  go_wp2_with (go_at_call 7; with_reducible refine cd1.mono ?_)
  rintro e w3 ⟨hb3, hd⟩
  rcases hd with ⟨cs, m, hdec, rfl, hno⟩ | ⟨i, k, hdec, _, _⟩
  rotate_left
  · rw [HL.out, dec_there ok0] at hdec; cases hdec
  rw [HL.out, dec_there ok0] at hdec
  injection hdec with hdec
  subst hdec
  have hnd3 := nd_rd hno ok0
  obtain ⟨hs3, ho3⟩ := nd_shape hnd3
  have HS3 := Lib.hid hs3
  have HO3 := Lib.hid ho3
  have HND3 := Lib.hid hnd3
  clear hs3 ho3 hnd3 hno cd1
  have hB3 := via hb3 hB2
  replace kn := kn.next hb3
  go_upto_region 4 with (first
    | (refine wpList_store_row (by rfl) 31 (.tmp 3) (.tmp 21) (by rfl) w3.heap.size cs (by rfl) (by rfl) 31 _ (by exact Blk.new _ _ _) (by rw [HS3.out]; exact HI.out) (by rw [HS3.out]; rfl) (by exact HO3.out) ?_))
  obtain ⟨W4, hW4⟩ : ∃ x, (w3.alloc (.cells znode NT)).setRow w3.heap.size cs = x := ⟨_, rfl⟩
  change Code.wp _ _ _ _ ((w3.alloc (.cells znode NT)).setRow w3.heap.size cs)
  rw [hW4]
  have hz3 := hB3.size
  have hb4 : Below w3.heap.size w3 W4 := by rw [← hW4]; exact below_row ((Below.refl _ _).alloc (Nat.le_refl _) _) (Nat.le_refl _) _
  have k3 : Blk W4 w3.heap.size NT cs := by rw [← hW4]; exact blk_row (Blk.new _ _ _) _
  replace kn := kn.next hb4
  have hB4 := via hb4 hB3
  clear hW4
  have hsz2 : (S ++ ⟨#[0]⟩).size ≤ 1000000000001 := by rw [ByteArray.size_append]; have : ByteArray.size ⟨#[0]⟩ = 1 := rfl; omega
  have hl2 : (S ++ ⟨#[0]⟩).data.toList = nodeB m0 ++ [0] := by rw [ByteArray.data_append, Array.toList_append, HL.out]
  have HL2 := Lib.hid hl2
  have cd2 := decode_c (S ++ ⟨#[0]⟩) W4 (by omega)
  clear hl2
  go_wp2_with (go_at_call 7; with_reducible refine cd2.mono ?_)
  rintro e w5 ⟨hb5, hd⟩
  rcases hd with ⟨cs', m, hdec, rfl, hno⟩ | ⟨i, k, hdec, hi, rfl⟩
  · rw [HL2.out, dec_zero ok0] at hdec; cases hdec
  rw [HL2.out, dec_zero ok0] at hdec
  injection hdec with hdec
  injection hdec with h1 h2
  have hil : i = S.size := by
    have h3 := congrArg List.length h1
    rw [List.length_drop, List.length_append, ← HL.out, ← Lib.size_eq] at h3
    simp at h3
    have h4 : (S ++ ⟨#[0]⟩).size = S.size + 1 := by rw [ByteArray.size_append]; rfl
    omega
  subst hil
  subst h2
  clear h1 cd2 hi
  have hB5 := via hb5 hB4
  replace kn := kn.next hb5
  replace k3 := k3.next hb5
  have hz5 := hB5.size
  go_upto_region 5 with (first
    | (refine wpList_store_row (by rfl) 31 (.tmp 6) (.tmp 28) (by rfl) w5.heap.size znode (by rfl) (by rfl) 31 _ (by exact Blk.new _ _ _) (by exact HI.out) (by rfl) (by simp [znode, Value.oneCell']) ?_))
  obtain ⟨W6, hW6⟩ : ∃ x, (w5.alloc (.cells znode NT)).setRow w5.heap.size znode = x := ⟨_, rfl⟩
  change Code.wp _ _ _ _ ((w5.alloc (.cells znode NT)).setRow w5.heap.size znode)
  rw [hW6]
  have hb6 : Below w5.heap.size w5 W6 := by rw [← hW6]; exact below_row ((Below.refl _ _).alloc (Nat.le_refl _) _) (Nat.le_refl _) _
  replace k3 := k3.next hb6
  replace kn := kn.next hb6
  have hB6 := via hb6 hB5
  have hz6 := hB6.size
  have hbase := hB4.trans ((hb5.trans (hb6.mono hb5.size)).mono hB4.size)
  clear hW6
  have b14 : Below W1.heap.size W1 W4 := (hb2.trans (hb3.mono hb2.size)).trans (hb4.mono (Nat.le_trans hb2.size hb3.size))
  have b46 : Below W4.heap.size W4 W6 := hb5.trans (hb6.mono hb5.size)
  have n0 : NdR W6 W6.heap.size cs0 m0 := ((HND.out.below b14).more b14.size |>.below b46).more b46.size
  have n3 : NdR W6 W6.heap.size cs m0 := ((HND3.out.below hb4).more hb4.size |>.below b46).more b46.size
  have ct3 := samenode_c cs cs0 m0 m0 W6 W6.heap.size n3 n0 (Nat.le_refl _)
  clear n0 n3 hB2 hB3 hB4 hB5 hb1 hb2 hb3 hb4 hb5 hb6 b14 b46 hbase
  go_wp2_with (first
    | (refine wpList_load_row' (by rfl) 31 (.tmp 3) (by rfl) w3.heap.size (by rfl) NT cs (0, 0) _ (by exact k3) Try.underlying31 (by rfl) (by rw [HS3.out]; exact HI.out) ?_)
    | (refine wpList_load_row' (by rfl) 31 (.tmp 1) (by rfl) (w.heap.size + 1 + 1 + 1) (by rfl) NT cs0 (0, 0) _ (by exact kn) Try.underlying31 (by rfl) (by rw [HS0.out]; exact HI.out) ?_)
    | (go_at_call 9; with_reducible refine ct3.mono ?_))
  rintro e w7 ⟨⟨r, rfl, hr⟩, hb7⟩
  obtain rfl : r = true := by first | exact hr.2 rfl | exact hr.2 trivial
  have hB7 := via hb7 hB6
  have hz7 := hB7.size
  clear hr ct3 k3 kn
  have ct5 := StaU.runs_c (some ⟨w7.heap.size, 0, none⟩) 3 3 [3, 3, 0] (w7.alloc (.cells #[.int .i64 3, .int .i64 3, .int .i64 0] 3)) (rd_blk (Blk.new _ _ _) (by rw [World.size_alloc]; omega) rfl rfl) (by omega) (by omega)
  go_wp2_with (go_at_call 12; with_reducible refine ct5.mono ?_)
  rintro e w8 ⟨v, rfl, hown, hb8⟩
  rw [show (runs [3, 3, 0]).length = 2 by decide] at hown
  obtain ⟨va, vc, rfl⟩ := StaU.own_shape hown
  have hB8 := via hb8 (hB7.alloc (by omega) _)
  go_wp2
  go_ret
  exact ⟨rfl, hB8⟩
end StaE
end Go.Proofs.Ytfkjogkpdebepaa
