/- The walks of slices.DeleteFunc at variables, of mem.Drop and its reference. Conditions: lists that fit. -/
import Derived.Test.YtfhnocelmpnjgaaMemC
namespace Go.Proofs.Ytfhnocelmpnjgaa
open Go.RowKit
namespace MemW
open QuoW MemP Own
theorem vcs_cons (p : Vr) (l : List Vr) : vcs (p :: l) = [.string p.1, .string p.2] ++ vcs l := rfl
theorem vcs_snoc (l : List Vr) (p : Vr) : vcs (l ++ [p]) = vcs l ++ [.string p.1, .string p.2] := by rw [vcs_app]; rfl
theorem two_take {xs : List Value} {i : Nat} {a v : Value} (h : i * 2 + 1 < xs.length) : ((xs.set (i * 2) a).set (i * 2 + 1) v).take ((i + 1) * 2) = xs.take (i * 2) ++ [a, v] := by
  apply List.ext_getElem?
  intro j
  rw [List.getElem?_take, List.getElem?_append, List.length_take, List.getElem?_set, List.getElem?_set, List.getElem?_take]
  by_cases h1 : j < i * 2
  · rw [if_pos (by omega), if_neg (by omega), if_neg (by omega), if_pos (by omega), if_pos h1]
  · by_cases h2 : j = i * 2
    · subst h2
      rw [if_pos (by omega), if_neg (by omega), if_pos rfl, if_pos (by omega), if_neg (by omega)]
      rw [show i * 2 - min (i * 2) xs.length = 0 by omega]; rfl
    · by_cases h3 : j = i * 2 + 1
      · subst h3
        rw [if_pos (by omega), if_pos rfl, if_pos (by rw [List.length_set]; omega), if_neg (by omega)]
        rw [show i * 2 + 1 - min (i * 2) xs.length = 1 by omega]; rfl
      · rw [if_neg (by omega), if_neg (by omega)]
        rw [show j - min (i * 2) xs.length = (j - i * 2 - 2) + 2 by omega]; rfl
/-- How the row stands in DeleteFunc's loop. -/
structure Kept (w : World) (g : Nat) (cap n : Nat) (l : List Vr) (nm : ByteArray) (i j : Nat) (wr : World) (cs : Array Value) : Prop where
  blk : Blk wr g 25 cs
  size : cs.size = cap * 2
  low : cs.toList.take (i * 2) = vcs (dropV (l.take j) nm)
  len : i = (dropV (l.take j) nm).length
  high : (cs.toList.drop (j * 2)).take ((n - j) * 2) = vcs (l.drop j)
  lt : i < j
  le : j ≤ n
  tch : Tch (· = g) w wr
def DelRel (w : World) (B g : Nat) (cap n : Nat) (l : List Vr) (nm : ByteArray) (wr : World) (iv jv : Value) : Prop :=
  ∃ i j cs, iv = .int .i64 (i : Nat) ∧ jv = .int .i64 (j : Nat) ∧ Kept w g cap n l nm i j wr cs ∧ Blk wr B 9 #[.string nm]
theorem high_at {w wr : World} {g cap n i j : Nat} {l : List Vr} {nm : ByteArray} {cs : Array Value} (h : Kept w g cap n l nm i j wr cs) (hl : l.length = n) (hj : j < n) :
    ∃ p, l[j]? = some p ∧ wr.cell? ⟨g, j * 2, none⟩ = some (.string p.1) ∧ wr.cell? ⟨g, j * 2 + 1, none⟩ = some (.string p.2) := by
  have hp : l[j]? = some (l[j]'(by omega)) := List.getElem?_eq_getElem (by omega)
  have hd : l.drop j = l[j]'(by omega) :: l.drop (j + 1) := List.drop_eq_getElem_cons (by omega)
  have hh := h.high
  rw [hd, vcs_cons] at hh
  have h0 := congrArg (·[0]?) hh
  have h1 := congrArg (·[1]?) hh
  simp only [List.getElem?_take, List.getElem?_drop, List.cons_append, List.getElem?_cons_zero, List.getElem?_cons_succ, List.nil_append] at h0 h1
  rw [if_pos (by omega), Nat.add_zero] at h0
  rw [if_pos (by omega)] at h1
  exact ⟨_, hp, by rw [h.blk.cell]; simpa using h0, by rw [h.blk.cell]; simpa using h1⟩
theorem kept_skip {w wr wr' : World} {g cap n i j : Nat} {l : List Vr} {nm : ByteArray} {cs : Array Value} {p : Vr} (h : Kept w g cap n l nm i j wr cs) (hl : l.length = n) (hj : j < n) (hp : l[j]? = some p) (he : eq p.1 nm = true) (hb : Below wr.heap.size wr wr') :
    Kept w g cap n l nm i (j + 1) wr' cs := by
  have e := drop_take (nm := nm) hp
  rw [if_pos he, List.append_nil] at e
  refine ⟨h.blk.next hb, h.size, by rw [e]; exact h.low, by rw [e]; exact h.len, ?_, by have := h.lt; omega, by omega, h.tch.trans (Tch.of_below hb)⟩
  have h1 := congrArg (List.drop 2) h.high
  rw [List.drop_take, List.drop_drop] at h1
  have hd : l.drop j = p :: l.drop (j + 1) := by
    rw [List.drop_eq_getElem_cons (by omega)]
    rw [List.getElem?_eq_getElem (by omega)] at hp
    injection hp with hp; rw [hp]
  rw [hd, vcs_cons] at h1
  rw [show (j + 1) * 2 = j * 2 + 2 by omega, show (n - (j + 1)) * 2 = (n - j) * 2 - 2 by omega]
  exact h1
theorem kept_keep {w wr wr' : World} {g cap n i j : Nat} {l : List Vr} {nm : ByteArray} {cs : Array Value} {p : Vr} (h : Kept w g cap n l nm i j wr cs) (hl : l.length = n) (hn : n ≤ cap) (hj : j < n) (hp : l[j]? = some p) (he : eq p.1 nm = false) (hb : Below wr.heap.size wr wr') :
    Kept w g cap n l nm (i + 1) (j + 1) ((wr'.setCell ⟨g, i * 2, none⟩ (.string p.1)).setCell ⟨g, i * 2 + 1, none⟩ (.string p.2)) ((cs.setIfInBounds (i * 2) (.string p.1)).setIfInBounds (i * 2 + 1) (.string p.2)) := by
  have e := drop_take (nm := nm) hp
  rw [if_neg (by rw [he]; decide)] at e
  have hs := h.size
  have hlt := h.lt
  refine ⟨((h.blk.next hb).set_ _ _).set_ _ _, by rw [Array.size_setIfInBounds, Array.size_setIfInBounds]; exact hs, ?_, ?_, ?_, by omega, by omega, ((h.tch.trans (Tch.of_below hb)).setCell rfl _).setCell rfl _⟩
  · rw [Array.toList_setIfInBounds, Array.toList_setIfInBounds, two_take (by rw [Array.length_toList]; omega), e, vcs_snoc, h.low]
  · rw [e, List.length_append, ← h.len]; rfl
  · rw [Array.toList_setIfInBounds, Array.toList_setIfInBounds, List.drop_set_of_lt (by omega), List.drop_set_of_lt (by omega)]
    have h1 := congrArg (List.drop 2) h.high
    rw [List.drop_take, List.drop_drop] at h1
    have hd : l.drop j = p :: l.drop (j + 1) := by
      rw [List.drop_eq_getElem_cons (by omega)]
      rw [List.getElem?_eq_getElem (by omega)] at hp
      injection hp with hp; rw [hp]
    rw [hd, vcs_cons] at h1
    rw [show (j + 1) * 2 = j * 2 + 2 by omega, show (n - (j + 1)) * 2 = (n - j) * 2 - 2 by omega]
    exact h1
theorem zero_two (k : Nat) : ∀ v ∈ (Builtin.zeroCells (Value.agg #[.string ⟨#[]⟩, .string ⟨#[]⟩]).cells k).toList, v = .string ⟨#[]⟩ := by
  intro v hv
  have hc : (Value.agg #[.string ⟨#[]⟩, .string ⟨#[]⟩]).cells = #[.string ⟨#[]⟩, .string ⟨#[]⟩] := rfl
  rw [hc] at hv
  simp only [Builtin.zeroCells, Array.toList_map, List.mem_map] at hv
  obtain ⟨i, _, rfl⟩ := hv
  have : i % 2 = 0 ∨ i % 2 = 1 := by omega
  rcases this with h | h <;> simp [h]
theorem zero_len (k : Nat) : (Builtin.zeroCells (Value.agg #[.string ⟨#[]⟩, .string ⟨#[]⟩]).cells k).toList.length = k * 2 := by
  have hc : (Value.agg #[.string ⟨#[]⟩, .string ⟨#[]⟩]).cells = #[.string ⟨#[]⟩, .string ⟨#[]⟩] := rfl
  rw [hc]; simp [Builtin.zeroCells]
/-- What Drop leaves. -/
def DelPost (base : Nat) (v : Value) (l : List Vr) (nm : ByteArray) (w : World) (e : Ending) (w' : World) : Prop := ∃ v', e = .returned v' ∧ OwnV w' base v' (dropV l nm) ∧ Tch (fun k => v.ownBlock = some k) w w'
set_option maxHeartbeats 1600000 in
set_option maxRecDepth 100000 in
theorem delete_c (base : Nat) (v : Value) (l : List Vr) (B : Nat) (nm : ByteArray) (w : World) (h : OwnV w base v l) (hn : l.length ≤ 1048576) (hB : Blk w B 9 #[.string nm]) :
    Calls Try.prog 25 #[v, .func (.func 26) #[] #[.pointer (some ⟨B, 0, none⟩)]] w (DelPost base v l nm w) := by
  obtain ⟨A, c, rfl, hr, hc, hcm⟩ := Own.rd h
  have ci := index_c A l.length c l B nm w hr hn hB
  generalize hn' : l.length = n at *
  go_enter Try.func25, Try.ntmps25
  go_wp2_with fail
  (with_reducible refine ci.mono ?_)
  rintro e w1 ⟨hb, ⟨k, p, hp, he, hd, rfl⟩ | ⟨hd, rfl⟩⟩
  rotate_left
  · clear ci
    go_wp2
    go_ret
    refine ⟨.slice A n c, rfl, ?_, Tch.of_below hb⟩
    rw [hd]
    exact Own.next h hb
  · have hkn : k < n := by
      have := (List.getElem?_eq_some_iff.1 hp).1; omega
    have hne : ((k : Int) == -1) = false := by rw [beq_eq_false_iff_ne]; omega
    cases A with
    | none => obtain ⟨ad, e, _⟩ := hr.2 (by omega); cases e
    | some ad =>
      obtain ⟨g, o, sp⟩ := ad
      obtain ⟨rfl, rfl, -, hbg, h1, h2, cs, hblk, hsz, htk⟩ := Own.blk_of h
      have hgB : g ≠ B := by
        intro e; subst e
        have e1 := hblk; have e2 := hB
        unfold Blk at e1 e2
        rw [e1] at e2; injection e2 with e2; injection e2 with _ e2; exact absurd e2 (by decide)
      have hk0 : DelRel w B g c n l nm w1 (.int .i64 (k : Nat)) (.int .i64 ((k + 1 : Nat) : Int)) := by
        have e := drop_take (nm := nm) hp
        rw [if_pos he, List.append_nil, hd] at e
        refine ⟨k, k + 1, cs, rfl, rfl, ⟨hblk.next hb, hsz, ?_, ?_, ?_, by omega, by omega, Tch.of_below hb⟩, hB.next hb⟩
        · rw [e, ← vcs_take, ← htk, List.take_take, Nat.min_eq_left (by omega)]
        · rw [e, List.length_take]; omega
        · rw [← vcs_drop, ← htk, List.drop_take]
          congr 1; omega
      rw [show ((k + 1 : Nat) : Int) = (k : Int) + 1 by omega] at hk0
      have HCM := Lib.hid hcm
      clear ci hr htk hblk hB h hd he hp hcm h2 hsz
      go_wp2
      go_loopw [5, 6] (fun iv jv wr => DelRel w B g c n l nm wr iv jv) (fun _ jv _ => n - (intOf jv).toNat)
      case atStart => exact hk0
      case round =>
        clear hk0
        obtain ⟨i, j, cs, rfl, rfl, hK, hBr⟩ := hrel
        have hi := hK.lt
        have hj := hK.le
        by_cases hlt : j < n
        · obtain ⟨⟨a, v⟩, hp, q1, q2⟩ := high_at hK hn' hlt
          simp only at q1 q2
          have hw0 : ∃ z : World, z = wr.alloc (.cells #[.string a, .string v] 25) := ⟨_, rfl⟩
          obtain ⟨z, hz⟩ := hw0
          have hbz : Below wr.heap.size wr z := by rw [hz]; exact (Below.refl _ _).alloc (Nat.le_refl _) _
          have cd := del_c B a v nm z (hBr.next hbz)
          have hzs : z.heap.size = wr.heap.size + 1 := by rw [hz, World.size_alloc]
          have hgz : Blk z g 25 cs := hK.blk.next hbz
          have hg := hgz.lt
          have hzn : Blk z wr.heap.size 25 #[.string a, .string v] := by rw [hz]; exact Blk.new _ _ _
          have hcs := hK.size
          cases he : eq a nm
          · rw [he] at cd
            have KK : ∀ wr', Below wr.heap.size wr wr' → Kept w g c n l nm (i + 1) (j + 1) ((wr'.setCell ⟨g, i * 2, none⟩ (.string a)).setCell ⟨g, i * 2 + 1, none⟩ (.string v)) ((cs.setIfInBounds (i * 2) (.string a)).setIfInBounds (i * 2 + 1) (.string v)) := fun wr' hb => kept_keep hK hn' (by omega) hlt hp he hb
            have KH := Lib.hid KK
            clear he hp hK KK
            go_wp2_with fail
            rw [← hz]
            (with_reducible refine cd.mono ?_)
            rintro e w2 ⟨rfl, hb2⟩
            have hg2 := hgz.next hb2
            have hn2 := hzn.next hb2
            have x0 := hn2.cell 0
            have x1 := hn2.cell 1
            have y0 := hg2.cell (i * 2)
            have y1 := hg2.cell (i * 2 + 1)
            have f0 := hg2.loose (i * 2)
            have f1 := hg2.loose (i * 2 + 1)
            simp only [List.getElem?_toArray, List.getElem?_cons_zero, List.getElem?_cons_succ] at x0 x1
            rw [Array.getElem?_eq_getElem (by omega)] at y0 y1
            have hbw := hbz.trans (hb2.mono (by omega : wr.heap.size ≤ z.heap.size))
            have HK2 := Lib.hid (KH.out w2 hbw)
            have HB2 := Lib.hid (((hBr.next hbw).far (p := ⟨g, i * 2, none⟩) (Ne.symm hgB) (.string a)).far (p := ⟨g, i * 2 + 1, none⟩) (Ne.symm hgB) (.string v))
            generalize cs[i * 2]'(by omega) = o1 at *
            generalize cs[i * 2 + 1]'(by omega) = o2 at *
            clear hg2 hn2 hgz hzn cd hBr KH hz
            go_wp2
            go_roundw
            case rel => exact ⟨i + 1, j + 1, _, by go_num, by go_num, HK2.out, HB2.out⟩
            case measure => simp [intOf]; omega
          · rw [he] at cd
            have KK : ∀ wr', Below wr.heap.size wr wr' → Kept w g c n l nm i (j + 1) wr' cs := fun wr' hb => kept_skip hK hn' hlt hp he hb
            have KH := Lib.hid KK
            clear he hp hK KK
            go_wp2_with fail
            rw [← hz]
            (with_reducible refine cd.mono ?_)
            rintro e w2 ⟨rfl, hb2⟩
            have hbw := hbz.trans (hb2.mono (by omega : wr.heap.size ≤ z.heap.size))
            have HB2 := Lib.hid (hBr.next hbw)
            clear hgz hzn cd hBr hz
            go_wp2
            go_roundw
            case rel => exact ⟨i, j + 1, _, by go_num, by go_num, KH.out _ hbw, HB2.out⟩
            case measure => simp [intOf]; omega
        · obtain rfl : j = n := by omega
          have hK2 := hK
          obtain ⟨kb, ks, klo, kle, khi, klt, _, ktc⟩ := hK2
          have htl : l.take j = l := List.take_of_length_le (by omega)
          rw [htl] at klo kle
          clear htl
          have hzl := zero_len (j - i)
          have hz1 := zero_two (j - i)
          have hcl := fun ty => Own.run_clear (P := Try.prog) wr 22 25 ty _ _ Try.underlying22 (fun w => Try.zeroValue25 w) g (i * 2) (j - i) (c - i) (by omega) rfl (fun v hv => by rw [hz1 v hv]; rfl)
            (fun t ht => by rw [hzl] at ht; rw [kb.cell, Array.getElem?_eq_getElem (by omega)]; rfl) (fun t ht => kb.loose _)
          obtain ⟨cs', p1, p2⟩ := Own.put (Builtin.zeroCells (Value.agg #[.string ⟨#[]⟩, .string ⟨#[]⟩]).cells (j - i)).toList (i * 2) wr cs kb (by rw [hzl]; omega)
          have p3 := Own.tch_cells (S := (· = g)) rfl (Builtin.zeroCells (Value.agg #[.string ⟨#[]⟩, .string ⟨#[]⟩]).cells (j - i)).toList (i * 2) wr ktc
          generalize (Builtin.zeroCells (Value.agg #[.string ⟨#[]⟩, .string ⟨#[]⟩]).cells (j - i)).toList = zs at *
          generalize hW : wr.setCells g (i * 2) zs = W at *
          have hcs' : cs'.size = c * 2 := by
            have e9 : cs.toList.length = cs.size := Array.length_toList
            rw [← Array.length_toList, p2, splice_len (by omega), e9]; exact ks
          have htk : cs'.toList.take (i * 2) = vcs (dropV l nm) := by
            rw [p2, ← klo]; unfold splice
            rw [List.append_assoc, List.take_append_of_le_length (by rw [List.length_take, Array.length_toList]; omega), List.take_take, Nat.min_self]
          have hfin : DelPost base (.slice (some ⟨g, 0, none⟩) j c) l nm w (.returned (.slice (some ⟨g, 0, none⟩) i c)) W :=
            ⟨_, rfl, by unfold OwnV; rw [← kle]; exact Own.of_blk p1 hbg (by rw [vcs_len, ← kle]) (by omega) HCM.out hcs' htk, p3.more (fun k hk => by subst hk; rfl)⟩
          have HF := Lib.hid hfin
          clear hfin htk hcs' p1 p2 p3 klo kle khi ktc kb ks hz1 hzl hK hBr hW
          go_wp2_with (simp only [hcl])
          go_ret
          exact HF.out
def DropPost (l : List Vr) (nm : ByteArray) (w : World) (e : Ending) (w' : World) : Prop := ∃ v, e = .returned v ∧ OwnV w' w.heap.size v (dropV l nm) ∧ Below w.heap.size w w'
set_option maxHeartbeats 800000 in
theorem drop_c (A : Option Addr) (n c : Nat) (l : List Vr) (nm : ByteArray) (w : World) (hr : Vrs w w.heap.size A n l) (hn : n ≤ 1048576) :
    Calls Try.prog 13 #[.slice A n c, .string nm] w (DropPost l nm w) := by
  have hl := Vrs.len hr
  obtain ⟨z, hz⟩ : ∃ z : World, z = w.alloc (.cells #[.string nm] 9) := ⟨_, rfl⟩
  have hbz : Below w.heap.size w z := by rw [hz]; exact (Below.refl _ _).alloc (Nat.le_refl _) _
  have hzs : z.heap.size = w.heap.size + 1 := by rw [hz, World.size_alloc]
  have hB : Blk z w.heap.size 9 #[.string nm] := by rw [hz]; exact Blk.new _ _ _
  have cc := clone_c A n c l z (Rd.more (hr.below hbz) (by omega)) hn
  clear hr
  go_enter Try.func13, Try.ntmps13
  go_wp2_with fail
  rw [← hz]
  (with_reducible refine cc.mono ?_)
  rintro e w1 ⟨v, rfl, hown, hb1⟩
  have cd := delete_c z.heap.size v l w.heap.size nm w1 hown (by omega) (hB.next hb1)
  have hb1' := hbz.trans (hb1.mono (by omega : w.heap.size ≤ z.heap.size))
  have hlt := hown.lt
  have HL := Lib.hid hlt
  clear cc hlt hz hown
  go_wp2_with fail
  (with_reducible refine cd.mono ?_)
  rintro e w2 ⟨v', rfl, hown2, ht⟩
  have hb2 : Below w.heap.size w w2 := ht.below hb1' (fun k hk => by have := (HL.out k hk).1; omega) hb1'.size
  clear cd
  go_wp2
  go_ret
  exact ⟨v', rfl, ⟨hown2.1, hown2.2.imp id (fun ⟨g, cap, cur, h1, h2, h3⟩ => ⟨g, cap, cur, h1, by omega, h3⟩)⟩, hb2⟩
set_option maxHeartbeats 800000 in
theorem rdrop_c (A : Option Addr) (n c : Nat) (l : List Vr) (nm : ByteArray) (w : World) (hr : Vrs w w.heap.size A n l) (hn : n ≤ 1048576) :
    Calls Try.prog 14 #[.slice A n c, .string nm] w (DropPost l nm w) := by
  have hl := Vrs.len hr
  obtain ⟨i0, hi0, hz0, hz1, hz2⟩ := info_parts info_V
  go_enter Try.func14, Try.ntmps14
  go_wp2
  go_loopw [5, 6] (fun v iv wr => ∃ k : Nat, iv = .int .i64 k ∧ k ≤ n ∧ OwnV wr w.heap.size v (dropV (l.take k) nm) ∧ Below w.heap.size w wr) (fun _ iv _ => n - (intOf iv).toNat)
  case atStart => exact ⟨0, rfl, by omega, World.ownsRow_nil _ _ _ _, Below.refl _ _⟩
  case round =>
    obtain ⟨k, rfl, hk, hown, hB⟩ := hrel
    have zB := hB.size
    by_cases hlt : k < n
    · obtain ⟨g, o, ⟨a, v⟩, rfl, hg, hp, q1, q2⟩ := Vrs.get (hr.below hB) hlt
      simp only at q1 q2
      have ST := Lib.hid (drop_take (nm := nm) hp)
      clear hp
      cases he : (a.toList == nm.toList)
      · have hlen : (dropV (l.take k) nm).length ≤ 1048576 := by
          have h1 : (dropV (l.take k) nm).length ≤ (l.take k).length := List.length_filter_le _ _
          rw [List.length_take] at h1; omega
        have he2 : eq a nm = false := he
        generalize hv : dropV (l.take k) nm = m at *
        have hne : (a.toList != nm.toList) = true := by simp [bne, he]
        go_wp2_with (at_builtin; refine wpList_append_lies _ rfl _ _ 22 rfl w.heap.size 25 i0 (.agg #[.string ⟨#[]⟩, .string ⟨#[]⟩]) 2 32 Try.underlying22 hi0 hz0 hz1 hz2 rfl (by decide) _ m.length (vcs m) rfl (hown.alloc _) ⟨wr.heap.size, 0, none⟩ 1 1 [.string a, .string v] rfl rfl (World.news_of_block (heap_alloc_new wr _)) (by intro u hu; simp at hu; rcases hu with rfl | rfl <;> rfl) (by omega) (by unfold maxLen; omega) (by omega) (by simp; omega) _ rfl ?_)
        intro g2 cap w5 hown5 hgrow hat hlt5
        have hB5 : Below w.heap.size w w5 := (hB.alloc zB _).grown hgrow (by rw [World.size_alloc]; omega) (fun k hk => (hown.lt k hk).1)
        have HO : OwnV w5 w.heap.size (.slice (some ⟨g2, 0, none⟩) (m.length + 1) cap) (m ++ [(a, v)]) := by
          unfold OwnV; rw [vcs_snoc, List.length_append]; exact hown5
        clear hown5 hgrow hat hown
        go_wp2
        go_roundw
        case rel => exact ⟨k + 1, by go_num, by omega, by rw [ST.out, if_neg (by rw [he2]; decide)]; exact HO, hB5⟩
        case measure => simp [intOf]; omega
      · have hne : (a.toList != nm.toList) = false := by simp [bne, he]
        have he2 : eq a nm = true := he
        go_wp2
        go_roundw
        case rel => exact ⟨k + 1, by go_num, by omega, by rw [ST.out, if_pos he2, List.append_nil]; exact hown, hB⟩
        case measure => simp [intOf]; omega
    · obtain rfl : k = n := by omega
      rw [List.take_of_length_le (by omega)] at hown
      go_wp2
      go_ret
      exact ⟨_, rfl, hown, hB⟩
end MemW
end Go.Proofs.Ytfhnocelmpnjgaa
