/- The walk of quote.Parse. Condition: a text of at most 2^32 bytes. -/
import Derived.Test.YtmhhmdnikopdlaaQuoU
namespace Go.Proofs.Ytmhhmdnikopdlaa
open Go.RowKit
namespace QuoR
open QuoP QuoW QuoB
/-- What Parse answers. -/
def PaPost (s : ByteArray) (w : World) (e : Ending) (w' : World) : Prop := Below w.heap.size w w' ∧
  ((∃ o i v, parse s.data.toList = .ok o (s.data.toList.drop i) ∧ i ≤ s.size ∧ e = .returned (.tuple #[v, .int .i64 (i : Nat), .int .i64 0]) ∧ w'.ownsRow w.heap.size ET 2 v o.length (cells o)) ∨
  (∃ i, parse s.data.toList = .bad (s.data.toList.drop i) ∧ i ≤ s.size ∧ e = .returned (.tuple #[.slice none 0 0, .int .i64 (i : Nat), .int .i64 1])))
def badOf (R : Nat) (w : World) : Nat := match w.cell? ⟨R, 2, none⟩ with
  | some (.bool true) => 0
  | _ => 1
theorem badOf_is {R i : Nat} {w : World} {s : ByteArray} {b : Bool} (h : Rdr w R s i b) : badOf R w = if b then 0 else 1 := by
  have := h.cell 2
  unfold badOf; rw [this]; cases b <;> rfl
/-- Parse's loop. -/
def Lp (B R b V : Nat) (s : ByteArray) (w wr : World) : Prop := ∃ i bad o t, PS B R b V s i bad o t wr ∧ Below B w wr ∧ i ≤ s.size ∧ o.length ≤ 2 * i + 2 ∧ t.length ≤ i + 1 ∧
  (if bad = true then parse s.data.toList = .bad (s.data.toList.drop i) else parse s.data.toList = run .text o t (s.data.toList.drop i))
theorem flush_len (o : List Pt) (t : Bs) : (flush o t).length ≤ o.length + 1 := by unfold flush; split <;> simp
theorem lp_start {B R b V : Nat} {s : ByteArray} {w w0 w1 : World} {c : UInt8} {i : Nat} {bad : Bool} (h : PS B R b V s 0 false [] [] w0) (hb : Below B w w0) (k : Tch (On R) w0 w1) (hr : Rdr w1 R s i bad) (hN : Nx (eqB 34) s 0 false c i bad) : Lp B R b V s w w1 := by
  have hp := h.mv k hr
  have hB : Below B w w1 := k.below hb (fun x e => by rw [show x = R from e]; exact h.hR) h.hB
  rcases hN with ⟨rfl, rfl, rfl, hx⟩ | ⟨-, rfl, rfl, hd, hpp, hlt⟩
  · refine ⟨0, true, [], [], hp, hB, Nat.zero_le _, by simp, by simp, ?_⟩
    rw [if_pos rfl, parse, List.drop_zero]
    refine run_stop _ _ _ _ fun c r e => ?_
    have : eqB 34 c = false := (hx.resolve_left (by simp)) c r (by rw [List.drop_zero]; exact e)
    simp only [eqB, beq_eq_false_iff_ne] at this
    simp [QuoP.step, this]
  · refine ⟨1, false, [], [], hp, hB, by omega, by simp, by simp, ?_⟩
    rw [if_neg (by simp), parse]
    rw [List.drop_zero] at hd
    have : c = 34 := by simpa [eqB] using hpp
    subst this
    rw [hd]; exact run_go _ rfl
set_option maxHeartbeats 6400000 in
set_option maxRecDepth 100000 in
theorem parse_c (s : ByteArray) (w : World) (hs : s.size ≤ 4294967296) :
    Calls Try.prog 9 #[.string s] w (PaPost s w) := by
  have cm := fun W => is_mk 34 W
  rw [show (((34 : UInt8).toNat : Nat) : Int) = 34 from rfl] at cm
  go_enter Try.func9, Try.ntmps9
  go_wp2_with fail
  (with_reducible refine (cm _).mono ?_)
  rintro e w0 ⟨rfl, hw0⟩
  have hp0 : PS w.heap.size w.heap.size (w.heap.size + 1 + 1) (w.heap.size + 1) s 0 false [] [] w0 := by
    rw [hw0]
    refine PS.alloc ⟨by simp; omega, Nat.le_refl _, by omega, ((Blk.new _ _ _).alloc _).alloc _, Or.inl ⟨by omega, .slice none 0 0, ?_, World.ownsRowF_nil _ _ _ _, by simp [Value.ownBlock]⟩, .slice none 0 0, (Blk.new1 _ _ _ _).alloc _, World.ownsRow_nil _ _ _ _⟩ _
    exact Blk.new2 _ _ _ _ _
  have hB0 : Below w.heap.size w w0 := by rw [hw0]; go_grown
  have b0 : w0.cell? ⟨w.heap.size + 1 + 1 + 1, 0, none⟩ = some (.int .u8 (34 : UInt8).toNat) := by
    rw [hw0]
    have := (Blk.new (((w.alloc (Obj.cells #[.string s, .int .i64 0, .bool false] RT)).alloc (Obj.cells #[.slice none 0 0] PT)).alloc (Obj.cells #[.pointer none, .slice none 0 0] BT)) 5 #[.int .u8 34]).cell 0
    rw [World.size_alloc, World.size_alloc, World.size_alloc] at this
    exact this
  clear hw0 cm
  have cn := next_is w.heap.size s 0 false w0 hp0.rd (by omega) (by omega) 34 (w.heap.size + 1 + 1 + 1) b0
  clear b0
  simp only [World.size_alloc]
  go_wp2_with fail
  (with_reducible refine cn.mono ?_)
  rintro e w1 ⟨c, i1, b1, rfl, h1, t1, hN⟩
  have hL := lp_start hp0 hB0 t1 h1 hN
  clear hp0 hB0 t1 h1 hN cn
  go_wp2_with fail
  go_loopw [] (fun wr => Lp w.heap.size w.heap.size (w.heap.size + 1 + 1) (w.heap.size + 1) s w wr) (fun wr => 2 * (s.size - atOf w.heap.size wr) + badOf w.heap.size wr)
  case atStart => exact hL
  case round =>
    obtain ⟨i, bad, o, t, hp, hB, hi, ho, ht, hrun⟩ := hrel
    have HR := Lib.hid hrun
    clear hrun hL
    have hma := atOf_is hp.rd
    have hmb := badOf_is hp.rd
    have hrd := hp.rd
    have k0 := hrd.cell 0
    have k1 := hrd.cell 1
    have k2 := hrd.cell 2
    simp only [List.getElem?_toArray, List.getElem?_cons_zero, List.getElem?_cons_succ] at k0 k1 k2
    cases bad
    · have ct := next_text w.heap.size s i false wr hrd hi (by omega)
      go_wp2_with fail
      (with_reducible refine ct.mono ?_)
      rintro e w2 ⟨c, i2, b2, rfl, h2, t2, hN⟩
      have hp2 := hp.mv t2 h2
      have hB2 : Below w.heap.size w w2 := t2.below hB (fun x e => by rw [show x = w.heap.size from e]; exact Nat.le_refl _) hp.hB
      have ha2 := atOf_is hp2.rd
      have hb2 := badOf_is hp2.rd
      clear ct k0 k1 k2 t2 hrd hp hB
      have k0 := h2.cell 0
      have k1 := h2.cell 1
      have k2 := h2.cell 2
      simp only [List.getElem?_toArray, List.getElem?_cons_zero, List.getElem?_cons_succ] at k0 k1 k2
      rcases hN with ⟨rfl, rfl, rfl, hx⟩ | ⟨-, rfl, rfl, hd, hpp, hlt⟩
      · have HX := Lib.hid hx
        clear hx
        go_wp2
        go_roundw
        case rel =>
          refine ⟨i2, true, o, t, hp2, hB2, hi, ho, ht, ?_⟩
          have hr := HR.out
          rw [if_neg (by simp)] at hr
          rw [if_pos rfl, hr]
          refine run_stop _ _ _ _ fun c r e => ?_
          have : textB c = false := (HX.out.resolve_left (by simp)) c r e
          simp [QuoP.step, this]
        case measure => rw [ha2, hma, hb2, hmb]; simp
      · have HD := Lib.hid hd
        have hr := HR.out
        rw [if_neg (by simp), hd] at hr
        have HR2 := Lib.hid hr
        clear hr hd HR
        have hc0 : 0 ≤ c.toNat := Nat.zero_le _
        by_cases e34 : c = 34
        · subst e34
          have cf := flush_c hp2 (by omega) (by omega)
          go_wp2_with fail
          (with_reducible refine cf.mono ?_)
          rintro e w3 ⟨rfl, hp3, hB3⟩
          have hBz := hB2.trans hB3
          obtain ⟨v, hv, hown⟩ := hp3.ov
          have h3 := hp3.rd
          have kv := hv.cell 0
          simp only [List.getElem?_toArray, List.getElem?_cons_zero] at kv
          clear k0 k1 k2 cf
          have k0 := h3.cell 0
          have k1 := h3.cell 1
          have k2 := h3.cell 2
          simp only [List.getElem?_toArray, List.getElem?_cons_zero, List.getElem?_cons_succ] at k0 k1 k2
          go_wp2_with fail
          go_quiet (fail)
          go_wp2
          go_returns
          refine ⟨below_dn hBz _, Or.inl ⟨flush o t, i + 1, v, ?_, by omega, rfl, own_keep hown fun g c h => h⟩⟩
          rw [HR2.out, run_fin _ (show QuoP.step .text o t 34 = .fin (flush o t) from rfl)]
        by_cases e36 : c = 36
        · subst e36
          have cf := flush_c hp2 (by omega) (by omega)
          go_wp2_with fail
          (with_reducible refine cf.mono ?_)
          rintro e w3 ⟨rfl, hp3, hB3⟩
          have hBz := hB2.trans hB3
          obtain ⟨v, hv, hown⟩ := hp3.ov
          have kv := hv.cell 0
          simp only [List.getElem?_toArray, List.getElem?_cons_zero] at kv
          clear k0 k1 k2 cf
          obtain ⟨i0, hi0, hz0, hz1, hz2⟩ := info_parts part_i
          have hd3 := hp3.drewN 1
          have cv := variable_c w.heap.size s (i + 1) w3.drew hd3.rd (by omega) (by omega)
          have hfo : (flush o t).length ≤ 2 * i + 3 := by have := flush_len o t; omega
          go_wp2_with fail
          go_region_law (first
            | (go_simp
               go_at_call 40
               refine cv.mono ?_
               rintro e w4 ⟨nm, i4, b4, rfl, hnm, h4, t4, hVa⟩
               have hp4 := hd3.mv t4 h4
               have keep4 : ∀ (g : Nat) (c : Array Value) (e : TypeId) (f : Nat × Nat), e ≠ RT → w3.heap[g]? = some (Obj.cells c e f) → w4.heap[g]? = some (Obj.cells c e f) := fun g c e f h1 hg => (t4.block g (Array.getElem?_eq_some_iff.1 hg).1 (blk_ne hg hp3.rd h1)).trans hg
               have hv4 : Blk w4 (w.heap.size + 1) PT #[v] := keep4 _ _ _ _ (by decide) hv
               have ho4 : w4.ownsRow w.heap.size ET 2 v (flush o t).length (cells (flush o t)) := own_keep hown fun g c hg => keep4 _ _ _ _ (by decide) hg
               have kv4 := hv4.cell 0
               simp only [List.getElem?_toArray, List.getElem?_cons_zero] at kv4
               have kv4a : (w4.alloc (Obj.cells #[.string nm, .string ⟨#[]⟩] ET)).cell? ⟨(w.heap.size + 1), 0, none⟩ = some v := (hv4.alloc _).cell 0)
            | (refine step_append_lies _ rfl (.tmp 46) (.tmp 50) PT rfl w.heap.size ET i0 (.agg #[.string ⟨#[]⟩, .string ⟨#[]⟩]) 2 32 Try.underlying23 hi0 hz0 hz1 hz2 rfl (by decide) v (flush o t).length (cells (flush o t)) (by simp [Act.eval, Act.put]) (ho4.alloc _) ⟨w4.heap.size, 0, none⟩ 1 1 [.string nm, .string ⟨#[]⟩] (by simp [Act.eval, Act.put]) rfl
                 (World.news_of_block (heap_alloc_new w4 _)) (by intro u hu; simp at hu; rcases hu with rfl | rfl <;> rfl) (by omega) (by unfold maxLen; omega) (by omega) (by have := hp4.hB; simp; omega) _ rfl ?_
               intro g cap w5 hown5 hgrow hat hlt5
               have hv5 : Blk w5 (w.heap.size + 1) PT #[v] := grow_keep (ho4.alloc _) hgrow _ _ _ _ (by decide) (hv4.alloc _)
               have kv5 := hv5.cell 0
               have lv5 := hv5.loose 0
               simp only [List.getElem?_toArray, List.getElem?_cons_zero] at kv5))
          all_goals
            have hp5 := PS.put (o' := flush o t ++ [(nm.data.toList, [])]) (v' := .slice (some ⟨g, 0, none⟩) ((flush o t).length + 1) cap) (hp4.alloc _) (hv4.alloc _) hgrow (ho4.alloc _) (by rw [cells_app, List.length_append]; have : cells [(nm.data.toList, [])] = [.string nm, .string ⟨#[]⟩] := (by rw [cells, List.flatMap_cons, pcells, ba_of]; rfl); rw [this]; exact hown5)
            have hB5 : Below w.heap.size w (w5.setCell ⟨(w.heap.size + 1), 0, none⟩ (.slice (some ⟨g, 0, none⟩) ((flush o t).length + 1) cap)) :=
              ((t4.below (hBz.drew) (fun x e => by rw [show x = w.heap.size from e]; exact Nat.le_refl _) hd3.hB).alloc hp4.hB _ |>.grown hgrow (by have := hp4.hB; simp; omega) (fun k hk => (ho4.lt k hk).1)).setCell (p := ⟨(w.heap.size + 1), 0, none⟩) (show w.heap.size ≤ w.heap.size + 1 by omega) _
            generalize w5.setCell ⟨(w.heap.size + 1), 0, none⟩ (.slice (some ⟨g, 0, none⟩) ((flush o t).length + 1) cap) = w6 at *
            have ha6 := atOf_is hp5.rd
            have hb6 := badOf_is hp5.rd
            have HV := Lib.hid hVa
            have hVb := hVa
            obtain ⟨hi1, hi2, -⟩ := hVb
            clear hVa
            go_wp2
            go_roundw
            case rel =>
              refine ⟨i4, b4, _, [], hp5, hB5, hi2, by simp; omega, by simp, ?_⟩
              have e2 : QuoP.step .text o t 36 = .go .dollar (flush o t) [] := rfl
              rcases HV.out.2.2 with ⟨rfl, hq⟩ | ⟨rfl, hlt4, hq⟩
              · rw [if_pos rfl, HR2.out, run_go _ e2, hq]
              · rw [if_neg (by simp), HR2.out, run_go _ e2, hq]
            case measure =>
              rw [ha6, hma, hb6, hmb]
              cases b4 <;> simp <;> omega
        have HP := Lib.hid hpp
        clear hpp
        by_cases e92 : c = 92
        · subst e92
          have ce := escape_c w.heap.size s (i + 1) w2 hp2.rd (by omega) (by omega)
          go_wp2_with fail
          (with_reducible refine ce.mono ?_)
          rintro e w3 ⟨d, i3, b3, rfl, h3, t3, hE⟩
          have hp3 := hp2.mv t3 h3
          have hB3 : Below w.heap.size w w3 := t3.below hB2 (fun x e => by rw [show x = w.heap.size from e]; exact Nat.le_refl _) hp2.hB
          have cw := wbyte_c w.heap.size (w.heap.size + 1 + 1) t d w3 hp3.isb (by omega) hp3.hB
          go_wp2_with fail
          (with_reducible refine cw.mono ?_)
          rintro e w4 ⟨rfl, hb4, hw4⟩
          have hp4 := hp3.wr hw4 hb4
          have ha4 := atOf_is hp4.rd
          have hb4' := badOf_is hp4.rd
          have HE := Lib.hid hE
          obtain ⟨hi1, hi2, -⟩ := hE
          go_wp2
          go_roundw
          case rel =>
            refine ⟨i3, b3, o, t ++ [d], hp4, hB3.trans hw4.below, hi2, by omega, by simp; omega, ?_⟩
            have e2 : QuoP.step .text o t 92 = .go .esc o t := rfl
            rcases HE.out.2.2 with ⟨rfl, hq⟩ | ⟨rfl, hlt3, hq⟩
            · rw [if_pos rfl, HR2.out, run_go _ e2, hq]
            · rw [if_neg (by simp), HR2.out, run_go _ e2, hq]
          case measure =>
            rw [ha4, hma, hb4', hmb]
            cases b3 <;> simp <;> omega
        · have z1 : ((c.toNat : Int) == 34) = false := by rw [beq_eq_false_iff_ne]; intro h; exact e34 (UInt8.toNat_inj.1 (by show c.toNat = 34; omega))
          have z2 : ((c.toNat : Int) == 36) = false := by rw [beq_eq_false_iff_ne]; intro h; exact e36 (UInt8.toNat_inj.1 (by show c.toNat = 36; omega))
          have z3 : ((c.toNat : Int) == 92) = false := by rw [beq_eq_false_iff_ne]; intro h; exact e92 (UInt8.toNat_inj.1 (by show c.toNat = 92; omega))
          have cw := wbyte_c w.heap.size (w.heap.size + 1 + 1) t c w2 hp2.isb (by omega) hp2.hB
          go_wp2_with fail
          (with_reducible refine cw.mono ?_)
          rintro e w4 ⟨rfl, hb4, hw4⟩
          have hp4 := hp2.wr hw4 hb4
          have ha4 := atOf_is hp4.rd
          have hb4' := badOf_is hp4.rd
          go_wp2
          go_roundw
          case rel =>
            refine ⟨i + 1, false, o, t ++ [c], hp4, hB2.trans hw4.below, by omega, by omega, by simp; omega, ?_⟩
            rw [if_neg (by simp), HR2.out]
            exact run_go _ (by simp [QuoP.step, HP.out, e34, e36, e92])
          case measure =>
            rw [ha4, hma, hb4', hmb]; simp; omega
    · go_wp2_with fail
      go_quiet (fail)
      go_wp2
      go_returns
      refine ⟨below_dn hB _, Or.inr ⟨i, ?_, hi, rfl⟩⟩
      have hr := HR.out
      rwa [if_pos (by trivial)] at hr
end QuoR
end Go.Proofs.Ytmhhmdnikopdlaa
