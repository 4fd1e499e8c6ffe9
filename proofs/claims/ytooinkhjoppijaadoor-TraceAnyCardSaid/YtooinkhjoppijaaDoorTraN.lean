/- Lines of choices and first lines: the walks. Conditions: what may be; texts that fit; the tables of strconv. -/
import Derived.Test.YtooinkhjoppijaaDoorTraL
namespace Go.Proofs.YtooinkhjoppijaaDoor
set_option linter.unusedVariables false
set_option linter.unusedSimpArgs false
open Go.RowKit
namespace TraW
open TraP NumP NumW
theorem dec_small (q : Nat) (h : q < 100) : (Lib.decDigits q).length ≤ 20 := by
  have := dec_len q; omega
theorem itoa_nat (q : Nat) : Lib.itoa (q : Int) = Lib.decDigits q := by
  rw [nat_digits (by omega)]; congr 1
theorem quiet_w {P : Program} {f : FuncId} {args : Array Value} {w : World} {n : Nat} {v : Value} (h : ∀ m, Calls P f args (w.drewN m) fun e w' => e = .returned v ∧ w.drewN m = w') :
    Calls P f args (w.drewN n) fun e w'' => e = .returned v ∧ ∃ m, w'' = w.drewN m := (h _).mono fun _ _ ⟨he, hm⟩ => ⟨he, n, hm.symm⟩
/-- strconv.Itoa of a small number. -/
theorem itoa_c (q : Nat) (h : q < 100) (w : World) : Calls Tryd.prog 19 #[.int .i64 (q : Int)] w fun e w' => e = .returned (.string (ba (Lib.itoa q))) ∧ w = w' := by
  rw [itoa_nat]
  exact (Tryd.strconv_Itoa_small q h w).mono fun _ _ ⟨a, b⟩ => ⟨a, b.symm⟩
theorem ret_line {a b : ByteArray} (h : a = b) : Ending.returned (.tuple #[.string a, .bool true]) = .returned (.tuple #[.string b, .bool true]) := by rw [h]
set_option maxHeartbeats 1600000 in
theorem line_c (c : Ch) (w : World) (h : oneB c = true) : Calls Tryd.prog 14 #[chV c] w fun e w' => e = .returned (.tuple #[.string (ba (lineL c)), .bool true]) ∧ Below w.heap.size w w' := by
  have co := fun W => one_c c W
  rw [h] at co
  obtain ⟨k, p, n⟩ := c
  obtain ⟨q, m, hp, hn, q1, m1⟩ : ∃ q m : Nat, p = q ∧ n = m ∧ q < 100 ∧ m < 100 := by
    rcases one_cases h with e | e | e | ⟨p', n', e, a, b, d, f⟩ | ⟨p', e, a, b⟩ | ⟨p', n', e, a, b, d, f⟩ <;> simp only [Prod.mk.injEq] at e <;> exact ⟨p.toNat, n.toNat, by omega, by omega, by omega, by omega⟩
  subst hp hn
  have ciq := fun W => itoa_c q q1 W
  have cim := fun W => itoa_c m m1 W
  have hz1 : (ba (Lib.itoa q)).size ≤ 20 := by rw [ba_size, itoa_nat]; exact dec_small q q1
  have hz2 : (ba (Lib.itoa m)).size ≤ 20 := by rw [ba_size, itoa_nat]; exact dec_small m m1
  obtain ⟨R, hR⟩ : ∃ R, lineL (k, (q : Int), (m : Int)) = R := ⟨_, rfl⟩
  rw [hR]
  have H := Lib.hid hR
  clear hR
  obtain ⟨Q, hQ⟩ : ∃ Q, ba (Lib.itoa q) = Q := ⟨_, rfl⟩
  obtain ⟨M, hM⟩ : ∃ M, ba (Lib.itoa m) = M := ⟨_, rfl⟩
  rw [hQ] at ciq hz1
  rw [hM] at cim hz2
  have HQ := Lib.hid hQ
  have HM := Lib.hid hM
  clear hQ hM
  have ho := one_cases h
  simp only [Prod.mk.injEq] at ho
  have hk : (k = 1 ∨ k = 2 ∨ k = 6 ∨ k = 3 ∨ k = 4 ∨ k = 5) := by
    rcases ho with e | e | e | ⟨p', n', e, _⟩ | ⟨p', e, _⟩ | ⟨p', n', e, _⟩ <;> omega
  clear ho h
  have hm : decide ((m : Int) = 0) = true ∨ decide ((m : Int) = 0) = false := by cases decide ((m : Int) = 0) <;> simp
  simp only [chV] at co ⊢
  have KEY : ∀ (x : Bs), lineL (k, (q : Int), (m : Int)) = x → R = x := fun x hx => H.out.symm.trans hx
  clear hm
  have hm2 : ((m : Int) == 0) = true ∨ ((m : Int) == 0) = false := by cases ((m : Int) == 0) <;> simp
  rcases hm2 with hm2 | hm2
  all_goals
    rcases hk with rfl | rfl | rfl | rfl | rfl | rfl
    all_goals
      have KK := Lib.hid (KEY _ rfl)
      clear KEY
      go_enter Tryd.func14, Tryd.ntmps14
      go_wp2_with fail
      (with_reducible refine (co _).mono ?_)
      rintro e w2 ⟨rfl, b2⟩
      have XB := (Blk.new w 39 _).next b2
      have B2 := via (a := w) b2 (by go_grown)
      have x0 := XB.cell 0
      have x1 := XB.cell 1
      have x2 := XB.cell 2
      simp only [List.getElem?_toArray, List.getElem?_cons_zero, List.getElem?_cons_succ] at x0 x1 x2
      clear b2 XB
      go_wp2_with fail
      go_quiet (first | (with_reducible exact quiet_w (fun _ => ciq _)) | (with_reducible exact quiet_w (fun _ => cim _)))
      have B3 := below_dn B2
      go_wp2
      go_ret2
      refine ⟨ret_line ?_, B3 _⟩
      rw [KK.out]
      simp only [ba_is, ← HQ.out, ← HM.out, ba_app]
      first | rfl | (congr 1; unfold lineL; simp_all [wEd, wEn, wRe, wAr])
theorem linez_c (c : Ch) (w : World) (h : oneB c = false) : Calls Tryd.prog 14 #[chV c] w fun e w' => e = .returned (.tuple #[.string ByteArray.empty, .bool false]) ∧ Below w.heap.size w w' := by
  have co := fun W => one_c c W
  rw [h] at co
  obtain ⟨k, p, n⟩ := c
  simp only [chV] at co ⊢
  clear h
  go_enter Tryd.func14, Tryd.ntmps14
  go_wp2_with fail
  (with_reducible refine (co _).mono ?_)
  rintro e w2 ⟨rfl, b2⟩
  have B2 := via (a := w) b2 (by go_grown)
  go_wp2
  go_ret2
  exact ⟨rfl, B2⟩
theorem rnum_c (n : Int) (w : World) (h0 : -9223372036854775808 ≤ n) (h1 : n ≤ 9223372036854775807) : Calls Tryd.prog 29 #[.int .i64 n] w fun e w' => e = .returned (.string (ba (Lib.itoa n))) ∧ Below w.heap.size w w' := by
  have c := fun W => rprint_c n W h0 h1
  change ∀ W, Calls Tryd.prog 42 #[.int .i64 n] W (fun e w' => e = .returned (.string (ba (Lib.itoa n))) ∧ Below W.heap.size W w') at c
  generalize ba (Lib.itoa n) = R at *
  go_enter Tryd.func29, Tryd.ntmps29
  go_wp2_with fail
  (with_reducible refine (c _).mono ?_)
  rintro e w2 ⟨rfl, b2⟩
  go_wp2
  go_ret
  exact ⟨rfl, b2⟩
theorem ret_txt {a b : ByteArray} (h : a = b) : Ending.returned (.string a) = .returned (.string b) := by rw [h]
set_option maxHeartbeats 1600000 in
theorem rline_c (c : Ch) (w : World) (h : oneB c = true) : Calls Tryd.prog 16 #[chV c] w fun e w' => e = .returned (.string (ba (lineL c))) ∧ Below w.heap.size w w' := by
  obtain ⟨k, p, n⟩ := c
  obtain ⟨q, m, hp, hn, q1, m1⟩ : ∃ q m : Nat, p = q ∧ n = m ∧ q < 100 ∧ m < 100 := by
    rcases one_cases h with e | e | e | ⟨p', n', e, a, b, d, f⟩ | ⟨p', e, a, b⟩ | ⟨p', n', e, a, b, d, f⟩ <;> simp only [Prod.mk.injEq] at e <;> exact ⟨p.toNat, n.toNat, by omega, by omega, by omega, by omega⟩
  subst hp hn
  have ciq := fun W => rnum_c (q : Int) W (by omega) (by omega)
  have cim := fun W => rnum_c (m : Int) W (by omega) (by omega)
  have hz1 : (ba (Lib.itoa q)).size ≤ 20 := by rw [ba_size, itoa_nat]; exact dec_small q q1
  have hz2 : (ba (Lib.itoa m)).size ≤ 20 := by rw [ba_size, itoa_nat]; exact dec_small m m1
  obtain ⟨R, hR⟩ : ∃ R, lineL (k, (q : Int), (m : Int)) = R := ⟨_, rfl⟩
  rw [hR]
  have H := Lib.hid hR
  clear hR
  obtain ⟨Q, hQ⟩ : ∃ Q, ba (Lib.itoa q) = Q := ⟨_, rfl⟩
  obtain ⟨M, hM⟩ : ∃ M, ba (Lib.itoa m) = M := ⟨_, rfl⟩
  rw [hQ] at ciq hz1
  rw [hM] at cim hz2
  have HQ := Lib.hid hQ
  have HM := Lib.hid hM
  clear hQ hM
  have ho := one_cases h
  simp only [Prod.mk.injEq] at ho
  have hk : (k = 1 ∨ k = 2 ∨ k = 6 ∨ k = 4 ∨ k = 3 ∨ k = 5) := by
    rcases ho with e | e | e | ⟨p', n', e, _⟩ | ⟨p', e, _⟩ | ⟨p', n', e, _⟩ <;> omega
  clear ho h
  simp only [chV]
  have KEY : ∀ (x : Bs), lineL (k, (q : Int), (m : Int)) = x → R = x := fun x hx => H.out.symm.trans hx
  have XB := Blk.new w 39 #[.int .i64 k, .int .i64 (q : Int), .int .i64 (m : Int)]
  obtain ⟨w2, hw2⟩ : ∃ z, w.alloc (.cells #[.int .i64 k, .int .i64 (q : Int), .int .i64 (m : Int)] 39) = z := ⟨_, rfl⟩
  have B2 : Below w.heap.size w w2 := by rw [← hw2]; go_grown
  rw [hw2] at XB
  have x0 := XB.cell 0
  have x1 := XB.cell 1
  have x2 := XB.cell 2
  simp only [List.getElem?_toArray, List.getElem?_cons_zero, List.getElem?_cons_succ] at x0 x1 x2
  have m1 := fun x : Cls w2 => call_cls (x := x) (v := .string Q) (ciq x.val)
  have m2 := fun x : Cls w2 => call_cls (x := x) (v := .string M) (cim x.val)
  have p0 := fun x : Cls w2 => XB.cls x 0
  have p1 := fun x : Cls w2 => XB.cls x 1
  have p2 := fun x : Cls w2 => XB.cls x 2
  simp only [List.getElem?_toArray, List.getElem?_cons_zero, List.getElem?_cons_succ] at p0 p1 p2
  clear XB
  have hm2 : ((m : Int) == 0) = true ∨ ((m : Int) == 0) = false := by cases ((m : Int) == 0) <;> simp
  rcases hm2 with hm2 | hm2
  all_goals
    rcases hk with rfl | rfl | rfl | rfl | rfl | rfl
    all_goals
      have KK := Lib.hid (KEY _ rfl)
      clear KEY
      go_enter Tryd.func16, Tryd.ntmps16
      go_wp2_with fail
      try rw [hw2]
      clear hw2
      try go_wp2_with fail
      first
        | (go_ret
           refine ⟨ret_txt ?_, B2⟩
           rw [KK.out]
           simp only [ba_is, ← HQ.out, ← HM.out, ba_app]
           rfl)
        | ((with_reducible refine (ciq _).mono ?_)
           rintro e w3 ⟨rfl, b3⟩
           have B3 := via b3 B2
           go_wp2
           go_ret
           refine ⟨ret_txt ?_, B3⟩
           rw [KK.out]
           simp only [ba_is, ← HQ.out, ← HM.out, ba_app]
           first | rfl | (congr 1; unfold lineL; simp_all [wEd, wEn, wRe, wAr]))
        | (go_simp
           refine wp_region_cls (by kernel_rfl) (by kernel_rfl) ?_
           repeat (first | go_big_quiet_step (first
             | (go_at_call 29; with_reducible exact m1 _)
             | (go_at_call 29; with_reducible exact m2 _)) | quiet_step (first
             | (go_at_call 29; with_reducible exact m1 _)
             | (go_at_call 29; with_reducible exact m2 _)))
           refine wpQuiet_nil ?_
           rintro _ ⟨y, rfl⟩
           have B3 := via y.ok B2
           clear m1 m2 p0 p1 p2
           generalize y.val = w3 at *
           go_wp2
           go_ret
           refine ⟨ret_txt ?_, B3⟩
           rw [KK.out]
           simp only [ba_is, ← HQ.out, ← HM.out, ba_app]
           first | rfl | (congr 1; unfold lineL; simp_all [wEd, wEn, wRe, wAr]))
end TraW
end Go.Proofs.YtooinkhjoppijaaDoor
