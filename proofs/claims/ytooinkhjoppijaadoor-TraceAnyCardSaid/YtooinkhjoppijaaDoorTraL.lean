/- Cutting texts at a byte; lines of choices: the walks. Conditions: texts that fit. -/
import Derived.Test.YtooinkhjoppijaaDoorTraM
import Derived.Test.YtooinkhjoppijaaDoorNumIt
import Derived.Test.YtooinkhjoppijaaDoorShelf
import Derived.Shelf.Strings.SplitCore
import Derived.Lib.CutLaws
import Derived.Lib.IndexBytes
namespace Go.Proofs.YtooinkhjoppijaaDoor
set_option linter.unusedVariables false
set_option linter.unusedSimpArgs false
open Go.RowKit
namespace TraW
open TraP
def ba (l : Bs) : ByteArray := ⟨l.toArray⟩
theorem ba_list (l : Bs) : (ba l).data.toList = l := by simp [ba]
theorem ba_size (l : Bs) : (ba l).size = l.length := by rw [Lib.size_eq, ba_list]
theorem ba_of (x : ByteArray) : ba x.data.toList = x := bytes_ext (ba_list _)
theorem ba_app (a b : Bs) : ba a ++ ba b = ba (a ++ b) := bytes_ext (by simp [ba])
theorem ba_is (a : Array UInt8) : (⟨a⟩ : ByteArray) = ba a.toList := bytes_ext (by simp [ba])
theorem size_one (b : UInt8) : (⟨#[b]⟩ : ByteArray).size = 1 := rfl
set_option maxHeartbeats 800000 in
theorem scut_c (s : ByteArray) (b : UInt8) (w : World) (hs : s.size ≤ 4611686018427387904) :
    Calls Tryd.prog 38 #[.string s, .string ⟨#[b]⟩] w fun e w' => e = .returned (.tuple #[.string (ba (Lib.cut s.data.toList [b]).1), .string (ba (Lib.cut s.data.toList [b]).2.1), .bool (Lib.cut s.data.toList [b]).2.2]) ∧ ∃ n, w' = w.drewN n := by
  have ci := fun W => Tryd.stringslite_Index_one s b W
  rcases Lib.indexB_cases s ⟨#[b]⟩ with hix | ⟨i, hix, hroom⟩
  · obtain ⟨e1, e2, e3⟩ := Lib.cutB_miss s ⟨#[b]⟩ hix
    have f1 : ba (Lib.cut s.data.toList [b]).1 = s := e1
    have f2 : ba (Lib.cut s.data.toList [b]).2.1 = ByteArray.empty := e2
    have f3 : (Lib.cut s.data.toList [b]).2.2 = false := e3
    rw [f1, f2, f3]
    have hx : Lib.indexByte s.data.toList b = -1 := by rw [← Lib.index_one]; exact hix
    rw [hx] at ci
    clear e1 e2 e3 f1 f2 f3 hx hix
    go_enter Tryd.func38, Tryd.ntmps38
    go_wp2_with fail
    (with_reducible refine (ci _).mono ?_)
    rintro e w1 ⟨rfl, rfl⟩
    go_wp2
    go_ret3
    exact ⟨rfl, 0, rfl⟩
  · obtain ⟨e1, e2, e3⟩ := Lib.cutB_hit s ⟨#[b]⟩ i hix
    rw [size_one] at e2 hroom
    have f1 : ba (Lib.cut s.data.toList [b]).1 = s.extract 0 i := e1
    have f2 : ba (Lib.cut s.data.toList [b]).2.1 = s.extract (i + 1) s.size := e2
    have f3 : (Lib.cut s.data.toList [b]).2.2 = true := e3
    rw [f1, f2, f3]
    have hx : Lib.indexByte s.data.toList b = i := by rw [← Lib.index_one]; exact hix
    rw [hx] at ci
    clear e1 e2 e3 f1 f2 f3 hx hix
    have c1 : (0 : Int) ≤ ↑i := by omega
    have c2 : (↑i : Int) ≤ ↑s.size := by omega
    have c3 : (0 : Int) ≤ ↑i + 1 := by omega
    have c4 : (↑i + 1 : Int) ≤ ↑s.size := by omega
    go_enter Tryd.func38, Tryd.ntmps38
    go_wp2_with fail
    (with_reducible refine (ci _).mono ?_)
    rintro e w1 ⟨rfl, rfl⟩
    go_wp2
    go_quiet (fail)
    go_wp2
    go_ret3
    exact ⟨rfl, _, rfl⟩
theorem cut_c (s : ByteArray) (b : UInt8) (w : World) (hs : s.size ≤ 4611686018427387904) :
    Calls Tryd.prog 25 #[.string s, .string ⟨#[b]⟩] w fun e w' => e = .returned (.tuple #[.string (ba (Lib.cut s.data.toList [b]).1), .string (ba (Lib.cut s.data.toList [b]).2.1), .bool (Lib.cut s.data.toList [b]).2.2]) ∧ Below w.heap.size w w' := by
  have cc := fun W => scut_c s b W hs
  generalize ba (Lib.cut s.data.toList [b]).1 = x at *
  generalize ba (Lib.cut s.data.toList [b]).2.1 = y at *
  generalize (Lib.cut s.data.toList [b]).2.2 = z at *
  go_enter Tryd.func25, Tryd.ntmps25
  go_wp2_with fail
  (with_reducible refine (cc _).mono ?_)
  rintro e w1 ⟨rfl, n, rfl⟩
  go_wp2
  go_ret3
  exact ⟨rfl, below_dn (Below.refl _ _) n⟩
theorem count_eq (b : UInt8) : ∀ (n : Nat) (l : Bs), l.length = n → Lib.count l [b] = l.count b := by
  intro n
  induction n using Nat.strongRecOn with
  | ind n ih =>
    intro l hn
    by_cases h : b ∈ l
    · obtain ⟨a, t, rfl, h2⟩ := first_at h
      rw [Lib.count_hit (i := a.length) (by simp) (index_at b a t h2)]
      have hd : (a ++ b :: t).drop (a.length + [b].length) = t := by rw [List.drop_append]; simp
      rw [hd, ih t.length (by rw [← hn]; simp; omega) t rfl, List.count_append, List.count_cons_self, List.count_eq_zero_of_not_mem h2]
      omega
    · rw [Lib.count_miss (index_no b l h), List.count_eq_zero_of_not_mem h]
theorem spl_len : ∀ l : Bs, (spl l).length = l.count 32 + 1 := by
  intro l
  induction l with
  | nil => rfl
  | cons b l ih =>
    rw [spl]
    split
    · rename_i h; subst h; rw [List.length_cons, ih, List.count_cons_self]
    · rename_i h
      rw [List.count_cons_of_ne h, ← ih]
      have := spl_ne l
      cases e : spl l with
      | nil => exact absurd e this
      | cons p r => rfl
theorem map_ba {l : List ByteArray} {m : List Bs} (h : l.map (·.data.toList) = m) : l = m.map ba := by
  subst h
  rw [List.map_map]
  conv => lhs; rw [← List.map_id l]
  apply List.map_congr_left
  intro x _
  exact (ba_of x).symm
/-- A text's pieces, as they lie in memory. -/
def pieces (s : ByteArray) : Array Value := ((spl s.data.toList).map (fun x => Value.string (ba x))).toArray
set_option maxHeartbeats 800000 in
theorem split_c (s : ByteArray) (w : World) (hs : s.size < 4294967281) :
    Calls Tryd.prog 50 #[.string s, .string ⟨#[32]⟩] w fun e w' => e = .returned (.slice (some ⟨w.heap.size, 0, none⟩) (spl s.data.toList).length (spl s.data.toList).length) ∧ w' = w.alloc (.cells (pieces s) 9) := by
  have hcb : Lib.countB s ⟨#[32]⟩ = s.data.toList.count 32 := count_eq 32 _ _ rfl
  have hle : s.data.toList.count 32 ≤ s.size := by rw [Lib.size_eq]; exact List.count_le_length
  have hC : Calls Tryd.prog 78 #[.string s, .string ⟨#[32]⟩] w fun e w' => e = .returned (.int .i64 (Lib.countB s ⟨#[32]⟩)) ∧ w' = w := by
    rw [hcb]; exact Tryd.strings_Count_one s 32 w
  have hI : ∀ (x : ByteArray) (c : Array Value), x.size ≤ s.size → Calls Tryd.prog 79 #[.string x, .string ⟨#[32]⟩] (w.alloc (.cells c 9)) fun e w' => e = .returned (.int .i64 (Lib.indexB x ⟨#[32]⟩)) ∧ w' = w.alloc (.cells c 9) := by
    intro x c _
    rw [show Lib.indexB x ⟨#[32]⟩ = Lib.indexByte x.data.toList 32 from Lib.index_one _ _]
    exact Tryd.strings_Index_one x 32 _
  have cg := Any.strings_genSplit_core Tryd.lays221 (by kernel_rfl) s ⟨#[32]⟩ 0 (-1) (s.data.toList.count 32 + 1) w hs (Nat.le_refl _) (Nat.zero_le _) hI hC (by decide) (by decide) (by rw [hcb]; simp only [if_pos (show (-1 : Int) < 0 by decide)]; omega)
  have hp : Lib.splitB ⟨#[32]⟩ 0 (s.data.toList.count 32 + 1 - 1) s = (spl s.data.toList).map ba := by
    apply map_ba
    rw [Lib.splitB_data, Nat.add_sub_cancel]
    exact split_spl _ _ rfl _ (by rw [count_eq 32 _ _ rfl]; exact Nat.le_refl _)
  rw [hp] at cg
  have hl := spl_len s.data.toList
  have hcells : Lib.cellsOf ((spl s.data.toList).map ba) (s.data.toList.count 32 + 1) = pieces s := by
    unfold Lib.cellsOf pieces
    rw [List.length_map, hl, Nat.sub_self, List.replicate_zero, List.append_nil, List.map_map]; rfl
  rw [hcells, List.length_map, ← hl] at cg
  change Calls Tryd.prog 64 #[.string s, .string ⟨#[32]⟩, .int .i64 0, .int .i64 (-1)] w (fun e w' => e = .returned (.slice (some ⟨w.heap.size, 0, none⟩) (spl s.data.toList).length (spl s.data.toList).length) ∧ w' = w.alloc (.cells (pieces s) 9)) at cg
  generalize (spl s.data.toList).length = m at *
  clear hC hI hp hcells hl hcb hle
  go_enter Tryd.func50, Tryd.ntmps50
  go_wp2_with fail
  (with_reducible refine cg.mono ?_)
  rintro e w1 ⟨rfl, rfl⟩
  go_wp2
  go_ret
  exact ⟨rfl, rfl⟩
end TraW
end Go.Proofs.YtooinkhjoppijaaDoor
