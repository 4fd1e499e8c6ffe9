/- What the rows' list of variables gives: the tables' cells. No condition. -/
import Derived.Test.YtooinkhjoppijaaDoorFrame
import Derived.Test.YtooinkhjoppijaaDoorNumHt
import Derived.Test.YtooinkhjoppijaaDoorCards
import Derived.Test.YtooinkhjoppijaaDoorTie
import Derived.Deep.DeepHandedRow
import Derived.Lib.LaidTab
import Derived.LaidSub
import Derived.MakeChecks
import Derived.Stop.LaidErr
namespace Go.Proofs.YtooinkhjoppijaaDoor
set_option linter.unusedVariables false
set_option linter.unusedSimpArgs false
open Go.ChangeShapes Go.WideShapes Go.ChangeAt Go.RowKit LawFrame Go.Stop Go.Extern.Stop Go.Extern
namespace NumK
def laids : List (String × DataW Unit) := Rows.traceBackRow.laid
theorem g_pow : Tryd.prog.globalNamed "internal/strconv.uint64pow10" = some 1 := by kernel_rfl
theorem g_err : Tryd.prog.globalNamed "strconv.ErrRange" = some 3 := by kernel_rfl
theorem row_err (u : TypeId) (h : Tryd.prog.typeName? 3 u = some "*errors.errorString") : u = 127 :=
  typeName_ptr_named (nm := "errors.errorString") (by rw [show "*" ++ "errors.errorString" = "*errors.errorString" by decide]; kernel_rfl) (by kernel_rfl) (by decide) u (by rw [show "*" ++ "errors.errorString" = "*errors.errorString" by decide]; exact h)
theorem rdy {W : World} (h : laidMetH Tryd.prog laids W) : NumW.Rdy W := by
  rw [Go.MakeChecks.laidMetH_plain _ _ _ (by kernel_rfl)] at h
  have h1 := h.filter (fun x => x.1 == "internal/strconv.uint64pow10")
  have h2 := h.filter (fun x => x.1 == "strconv.ErrRange")
  have e1 : laids.filter (fun x => x.1 == "internal/strconv.uint64pow10") = [("internal/strconv.uint64pow10", Rows.laid_internal_strconv_uint64pow10)] := by rfl
  have e2 : laids.filter (fun x => x.1 == "strconv.ErrRange") = [("strconv.ErrRange", Rows.laid_strconv_ErrRange)] := by rfl
  rw [e1] at h1
  rw [e2] at h2
  have t1 := Lib.tabIs_of_head (rest := []) (n := 20) (k := .u64) (zs := Lib.pow10Tab) (P := Tryd.prog) g_pow (t := 103) (by kernel_rfl) (by kernel_rfl) Tryd.underlying78 (by kernel_rfl) (by kernel_rfl) h1
  obtain ⟨a1, s1, hv1, hc1, hs1, hz1⟩ := laid_sentinel h2 g_err (ti := 49) (by kernel_rfl) Tryd.underlying49 row_err Tryd.underlying127 Tryd.underlying129 rfl rfl (by kernel_rfl) (by kernel_rfl) (by kernel_rfl)
  have hg := World.var?_cell g_pow t1 0
  have hlt : 1 < W.heap.size := by
    rcases Nat.lt_or_ge 1 W.heap.size with h | h
    · exact h
    · simp [World.cell?, Array.getElem?_eq_none h, Lib.pow10Tab] at hg
  have hg2 := World.var?_cell g_err hv1 0
  have hlt2 : 3 < W.heap.size := by
    rcases Nat.lt_or_ge 3 W.heap.size with h | h
    · exact h
    · simp [World.cell?, Array.getElem?_eq_none h] at hg2
  exact ⟨t1, ⟨_, _, hv1⟩, hlt, hlt2⟩
end NumK
end Go.Proofs.YtooinkhjoppijaaDoor
