/- What the rows' list of variables gives: the tables' cells. No condition. -/
import Derived.Test.YtakaifaeaffelaaDoorFrame
import Derived.Test.YtakaifaeaffelaaDoorNumA
import Derived.Test.YtakaifaeaffelaaDoorCards
import Derived.Test.YtakaifaeaffelaaDoorTie
import Derived.Deep.DeepHandedRow
import Derived.Lib.LaidTab
import Derived.LaidSub
import Derived.MakeChecks
import Derived.Stop.LaidErr
namespace Go.Proofs.YtakaifaeaffelaaDoor
open Go.ChangeShapes Go.WideShapes Go.ChangeAt Go.RowKit LawFrame Go.Stop Go.Extern.Stop Go.Extern
namespace NumK
def laids : List (String × DataW Unit) := Rows.numTextsRow.laid
theorem g_pow : Tryd.prog.globalNamed "internal/strconv.uint64pow10" = some 0 := by kernel_rfl
theorem g_err : Tryd.prog.globalNamed "strconv.ErrRange" = some 2 := by kernel_rfl
theorem row_err (u : TypeId) (h : Tryd.prog.typeName? 3 u = some "*errors.errorString") : u = 77 :=
  typeName_ptr_named (nm := "errors.errorString") (by rw [show "*" ++ "errors.errorString" = "*errors.errorString" by decide]; kernel_rfl) (by kernel_rfl) (by decide) u (by rw [show "*" ++ "errors.errorString" = "*errors.errorString" by decide]; exact h)
theorem rdy {W : World} (h : laidMetH Tryd.prog laids W) : NumW.Rdy W := by
  rw [Go.MakeChecks.laidMetH_plain _ _ _ (by kernel_rfl)] at h
  have h1 := h.filter (fun x => x.1 == "internal/strconv.uint64pow10")
  have h2 := h.filter (fun x => x.1 == "strconv.ErrRange")
  have e1 : laids.filter (fun x => x.1 == "internal/strconv.uint64pow10") = [("internal/strconv.uint64pow10", Rows.laid_internal_strconv_uint64pow10)] := by rfl
  have e2 : laids.filter (fun x => x.1 == "strconv.ErrRange") = [("strconv.ErrRange", Rows.laid_strconv_ErrRange)] := by rfl
  rw [e1] at h1
  rw [e2] at h2
  have t1 := Lib.tabIs_of_head (rest := []) (n := 20) (k := .u64) (zs := Lib.pow10Tab) (P := Tryd.prog) g_pow (t := 65) (by kernel_rfl) (by kernel_rfl) Tryd.underlying43 (by kernel_rfl) (by kernel_rfl) h1
  obtain ⟨a1, s1, hv1, hc1, hs1, hz1⟩ := laid_sentinel h2 g_err (ti := 40) (by kernel_rfl) Tryd.underlying40 row_err Tryd.underlying77 Tryd.underlying79 rfl rfl (by kernel_rfl) (by kernel_rfl) (by kernel_rfl)
  have hg : W.cell? ⟨2, 0, none⟩ = some (.iface 77 (.pointer (some a1))) := by simpa using World.var?_cell g_err hv1 0
  have hlt : 2 < W.heap.size := by
    rcases Nat.lt_or_ge 2 W.heap.size with h | h
    · exact h
    · simp [World.cell?, Array.getElem?_eq_none h] at hg
  exact ⟨t1, ⟨_, _, hv1⟩, hlt⟩
end NumK
end Go.Proofs.YtakaifaeaffelaaDoor
