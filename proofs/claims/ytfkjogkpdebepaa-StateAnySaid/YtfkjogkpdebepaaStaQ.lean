/- Sides and nodes: parser and writer fit; two nodes with the same bytes are the same. Plain law. No condition but what fits. -/
import Derived.Test.YtfkjogkpdebepaaStaZ
namespace Go.Proofs.Ytfkjogkpdebepaa
open Go.RowKit
namespace StaQ
open StaP StaV StaG StaX StaD StaZ
theorem fit_flag : Fit flagP (fun c => [c]) (fun c => c.toNat ≤ 7) := by
  refine ⟨fun x z h => ?_, fun l x z h => ?_⟩
  · show flagP (x :: z) = _
    rw [flagP, if_neg (by omega)]
  · cases l with
    | nil => cases h
    | cons c r =>
      rw [flagP] at h
      split at h
      · cases h
      · next hc =>
        injection h with h; injection h with h1 h2; subst h1; subst h2
        exact ⟨rfl, by omega⟩
theorem fit_side : Fit sideP sideB OkS :=
  fit_pair fit_flag (fit_pair fit_num (fit_pair fit_num (fit_pair fit_text (fit_pair (fit_list fit_text) (fit_pair fit_text (fit_pair fit_ages (fit_pair fit_text fit_text)))))))
theorem fit_ten : Fit (repP textP 10) (fun l => l.flatMap textB) (fun l => l.length = 10 ∧ ∀ b ∈ l, b.length ≤ 65536) := by
  refine ⟨fun x z h => ?_, fun l x z h => ?_⟩
  · have := fit_rep fit_text x z h.2
    rwa [h.1] at this
  · obtain ⟨a, b, c⟩ := rep_back fit_text 10 l x z h
    exact ⟨a, b, c⟩
theorem fit_var : Fit varP varB VOk := fit_pair fit_text fit_text
theorem fit_node : Fit nodeP nodeB OkN :=
  fit_pair fit_num (fit_pair fit_num (fit_pair fit_num (fit_pair fit_num (fit_pair fit_num (fit_pair fit_num (fit_pair fit_num (fit_pair (fit_list fit_var) (fit_pair fit_ten (fit_pair (fit_list fit_num) (fit_pair (fit_list fit_num) (fit_pair (fit_list fit_num) (fit_list fit_side))))))))))))
theorem dec_back {l : Bs} {m : MNd} (h : decP l = .ok m) : l = nodeB m ∧ OkN m := by
  rw [decP] at h
  split at h
  · cases h
  · next m' hp =>
    injection h with h; subst h
    obtain ⟨h1, h2⟩ := fit_node.back _ _ _ hp
    exact ⟨by rw [h1, List.append_nil], h2⟩
  · cases h
theorem dec_there {m : MNd} (h : OkN m) : decP (nodeB m) = .ok m := by
  have := fit_node.there m [] h
  rw [List.append_nil] at this
  rw [decP, this]
theorem dec_zero {m : MNd} (h : OkN m) (c : UInt8) : decP (nodeB m ++ [c]) = .error ([c], 1) := by
  rw [decP, fit_node.there m [c] h]
theorem node_inj {m m' : MNd} (h : OkN m) (h' : OkN m') (e : nodeB m = nodeB m') : m = m' := by
  have h1 := dec_there h
  rw [e, dec_there h'] at h1
  injection h1 with h1; exact h1.symm
end StaQ
end Go.Proofs.Ytfkjogkpdebepaa
