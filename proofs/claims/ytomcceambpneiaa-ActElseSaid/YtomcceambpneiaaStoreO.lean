/- Nodes that are fresh, nets that are new: plain. -/
import Derived.Test.YtomcceambpneiaaStore4
set_option linter.unusedSimpArgs false
set_option linter.unusedVariables false
set_option maxHeartbeats 4000000
set_option maxRecDepth 10000
namespace Go.Proofs.Ytomcceambpneiaa
open Go.Fx

instance (i : Int) : Decidable (wf i) := by unfold wf; infer_instance
theorem wf_nat {n : Nat} (h : n ≤ 9223372036854775807) : wf (n : Int) := by unfold wf; omega
theorem rootN_ok : rootN.Ok := ⟨by decide, by decide, by decide, by decide, by decide, by decide, by decide, by decide⟩
theorem failN_ok : failN.Ok := ⟨by decide, by decide, by decide, by decide, by decide, by decide, by decide, by decide⟩
theorem newT_ok {k : Int} (hk : wf k) : (newT k).Ok := ⟨by show 2 * 88 ≤ 140737488355328; decide, hk, fun x hx => by
  simp only [newT, List.mem_cons, List.not_mem_nil, or_false] at hx
  rcases hx with rfl | rfl
  · exact rootN_ok
  · exact failN_ok⟩
theorem fresh_ok {x : Nd} (hx : x.Ok) : x.fresh.Ok := by
  have hp := ports_b hx
  refine ⟨hx.k, hx.lv, hx.n, hx.s, hx.al, ?_, hx.ap, fun p h => ?_⟩
  · simp only [Nd.fresh, List.length_replicate]; omega
  · have := List.eq_of_mem_replicate h; rw [this]; decide
theorem fresh_ports {x : Nd} (hx : x.Ok) : x.fresh.ports = x.ports := by
  have hp := ports_b hx
  by_cases h8 : x.k = 8
  · have e2 : x.fresh.ports = x.fresh.to.length := by
      have h8' : x.fresh.k = 8 := h8
      unfold Nd.ports; rw [h8']; simp
    rw [e2]; simp only [Nd.fresh, List.length_replicate]; omega
  · unfold Nd.ports Nd.fresh; simp only [h8, if_false]
end Go.Proofs.Ytomcceambpneiaa
