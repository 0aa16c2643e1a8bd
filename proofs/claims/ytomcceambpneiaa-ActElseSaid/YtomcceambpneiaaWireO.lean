/- Linked, moved, joined: what may be an argument stays one. -/
import Derived.Test.YtomcceambpneiaaWire2
set_option linter.unusedVariables false
namespace Go.Proofs.Ytomcceambpneiaa
open Go.Fx

theorem linkR_Ok {n : Nt} {p q : Pt} (hn : n.Ok) (hp : wf p.n ∧ wf p.s) (hq : wf q.n ∧ wf q.s) : (linkR n p q).1.Ok := by
  unfold linkR
  split
  · rename_i h
    simp only [Bool.and_eq_true] at h
    exact Ok_set (Ok_set hn h.1.1 hq) (by rw [has_set q q h.1.1]; exact h.1.2) hp
  · exact hn
theorem moveR_Ok {n : Nt} {p q : Pt} (hn : n.Ok) (hp : wf p.n ∧ wf p.s) (hq : wf q.n ∧ wf q.s) : (moveR n p q).1.Ok := by
  unfold moveR
  split
  · rename_i h
    simp only [Bool.and_eq_true] at h
    split
    · exact hn
    · exact linkR_Ok hn hq (lk_wf hn h.1.1.1)
  · exact hn
theorem joinR_Ok {n : Nt} {p q : Pt} (hn : n.Ok) (hp : wf p.n ∧ wf p.s) (hq : wf q.n ∧ wf q.s) : (joinR n p q).1.Ok := by
  unfold joinR
  split
  · rename_i h
    simp only [Bool.and_eq_true] at h
    split
    · exact hn
    · exact linkR_Ok hn (lk_wf hn h.1.1.1.1) (lk_wf hn h.1.1.1.2)
  · exact hn

end Go.Proofs.Ytomcceambpneiaa
