/- The seat of the laws about nets: its functions; ports, nodes, nets, and their cells. -/
import Derived.Test.YtomcceambpneiaaIrN
import Derived.Test.YtomcceambpneiaaFb
import Derived.IntWalk
set_option linter.unusedSimpArgs false
set_option linter.unusedVariables false
set_option maxHeartbeats 4000000
set_option maxRecDepth 10000
namespace Go.Proofs.Ytomcceambpneiaa
open Go.Fx

/-- what returns memory of its own that is written into -/
def spN (f : FuncId) : Bool := f == 120 || f == 121 || f == 98 || f == 999999
/-- slices.Clone of alternatives: an empty row is an empty row -/
def orcN (f : FuncId) (ps : List PT) : Option PT := if f = 110 then (match ps with | [.a (.l [])] => some (.a (.l [])) | _ => none) else none
def S : Seat := { fb := fun f => (tbl.find? (·.1 == f)).map (·.2), sp := spN, orc := orcN }
theorem spS (f : FuncId) : S.sp f = spN f := rfl
theorem orcS {f : FuncId} (h : f ≠ 110) (ps : List PT) : S.orc f ps = none := by show orcN f ps = none; unfold orcN; rw [if_neg h]

structure Pt where
  n : Int
  s : Int
  deriving DecidableEq
structure Ar where
  s : List UInt8
  n : Int
  deriving DecidableEq
structure Nd where
  k : Int
  lv : Int
  n : Int
  s : List UInt8
  al : List Ar
  to : List Pt
  deriving DecidableEq
structure Nt where
  ns : List Nd
  cap : Int
  deriving DecidableEq

def encP (p : Pt) : List PV := [.i .i64 p.n, .i .i64 p.s]
def encA (a : Ar) : List PV := [.s a.s, .i .i64 a.n]
def encN (x : Nd) : List PV := [.i .i64 x.k, .i .i64 x.lv, .i .i64 x.n, .s x.s, .l (x.al.map encA), .l (x.to.map encP)]
def encT (n : Nt) : List PV := [.l (n.ns.map encN), .i .i64 n.cap]

theorem allP (l : List Pt) : ((l.map encP).all fun r => decide (r.length = 2)) = true := by simp [encP]
theorem allA (l : List Ar) : ((l.map encA).all fun r => decide (r.length = 2)) = true := by simp [encA]
theorem allN (l : List Nd) : ((l.map encN).all fun r => decide (r.length = 6)) = true := by simp [encN]
theorem lenP (p : Pt) : (encP p).length = 2 := rfl
theorem lenAr (a : Ar) : (encA a).length = 2 := rfl
theorem lenN (x : Nd) : (encN x).length = 6 := rfl

def zP : Pt := ⟨0, 0⟩
def zA : Ar := ⟨[], 0⟩
def zN : Nd := ⟨0, 0, 0, [], [], []⟩
theorem getP {l : List Pt} {i : Int} (h0 : 0 ≤ i) (h1 : i < l.length) : (l.map encP)[i.toNat]? = some (encP (l.getD i.toNat zP)) := by
  rw [List.getElem?_map, List.getD_eq_getElem?_getD, List.getElem?_eq_getElem (by omega)]; rfl
theorem getA {l : List Ar} {i : Int} (h0 : 0 ≤ i) (h1 : i < l.length) : (l.map encA)[i.toNat]? = some (encA (l.getD i.toNat zA)) := by
  rw [List.getElem?_map, List.getD_eq_getElem?_getD, List.getElem?_eq_getElem (by omega)]; rfl
theorem getN {l : List Nd} {i : Int} (h0 : 0 ≤ i) (h1 : i < l.length) : (l.map encN)[i.toNat]? = some (encN (l.getD i.toNat zN)) := by
  rw [List.getElem?_map, List.getD_eq_getElem?_getD, List.getElem?_eq_getElem (by omega)]; rfl
/-- the node at a place, and what a port has -/
def Nt.nd (n : Nt) (i : Int) : Nd := n.ns.getD i.toNat zN
def Nd.tt (x : Nd) (i : Int) : Pt := x.to.getD i.toNat zP
def Nt.lk (n : Nt) (p : Pt) : Pt := (n.nd p.n).tt p.s
def Nt.has (n : Nt) (p : Pt) : Bool := decide (p.n ≥ 0) && decide (p.n < n.ns.length) && decide (p.s ≥ 0) && decide (p.s < (n.nd p.n).to.length)

def wf (i : Int) : Prop := -9223372036854775808 ≤ i ∧ i ≤ 9223372036854775807
theorem wrap_in (n : Int) (h : -9223372036854775808 ≤ n ∧ n ≤ 9223372036854775807) : IntKind.i64.wrap n = n := IntWalk.i64_in n h
theorem wrap_succ (n : Nat) (h : n < 9223372036854775807) : IntKind.i64.wrap ((n : Int) + 1) = ((n + 1 : Nat) : Int) := by rw [wrap_in _ (by omega)]; omega

/-- what an argument's nodes and nets are -/
structure Nd.Ok (x : Nd) : Prop where
  k : wf x.k
  lv : wf x.lv
  n : wf x.n
  s : x.s.length ≤ 140737488355328
  al : x.al.length * 24 ≤ 140737488355328
  to : x.to.length * 16 ≤ 140737488355328
  ap : ∀ a, a ∈ x.al → wf a.n
  tp : ∀ p, p ∈ x.to → wf p.n ∧ wf p.s
structure Nt.Ok (n : Nt) : Prop where
  ns : n.ns.length * 88 ≤ 140737488355328
  cap : wf n.cap
  nd : ∀ x, x ∈ n.ns → x.Ok

theorem seatEqs : EqOk Try.prog [(58, [0, 0]), (61, [1, 0]), (75, [0, 0]), (58, [9]), (91, [8]), (93, [8]), (72, [8]), (92, [8]), (76, [8])] := by
  intro t sh h xa ya r he m σ w xs ys hx hy
  simp only [List.mem_cons, Prod.mk.injEq, List.not_mem_nil, or_false] at h
  rcases h with ⟨rfl, rfl⟩ | ⟨rfl, rfl⟩ | ⟨rfl, rfl⟩ | ⟨rfl, rfl⟩ | ⟨rfl, rfl⟩ | ⟨rfl, rfl⟩ | ⟨rfl, rfl⟩ | ⟨rfl, rfl⟩ | ⟨rfl, rfl⟩
  · exact eq_struct (sh := [0, 0]) Try.underlying58 (by kernel_rfl) (by kernel_rfl) ⟨by decide, rfl, ⟨_, Try.underlying3⟩, by decide, rfl, ⟨_, Try.underlying3⟩, trivial⟩ xa ya r he m σ w xs ys hx hy
  · exact eq_struct (sh := [1, 0]) Try.underlying61 (by kernel_rfl) (by kernel_rfl) ⟨by decide, rfl, Try.underlying9, by decide, rfl, ⟨_, Try.underlying3⟩, trivial⟩ xa ya r he m σ w xs ys hx hy
  · exact eq_arr (k := .i64) Try.underlying75 Try.underlying3 (by kernel_rfl) (by kernel_rfl) rfl (by kernel_rfl) xa ya r he m σ w xs ys hx hy
  · have h0 : ∀ (a c : List AV), eqCells [9] a c = none := fun a c => by cases a <;> cases c <;> rfl
    rw [h0] at he; cases he
  · have h0 : ∀ (a c : List AV), eqCells [8] a c = none := fun a c => by cases a <;> cases c <;> rfl
    rw [h0] at he; cases he
  · have h0 : ∀ (a c : List AV), eqCells [8] a c = none := fun a c => by cases a <;> cases c <;> rfl
    rw [h0] at he; cases he
  · have h0 : ∀ (a c : List AV), eqCells [8] a c = none := fun a c => by cases a <;> cases c <;> rfl
    rw [h0] at he; cases he
  · have h0 : ∀ (a c : List AV), eqCells [8] a c = none := fun a c => by cases a <;> cases c <;> rfl
    rw [h0] at he; cases he
  · have h0 : ∀ (a c : List AV), eqCells [8] a c = none := fun a c => by cases a <;> cases c <;> rfl
    rw [h0] at he; cases he

set_option linter.defProp false in
/-- cells of ports, nodes and nets, in one name -/
def nxE := And.intro (@encT.eq_1) (And.intro (@encN.eq_1) (And.intro (@encP.eq_1) (And.intro (@encA.eq_1) (And.intro (@spN.eq_1) (And.intro (@spS) (And.intro (@allP) (And.intro (@allA) (@allN))))))))

/-- slices.Clone of an empty row, nil or not -/
theorem clone_empty (P : Program) (eqs : List (TypeId × List Nat)) {fn : Func} {fc : FnC} (hm : P.follows .mixedOrders = true) (hE : EqOk P eqs) {f : FuncId} (hf : P.funcs[f]? = some fn) (hc : ccF P eqs fn = some (stripF fc))
    (hfc : ∃ k el b, fc = ⟨1, (.seq (.reg [⟨(.some 2), .none, (.mv (.c (.a .nil))), .any⟩]) (.seq (.seq (.reg [⟨(.some 3), .none, (.mv (.t 0)), .any⟩, ⟨(.some 4), .none, (.nq false (.t 3)), .any⟩]) (.cond (.t 4) (.seq (.reg [⟨(.some 2), .none, (.mv (.c (.a .nil))), .any⟩]) .ret) .skip)) (.seq (.reg [
      ⟨(.some 5), .none, (.bsl k el b 0 []), .any⟩, ⟨(.some 6), .none, (.mv (.t 0)), .any⟩, ⟨(.some 7), .none, (.app k el 24 (.t 5) (.t 6)), .any⟩, ⟨(.some 2), .none, (.mv (.t 7)), .any⟩]) .ret))), [(.tmp 2)]⟩ ∧ ∃ z, frL .empty b = some z ∧ ∀ σ, frL σ b = some z) :
    Ent P f ∧ SndP1 P f [.a (.l [])] (.a (.l [])) := by
  obtain ⟨k, el, b, rfl, z, hz0, hz⟩ := hfc
  have key : ∀ a c, ∃ v σ', Ent P f ∧ (∀ m w vals, SR (CRP P eqs) m .empty w → F2 (RT m .empty w) [.a (.raw (.slice a 0 c))] vals → ∀ rr n, CallsIn (FW rr) n P f vals.toArray w (PostS (CRP P eqs) m .empty w v σ')) ∧ frT σ' v = some (.a (.l [])) := by
    intro a c
    cases a with
    | none =>
      have := fn_ok (cp := fun _ _ => none) (cs := fun _ _ _ => none) (sp := fun _ => false) (σ := .empty) hm hE (fun _ _ _ h => by cases h) (fun _ _ _ _ _ h => by cases h) hf hc (args := [.a (.raw (.slice none 0 c))]) (fuel := 0) rfl rfl (.inr rfl) rfl rfl
      exact ⟨_, _, this.1, this.2, rfl⟩
    | some a =>
      have hev : evC (fun _ _ => none) (fun _ _ _ => none) (fun _ => false) 0 false (.seq (.reg [⟨(.some 2), .none, (.mv (.c (.a .nil))), .any⟩]) (.seq (.seq (.reg [⟨(.some 3), .none, (.mv (.t 0)), .any⟩, ⟨(.some 4), .none, (.nq false (.t 3)), .any⟩]) (.cond (.t 4) (.seq (.reg [⟨(.some 2), .none, (.mv (.c (.a .nil))), .any⟩]) .ret) .skip)) (.seq (.reg [
          ⟨(.some 5), .none, (.bsl k el b 0 []), .any⟩, ⟨(.some 6), .none, (.mv (.t 0)), .any⟩, ⟨(.some 7), .none, (.app k el 24 (.t 5) (.t 6)), .any⟩, ⟨(.some 2), .none, (.mv (.t 7)), .any⟩]) .ret))) (Env.init [.a (.raw (.slice (some a) 0 c))]) .empty =
          some (.ret, ((((((Env.init [.a (.raw (.slice (some a) 0 c))]).put 2 (.a .nil)).put 3 (.a (.raw (.slice (some a) 0 c)))).put 4 (.a (.p (.b false)))).put 5 (.a (.own (5, 0) 0 0))).put 6 (.a (.raw (.slice (some a) 0 c)))).put 7 (.a (.own (7, 1) 0 0)) |>.put 2 (.a (.own (7, 1) 0 0)), (((St.empty.add 5 (.row k el [])).kill (5, 0)).add 7 (.row k el []))) := by
        simp [evC, evIs, evI, evO, evR, ev, Env.init, Env.put, Env.putD, nilA, hz, evO.bslRows, St.add, St.put, St.kill, St.empty, rowsA, frA, rawE]
        try rfl
      have := fn_ok (cp := fun _ _ => none) (cs := fun _ _ _ => none) (sp := fun _ => false) (σ := .empty) hm hE (fun _ _ _ h => by cases h) (fun _ _ _ _ _ h => by cases h) hf hc (args := [.a (.raw (.slice (some a) 0 c))]) (fuel := 0) rfl hev (.inr rfl) rfl rfl
      exact ⟨_, _, this.1, this.2, by simp [frT, frA, St.add, St.put, St.kill, St.empty]⟩
  obtain ⟨_, _, hent, _, _⟩ := key none 0
  refine ⟨hent, fun w D vs hD hps rr n => ?_⟩
  cases hps with
  | cons x r =>
    cases r
    rename_i v
    have x : RP w D (.l []) v := x
    obtain ⟨a, c, rfl⟩ := x.slice
    obtain ⟨v, σ', _, hcall, hfr⟩ := key a c
    let m : Mt := { mu := fun _ => none, la := fun _ => 0, D := D }
    have hno : ∀ b, ¬ InS m .empty b := by
      rintro b (⟨s, bl, c, hs, _⟩ | ⟨l, hl, _⟩)
      · simp [St.empty] at hs
      · simp [St.empty] at hl
    have hR : SR (CRP P eqs) m .empty w :=
      { blk := fun s b hs => by simp [St.empty] at hs, gen := fun s b hs => by simp [St.empty] at hs, inj := fun s s' b b' B c c' hs => by simp [St.empty] at hs
        dj := fun b hb => absurd hb (hno b), dlt := hD, lrs := fun l r hl => by simp [St.empty] at hl, linj := fun l l' hl => by simp [St.empty] at hl }
    refine (hcall m w [.slice a 0 c] hR (.cons ⟨rfl, rfl⟩ .nil) rr n).mono ?_
    rintro e w' ⟨v, m', rfl, j1, j2, j3⟩
    refine ⟨v, rfl, ?_, ?_⟩
    · refine RPT.mono (fun b hb => ⟨?_, rfl⟩) (frT_ok j1 j2 hfr)
      rcases hb with hb | hb
      · rcases j3.new b hb with h5 | h5 | h5
        · exact .inl h5
        · exact .inr ⟨h5, j1.dlt b hb⟩
        · exact absurd h5 (hno b)
      · rcases j3.img b hb with h5 | h5
        · exact absurd h5 (hno b)
        · exact .inr ⟨h5, j1.inS_lt hb⟩
    · exact { size := j3.size, block := fun b hb => j3.kept b hb (hno b), os := j3.os, tape := j3.tape, output := j3.output }

theorem seatOk : SeatOk Try.prog [(58, [0, 0]), (61, [1, 0]), (75, [0, 0]), (58, [9]), (91, [8]), (93, [8]), (72, [8]), (92, [8]), (76, [8])] S where
  mixed := by kernel_rfl
  eql := seatEqs
  fb f fc h := by
    simp only [S, Option.map_eq_some_iff] at h
    obtain ⟨x, h1, rfl⟩ := h
    have h2 := List.find?_some h1
    have h3 := tblOk x (List.mem_of_find?_eq_some h1)
    simp only [beq_iff_eq] at h2
    rw [← h2]; exact h3
  orc f ps r h := by
    have h2 : orcN f ps = some r := h
    clear h
    unfold orcN at h2
    split at h2
    · rename_i hf
      subst hf
      split at h2
      · simp only [Option.some.injEq] at h2; subst h2
        exact clone_empty Try.prog _ (by kernel_rfl) seatEqs Try.func110 cc110 ⟨2, 61, _, rfl, _, rfl, fun _ => rfl⟩
      · cases h2
    · cases h2

end Go.Proofs.Ytomcceambpneiaa
