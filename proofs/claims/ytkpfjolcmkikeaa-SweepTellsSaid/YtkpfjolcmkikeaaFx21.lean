import Derived.Test.YtkpfjolcmkikeaaFx20
import Derived.ProofKit
import Derived.OpenShut
import Derived.SizedLaws
set_option linter.unusedSimpArgs false
set_option linter.unusedVariables false
/-
  What a row's arguments are: values without memory, of their types; a row out of an equation of the evaluator.
-/
namespace Go.Fx
open Go.RowKit Go.WideShapes Go.ChangeShapes Go.ChangeAt

/-- cells of a type's value, without memory -/
def CT (P : Program) : Nat → TypeId → List PV → Prop
  | 0, _, _ => False
  | n + 1, t, cs =>
    match P.underlying t with
    | some .bool => ∃ b, cs = [.b b]
    | some (.int k) => ∃ i, cs = [.i k i] ∧ (Lit.int k i).wf = true
    | some .string => ∃ s, cs = [.s s] ∧ s.length ≤ reachBytes
    | some (.slice e) => ∃ rows, cs = [.l rows] ∧ rows.length * P.bytesOf e ≤ reachBytes ∧ ∀ r, r ∈ rows → r.length = P.cellsOf e ∧ CT P n e r
    | some (.struct fs) => cs.length = P.cellsOf t ∧ ∀ f, f ∈ fs → CT P n f.type ((cs.drop f.offset).take (P.cellsOf f.type))
    | some (.array k e) => cs.length = P.cellsOf t ∧ ∀ i, i < k → CT P n e ((cs.drop (i * P.cellsOf e)).take (P.cellsOf e))
    | _ => False

def tile (P : Program) : Nat → List Field → Option Nat
  | o, [] => some o
  | o, f :: r => if f.offset = o then tile P (o + P.cellsOf f.type) r else none

/-- the types that a row's arguments are made of -/
def closedTs (P : Program) (ts : List TypeId) : Bool := ts.all fun t =>
  match P.underlying t with
  | some .bool | some (.int _) | some .string => true
  | some (.slice e) => ts.contains e && decide (0 < P.cellsOf e)
  | some (.struct fs) => fs.toList.all (fun f => ts.contains f.type) && (tile P 0 fs.toList == some (P.cellsOf t))
  | some (.array n e) => ts.contains e && (n * P.cellsOf e == P.cellsOf t)
  | _ => false

section
variable {P : Program} {w : World} {H : Type} {enc : TypeId × Value → H}

theorem weightsEach_get : ∀ {ts : List TypeId} {ds : List (DataW H)}, (DataW.weightsEach P ts ds).all (· ≤ reachBytes) = true → ∀ (i : Nat) (t : TypeId) (d : DataW H), ts[i]? = some t → ds[i]? = some d → (d.weights P t).all (· ≤ reachBytes) = true
  | [], _, _, i, t, d, h, _ => by simp at h
  | t :: ts, [], _, i, _, d, _, h => by simp at h
  | t :: ts, d :: ds, h, i, u, e, h1, h2 => by
    simp only [DataW.weightsEach, List.all_append, Bool.and_eq_true] at h
    cases i with
    | zero => simp only [List.getElem?_cons_zero, Option.some.injEq] at h1 h2; subst h1; subst h2; exact h.1
    | succ i => exact weightsEach_get h.2 i u e (by simpa using h1) (by simpa using h2)
theorem weightsAll_get {e : TypeId} : ∀ {ds : List (DataW H)}, (DataW.weightsAll P e ds).all (· ≤ reachBytes) = true → ∀ (d : DataW H), d ∈ ds → (d.weights P e).all (· ≤ reachBytes) = true
  | [], _, d, h => by simp at h
  | d :: ds, h, u, h1 => by
    simp only [DataW.weightsAll, List.all_append, Bool.and_eq_true] at h
    rcases List.mem_cons.1 h1 with rfl | h1
    · exact h.1
    · exact weightsAll_get h.2 u h1

/-- cells put together of parts that lie side by side -/
theorem tile_ok {R : PV → Value → Prop} {C : Field → List PV → Prop} {cs : List Value} : ∀ {fs : List Field} {o : Nat}, tile P o fs = some cs.length →
    (∀ f, f ∈ fs → ∃ q, F2 R q ((cs.drop f.offset).take (P.cellsOf f.type)) ∧ C f q) →
    ∃ qs, F2 R qs (cs.drop o) ∧ ∀ f, f ∈ fs → o ≤ f.offset ∧ C f ((qs.drop (f.offset - o)).take (P.cellsOf f.type))
  | [], o, h, _ => by
    simp only [tile, Option.some.injEq] at h
    subst h
    exact ⟨[], by rw [List.drop_length]; exact .nil, fun f hf => by simp at hf⟩
  | f :: r, o, h, hq => by
    simp only [tile] at h
    split at h
    · rename_i ho
      obtain ⟨q, h1, h2⟩ := hq f (by simp)
      obtain ⟨qs, h3, h4⟩ := tile_ok h fun g hg => hq g (by simp [hg])
      have hle : o + P.cellsOf f.type ≤ cs.length := by
        have : ∀ {fs : List Field} {o k : Nat}, tile P o fs = some k → o ≤ k := by
          intro fs
          induction fs with
          | nil => intro o k h; simp only [tile, Option.some.injEq] at h; omega
          | cons g r ih => intro o k h; simp only [tile] at h; split at h; have := ih h; omega; cases h
        exact this h
      have hql : q.length = P.cellsOf f.type := by
        rw [h1.length]; simp; omega
      rw [ho] at h1
      refine ⟨q ++ qs, ?_, fun g hg => ?_⟩
      · have : cs.drop o = (cs.drop o).take (P.cellsOf f.type) ++ cs.drop (o + P.cellsOf f.type) := by
          rw [← List.drop_drop, List.take_append_drop]
        rw [this]
        exact h1.append h3
      · rcases List.mem_cons.1 hg with rfl | hg
        · refine ⟨by omega, ?_⟩
          rw [ho, Nat.sub_self, List.drop_zero, ← hql, List.take_left]
          exact h2
        · obtain ⟨k1, k2⟩ := h4 g hg
          refine ⟨by omega, ?_⟩
          rw [List.drop_append, List.drop_of_length_le (by omega), List.nil_append, hql]
          rw [show g.offset - o - P.cellsOf f.type = g.offset - (o + P.cellsOf f.type) by omega]
          exact k2
    · cases h

theorem add_add (a : Addr) (x y : Nat) : (a.add x).add y = a.add (x + y) := by
  by_cases hx : x = 0
  · subst hx; simp [Addr.add]
  · by_cases hy : y = 0
    · subst hy; simp [Addr.add]
    · simp [Addr.add, hx, hy, Nat.add_assoc]

theorem add_none (a : Addr) (h : a.spot = none) (n : Nat) : (⟨a.block, a.off + n, none⟩ : Addr) = a.add n := by
  obtain ⟨b, o, sp⟩ := a
  simp only at h; subst h
  by_cases hn : n = 0
  · subst hn; simp [Addr.add]
  · simp [Addr.add, hn]

def offs (k e : Nat) : Nat → List Field
  | 0 => []
  | n + 1 => offs k e n ++ [{ (default : Field) with type := e, offset := n * k }]

theorem cells_get {base : Nat} {a : Addr} {n : Nat} {cs : List Value} (h : w.cells? base a n = some cs) : cs.length = n ∧ ∀ (i : Nat) (v : Value), cs[i]? = some v → w.cell? (a.add i) = some v := by
  unfold World.cells? at h
  split at h
  · have hl := mapM_some_length h
    simp only [List.length_range] at hl
    refine ⟨hl, fun i v hv => ?_⟩
    have hi : i < n := by have := (List.getElem?_eq_some_iff.1 hv).1; omega
    have := mapM_some_get h i i (by simp [hi])
    rw [this, hv]
  · cases h

theorem trod_ok {ts : List TypeId} (hts : closedTs P ts = true) {base : Nat} {spare : Nat → Bool} {held : Bool} : ∀ (fuel : Nat) (t : TypeId) (cs : List Value) (x : DataW H × List MemPlace), t ∈ ts →
    DataW.trod enc P w base spare held fuel t cs = some x → (x.1.weights P t).all (· ≤ reachBytes) = true → ∃ qs, F2 (RP w fun b => b < w.heap.size) qs cs ∧ CT P fuel t qs := by
  intro fuel
  induction fuel with
  | zero => intro t cs x _ h; simp [DataW.trod] at h
  | succ fuel ih =>
    intro t cs x ht h hw
    have hc := List.all_eq_true.1 hts t ht
    cases hu : P.underlying t with
    | none => rw [hu] at hc; simp at hc
    | some d =>
      rw [hu] at hc
      cases d with
      | bool =>
        obtain ⟨b, rfl, _⟩ := DataW.trod_bool hu h
        exact ⟨[.b b], .cons (.b b) .nil, by simp only [CT, hu]; exact ⟨b, rfl⟩⟩
      | int k =>
        obtain ⟨i, rfl, _, hwf⟩ := DataW.trod_int hu h
        exact ⟨[.i k i], .cons (.i k i) .nil, by simp only [CT, hu]; exact ⟨i, rfl, hwf⟩⟩
      | string =>
        obtain ⟨s, rfl, rfl, _⟩ := DataW.trod_string hu h
        refine ⟨[.s s.data.toList], .cons (.s s) .nil, ?_⟩
        simp only [CT, hu]
        refine ⟨_, rfl, ?_⟩
        simpa [DataW.weights] using hw
      | slice e =>
        simp only [Bool.and_eq_true, decide_eq_true_eq, List.contains_eq_mem] at hc
        rcases DataW.trod_slice hu h with ⟨rfl, rfl⟩ | ⟨a, len, cap, elems, rest, n, hn, rfl, rfl, hb, hl, hm, hlen, hel, hsp, hns⟩
        · exact ⟨[.l []], .cons (.e none 0) .nil, by simp only [CT, hu]; exact ⟨[], rfl, by simp, fun r hr => by simp at hr⟩⟩
        · cases hn
          simp only [DataW.weights, hu, List.all_cons, List.all_append, Bool.and_eq_true, decide_eq_true_eq] at hw
          have hone : ∀ i, i < len → ∃ (q : List PV) (cv : List Value), w.cells? base (a.add (i * P.cellsOf e)) (P.cellsOf e) = some cv ∧ F2 (RP w fun b => b < w.heap.size) q cv ∧ CT P fuel e q := by
            intro i hi
            have h1 := hel i hi
            obtain ⟨y, hy⟩ : ∃ y, elems[i]? = some y := ⟨_, List.getElem?_eq_getElem (by omega)⟩
            rw [hy] at h1
            obtain ⟨cv, h2, h3⟩ := bindO h1
            obtain ⟨q, h4, h5⟩ := ih e cv y hc.1 h3 (weightsAll_get hw.2.1 y.1 (List.mem_map.2 ⟨y, List.mem_of_getElem? hy, rfl⟩))
            exact ⟨q, cv, h2, h4, h5⟩
          have hlist : ∀ n, n ≤ len → ∃ rows : List (List PV), rows.length = n ∧ ∀ (i : Nat) (q : List PV), rows[i]? = some q → ∃ cv, w.cells? base (a.add (i * P.cellsOf e)) (P.cellsOf e) = some cv ∧ F2 (RP w fun b => b < w.heap.size) q cv ∧ CT P fuel e q := by
            intro n
            induction n with
            | zero => intro _; exact ⟨[], rfl, fun i q h => by simp at h⟩
            | succ n ihn =>
              intro hn
              obtain ⟨rows, h1, h2⟩ := ihn (by omega)
              obtain ⟨q, cv, h3, h4, h5⟩ := hone n (by omega)
              refine ⟨rows ++ [q], by simp [h1], fun i r hr => ?_⟩
              by_cases hi : i < n
              · rw [List.getElem?_append_left (by omega)] at hr; exact h2 i r hr
              · have : i = n := by have := (List.getElem?_eq_some_iff.1 hr).1; simp at this; omega
                subst this
                rw [List.getElem?_append_right (by omega), h1, Nat.sub_self] at hr
                simp only [List.getElem?_cons_zero, Option.some.injEq] at hr
                subst hr; exact ⟨cv, h3, h4, h5⟩
          obtain ⟨rows, hrl, hrows⟩ := hlist len (Nat.le_refl _)
          have hkl : ∀ (i : Nat) (r : List PV), rows[i]? = some r → r.length = P.cellsOf e := by
            intro i r hr
            obtain ⟨cv, k1, k2, k3⟩ := hrows i r hr
            rw [k2.length, (cells_get k1).1]
          refine ⟨[.l rows], .cons ?_ .nil, ?_⟩
          · by_cases h0 : len = 0
            · subst h0
              have : rows = [] := List.eq_nil_of_length_eq_zero hrl
              subst this; exact .e _ _
            · have hget : ∀ (i : Nat) (r : List PV) (j : Nat) (c : PV), rows[i]? = some r → r[j]? = some c → ∃ v, w.cell? (a.add (i * P.cellsOf e + j)) = some v ∧ RP w (fun b => b < w.heap.size) c v := by
                intro i r j c hi hj
                obtain ⟨cv, k1, k2, k3⟩ := hrows i r hi
                obtain ⟨v, h6, h7⟩ := k2.get hj
                have := (cells_get k1).2 j v h6
                rw [add_add] at this
                exact ⟨v, this, h7⟩
              obtain ⟨q0, cv0, g1, g2, g3⟩ := hone 0 (by omega)
              obtain ⟨v0, hv0⟩ : ∃ v, cv0[0]? = some v := ⟨_, List.getElem?_eq_getElem (by have := (cells_get g1).1; omega)⟩
              have hc0 := (cells_get g1).2 0 v0 hv0
              have ha0 : (a.add (0 * P.cellsOf e)).add 0 = a := by simp [Addr.add]
              rw [ha0] at hc0
              have hspot : a.spot = none := by
                simp only [World.cell?] at hc0
                split at hc0
                · split at hc0
                  · cases hc0
                  · rename_i hs; cases hsp' : a.spot with
                    | none => rfl
                    | some _ => simp [hsp'] at hs
                · cases hc0
              have hblk : a.block < w.heap.size := by
                simp only [World.cell?] at hc0
                split at hc0
                · rename_i c _ _ hh; exact (Array.getElem?_eq_some_iff.1 hh).1
                · cases hc0
              have key := RP.l (w := w) (D := fun b => b < w.heap.size) rows a (P.cellsOf e) cap (fun i j => (w.cell? (a.add (i * P.cellsOf e + j))).getD undef) hspot hblk (by omega) hkl
                (fun i r j c hi hj => by
                  obtain ⟨v, k1, _⟩ := hget i r j c hi hj
                  rw [k1, Option.getD_some, ← k1, add_none a hspot])
                (fun i r j c hi hj => by
                  obtain ⟨v, k1, k2⟩ := hget i r j c hi hj
                  rw [k1]; exact k2)
              rw [hrl] at key
              exact key
          · simp only [CT, hu]
            refine ⟨rows, rfl, ?_, fun r hr => ?_⟩
            · refine Nat.le_trans (Nat.mul_le_mul_right _ ?_) hw.1
              simp; omega
            · obtain ⟨i, hi⟩ := List.mem_iff_getElem?.1 hr
              obtain ⟨cv, k1, k2, k3⟩ := hrows i r hi
              exact ⟨hkl i r hi, k3⟩
      | struct fs =>
        simp only [Bool.and_eq_true, beq_iff_eq, List.all_eq_true, List.contains_eq_mem, decide_eq_true_eq] at hc
        obtain ⟨xs, n, hn, rfl, hl, hxl, hf⟩ := DataW.trod_struct hu h
        cases hn
        simp only [DataW.weights, hu] at hw
        obtain ⟨qs, h1, h2⟩ := tile_ok (P := P) (R := RP w fun b => b < w.heap.size) (C := fun f q => CT P fuel f.type q) (cs := cs) (fs := fs.toList) (o := 0) (by rw [hc.2, hl]) (fun f hfm => by
          obtain ⟨i, hi⟩ := List.mem_iff_getElem?.1 hfm
          have h3 := hf i f (by simpa using hi)
          have hil : i < fs.size := by have := (List.getElem?_eq_some_iff.1 hi).1; simpa using this
          obtain ⟨y, hy⟩ : ∃ y, xs[i]? = some y := ⟨_, List.getElem?_eq_getElem (by omega)⟩
          rw [hy] at h3
          exact ih f.type _ y (hc.1 f hfm) h3 (weightsEach_get hw i f.type y.1 (by simp [List.getElem?_map, hi]) (by simp [List.getElem?_map, hy])))
        refine ⟨qs, by simpa using h1, ?_⟩
        simp only [CT, hu]
        refine ⟨by rw [h1.length]; simpa using hl, fun f hfm => ?_⟩
        have := (h2 f (by simpa using hfm)).2
        simpa using this
      | array k e =>
        simp only [Bool.and_eq_true, beq_iff_eq, List.contains_eq_mem, decide_eq_true_eq] at hc
        obtain ⟨xs, n, hn, rfl, hl, hxl, hf⟩ := DataW.trod_array hu h
        cases hn
        simp only [DataW.weights, hu] at hw
        have tl : ∀ n, tile P 0 (offs (P.cellsOf e) e n) = some (n * P.cellsOf e) := by
          have ap : ∀ (l l' : List Field) (o k : Nat), tile P o l = some k → tile P o (l ++ l') = tile P k l' := by
            intro l
            induction l with
            | nil => intro l' o k h; simp only [tile, Option.some.injEq] at h; subst h; rfl
            | cons f l ihl => intro l' o k h; simp only [tile, List.cons_append] at h ⊢; split at h; rename_i hh; rw [if_pos hh]; exact ihl _ _ _ h; cases h
          intro n
          induction n with
          | zero => simp [offs, tile]
          | succ n ihn => simp only [offs]; rw [ap _ _ _ _ ihn]; simp [tile, Nat.succ_mul]
        have mem : ∀ n f, f ∈ offs (P.cellsOf e) e n → f.type = e ∧ ∃ i, i < n ∧ f.offset = i * P.cellsOf e := by
          intro n
          induction n with
          | zero => intro f hf; simp [offs] at hf
          | succ n ihn =>
            intro f hf
            simp only [offs, List.mem_append, List.mem_singleton] at hf
            rcases hf with hf | rfl
            · obtain ⟨h1, i, h2, h3⟩ := ihn f hf; exact ⟨h1, i, by omega, h3⟩
            · exact ⟨rfl, n, by omega, rfl⟩
        have mem' : ∀ n i, i < n → ∃ f, f ∈ offs (P.cellsOf e) e n ∧ f.type = e ∧ f.offset = i * P.cellsOf e := by
          intro n
          induction n with
          | zero => intro i hi; omega
          | succ n ihn =>
            intro i hi
            by_cases h : i = n
            · subst h; exact ⟨_, by simp only [offs, List.mem_append, List.mem_singleton]; exact .inr rfl, rfl, rfl⟩
            · obtain ⟨f, h1, h2⟩ := ihn i (by omega)
              exact ⟨f, by simp only [offs, List.mem_append]; exact .inl h1, h2⟩
        obtain ⟨qs, h1, h2⟩ := tile_ok (P := P) (R := RP w fun b => b < w.heap.size) (C := fun f q => CT P fuel f.type q) (cs := cs) (fs := offs (P.cellsOf e) e k) (o := 0) (by rw [tl, hl, hc.2]) (fun f hfm => by
          obtain ⟨h3, i, h4, h5⟩ := mem k f hfm
          have h6 := hf i h4
          obtain ⟨y, hy⟩ : ∃ y, xs[i]? = some y := ⟨_, List.getElem?_eq_getElem (by omega)⟩
          rw [hy] at h6
          rw [h3, h5]
          exact ih e _ y hc.1 h6 (weightsAll_get hw y.1 (List.mem_map.2 ⟨y, List.mem_of_getElem? hy, rfl⟩)))
        refine ⟨qs, by simpa using h1, ?_⟩
        simp only [CT, hu]
        refine ⟨by rw [h1.length]; simpa using hl, fun i hi => ?_⟩
        obtain ⟨f, h3, h4, h5⟩ := mem' k i hi
        have := (h2 f h3).2
        rw [h4, h5] at this
        simpa using this
      | _ => simp at hc

/-- an argument -/
def AT (P : Program) (t : TypeId) : PT → Prop
  | .a q => ∃ n, CT P n t [q]
  | .g qs => ∃ n, CT P n t qs
  | _ => False

/-- of a plain type; of a struct's, an array's -/
def aggD : TypeDesc → Bool
  | .struct _ | .array _ _ => true
  | _ => false
def aggT (P : Program) (t : TypeId) : Bool := match P.underlying t with | some d => aggD d | none => false
def PT.isG : PT → Bool
  | .g _ => true
  | _ => false

theorem arg_ok {ts : List TypeId} (hts : closedTs P ts = true) {t : TypeId} (ht : t ∈ ts) {base b0 : Nat} {r : Reach} {v : Value} (hv : Value.okWide P w r b0 t v) {spare : Nat → Bool} {held : Bool} {d : DataW H} {ps : List MemPlace}
    (h : DataW.Trod enc P w base spare held t v d ps) (hw : (d.weights P t).all (· ≤ reachBytes) = true) : ∃ p, RPT w (fun b => b < w.heap.size) p v ∧ AT P t p ∧ p.isG = aggT P t := by
  obtain ⟨fuel, hf⟩ := h
  obtain ⟨qs, h1, h2⟩ := trod_ok hts fuel t _ _ ht hf hw
  have plain : v.cells = #[v] → aggT P t = false → ∃ p, RPT w (fun b => b < w.heap.size) p v ∧ AT P t p ∧ p.isG = aggT P t := by
    intro hvc ha
    rw [hvc] at h1
    cases h1 with
    | cons x t => cases t; exact ⟨.a _, x, ⟨fuel, h2⟩, ha.symm⟩
  have hc := List.all_eq_true.1 hts t ht
  cases hu : P.underlying t with
  | none => rw [hu] at hc; simp at hc
  | some d =>
    rw [hu] at hc
    have ha : aggT P t = aggD d := by simp only [aggT, hu]
    cases d with
    | bool => obtain ⟨b, rfl⟩ := okWide_bool hu hv; exact plain rfl ha
    | int k => obtain ⟨b, rfl⟩ := okWide_int hu hv; exact plain rfl ha
    | string => obtain ⟨b, rfl⟩ := okWide_string hu hv; exact plain rfl ha
    | slice e => obtain ⟨a, l, c, rfl⟩ := okWide_slice hu hv; exact plain rfl ha
    | struct fs =>
      simp only [Value.okWide, hu] at hv
      obtain ⟨cs, rfl, _⟩ := hv
      exact ⟨.g qs, ⟨cs.toList, by simp, by simpa [Value.cells] using h1⟩, ⟨fuel, h2⟩, ha.symm⟩
    | array k e =>
      simp only [Value.okWide, hu] at hv
      obtain ⟨cs, rfl, _⟩ := hv
      exact ⟨.g qs, ⟨cs.toList, by simp, by simpa [Value.cells] using h1⟩, ⟨fuel, h2⟩, ha.symm⟩
    | _ => simp at hc

theorem args_ok {ts : List TypeId} (hts : closedTs P ts = true) {r : Reach} {b0 : Nat} : ∀ {us : List TypeId} {vs : List Value} {ds : List (DataW H)} {ps : List MemPlace}, (∀ t, t ∈ us → t ∈ ts) →
    (∀ (j : Nat) t v, us[j]? = some t → vs[j]? = some v → Value.okWide P w r b0 t v) → DataW.TrodAll enc P w 0 (fun _ => true) true us vs ds ps → (DataW.weightsEach P us ds).all (· ≤ reachBytes) = true →
    ∃ qs, F2 (RPT w fun b => b < w.heap.size) qs vs ∧ F2 (fun t p => AT P t p ∧ p.isG = aggT P t) us qs
  | [], [], [], _, _, _, _, _ => ⟨[], .nil, .nil⟩
  | [], _ :: _, _, _, _, _, h, _ => h.elim
  | [], [], _ :: _, _, _, _, h, _ => h.elim
  | _ :: _, [], _, _, _, _, h, _ => h.elim
  | _ :: _, _ :: _, [], _, _, _, h, _ => h.elim
  | t :: us, v :: vs, d :: ds, ps, hm, hv, h, hw => by
    obtain ⟨p, q, h1, h2, _⟩ := h
    simp only [DataW.weightsEach, List.all_append, Bool.and_eq_true] at hw
    obtain ⟨x, k1, k2, k3⟩ := arg_ok hts (hm t (by simp)) (hv 0 t v rfl rfl) h1 hw.1
    obtain ⟨qs, k4, k5⟩ := args_ok hts (fun t ht => hm t (by simp [ht])) (fun j t v h3 h4 => hv (j + 1) t v (by simpa using h3) (by simpa using h4)) h2 hw.2
    exact ⟨x :: qs, .cons k1 k4, .cons ⟨k2, k3⟩ k5⟩

theorem args_shut (hl : laidOutB P = true) {W W' : World} (hb : Below W.heap.size W W') : ∀ {us : List TypeId} {vs : List Value} {ds : List (DataW H)} {ps : List MemPlace}, (∀ t, t ∈ us → P.readableRec t = true ∧ t < P.types.size) →
    DataW.TrodAll enc P W 0 (fun _ => true) true us vs ds ps → DataW.TrodAll enc P W' 0 (fun b => decide (b < W.heap.size)) true us vs ds ps
  | [], [], [], _, _, h => h
  | [], _ :: _, _, _, _, h => h.elim
  | [], [], _ :: _, _, _, h => h.elim
  | _ :: _, [], _, _, _, h => h.elim
  | _ :: _, _ :: _, [], _, _, h => h.elim
  | t :: us, v :: vs, d :: ds, ps, hr, h => by
    obtain ⟨p, q, h1, h2, h3⟩ := h
    have lt : ∀ x ∈ p, x.block < W.heap.size := by obtain ⟨m, hm⟩ := h1; exact DataW.trod_lt m _ _ _ hm
    exact ⟨p, q, Below.trod hl (hr t (by simp)).1 (hr t (by simp)).2 h1 hb lt, args_shut hl hb (fun t ht => hr t (by simp [ht])) h2, h3⟩
end

/-- A ROW: 'whatever the input: true; the input reads as it did'. -/
theorem row_ok {C : Checked} {os : Os} {f : FuncId} {fn : Func} {s : ChangeSpec} {H : Type} {enc : TypeId × Value → H} {dom : List PathCond} {eqs : List (TypeId × List Nat)} {S : Seat}
    (own : ownKnob C.prog.godebug = none) (started : os.Started) (noInit : C.prog.inits.idxOf? f = none) (hfn : C.prog.funcs[f]? = some fn) (hl : laidOutB C.prog = true)
    (witness : ∃ (w : World) (tape : Tape) (i : Input), w.os = os ∧ (w.forCall tape i).Shaped C.prog ∧ i.vars = [] ∧ Input.okWide C.prog (w.forCall tape i) .any w.heap.size f i ∧
      s.pre6 enc C.prog fn dom false (w.forCall tape i).memory i.args ∧ Assume.holds {} C.prog (lone (Frame.enter C.prog f i.args .normal) [] (w.forCall tape i)))
    {ts : List TypeId} (hts : closedTs C.prog ts = true) (hpar : (fn.params.toList.all fun t => ts.contains t && (C.prog.readableRec t && decide (t < C.prog.types.size))) = true)
    {tb : TypeId} (hres : fn.resultTypes = #[tb]) (hbool : C.prog.underlying tb = some .bool)
    (hsv : s.vars = []) (hs : ∀ ds : List (DataW H), ds.length = fn.params.size → s.fn H ds = { results := [.lit (.bool true)], args := ds })
    (hS : SeatOk C.prog eqs S) (hlaw : ∀ ps, F2 (fun t p => AT C.prog t p ∧ p.isG = aggT C.prog t) fn.params.toList ps → eP S f ps = some (.a (.b true))) :
    ReturnsInHanded {} C os f .any (s.pre6 enc C.prog fn dom false) (s.post enc C.prog fn false true false false) := by
  refine returnsInHanded_of_change_sized (C := C) own started noInit hfn witness ?_
  intro W base args ds gs before hval hW hcnd hsz _
  have hW' := hW
  obtain ⟨p, q, hA, hV, hpq, hfz, hnd⟩ := hW
  rw [hsv] at hV
  obtain ⟨rfl, rfl⟩ := trodVars_none hV
  have hpar' := List.all_eq_true.1 hpar
  have hsz' : (DataW.weightsEach C.prog fn.params.toList ds).all (· ≤ reachBytes) = true := by
    have e : s.plain.varTypes C.prog = [] := by simp [DataSpec.varTypes, ChangeSpec.plain, hsv]
    rw [e, List.append_nil, List.append_nil] at hsz
    exact hsz
  obtain ⟨qs, h1, h2⟩ := args_ok hts (us := fn.params.toList) (fun t ht => by have := hpar' t ht; simp only [Bool.and_eq_true, List.contains_eq_mem, decide_eq_true_eq] at this; exact this.1) (fun j t v h3 h4 => hval j t v (by simpa using h3) (by simpa using h4)) hA hsz'
  have hcall := eP_calls hS (hlaw qs h2) (w := W) (D := fun b => b < W.heap.size) (fun b hb => hb) h1
  simp only [Array.toArray_toList] at hcall
  refine hcall.mono fun e W' he => ?_
  obtain ⟨v, rfl, hr, hb⟩ := he
  have hv : v = .bool true := by
    have hr : RP _ _ (.b true) v := hr
    cases hr; rfl
  subst hv
  have hlen : ds.length = fn.params.size := by
    have : ∀ {us : List TypeId} {vs : List Value} {ds : List (DataW H)} {ps : List MemPlace}, DataW.TrodAll enc C.prog W 0 (fun _ => true) true us vs ds ps → ds.length = us.length := by
      intro us
      induction us with
      | nil => intro vs ds ps h; cases vs <;> cases ds <;> first | rfl | exact h.elim
      | cons t us ih => intro vs ds ps h; cases vs <;> cases ds <;> first | exact h.elim | (obtain ⟨_, _, _, h2, _⟩ := h; simp [ih h2])
    simpa using this hA
  have hsf : s.fn H (ds ++ []) = { results := [.lit (.bool true)], args := ds } := by rw [List.append_nil]; exact hs ds hlen
  refine ⟨.bool true, rfl, ds, [], before, [], p, [], hW', ?_, ?_, ?_, ?_, fun h => by cases h⟩
  · rw [hsf, hres]
    exact trodAll_mk1 (shut_bool hbool _)
  · rw [hsf]
    exact args_shut hl hb (fun t ht => by have := hpar' t ht; simp only [Bool.and_eq_true, decide_eq_true_eq] at this; exact this.2) hA
  · rw [hsf, hsv]; rfl
  · exact hb.frame _

end Go.Fx
