import Derived.Test.YtkpfjolcmkikeaaFx12
set_option linter.unusedSimpArgs false
set_option linter.unusedVariables false
/-
  Calls; every operation.
-/
namespace Go.Fx
open Go.RowKit

section
variable {P : Program} {eqs : List (TypeId × List Nat)} {CR : Nat → Code → C → Prop} {m m' : Mt} {σ σ' : St} {w w' : World} {e : Env} {a : Act}

theorem frL_ok (h : SR CR m σ w) {xs : List AV} {ps : List PV} {vs : List Value} (hr : F2 (RA m σ w) xs vs) (hf : frL σ xs = some ps) : F2 (RP w (DS m σ)) ps vs :=
  F2_comp (fun x p v _ (a : frA σ x = some p) (b : RA m σ w x v) => frA_ok h b a) (frL_F2 hf) hr

theorem frV_F2 {xs : List (Bool × List AV)} {ps : List (Bool × List PV)} (h : frV σ xs = some ps) : F2 (fun x p => x.1 = p.1 ∧ frL σ x.2 = some p.2) xs ps := by
  induction xs generalizing ps with
  | nil => simp [frV] at h; subst h; exact .nil
  | cons x xs ih =>
    simp only [frV] at h
    obtain ⟨v, h1, h⟩ := bindO h
    obtain ⟨vs, h2, h⟩ := bindO h
    simp only [Option.some.injEq] at h; subst h
    exact .cons ⟨rfl, h1⟩ (ih h2)

/-- one group of cells, frozen -/
theorem frG_ok {D : Nat → Prop} {g : Bool} {cs : List AV} {ps : List PV} {v : Value} (hg : RGA (RA m σ w) g cs v) (hf : frL σ cs = some ps) (key : ∀ vs, F2 (RA m σ w) cs vs → F2 (RP w D) ps vs) : RG (RP w D) g ps v := by
  unfold RGA at hg
  unfold RG
  cases g with
  | true =>
    simp only [if_true] at hg ⊢
    obtain ⟨vs, rfl, h2⟩ := hg
    exact ⟨vs, rfl, key vs h2⟩
  | false =>
    simp only [Bool.false_eq_true, if_false] at hg ⊢
    obtain ⟨x, rfl, h2⟩ := hg
    have := key [v] (.cons h2 .nil)
    cases this with
    | cons x t => cases t; exact ⟨_, rfl, x⟩

theorem frT_ok (h : SR CR m σ w) {t : TV} {p : PT} {v : Value} (hr : RT m σ w t v) (hf : frT σ t = some p) : RPT w (DS m σ) p v := by
  cases t with
  | u => simp only [frT, Option.some.injEq] at hf; subst hf; exact hr
  | a x => simp only [frT] at hf; obtain ⟨q, h1, hf⟩ := bindO hf; simp only [Option.some.injEq] at hf; subst hf; exact frA_ok h hr h1
  | g cs =>
    simp only [frT] at hf; obtain ⟨q, h1, hf⟩ := bindO hf; simp only [Option.some.injEq] at hf; subst hf
    obtain ⟨vs, hv, h2⟩ := hr
    exact ⟨vs, hv, frL_ok h h2 h1⟩
  | t ts =>
    simp only [frT] at hf; obtain ⟨q, h1, hf⟩ := bindO hf; simp only [Option.some.injEq] at hf; subst hf
    obtain ⟨us, hv, h2⟩ := hr
    refine ⟨us, hv, F2_comp (fun x p u hx hxp hxu => ?_) (frV_F2 h1) h2⟩
    rw [← hxp.1]
    exact frG_ok hxu hxp.2 (fun vs hvs => frL_ok h hvs hxp.2)

theorem frTs_F2 {xs : List TV} {ps : List PT} (h : frTs σ xs = some ps) : F2 (fun x p => frT σ x = some p) xs ps := by
  induction xs generalizing ps with
  | nil => simp [frTs] at h; subst h; exact .nil
  | cons x xs ih =>
    simp only [frTs] at h
    obtain ⟨v, h1, h⟩ := bindO h
    obtain ⟨vs, h2, h⟩ := bindO h
    simp only [Option.some.injEq] at h; subst h
    exact .cons h1 (ih h2)

/-- all cells of values -/
def cellsOf : TV → List AV
  | .u => []
  | .a x => [x]
  | .g cs => cs
  | .t vs => vs.flatMap (·.2)

theorem klL_append : ∀ (xs ys : List AV) (σ : St), klL σ (xs ++ ys) = klL (klL σ xs) ys
  | [], _, _ => rfl
  | x :: xs, ys, σ => by simp only [List.cons_append, klL]; exact klL_append xs ys _
theorem klV_eq : ∀ (vs : List (Bool × List AV)) (σ : St), klV σ vs = klL σ (vs.flatMap (·.2))
  | [], _ => rfl
  | x :: vs, σ => by simp only [klV, List.flatMap_cons]; rw [klL_append, klV_eq vs]
theorem klT_eq (t : TV) (σ : St) : klT σ t = klL σ (cellsOf t) := by
  cases t with
  | t vs => simp only [klT, cellsOf]; exact klV_eq vs σ
  | _ => rfl
theorem klTs_eq : ∀ (ts : List TV) (σ : St), klTs σ ts = klL σ (ts.flatMap cellsOf)
  | [], _ => rfl
  | t :: ts, σ => by simp only [klTs, List.flatMap_cons]; rw [klL_append, klTs_eq ts, klT_eq]

theorem klL_none : ∀ (xs : List AV) (σ : St), (∀ x, x ∈ xs → ownA x = false) → klL σ xs = σ
  | [], _, _ => rfl
  | x :: xs, σ, h => by
    have : klA σ x = σ := by
      have := h x (by simp)
      cases x <;> simp_all [klA, ownA]
    simp only [klL, this]
    exact klL_none xs σ fun y hy => h y (by simp [hy])

theorem ownT_cells {t : TV} (h : ownT t = false) : ∀ x, x ∈ cellsOf t → ownA x = false := by
  cases t with
  | u => simp [cellsOf]
  | a x => simpa [cellsOf, ownT] using h
  | g cs => intro x hx; simp only [ownT, List.any_eq_false] at h; simpa using h x hx
  | t vs =>
    intro x hx
    simp only [cellsOf, List.mem_flatMap] at hx
    obtain ⟨y, hy, hxy⟩ := hx
    simp only [ownT, List.any_eq_false] at h
    have := h y hy
    simp only [List.any_eq_true, not_exists, not_and] at this
    simpa using this x hxy

/-- arguments, frozen and given up -/
theorem fkTs_ok (h : SR CR m σ w) {ts : List TV} {ps : List PT} {vs : List Value} (hr : F2 (RT m σ w) ts vs) (hf : frTs σ ts = some ps) :
    ∃ m', SR CR m' (klTs σ ts) w ∧ Xt m σ w m' (klTs σ ts) w ∧ F2 (RPT w m'.D) ps vs := by
  obtain ⟨m', h1, x1, d1⟩ := klL_ok (xs := ts.flatMap cellsOf) h
  rw [← klTs_eq] at h1 x1
  refine ⟨m', h1, x1, ?_⟩
  have keyL : ∀ (t : TV), t ∈ ts → ∀ (cs : List AV) (qs : List PV) (us : List Value), (∀ x, x ∈ cs → x ∈ cellsOf t) → frL σ cs = some qs → F2 (RA m σ w) cs us → F2 (RP w m'.D) qs us := by
    intro t ht cs qs us hsub hfr hra
    exact F2_comp (fun x p v hx a b => d1 x (List.mem_flatMap.2 ⟨t, ht, hsub x hx⟩) p v b a) (frL_F2 hfr) hra
  refine F2_comp (fun t p v ht hf1 hr1 => ?_) (frTs_F2 hf) hr
  cases t with
  | u => simp only [frT, Option.some.injEq] at hf1; subst hf1; exact hr1
  | a x =>
    simp only [frT] at hf1; obtain ⟨q, h2, hf1⟩ := bindO hf1; simp only [Option.some.injEq] at hf1; subst hf1
    exact d1 x (List.mem_flatMap.2 ⟨_, ht, by simp [cellsOf]⟩) q v hr1 h2
  | g cs =>
    simp only [frT] at hf1; obtain ⟨q, h2, hf1⟩ := bindO hf1; simp only [Option.some.injEq] at hf1; subst hf1
    obtain ⟨us, hv, h3⟩ := hr1
    exact ⟨us, hv, keyL _ ht cs q us (fun x hx => hx) h2 h3⟩
  | t vs' =>
    simp only [frT] at hf1; obtain ⟨q, h2, hf1⟩ := bindO hf1; simp only [Option.some.injEq] at hf1; subst hf1
    obtain ⟨us, hv, h3⟩ := hr1
    refine ⟨us, hv, F2_comp (fun x p u hx hxp hxu => ?_) (frV_F2 h2) h3⟩
    rw [← hxp.1]
    exact frG_ok hxu hxp.2 (fun vs hvs => keyL _ ht x.2 p.2 vs (fun y hy => List.mem_flatMap.2 ⟨x, hx, hy⟩) hxp.2 hvs)

theorem ofPT_ok {p : PT} {v : Value} (h : RPT w m.D p v) : RT m σ w (ofPT p) v := by
  cases p with
  | z => exact h
  | a x => exact h
  | g cs => obtain ⟨vs, hv, h2⟩ := h; exact ⟨vs, hv, F2_p rfl h2⟩
  | t ts =>
    obtain ⟨us, hv, h2⟩ := h
    refine ⟨us, hv, ?_⟩
    have : ∀ {ts : List (Bool × List PV)} {us : List Value}, F2 (fun x u => RG (RP w m.D) x.1 x.2 u) ts us → F2 (fun x u => RGA (RA m σ w) x.1 x.2 u) (ts.map fun x => (x.1, x.2.map .p)) us := by
      intro ts us h
      induction h with
      | nil => exact .nil
      | cons x _ ih =>
        rename_i g _ _ _ _
        refine .cons ?_ ih
        unfold RG at x
        unfold RGA
        split
        · rename_i e; rw [if_pos e] at x; obtain ⟨vs, hv, h2⟩ := x; exact ⟨vs, hv, F2_p rfl h2⟩
        · rename_i e; rw [if_neg e] at x; obtain ⟨y, hy, h2⟩ := x; exact ⟨.p y, by simp [hy], h2⟩
    exact this h2

/-- A call that turned nothing of what was there; D may grow by what it laid. -/
theorem below_ok (h : SR CR m σ w) (hb : Below w.heap.size w w') (D' : Nat → Prop) (h1 : ∀ b, m.D b → D' b) (h2 : ∀ b, D' b → m.D b ∨ (w.heap.size ≤ b ∧ b < w'.heap.size)) :
    SR CR { m with D := D' } σ w' ∧ Xt m σ w { m with D := D' } σ w' := by
  have x : Xt m σ w { m with D := D' } σ w' :=
    { mu := fun _ _ => rfl, la := fun _ _ => rfl, clk := Nat.le_refl _, len := Nat.le_refl _
      bs := fun s b hs _ => ⟨b, hs, sameShape.refl _⟩
      D := h1
      new := fun b hb => by rcases h2 b hb with h | h; exact .inl h; exact .inr (.inl h.1)
      img := fun b hb => .inl hb
      kept := fun b hlt _ => hb.block b hlt
      os := hb.os, tape := hb.tape, output := hb.output, size := hb.size }
  refine ⟨SR.step h x (fun s b hs => .inr ⟨hs, rfl, fun B c hm => hb.block B (h.inS_lt (.inl ⟨s, b, c, hs, hm⟩))⟩) h.gen h.inj ?_ ?_ rfl (fun l hl => hb.block _ (h.inS_lt (.inr ⟨l, hl, rfl⟩))), x⟩
  · intro b hi hD
    have hi' : InS m σ b := hi
    rcases h2 b hD with h3 | h3
    · exact h.dj b hi' h3
    · have := h.inS_lt hi'; omega
  · intro b hD
    rcases h2 b hD with h3 | h3
    · have := h.dlt b h3; have := hb.size; omega
    · exact h3.2

/-! ### what is known of calls -/
def FW (r : Option Nat) : Fence := { fn := fun _ => True, depth := none, alive := false, round := r }
def Ent (P : Program) (f : FuncId) : Prop := ∃ fn, P.funcs[f]? = some fn ∧ fn.body.isNone = false ∧ (fn.name == "runtime.NumGoroutine") = false

/-- What the machine's call of a pure function does. -/
def SndP1 (P : Program) (f : FuncId) (ps : List PT) (r : PT) : Prop :=
  ∀ (w : World) (D : Nat → Prop) (vs : List Value), (∀ b, D b → b < w.heap.size) → F2 (RPT w D) ps vs → ∀ rr n,
    CallsIn (FW rr) n P f vs.toArray w fun e w' => ∃ v, e = .returned v ∧ RPT w' (fun b => D b ∨ (w.heap.size ≤ b ∧ b < w'.heap.size)) r v ∧ Below w.heap.size w w'
def SndP (P : Program) (cp : FuncId → List PT → Option PT) : Prop := ∀ f ps r, cp f ps = some r → Ent P f ∧ SndP1 P f ps r

def PostS (CR : Nat → Code → C → Prop) (m : Mt) (σ : St) (w : World) (r : TV) (σ' : St) (e : Ending) (w' : World) : Prop :=
  ∃ v m', e = .returned v ∧ SR CR m' σ' w' ∧ RT m' σ' w' r v ∧ Xt m σ w m' σ' w'

def SndS1 (P : Program) (CR : Nat → Code → C → Prop) (args : List TV) (σ : St) (r : TV) (σ' : St) : Cal → Prop
  | .f g => Ent P g ∧ ∀ m w vs, SR CR m σ w → F2 (RT m σ w) args vs → ∀ rr n, CallsIn (FW rr) n P g vs.toArray w (PostS CR m σ w r σ')
  | .y l => ∀ m w vs, SR CR m σ w → F2 (RT m σ w) args vs → ∀ lo : Loop, w.heap[m.la l]? = some (.loop lo) → vs.length = lo.params.size ∧
      ∀ rr n, RoundIn (FW rr) n P (m.la l) lo.fn ((lo.params.zip vs.toArray).foldl (fun tmps (x : Tmp × Value) => tmps.setIfInBounds x.1 x.2) lo.tmps) lo.assign lo.body w (PostS CR m σ w r σ')
def SndS (P : Program) (CR : Nat → Code → C → Prop) (cs : Cal → List TV → St → Option (TV × St)) : Prop := ∀ c args σ r σ', cs c args σ = some (r, σ') → SndS1 P CR args σ r σ' c

theorem callFunc_run {f : FuncId} (h : Ent P f) (args : Array Value) (w : World) : (callFunc f args).run P w = .ok (.enter f args) w := by
  obtain ⟨fn, h1, h2, h3⟩ := h
  simp only [callFunc, Sem.run_bind, run_program, Result.andThen_ok, h1, h2, h3, Bool.false_eq_true, if_false, Sem.run_pure]

/-- A pure call, in the middle of the caller's own. -/
theorem pure_call (h : SR CR m σ w) {f : FuncId} {ps : List PT} {r : PT} (hs : SndP1 P f ps r) {ts : List TV} {vs : List Value} (ht : F2 (RT m σ w) ts vs) (hf : frTs σ ts = some ps) {σ' : St} (hσ : σ' = if r.flat = true then σ else klTs σ ts) (rr : Option Nat) (n : Nat) :
    CallsIn (FW rr) n P f vs.toArray w (PostS CR m σ w (ofPT r) σ') := by
  by_cases hfl : r.flat = true
  · rw [if_pos hfl] at hσ; subst hσ
    have hps : F2 (RPT w (DS m σ')) ps vs := F2_comp (fun t p v _ (a : frT σ' t = some p) (b : RT m σ' w t v) => frT_ok h b a) (frTs_F2 hf) ht
    refine (hs w (DS m σ') vs (fun b hb => hb.elim (h.dlt b) h.inS_lt) hps rr n).mono ?_
    rintro e w' ⟨v, rfl, h1, h2⟩
    obtain ⟨k1, k2⟩ := below_ok h h2 m.D (fun _ h => h) (fun _ h => .inl h)
    exact ⟨v, m, rfl, k1, ofPT_ok (h1.flat hfl), k2⟩
  · rw [if_neg hfl] at hσ; subst hσ
    obtain ⟨m1, h1, x1, hps⟩ := fkTs_ok h ht hf
    refine (hs w m1.D vs h1.dlt hps rr n).mono ?_
    rintro e w' ⟨v, rfl, h3, h2⟩
    obtain ⟨k1, k2⟩ := below_ok h1 h2 (fun b => m1.D b ∨ (w.heap.size ≤ b ∧ b < w'.heap.size)) (fun _ h => .inl h) (fun _ h => h)
    exact ⟨v, _, rfl, k1, ofPT_ok (m := { m1 with D := fun b => m1.D b ∨ (w.heap.size ≤ b ∧ b < w'.heap.size) }) h3, x1.trans k2⟩
end

end Go.Fx
