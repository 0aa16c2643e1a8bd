import Derived.Test.YtkpfjolcmkikeaaFx16
set_option linter.unusedSimpArgs false
set_option linter.unusedVariables false
/-
  A region that draws its order: every order comes to what the order of the text comes to.
-/
namespace Go.Fx

section
variable {cp : FuncId → List PT → Option PT} {cs : Cal → List TV → St → Option (TV × St)} {sp : FuncId → Bool}

/-- the run in the order of the text, step by step -/
structure TR (cp : FuncId → List PT → Option PT) (cs : Cal → List TV → St → Option (TV × St)) (sp : FuncId → Bool) (is : List Ins) (E : Nat → Env) (S : Nat → St) : Prop where
  step : ∀ (i : Nat) (ins : Ins), is[i]? = some ins → ∃ v, evV cp cs sp ins (E i) (S i) = some (v, S (i + 1)) ∧ E (i + 1) = (E i).putD ins.dst v

theorem tr_of : ∀ {is : List Ins} {e e' : Env} {σ σ' : St}, evIs cp cs sp is e σ = some (e', σ') → ∃ E S, E 0 = e ∧ S 0 = σ ∧ E is.length = e' ∧ S is.length = σ' ∧ TR cp cs sp is E S
  | [], e, e', σ, σ', h => by
    simp only [evIs, Option.some.injEq, Prod.mk.injEq] at h
    exact ⟨fun _ => e, fun _ => σ, rfl, rfl, h.1, h.2, ⟨fun i ins h => by simp at h⟩⟩
  | i :: is, e, e', σ, σ', h => by
    simp only [evIs] at h
    obtain ⟨x, h1, h⟩ := bindO h
    rw [evI_evV] at h1
    obtain ⟨y, h2, h1⟩ := bindO h1
    simp only [Option.some.injEq] at h1; subst h1
    obtain ⟨E, S, e0, s0, en, sn, ht⟩ := tr_of h
    refine ⟨fun | 0 => e | k + 1 => E k, fun | 0 => σ | k + 1 => S k, rfl, rfl, en, sn, ⟨fun k ins hk => ?_⟩⟩
    cases k with
    | zero =>
      simp only [List.getElem?_cons_zero, Option.some.injEq] at hk; subst hk
      exact ⟨y.1, by simp only [s0]; exact h2, e0⟩
    | succ k => exact ht.step k ins (by simpa using hk)

/-- what 'drawOk' gives -/
structure DO (ops : Array Oper) (b : Array Nat) (is : List Ins) : Prop where
  back : ∀ (i : Nat) (o : Oper), ops[i]? = some o → ∀ e, e ∈ o.after → Region.binds .any e = true → e.on < i
  pl : ∀ (i : Nat) (ins : Ins), is[i]? = some ins → ins.op.xs.all X.plain = true
  one : ∀ (i j : Nat) (x y : Ins) (d : Nat), is[i]? = some x → is[j]? = some y → i ≠ j → x.dst = some d → y.dst ≠ some d
  look : ∀ (i j : Nat) (x y : Ins) (d : Nat), is[i]? = some x → is[j]? = some y → i ≠ j → x.dst = some d → d ∈ y.looks → sure b i j = true
  eff : ∀ (i j : Nat) (x y : Ins), is[i]? = some x → is[j]? = some y → i ≠ j → x.cl.eff = true → y.cl.eff = true → sure b i j = true ∨ (x.nw = true ∧ y.nw = true)
  alone : ∀ (i j : Nat) (x y : Ins), is[i]? = some x → is[j]? = some y → i ≠ j → x.cl.alone = true → sure b i j = true
  wrs : ∀ (i j : Nat) (x y : Ins) (ts : List Nat), is[i]? = some x → is[j]? = some y → i ≠ j → x.cl.wrs = some ts → sure b i j = true ∨ y.op.pure = true ∨ (j < i ∧ ∀ t, t ∈ y.looks → t ∈ ts ∧ ∀ (k : Nat) (z : Ins), is[k]? = some z → j ≤ k → k < i → z.dst ≠ some t)

theorem drawOk_spec {ops : Array Oper} {b : Array Nat} {is : List Ins} (h : drawOk ops b is = true) : DO ops b is := by
  unfold drawOk at h
  simp only [Bool.and_eq_true] at h
  obtain ⟨⟨h1, h2⟩, h3⟩ := h
  have key : ∀ i j x y, is[i]? = some x → is[j]? = some y → i ≠ j → (match x.dst with
     | some d => y.dst != some d && (!(y.looks).contains d || sure b i j)
     | none => true) = true ∧ (!x.cl.eff || !y.cl.eff || sure b i j || (x.nw && y.nw)) = true ∧ (!x.cl.alone || sure b i j) = true ∧ (match x.cl.wrs with
     | some ts => sure b i j || y.op.pure || (decide (j < i) && y.looks.all fun t => ts.contains t && is.zipIdx.all fun z => !(decide (j ≤ z.2) && decide (z.2 < i)) || z.1.dst != some t)
     | none => true) = true := by
    intro i j x y hi hj hne
    have := List.all_eq_true.1 (List.all_eq_true.1 h3 (x, i) (List.mem_zipIdx_iff_getElem?.2 hi)) (y, j) (List.mem_zipIdx_iff_getElem?.2 hj)
    simp only [Bool.or_eq_true, beq_iff_eq] at this
    rcases this with h | h
    · exact absurd h hne
    · rw [Bool.and_eq_true, Bool.and_eq_true, Bool.and_eq_true] at h
      exact ⟨h.1.1.1, h.1.1.2, h.1.2, h.2⟩
  refine ⟨?_, ?_, ?_, ?_, ?_, ?_, ?_⟩
  · intro i o ho e he hb
    have := List.all_eq_true.1 h1 (o, i) (List.mem_zipIdx_iff_getElem?.2 (by simpa using ho))
    simp only [Array.all_eq_true', Bool.or_eq_true, Bool.not_eq_true', decide_eq_true_eq] at this
    rcases this e he with h | h
    · rw [hb] at h; cases h
    · exact h
  · intro i ins hi
    exact List.all_eq_true.1 h2 ins (List.mem_of_getElem? hi)
  · intro i j x y d hi hj hne hd
    have := (key i j x y hi hj hne).1
    rw [hd] at this
    simp only [Bool.and_eq_true] at this
    simpa using this.1
  · intro i j x y d hi hj hne hd hl
    have := (key i j x y hi hj hne).1
    rw [hd] at this
    simp only [Bool.and_eq_true, Bool.or_eq_true, Bool.not_eq_true'] at this
    rcases this.2 with h | h
    · rw [List.contains_eq_mem] at h; simp [hl] at h
    · exact h
  · intro i j x y hi hj hne hx hy
    have := (key i j x y hi hj hne).2.1
    simpa [hx, hy] using this
  · intro i j x y hi hj hne hx
    have := (key i j x y hi hj hne).2.2.1
    simpa [hx] using this
  · intro i j x y ts hi hj hne hx
    have := (key i j x y hi hj hne).2.2.2
    rw [hx] at this
    simp only [Bool.or_eq_true, Bool.and_eq_true, decide_eq_true_eq] at this
    rcases this with (h | h) | ⟨h1, h2⟩
    · exact .inl h
    · exact .inr (.inl h)
    · refine .inr (.inr ⟨h1, fun t ht => ?_⟩)
      have h3 := List.all_eq_true.1 h2 t ht
      rw [Bool.and_eq_true] at h3
      refine ⟨by have := h3.1; rwa [List.contains_eq_mem, decide_eq_true_eq] at this, fun k z hk hk1 hk2 hd => ?_⟩
      have h4 := List.all_eq_true.1 h3.2 (z, k) (List.mem_zipIdx_iff_getElem?.2 hk)
      simp [hk1, hk2, hd] at h4

theorem sure_comm (b : Array Nat) (i j : Nat) : sure b i j = sure b j i := by unfold sure; rw [Nat.max_comm, Nat.min_comm]

theorem nw_eq {i : Ins} (h : i.nw = true) : ∃ d z, i = ⟨some d, none, .new z, .ad⟩ := by
  obtain ⟨d, g, o, cl⟩ := i
  unfold Ins.nw at h
  split at h
  · rename_i d' z h1 h2 h3 h4
    simp only at h1 h2 h3 h4
    subst h1 h2 h3 h4
    exact ⟨_, _, rfl⟩
  · cases h
theorem nw_alone {i : Ins} (h : i.cl.alone = true) : i.nw = false := by
  cases hn : i.nw with
  | false => rfl
  | true => obtain ⟨d, z, rfl⟩ := nw_eq hn; simp [Cls.alone] at h
theorem nw_wrs {i : Ins} {ts : List Nat} (h : i.cl.wrs = some ts) : i.nw = false := by
  cases hn : i.nw with
  | false => rfl
  | true => obtain ⟨d, z, rfl⟩ := nw_eq hn; simp [Cls.wrs] at h
theorem DO.sures {ops : Array Oper} {b : Array Nat} {is : List Ins} (ho : DO ops b is) {i j : Nat} {x y : Ins} (hi : is[i]? = some x) (hj : is[j]? = some y) (hne : i ≠ j) (hx : x.cl.eff = true) (hy : y.cl.eff = true) (hn : x.nw = false ∨ y.nw = false) : sure b i j = true := by
  rcases ho.eff i j x y hi hj hne hx hy with h | ⟨h1, h2⟩
  · exact h
  · rw [h1, h2] at hn; simp at hn

/-- keys are of the past -/
def Gen (σ : St) : Prop := ∀ s b, σ.bs s = some b → s.2 < σ.clk

/-- Where a run in another order stands: L have come up; the store is the text's at j, where new variables may be ahead of their turn. -/
structure DI (is : List Ins) (E : Nat → Env) (S : Nat → St) (L : Nat → Prop) (e : Env) (j : Nat) : Prop where
  env : ∀ t, (∃ (i : Nat) (ins : Ins), is[i]? = some ins ∧ ins.dst = some t ∧ L i ∧ e t = E (i + 1) t) ∨ ((∀ (i : Nat) (ins : Ins), is[i]? = some ins → L i → ins.dst ≠ some t) ∧ e t = E 0 t)
  st : ∃ k, k ≤ j ∧ j ≤ is.length ∧ (∀ (i : Nat) (ins : Ins), is[i]? = some ins → ins.cl.eff = true → (L i → i < j) ∧ (i < j → ins.nw = false → L i)) ∧
    (∀ i, i < k → L i) ∧ (∀ (i : Nat) (ins : Ins), is[i]? = some ins → ins.cl.alone = true → L i → i < k) ∧ Gen (S k)

variable {is : List Ins} {E : Nat → Env} {S : Nat → St} {ops : Array Oper} {b : Array Nat}

theorem putD_other {e : Env} {d : Option Nat} {v : TV} {t : Nat} (h : d ≠ some t) : e.putD d v t = e t := by
  cases d with
  | none => rfl
  | some d => simp only [Env.putD, Env.put]; rw [if_neg]; intro h'; exact h (by rw [h'])

/-- the text's own temporaries -/
theorem TR.env (ht : TR cp cs sp is E S) (ho : DO ops b is) : ∀ (j : Nat), j ≤ is.length → ∀ (t : Nat),
    (∀ (i : Nat) (ins : Ins), is[i]? = some ins → ins.dst = some t → i < j → E j t = E (i + 1) t) ∧ ((∀ (i : Nat) (ins : Ins), is[i]? = some ins → i < j → ins.dst ≠ some t) → E j t = E 0 t)
  | 0, _, t => ⟨fun i ins _ _ h => by omega, fun _ => rfl⟩
  | j + 1, hj, t => by
    obtain ⟨h1, h2⟩ := TR.env ht ho j (by omega) t
    obtain ⟨ins', hi'⟩ : ∃ ins, is[j]? = some ins := ⟨_, List.getElem?_eq_getElem (by omega)⟩
    obtain ⟨v, _, hE⟩ := ht.step j ins' hi'
    refine ⟨fun i ins hi hd hlt => ?_, fun hno => ?_⟩
    · by_cases e : i = j
      · rw [e]
      · rw [hE, putD_other (ho.one i j ins ins' t hi hi' e hd)]
        exact h1 i ins hi hd (by omega)
    · rw [hE, putD_other (hno j ins' hi' (by omega))]
      exact h2 fun i ins hi hlt => hno i ins hi (by omega)

theorem TR.quiet (ht : TR cp cs sp is E S) {i : Nat} {ins : Ins} (hi : is[i]? = some ins) (hc : ins.cl.eff = false) (hpl : ins.op.xs.all X.plain = true) : S (i + 1) = S i := by
  obtain ⟨v, h, _⟩ := ht.step i ins hi
  exact (evV_up (σ' := S i) hc hpl (fun t _ s _ b hb => hb) h).1

/-- no effect between -/
theorem TR.still (ht : TR cp cs sp is E S) (ho : DO ops b is) {p : Nat} : ∀ (q : Nat), p ≤ q → q ≤ is.length → (∀ (i : Nat) (ins : Ins), is[i]? = some ins → p ≤ i → i < q → ins.cl.eff = false) → S q = S p := by
  intro q hpq
  induction hpq with
  | refl => intro _ _; rfl
  | step hpq ih =>
    rename_i q
    intro hq hn
    obtain ⟨ins, hi⟩ : ∃ ins, is[q]? = some ins := ⟨_, List.getElem?_eq_getElem (by omega)⟩
    have hpq' : p ≤ q := hpq
    rw [ht.quiet hi (hn q ins hi hpq' (by omega)) (ho.pl q ins hi)]
    exact ih (by omega) fun i ins hi h1 h2 => hn i ins hi h1 (by omega)

/-- with nothing that comes up alone: blocks are added, and variables written -/
theorem TR.seg (ht : TR cp cs sp is E S) (ho : DO ops b is) {k : Nat} (hg : Gen (S k)) : ∀ (q : Nat), k ≤ q → q ≤ is.length → (∀ (i : Nat) (ins : Ins), is[i]? = some ins → k ≤ i → i < q → ins.cl.alone = false) →
    Gen (S q) ∧ ∀ p, k ≤ p → p ≤ q → (S p).clk ≤ (S q).clk ∧ ∀ s, (∀ (i : Nat) (ins : Ins) (ts : List Nat), is[i]? = some ins → p ≤ i → i < q → ins.cl.wrs = some ts → (S (i + 1)).bs s = (S i).bs s) →
      (∀ bl, (S p).bs s = some bl → (S q).bs s = some bl) ∧ (s.2 < (S p).clk → (S q).bs s = (S p).bs s) := by
  intro q hkq
  induction hkq with
  | refl => intro _ _; exact ⟨hg, fun p h1 h2 => by have : p = k := by omega
                                                    subst this; exact ⟨Nat.le_refl _, fun _ _ => ⟨fun _ h => h, fun _ => rfl⟩⟩⟩
  | step hkq ih =>
    rename_i q
    intro hq hn
    obtain ⟨ins, hi⟩ : ∃ ins, is[q]? = some ins := ⟨_, List.getElem?_eq_getElem (by omega)⟩
    have hkq' : k ≤ q := hkq
    have hal := hn q ins hi hkq' (by omega)
    obtain ⟨ihg, ihp⟩ := ih (by omega) fun i ins hi h1 h2 => hn i ins hi h1 (by omega)
    have one : S (q + 1) = S q ∨ (∃ d bl, S (q + 1) = (S q).add d bl ∨ S (q + 1) = ((S q).add d bl).kill (d, (S q).clk)) ∨ ∃ ts s cs0 cs1, ins.cl.wrs = some ts ∧ (S q).bs s = some (.var cs0) ∧ S (q + 1) = (S q).put s (.var cs1) := by
      by_cases hc : ins.cl.eff = true
      · obtain ⟨v, h, _⟩ := ht.step q ins hi
        cases hw : ins.cl.wrs with
        | some ts =>
          have hcl : ins.cl = .wr ts := by cases hcl : ins.cl <;> rw [hcl] at hw <;> simp [Cls.wrs] at hw; rw [hw]
          rcases evV_wr hcl h with h1 | ⟨s, cs0, cs1, h1, h2, _⟩
          · exact .inl h1
          · exact .inr (.inr ⟨ts, s, cs0, cs1, rfl, h1, h2⟩)
        | none =>
        have had : ins.cl = .ad := by cases hcl : ins.cl <;> simp_all [Cls.eff, Cls.alone, Cls.wrs]
        have run : (if ins.op.adds (E q) then evO cp cs sp ins.dst (E q) (S q) ins.op else none) = some (v, S (q + 1)) → S (q + 1) = S q ∨ ∃ d bl, S (q + 1) = (S q).add d bl ∨ S (q + 1) = ((S q).add d bl).kill (d, (S q).clk) := by
          intro h
          split at h
          · rename_i ha
            obtain ⟨d, bl, h'⟩ := adds_add ha h
            exact .inr ⟨d, bl, h'⟩
          · cases h
        have fin : S (q + 1) = S q ∨ ∃ d bl, S (q + 1) = (S q).add d bl ∨ S (q + 1) = ((S q).add d bl).kill (d, (S q).clk) := by
          unfold evV at h
          simp only [had] at h
          split at h
          · exact run h
          · split at h
            · split at h
              · exact run h
              · simp only [Option.some.injEq, Prod.mk.injEq] at h; exact .inl h.2.symm
            · simp only [Option.some.injEq, Prod.mk.injEq] at h; exact .inl h.2.symm
            · cases h
        rcases fin with h | h
        · exact .inl h
        · exact .inr (.inl h)
      · exact .inl (ht.quiet hi (by simpa using hc) (ho.pl q ins hi))
    have step1 : Gen (S (q + 1)) ∧ (S q).clk ≤ (S (q + 1)).clk ∧ ∀ s, (∀ ts, ins.cl.wrs = some ts → (S (q + 1)).bs s = (S q).bs s) → (∀ bl, (S q).bs s = some bl → (S (q + 1)).bs s = some bl) ∧ (s.2 < (S q).clk → (S (q + 1)).bs s = (S q).bs s) := by
      rcases one with h | ⟨d, bl, h | h⟩ | ⟨ts, s', cs0, cs1, hw, h1, h⟩
      · rw [h]; exact ⟨ihg, Nat.le_refl _, fun _ _ => ⟨fun _ h => h, fun _ => rfl⟩⟩
      · rw [h]
        have old : ∀ s : Key, s.2 < (S q).clk → ((S q).add d bl).bs s = (S q).bs s := by
          intro s hs
          simp only [St.add, St.put]
          rw [if_neg (by intro e; subst e; simp at hs)]
        refine ⟨?_, by simp [St.add], fun s _ => ⟨fun bl' hs => by rw [old s (ihg s bl' hs)]; exact hs, old s⟩⟩
        intro s bl' hs
        simp only [St.add, St.put] at hs ⊢
        by_cases e : s = (d, (S q).clk)
        · subst e; simp
        · rw [if_neg e] at hs
          have := ihg s bl' hs; omega
      · rw [h]
        have old : ∀ s : Key, s.2 < (S q).clk → (((S q).add d bl).kill (d, (S q).clk)).bs s = (S q).bs s := by
          intro s hs
          simp only [St.kill, St.add, St.put]
          rw [if_neg (by intro e; subst e; simp at hs), if_neg (by intro e; subst e; simp at hs)]
        refine ⟨?_, by simp [St.kill, St.add], fun s _ => ⟨fun bl' hs => by rw [old s (ihg s bl' hs)]; exact hs, old s⟩⟩
        intro s bl' hs
        simp only [St.kill, St.add, St.put] at hs ⊢
        by_cases e : s = (d, (S q).clk)
        · subst e; simp
        · rw [if_neg e, if_neg e] at hs
          have := ihg s bl' hs; omega
      · refine ⟨?_, by rw [h]; simp [St.put], fun s hs => ⟨fun bl hb => by rw [hs ts hw]; exact hb, fun _ => hs ts hw⟩⟩
        rw [h]
        intro s bl' hs
        simp only [St.put] at hs ⊢
        by_cases e : s = s'
        · subst e; exact ihg s _ h1
        · rw [if_neg e] at hs; exact ihg s bl' hs
    refine ⟨step1.1, fun p h1 h2 => ?_⟩
    by_cases e : p = q + 1
    · subst e; exact ⟨Nat.le_refl _, fun _ _ => ⟨fun _ h => h, fun _ => rfl⟩⟩
    · obtain ⟨a1, a2⟩ := ihp p h1 (by omega)
      refine ⟨Nat.le_trans a1 step1.2.1, fun s hs => ?_⟩
      obtain ⟨b1, b2⟩ := a2 s fun i ins ts hi g1 g2 g3 => hs i ins ts hi g1 (by omega) g3
      obtain ⟨c1, c2⟩ := step1.2.2 s fun ts hts => hs q ins ts hi (by omega) (by omega) hts
      exact ⟨fun bl hb => c1 bl (b1 bl hb), fun hlt => (c2 (by omega)).trans (b2 hlt)⟩

/-- a temporary that isn't written is as it was -/
theorem TR.kept (ht : TR cp cs sp is E S) {p t : Nat} : ∀ (q : Nat), p ≤ q → q ≤ is.length → (∀ (k : Nat) (z : Ins), is[k]? = some z → p ≤ k → k < q → z.dst ≠ some t) → E q t = E p t := by
  intro q hpq
  induction hpq with
  | refl => intro _ _; rfl
  | step hpq ih =>
    rename_i q
    intro hq hn
    obtain ⟨ins, hi⟩ : ∃ ins, is[q]? = some ins := ⟨_, List.getElem?_eq_getElem (by omega)⟩
    obtain ⟨v, _, hE⟩ := ht.step q ins hi
    have hpq' : p ≤ q := hpq
    rw [hE, putD_other (hn q ins hi hpq' (by omega))]
    exact ih (by omega) fun k z hk h1 h2 => hn k z hk h1 (by omega)

theorem DI.env_step {L : Nat → Prop} {e : Env} {j : Nat} (hD : DI is E S L e j) {i : Nat} {ins : Ins} (hi : is[i]? = some ins) (hL : ¬ L i) {v : TV} (hE : E (i + 1) = (E i).putD ins.dst v) :
    ∀ t, (∃ (k : Nat) (x : Ins), is[k]? = some x ∧ x.dst = some t ∧ (L k ∨ k = i) ∧ e.putD ins.dst v t = E (k + 1) t) ∨ ((∀ (k : Nat) (x : Ins), is[k]? = some x → (L k ∨ k = i) → x.dst ≠ some t) ∧ e.putD ins.dst v t = E 0 t) := by
  intro t
  by_cases hd : ins.dst = some t
  · refine .inl ⟨i, ins, hi, hd, .inr rfl, ?_⟩
    rw [hE, hd]; simp [Env.putD, Env.put]
  · rw [putD_other hd]
    rcases hD.env t with ⟨k, x, hk, hdk, hLk, he⟩ | ⟨hno, he⟩
    · exact .inl ⟨k, x, hk, hdk, .inl hLk, he⟩
    · refine .inr ⟨fun k x hk hLk => ?_, he⟩
      rcases hLk with hLk | rfl
      · exact hno k x hk hLk
      · rw [hi] at hk; cases hk; exact hd

/-- ONE STEP IN ANOTHER ORDER. -/
theorem DI.step (ht : TR cp cs sp is E S) (ho : DO ops b is) {L : Nat → Prop} {e : Env} {j : Nat} (hD : DI is E S L e j) {i : Nat} {ins : Ins} (hi : is[i]? = some ins) (hnw : ins.nw = false) (hL : ¬ L i)
    (hord : ∀ k, k < is.length → k ≠ i → sure b i k = true → (L k ↔ k < i)) (hkeys : ∀ t, t ∈ ins.looks → ∀ s, s ∈ keysT (e t) → s.2 < (S j).clk) :
    ∃ v j', evV cp cs sp ins.loose e (S j) = some (v, S j') ∧ ((ins.cl.alone = true → Gen (S j')) → DI is E S (fun k => L k ∨ k = i) (e.putD ins.dst v) j') ∧
      (j' = j ∨ ∀ (k : Nat) (x : Ins), is[k]? = some x → x.nw = true → k < j' → L k) := by
  have hin : i < is.length := (List.getElem?_eq_some_iff.1 hi).1
  obtain ⟨v, hv, hE⟩ := ht.step i ins hi
  obtain ⟨k0, hkj, hjn, heff, hpre, hal, hgen⟩ := hD.st
  have hki : k0 ≤ i := by
    rcases Nat.lt_or_ge i k0 with h | h
    · exact absurd (hpre i h) hL
    · exact h
  have hagr : ∀ t, t ∈ ins.looks → e t = E i t := by
    intro t hlk
    rcases hD.env t with ⟨k, x, hk, hd, hLk, he⟩ | ⟨hno, he⟩
    · have hne : k ≠ i := by rintro rfl; exact hL hLk
      have hlt := (hord k (List.getElem?_eq_some_iff.1 hk).1 hne (by rw [sure_comm]; exact ho.look k i x ins t hk hi hne hd hlk)).1 hLk
      rw [he, ((ht.env ho i (by omega) t).1 k x hk hd hlt)]
    · rw [he, (ht.env ho i (by omega) t).2]
      intro k x hk hlt hd
      have hne : k ≠ i := by omega
      have := (hord k (List.getElem?_eq_some_iff.1 hk).1 hne (by rw [sure_comm]; exact ho.look k i x ins t hk hi hne hd hlk)).2 hlt
      exact hno k x hk this hd
  have henv := hD.env_step (L := L) hi hL hE
  by_cases hc : ins.cl.eff = true
  · -- it stands at its own place
    have hji : j ≤ i := by
      rcases Nat.lt_or_ge i j with h | h
      · exact absurd ((heff i ins hi hc).2 h hnw) hL
      · exact h
    have hS : S i = S j := ht.still ho i hji (by omega) fun k x hk h1 h2 => by
      cases hx : x.cl.eff with
      | false => rfl
      | true =>
        have hLk := (hord k (List.getElem?_eq_some_iff.1 hk).1 (by omega) (ho.sures hi hk (by omega) hc hx (.inl hnw))).2 h2
        have := (heff k x hk hx).1 hLk
        omega
    have hev : evV cp cs sp ins.loose e (S j) = some (v, S (i + 1)) := by
      rw [evV_env (loose_wrs ins) (fun t htl => hagr t (by rw [loose_looks] at htl; exact htl)), ← hS]; exact evV_loose hv
    refine ⟨v, i + 1, hev, fun hg => ⟨henv, ?_⟩, .inr fun k x hk hx hlt => ?_⟩
    case refine_2 =>
      have hne : k ≠ i := by rintro rfl; rw [hi] at hk; cases hk; rw [hx] at hnw; cases hnw
      have hxe : x.cl.eff = true := by obtain ⟨d, z, rfl⟩ := nw_eq hx; rfl
      exact (hord k (List.getElem?_eq_some_iff.1 hk).1 hne (ho.sures hi hk (fun h => hne h.symm) hc hxe (.inl hnw))).2 (by omega)
    have heff' : ∀ (k : Nat) (x : Ins), is[k]? = some x → x.cl.eff = true → ((L k ∨ k = i) → k < i + 1) ∧ (k < i + 1 → x.nw = false → (L k ∨ k = i)) := by
      intro k x hk hx
      by_cases e : k = i
      · subst e; simp
      · have := hord k (List.getElem?_eq_some_iff.1 hk).1 e (ho.sures hi hk (fun h => e h.symm) hc hx (.inl hnw))
        constructor
        · rintro (h | h)
          · have := this.1 h; omega
          · exact absurd h e
        · intro h _; exact .inl (this.2 (by omega))
    by_cases ha : ins.cl.alone = true
    · have hall : ∀ k, k < is.length → k ≠ i → (L k ↔ k < i) := fun k hk hne => by
        obtain ⟨x, hx⟩ : ∃ x, is[k]? = some x := ⟨_, List.getElem?_eq_getElem hk⟩
        exact hord k hk hne (ho.alone i k ins x hi hx (fun h => hne h.symm) ha)
      refine ⟨i + 1, Nat.le_refl _, by omega, heff', fun k hk => ?_, fun k x hk hx hLk => ?_, hg ha⟩
      · by_cases e : k = i
        · exact .inr e
        · exact .inl ((hall k (by omega) e).2 (by omega))
      · rcases hLk with hLk | rfl
        · by_cases e : k = i
          · omega
          · have := (hall k (List.getElem?_eq_some_iff.1 hk).1 e).1 hLk; omega
        · omega
    · refine ⟨k0, by omega, by omega, heff', fun k hk => .inl (hpre k hk), fun k x hk hx hLk => ?_, hgen⟩
      rcases hLk with hLk | rfl
      · exact hal k x hk hx hLk
      · rw [hi] at hk; cases hk; exact absurd hx ha
  · -- it reads alone
    have hc' : ins.cl.eff = false := by simpa using hc
    have ha' : ins.cl.alone = false := by cases hcl : ins.cl <;> simp_all [Cls.eff, Cls.alone]
    have noal : ∀ (k : Nat) (x : Ins), is[k]? = some x → k0 ≤ k → k < max i j → x.cl.alone = false := by
      intro k x hk h1 h2
      cases hx : x.cl.alone with
      | false => rfl
      | true =>
        have hxe : x.cl.eff = true := by cases hcl : x.cl <;> simp_all [Cls.eff, Cls.alone]
        have hnL : ¬ L k := fun h => by have := hal k x hk hx h; omega
        have hkj : ¬ k < j := fun h => hnL ((heff k x hk hxe).2 h (nw_alone hx))
        have hki' : k < i := by omega
        exact absurd ((hord k (List.getElem?_eq_some_iff.1 hk).1 (by omega) (by rw [sure_comm]; exact ho.alone k i x ins hk hi (by omega) hx)).2 hki') hnL
    have hwn : ∀ (k : Nat) (x : Ins) (ts : List Nat), is[k]? = some x → x.cl.wrs = some ts → x.cl.eff = true := by
      intro k x ts _ h
      cases hcl : x.cl <;> rw [hcl] at h <;> simp_all [Cls.eff, Cls.wrs]
    have hev : evV cp cs sp ins (E i) (S j) = some (v, S j) := by
      by_cases hpu : ins.op.pure = true
      · exact (evV_pure hc' hpu (S i) (S j) hv).2
      · have hup : ∀ t, t ∈ ins.looks → Up (S i) (S j) (keysT (E i t)) := by
          intro t hlk s hs bl hb
          rcases Nat.le_total i j with h | h
          · obtain ⟨_, hp⟩ := ht.seg ho hgen j (by omega) hjn (fun k x hk h1 h2 => noal k x hk h1 (by omega))
            refine ((hp i hki h).2 s fun k x ts hk h1 h2 hw => ?_).1 bl hb
            have hxe := hwn k x ts hk hw
            have hne : k ≠ i := by rintro rfl; rw [hi] at hk; cases hk; exact hc hxe
            have hLk := (heff k x hk hxe).2 h2 (nw_wrs hw)
            have huns : ¬ sure b k i = true := fun hsu => by
              have := (hord k (List.getElem?_eq_some_iff.1 hk).1 hne (by rw [sure_comm]; exact hsu)).1 hLk
              omega
            rcases ho.wrs k i x ins ts hk hi hne hw with h3 | h3 | ⟨_, h3⟩
            · exact absurd h3 huns
            · exact absurd h3 hpu
            · obtain ⟨h4, h5⟩ := h3 t hlk
              have hcl : x.cl = .wr ts := by cases hcl : x.cl <;> rw [hcl] at hw <;> simp [Cls.wrs] at hw; rw [hw]
              obtain ⟨v', hv', _⟩ := ht.step k x hk
              have hkt : E k t = E i t := ht.kept k (by omega) (by have := (List.getElem?_eq_some_iff.1 hk).1; omega) h5
              rcases evV_wr hcl hv' with h6 | ⟨s', cs0, cs1, h6, h7, h8⟩
              · rw [h6]
              · have hss : s ≠ s' := by
                  rintro rfl
                  have := h8 t h4
                  rw [hkt] at this
                  exact this hs
                rw [h7]; simp only [St.put]; rw [if_neg hss]
          · obtain ⟨_, hp⟩ := ht.seg ho hgen i hki (by omega) (fun k x hk h1 h2 => noal k x hk h1 (by omega))
            have hk := hkeys t hlk s (by rw [hagr t hlk]; exact hs)
            rw [← ((hp j hkj h).2 s fun k x ts hk h1 h2 hw => ?_).2 hk]; exact hb
            exfalso
            have hxe := hwn k x ts hk hw
            have hne : k ≠ i := by omega
            have hnL : ¬ L k := fun hLk => by have := (heff k x hk hxe).1 hLk; omega
            have huns : ¬ sure b k i = true := fun hsu => hnL ((hord k (List.getElem?_eq_some_iff.1 hk).1 hne (by rw [sure_comm]; exact hsu)).2 h2)
            rcases ho.wrs k i x ins ts hk hi hne hw with h3 | h3 | ⟨h3, _⟩
            · exact huns h3
            · exact hpu h3
            · omega
        exact (evV_up (σ' := S j) hc' (ho.pl i ins hi) hup hv).2
    refine ⟨v, j, by rw [loose_rd hc', evV_env (by rw [← loose_rd hc']; exact loose_wrs ins) hagr]; exact hev, fun _ => ⟨henv, k0, hkj, hjn, fun k x hk hx => ?_, fun k hk => .inl (hpre k hk), fun k x hk hx hLk => ?_, hgen⟩, .inl rfl⟩
    · have hne : k ≠ i := by rintro rfl; rw [hi] at hk; cases hk; exact hc hx
      constructor
      · rintro (h | h)
        · exact (heff k x hk hx).1 h
        · exact absurd h hne
      · intro h hn; exact .inl ((heff k x hk hx).2 h hn)
    · rcases hLk with hLk | rfl
      · exact hal k x hk hx hLk
      · rw [hi] at hk; cases hk; rw [ha'] at hx; cases hx

theorem TR.nw (ht : TR cp cs sp is E S) {i d : Nat} {z : List AV} (hi : is[i]? = some ⟨some d, none, .new z, .ad⟩) : S (i + 1) = (S i).add d (.var z) ∧ E (i + 1) = (E i).put d (.a (.ptr (d, (S i).clk) 0 0)) := by
  obtain ⟨v, hv, hE⟩ := ht.step i _ hi
  simp only [evV, O.adds, evO, if_true, Option.some.injEq, Prod.mk.injEq] at hv
  obtain ⟨rfl, h2⟩ := hv
  exact ⟨h2.symm, hE⟩

/-- A new variable comes up, at its place or ahead of it, or behind. -/
theorem DI.step_nw (ht : TR cp cs sp is E S) (ho : DO ops b is) {L : Nat → Prop} {e : Env} {j : Nat} (hD : DI is E S L e j) {i d : Nat} {z : List AV} (hi : is[i]? = some ⟨some d, none, .new z, .ad⟩) (hL : ¬ L i)
    (hord : ∀ k, k < is.length → k ≠ i → sure b i k = true → (L k ↔ k < i)) :
    DI is E S (fun k => L k ∨ k = i) (e.put d (.a (.ptr (d, (S i).clk) 0 0))) (max j (i + 1)) ∧ ∀ (p : Nat) (x : Ins), is[p]? = some x → j ≤ p → p < max j (i + 1) → x.cl.eff = false ∨ (x.nw = true ∧ ¬ L p) := by
  have hin : i < is.length := (List.getElem?_eq_some_iff.1 hi).1
  obtain ⟨k0, hkj, hjn, heff, hpre, hal, hgen⟩ := hD.st
  have hnot : ∀ (k : Nat) (x : Ins), is[k]? = some x → x.cl.eff = true → x.nw = false → (L k ↔ k < i) := by
    intro k x hk hx hn
    have hne : k ≠ i := by rintro rfl; rw [hi] at hk; cases hk; cases hn
    exact hord k (List.getElem?_eq_some_iff.1 hk).1 hne (ho.sures hi hk (fun h => hne h.symm) rfl hx (.inr hn))
  refine ⟨⟨hD.env_step hi hL (ht.nw hi).2, k0, by omega, by omega, fun k x hk hx => ⟨?_, fun hlt hn => ?_⟩, fun k hk => .inl (hpre k hk), fun k x hk hx hLk => ?_, hgen⟩, fun p x hp h1 h2 => ?_⟩
  · rintro (h | h)
    · have := (heff k x hk hx).1 h; omega
    · omega
  · rcases Nat.lt_or_ge k j with h | h
    · exact .inl ((heff k x hk hx).2 h hn)
    · have hne : k ≠ i := by rintro rfl; rw [hi] at hk; cases hk; cases hn
      exact .inl ((hnot k x hk hx hn).2 (by omega))
  · rcases hLk with hLk | rfl
    · exact hal k x hk hx hLk
    · rw [hi] at hk; cases hk; simp [Cls.alone] at hx
  · cases hx : x.cl.eff with
    | false => exact .inl rfl
    | true =>
      have hnL : ¬ L p := fun h => by have := (heff p x hp hx).1 h; omega
      cases hn : x.nw with
      | true => exact .inr ⟨rfl, hnL⟩
      | false =>
        have hne : p ≠ i := by rintro rfl; rw [hi] at hp; cases hp; cases hn
        exact absurd ((hnot p x hp hx hn).2 (by omega)) hnL

/-- At the end, all that came up. -/
theorem DI.fin (ht : TR cp cs sp is E S) (ho : DO ops b is) {L : Nat → Prop} {e : Env} {j : Nat} (hD : DI is E S L e j) (hall : ∀ i, i < is.length → L i) : e = E is.length ∧ S j = S is.length := by
  constructor
  · funext t
    rcases hD.env t with ⟨k, x, hk, hd, hLk, he⟩ | ⟨hno, he⟩
    · rw [he, (ht.env ho _ (Nat.le_refl _) t).1 k x hk hd (List.getElem?_eq_some_iff.1 hk).1]
    · rw [he, (ht.env ho _ (Nat.le_refl _) t).2]
      intro k x hk hlt
      exact hno k x hk (hall k hlt)
  · obtain ⟨k0, hkj, hjn, heff, _⟩ := hD.st
    refine (ht.still ho _ hjn (Nat.le_refl _) fun k x hk h1 h2 => ?_).symm
    cases hx : x.cl.eff with
    | false => rfl
    | true => have := (heff k x hk hx).1 (hall k h2); omega
end

/-! ### at the machine -/
section
variable {P : Program} {eqs : List (TypeId × List Nat)} {CR : Nat → Code → C → Prop} {m m' : Mt} {σ σ' : St} {w w' : World} {e e' : Env} {a : Act}
variable {cp : FuncId → List PT → Option PT} {cs : Cal → List TV → St → Option (TV × St)} {sp : FuncId → Bool}

theorem keys_lt {t : TV} {v : Value} (h : RT m σ w t v) : ∀ s, s ∈ keysT t → s.2 < σ.clk := by
  have one : ∀ {x : AV} {v : Value}, RA m σ w x v → ∀ s, s ∈ keysA x → s.2 < σ.clk := by
    intro x v h s hs
    cases x with
    | ptr k i j => simp only [keysA, List.mem_singleton] at hs; subst hs; exact h.1.1
    | own k o l => simp only [keysA, List.mem_singleton] at hs; subst hs; exact h.1
    | _ => simp [keysA] at hs
  have list : ∀ {xs : List AV} {vs : List Value}, F2 (RA m σ w) xs vs → ∀ s, s ∈ xs.flatMap keysA → s.2 < σ.clk := by
    intro xs vs h
    induction h with
    | nil => intro s hs; simp at hs
    | cons x _ ih =>
      intro s hs
      simp only [List.flatMap_cons, List.mem_append] at hs
      rcases hs with hs | hs
      · exact one x s hs
      · exact ih s hs
  cases t with
  | u => intro s hs; simp [keysT] at hs
  | a x => exact one h
  | g cs => obtain ⟨vs, _, h2⟩ := h; exact list h2
  | t ts =>
    obtain ⟨us, hus, h2⟩ := h
    clear hus
    intro s hs
    simp only [keysT] at hs
    revert hs
    induction h2 with
    | nil => intro hs; simp at hs
    | cons x _ ih =>
      intro hs
      simp only [List.flatMap_cons, List.mem_append] at hs
      rcases hs with hs | hs
      · unfold RGA at x
        split at x
        · obtain ⟨vs, _, h3⟩ := x; exact list h3 s hs
        · obtain ⟨y, he, h3⟩ := x
          rw [he] at hs
          simp only [List.flatMap_cons, List.flatMap_nil, List.append_nil] at hs
          exact one h3 s hs
      · exact ih hs

theorem count_set : ∀ (l : List Bool) (i : Nat), l[i]? = some false → (l.set i true).count false + 1 = l.count false
  | [], i, h => by simp at h
  | x :: l, 0, h => by simp at h; subst h; simp
  | x :: l, i + 1, h => by
    simp only [List.getElem?_cons_succ] at h
    have := count_set l i h
    simp only [List.set_cons_succ, List.count_cons]
    omega

/-- New variables that the store has ahead of their turn. -/
def Vir (is : List Ins) (S : Nat → St) (L : Nat → Prop) (c0 : Nat) (j : Nat) (m : Mt) (σ : St) : Prop :=
  ∀ (i d : Nat) (z : List AV), is[i]? = some ⟨some d, none, .new z, .ad⟩ → i < j → ¬ L i → m.mu (d, (S i).clk) = none ∧ σ.bs (d, (S i).clk) = some (.var z) ∧ c0 ≤ (S i).clk ∧ (S i).clk < σ.clk

/-- The store goes ahead, over new variables alone. -/
theorem catch_up {m0 : Mt} {σ0 : St} {w0 : World} {a0 : Act} {ops : Array Oper} {b : Array Nat} {is : List Ins} (ho : DO ops b is) {E : Nat → Env} {S : Nat → St} (ht : TR cp cs sp is E S) {L : Nat → Prop} {j : Nat}
    (hA : At CR m0 σ0 w0 a0 m e (S j) a w) (hV : Vir is S L σ0.clk j m (S j)) :
    ∀ (q : Nat), j ≤ q → q ≤ is.length → (∀ (p : Nat) (x : Ins), is[p]? = some x → j ≤ p → p < q → x.cl.eff = false ∨ (x.nw = true ∧ ¬ L p)) → ∃ m', At CR m0 σ0 w0 a0 m' e (S q) a w ∧ Vir is S L σ0.clk q m' (S q) := by
  intro q hjq
  induction hjq with
  | refl => intro _ _; exact ⟨m, hA, hV⟩
  | step hjq ih =>
    rename_i q
    intro hq hn
    have hjq' : j ≤ q := hjq
    obtain ⟨m1, hA1, hV1⟩ := ih (by omega) fun p x hp h1 h2 => hn p x hp h1 (by omega)
    obtain ⟨ins, hi⟩ : ∃ ins, is[q]? = some ins := ⟨_, List.getElem?_eq_getElem (by omega)⟩
    rcases hn q ins hi hjq' (by omega) with h | ⟨h, hL⟩
    · rw [ht.quiet hi h (ho.pl q ins hi)]
      refine ⟨m1, hA1, fun i d z hii hlt hLi => ?_⟩
      by_cases e : i = q
      · subst e; rw [hi] at hii; cases hii; simp [Cls.eff] at h
      · exact hV1 i d z hii (by omega) hLi
    · obtain ⟨d, z, rfl⟩ := nw_eq h
      obtain ⟨h1, _⟩ := ht.nw hi
      rw [h1]
      refine ⟨_, hA1.virt d z, fun i d' z' hii hlt hLi => ?_⟩
      by_cases e : i = q
      · subst e
        rw [hi] at hii; cases hii
        refine ⟨by simp [Mt.add], by simp [St.add, St.put], hA1.xt.clk, by simp [St.add]⟩
      · obtain ⟨g1, g2, g3, g4⟩ := hV1 i d' z' hii (by omega) hLi
        have hne : (d', (S i).clk) ≠ (d, (S q).clk) := by intro h; rw [Prod.mk.injEq] at h; omega
        refine ⟨?_, ?_, g3, by simp [St.add]; omega⟩
        · simp only [Mt.add]; rw [if_neg hne]; exact g1
        · simp only [St.add, St.put]; rw [if_neg hne]; exact g2

/-- EVERY ORDER. -/
theorem draw_ok {m0 : Mt} {σ0 : St} {w0 : World} {a0 : Act} (hEq : EqOk P eqs) (hp : SndP P cp) (hs : SndS P CR cs) {ops : Array Oper} {rr : Option Nat} {n : Nat} {Q : Exit → Act → World → Prop}
    {is : List Ins} (hlen : is.length = ops.size) (hins : ∀ (i : Nat) (o : Oper), ops[i]? = some o → ∃ ins, is[i]? = some ins ∧ InsOk P eqs a0.tmps.size ops o ins) (ho : DO ops (befores ops) is)
    {E : Nat → Env} {S : Nat → St} (ht : TR cp cs sp is E S) (hQ : ∀ m' a' w', At CR m0 σ0 w0 a0 m' (E is.length) (S is.length) a' w' → Q .normal a' w') :
    ∀ (fuel : Nat) (listed : Array Bool) {m : Mt} {e : Env} {j : Nat} {a : Act} {w : World}, listed.size = ops.size → listed.toList.count false ≤ fuel →
      (∀ (i : Nat) (o : Oper), ops[i]? = some o → listed[i]? = some true → ∀ ed, ed ∈ o.after → Region.binds .any ed = true → listed[ed.on]? = some true) →
      DI is E S (fun i => listed[i]? = some true) e j → At CR m0 σ0 w0 a0 m e (S j) a w → Vir is S (fun i => listed[i]? = some true) σ0.clk j m (S j) → wpAnyIn (FW rr) n P .any ops Q fuel listed a w := by
  have ends : ∀ (listed : Array Bool) {m : Mt} {e : Env} {j : Nat} {a : Act} {w : World}, listed.size = ops.size →
      (∀ i, i < ops.size → listed[i]? = some true) → DI is E S (fun i => listed[i]? = some true) e j → At CR m0 σ0 w0 a0 m e (S j) a w → Q .normal a w := by
    intro listed m e j a w hsz hall hD hA
    obtain ⟨rfl, hS⟩ := hD.fin ht ho (fun i hi => hall i (by omega))
    rw [hS] at hA
    exact hQ _ _ _ hA
  have isready : ∀ (listed : Array Bool) (i : Nat), listed.size = ops.size → (i ∈ Region.ready .any ops listed ↔ ∃ o, ops[i]? = some o ∧ listed[i]? = some false ∧ ∀ ed, ed ∈ o.after → Region.binds .any ed = true → listed[ed.on]? = some true) := by
    intro listed i hsz
    simp only [Region.ready, List.mem_filter, List.mem_range, Bool.and_eq_true, Bool.not_eq_true']
    constructor
    · rintro ⟨h1, h2, h3⟩
      obtain ⟨o, ho'⟩ : ∃ o, ops[i]? = some o := ⟨_, Array.getElem?_eq_getElem h1⟩
      refine ⟨o, ho', ?_, ?_⟩
      · rw [Array.getD_eq_getD_getElem?] at h2
        cases h4 : listed[i]? with
        | none => rw [h4] at h2; simp at h2
        | some x => rw [h4] at h2; simp at h2; rw [h2]
      · intro ed hed hb
        rw [ho'] at h3
        simp only [Option.map_some, Option.getD_some, Array.all_eq_true', Bool.or_eq_true, Bool.not_eq_true'] at h3
        rcases h3 ed hed with h5 | h5
        · rw [hb] at h5; cases h5
        · rw [Array.getD_eq_getD_getElem?] at h5
          cases h4 : listed[ed.on]? with
          | none => rw [h4] at h5; simp at h5
          | some x => rw [h4] at h5; simp at h5; rw [h5]
    · rintro ⟨o, ho', h2, h3⟩
      refine ⟨(Array.getElem?_eq_some_iff.1 ho').1, by rw [Array.getD_eq_getD_getElem?, h2]; rfl, ?_⟩
      rw [ho']
      simp only [Option.map_some, Option.getD_some, Array.all_eq_true', Bool.or_eq_true, Bool.not_eq_true']
      intro ed hed
      cases hb : Region.binds .any ed with
      | false => exact .inl rfl
      | true => exact .inr (by rw [Array.getD_eq_getD_getElem?, h3 ed hed hb]; rfl)
  have nilall : ∀ (listed : Array Bool), listed.size = ops.size → Region.ready .any ops listed = [] → ∀ i, i < ops.size → listed[i]? = some true := by
    intro listed hsz hnil i
    induction i using Nat.strongRecOn with
    | _ i ih =>
      intro hi
      obtain ⟨o, ho'⟩ : ∃ o, ops[i]? = some o := ⟨_, Array.getElem?_eq_getElem hi⟩
      cases h4 : listed[i]? with
      | none => have := Array.getElem?_eq_none_iff.1 h4; omega
      | some x =>
        cases x with
        | true => rfl
        | false =>
          have : i ∈ Region.ready .any ops listed := (isready listed i hsz).2 ⟨o, ho', h4, fun ed hed hb => by
            have := ho.back i o ho' ed hed hb
            exact ih ed.on this (by omega)⟩
          rw [hnil] at this; simp at this
  intro fuel
  induction fuel with
  | zero =>
    intro listed m e j a w hsz hcnt hcl hD hA hV
    have hall : ∀ i, i < ops.size → listed[i]? = some true := by
      intro i hi
      have h0 : listed.toList.count false = 0 := by omega
      rw [List.count_eq_zero] at h0
      rw [Array.getElem?_eq_getElem (by omega)]
      cases hx : listed[i] with
      | true => rfl
      | false => exact absurd (by rw [← hx]; simp) h0
    refine ⟨?_, ends listed hsz hall hD hA⟩
    cases hr : Region.ready .any ops listed with
    | nil => rfl
    | cons i r =>
      obtain ⟨o, ho', h2, _⟩ := (isready listed i hsz).1 (by rw [hr]; simp)
      rw [hall i (Array.getElem?_eq_some_iff.1 ho').1] at h2; cases h2
  | succ fuel ih =>
    intro listed m e j a w hsz hcnt hcl hD hA hV
    refine ⟨fun hnil => ends listed hsz (nilall listed hsz hnil) hD hA, fun i hi => ?_⟩
    obtain ⟨o, ho', hun, hed⟩ := (isready listed i hsz).1 hi
    obtain ⟨ins, hii, hok⟩ := hins i o ho'
    have hilt : i < ops.size := (Array.getElem?_eq_some_iff.1 ho').1
    have hlt2 : i < listed.size := by rw [hsz]; exact hilt
    have bl := before_listed (L := fun i => listed[i]? = some true) ho.back hcl
    have hord : ∀ k, k < is.length → k ≠ i → sure (befores ops) i k = true → (listed[k]? = some true ↔ k < i) := by
      intro k hk hne hsu
      unfold sure at hsu
      rcases Nat.lt_or_ge k i with h | h
      · rw [Nat.max_eq_left (by omega), Nat.min_eq_right (by omega)] at hsu
        exact ⟨fun _ => h, fun _ => bl i o ho' hed k hsu⟩
      · rw [Nat.max_eq_right (by omega), Nat.min_eq_left (by omega)] at hsu
        obtain ⟨o', ho''⟩ : ∃ o', ops[k]? = some o' := ⟨_, Array.getElem?_eq_getElem (by omega)⟩
        refine ⟨fun hLk => ?_, fun h' => by omega⟩
        have := bl k o' ho'' (hcl k o' ho'' hLk) i hsu
        rw [this] at hun; cases hun
    have hset : ∀ k, (listed.setIfInBounds i true)[k]? = some true ↔ (listed[k]? = some true ∨ k = i) := by
      intro k
      by_cases e : k = i
      · rw [e]; simp [hlt2]
      · simp [Array.getElem?_setIfInBounds_ne (Ne.symm e), e]
    have hfun : (fun k => (listed.setIfInBounds i true)[k]? = some true) = fun k => (listed[k]? = some true ∨ k = i) := funext fun k => propext (hset k)
    have go : ∀ {m' : Mt} {e' : Env} {j' : Nat} {a' : Act} {w' : World}, DI is E S (fun k => listed[k]? = some true ∨ k = i) e' j' → At CR m0 σ0 w0 a0 m' e' (S j') a' w' → Vir is S (fun k => listed[k]? = some true ∨ k = i) σ0.clk j' m' (S j') →
        wpAnyIn (FW rr) n P .any ops Q fuel (listed.setIfInBounds i true) a' w' := by
      intro m' e' j' a' w' hD' hA' hV'
      refine ih (listed.setIfInBounds i true) (by simpa using hsz) ?_ ?_ (by rw [hfun]; exact hD') hA' (by rw [hfun]; exact hV')
      · have := count_set listed.toList i (by simpa using hun)
        simp only [Array.toList_setIfInBounds]
        omega
      · intro k o' hk hLk ed hed' hb
        rw [hset] at hLk ⊢
        rcases hLk with hLk | rfl
        · exact .inl (hcl k o' hk hLk ed hed' hb)
        · rw [ho'] at hk; cases hk
          exact .inl (hed ed hed' hb)
    have hnL : ¬ listed[i]? = some true := by rw [hun]; simp
    unfold wpOpIn
    simp only [ho']
    cases hnw : ins.nw with
    | true =>
      obtain ⟨d, z, rfl⟩ := nw_eq hnw
      obtain ⟨hD', hbet⟩ := DI.step_nw ht ho hD hii hnL hord
      obtain ⟨m1, hA1, hV1⟩ := catch_up ho ht hA hV (max j (i + 1)) (by omega) (by obtain ⟨k0, _, h2, _⟩ := hD'.st; exact h2) hbet
      obtain ⟨g1, g2, g3, g4⟩ := hV1 i d z hii (by omega) hnL
      refine real_ok hA1 g1 g2 g3 g4 hok fun m' a' w' hA' hmu => ?_
      refine go hD' hA' fun k d' z' hk hlt hLk => ?_
      have hne : k ≠ i := fun h => hLk (.inr h)
      obtain ⟨q1, q2, q3, q4⟩ := hV1 k d' z' hk hlt (fun h => hLk (.inl h))
      refine ⟨?_, q2, q3, q4⟩
      rw [hmu _ (by intro h; rw [Prod.mk.injEq] at h; exact ho.one k i _ _ d' hk hii hne rfl (by rw [h.1]))]
      exact q1
    | false =>
      obtain ⟨v, j', hev, hD', hj'⟩ := DI.step ht ho hD hii hnw hnL hord (fun t _ => keys_lt (hA.re t))
      refine ins_ok hA hEq hp hs (i := ins.loose) (by obtain ⟨g1, g2, g3, g4⟩ := hok; exact ⟨by rw [loose_op]; exact g1, by rw [loose_gd]; exact g2, by rw [loose_dst]; exact g3, g4⟩) hev fun m' a' w' hA' hx => ?_
      rw [loose_dst] at hA'
      refine go (hD' fun _ => hA'.sr.gen) hA' fun k d' z' hk hlt hLk => ?_
      rcases hj' with rfl | hj'
      · obtain ⟨q1, q2, q3, q4⟩ := hV k d' z' hk hlt (fun h => hLk (.inl h))
        exact ⟨(hx.mu _ q4).trans q1, q2, q3, q4⟩
      · exact absurd (.inl (hj' k _ hk rfl hlt)) hLk
end

end Go.Fx
