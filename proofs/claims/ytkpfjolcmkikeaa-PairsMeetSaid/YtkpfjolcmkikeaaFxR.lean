import Derived.Test.YtkpfjolcmkikeaaFb
set_option linter.unusedSimpArgs false
set_option linter.unusedVariables false
/-
  Ranges over functions, by rewriting: one round; the whole.
-/
namespace Go.Fx
variable {S : Seat}

theorem evY_up {cp : FuncId → List PT → Option PT} {cs : Cal → List TV → St → Option (TV × St)} {sp : FuncId → Bool} {j k : Nat} (h : j ≤ k) (l : Nat) (args : List TV) (σ : St) : Le (evY cp cs sp j l args σ) (evY cp cs sp k l args σ) := by
  induction h with
  | refl => exact Le.refl _
  | step _ ih => exact ih.trans (evY_le (fun _ _ => Le.refl _) (fun _ _ _ => Le.refl _) _ l args σ)

theorem eS_y_of {n l : Nat} {args : List TV} {σ : St} {x : TV × St} (h : evY (eP S) (eS S) S.sp n l args σ = some x) : eS S (.y l) args σ = some x := by
  have hl := evY_lim (cp := eP S) (cs := eS S) (sp := S.sp) (fun f ps => eP_lim S f ps) (fun f vs σ => eS_lim S f vs σ) n l args σ
  obtain ⟨k, hk⟩ := hl.ex _ h
  refine (eS_some S).2 ⟨max k n + 1, ?_⟩
  rw [evS]
  exact evY_up (Nat.le_max_right k n) l args σ _ (hl.mono (Nat.le_max_left k n) _ hk)

/-- one round -/
theorem y_round {l : Nat} {args : List TV} {σ : St} {r : LRec} (hr : σ.ls[l]? = some r) (hn : args.length = r.params.length) {K : TV → St → Prop}
    (h : wp S true r.assign (putAll r.env r.params args) σ fun x e1 σ1 => x = .norm ∧ ∃ r1, σ1.ls[l]? = some r1 ∧ r1.st = .ready ∧ wp S true r.body e1 (setL σ1 l { r1 with st := .busy }) fun y e2 σ2 =>
      ∃ r2, σ2.ls[l]? = some r2 ∧ (if y = .norm then K (.a (.p (.b true))) (setL σ2 l { r2 with st := .ready, pend := none }) else K (.a (.p (.b false))) (setL σ2 l { r2 with st := .done, pend := some y }))) :
    ∃ v σ', eS S (.y l) args σ = some (v, σ') ∧ K v σ' := by
  obtain ⟨n1, ⟨x, e1, σ1⟩, h1, hx, r1, hr1, hst, n2, ⟨y, e2, σ2⟩, h2, r2, hr2, hK⟩ := h
  simp only at hx hr1 hst h2 hr2 hK
  subst hx
  have a := evW_le (Nat.le_max_left n1 n2) true r.assign _ _ _ h1
  have b := evW_le (Nat.le_max_right n1 n2) true r.body _ _ _ h2
  simp only [evW] at a b
  by_cases hy : y = .norm
  · subst hy
    rw [if_pos rfl] at hK
    refine ⟨_, _, eS_y_of (n := max n1 n2) ?_, hK⟩
    simp only [evY, hr, hn, if_true, a, Option.bind_some, hr1, hst, b, hr2]
  · rw [if_neg hy] at hK
    refine ⟨_, _, eS_y_of (n := max n1 n2) ?_, hK⟩
    simp only [evY, hr, hn, if_true, a, Option.bind_some, hr1, hst, b, hr2, if_neg hy]

/-- the whole -/
theorem wp_rng {f : X} {ps : List Nat} {assign body : C} {e : Env} {σ : St} {Q : Ex → Env → St → Prop} {g : FuncId} {caps : List Key} (hf : ev e f = .a (.fn g caps))
    (h : ∃ v σ1, eS S (.f g) (.a (.yl σ.ls.length) :: caps.map fun s => .a (.ptr s 0 0)) { σ with ls := σ.ls ++ [{ env := e, params := ps, assign := assign, body := body, st := .ready, pend := none }] } = some (v, σ1) ∧
      ∃ r, σ1.ls[σ.ls.length]? = some r ∧ r.st ≠ .busy ∧ Q (r.pend.getD .norm) e (setL σ1 σ.ls.length { r with st := .gone })) : wp S false (.rng f ps assign body) e σ Q := by
  obtain ⟨v, σ1, h1, r, hr, hs, hQ⟩ := h
  refine ⟨1, (r.pend.getD .norm, e, setL σ1 σ.ls.length { r with st := .gone }), ?_, hQ⟩
  simp only [evW, evC, Bool.false_eq_true, if_false, hf, h1, Option.bind_some, hr, if_neg hs]

theorem setL_bs (σ : St) (l : Nat) (r : LRec) : (setL σ l r).bs = σ.bs := rfl
theorem setL_clk (σ : St) (l : Nat) (r : LRec) : (setL σ l r).clk = σ.clk := rfl
theorem setL_ls (σ : St) (l : Nat) (r : LRec) : (setL σ l r).ls = σ.ls.set l r := rfl
end Go.Fx
