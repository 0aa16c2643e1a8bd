import Derived.Test.YtkpfjolcmkikeaaFx23
import Derived.Laws.StructEq
set_option linter.unusedSimpArgs false
set_option linter.unusedVariables false
/-
  Structs of whole numbers and texts, held against each other.
-/
namespace Go.Fx
open Go.RowKit

/-- a scalar's type: whole numbers (0), texts (1) -/
def Scal (P : Program) : Nat → TypeId → Prop
  | 0, t => ∃ k, P.underlying t = some (.int k)
  | 1, t => P.underlying t = some .string
  | _, _ => False
def FieldsOk (P : Program) : List Field → List Nat → Nat → Prop
  | [], [], _ => True
  | f :: fs, c :: sh, o => f.name ≠ "_" ∧ f.offset = o ∧ Scal P c f.type ∧ FieldsOk P fs sh (o + 1)
  | _, _, _ => False

section
variable {P : Program} {m : Mt} {σ : St} {w : World}

theorem scal_agg {c : Nat} {t : TypeId} (h : Scal P c t) (w : World) : (isAgg t).run P w = .ok false w := by
  match c, h with
  | 0, ⟨k, h⟩ => simp [isAgg, run_underlying h]
  | 1, h => have h : P.underlying t = some .string := h; simp [isAgg, run_underlying h]

theorem part_scal {c : Nat} {t : TypeId} (h : Scal P c t) (w : World) {xs : Array Value} {o : Nat} {v : Value} (hv : xs[o]? = some v) : (part t xs o).run P w = .ok v w := by
  simp only [part, Sem.run_bind, scal_agg h w, Result.andThen_ok, Bool.false_eq_true, if_false, hv, Sem.run_pure]

theorem scal_eq {c : Nat} {t : TypeId} (h : Scal P c t) (d : Nat) {x y : AV} {u v : Value} (hx : RA m σ w x u) (hy : RA m σ w y v) {sh : List Nat} {as cs : List AV} {r : Bool} (he : eqCells (c :: sh) (x :: as) (y :: cs) = some r) :
    ∃ s r', eqCells sh as cs = some r' ∧ r = (s && r') ∧ ∀ w', (Op.equalIn (d + 1) t u v).run P w' = .ok s w' := by
  match c, h with
  | 0, ⟨k, h⟩ =>
    unfold eqCells at he
    split at he
    · rename_i heq; cases heq
    · rename_i h1 h2 h3
      simp only [List.cons.injEq, true_and] at h1 h2 h3
      obtain ⟨rfl, rfl⟩ := h2
      obtain ⟨rfl, rfl⟩ := h3
      subst h1
      split at he
      · rename_i hk
        obtain ⟨z, hz, he⟩ := bindO he
        simp only [Option.some.injEq] at he
        cases hx; cases hy
        subst hk
        refine ⟨_, z, hz, he.symm, fun w' => ?_⟩
        rw [run_equalIn_int w' d t _ k _ _ h]
        congr 1
      · cases he
    · rename_i h1 _ _; simp at h1
    · rename_i h1 _ _; simp at h1
    · cases he
  | 1, h =>
    have h : P.underlying t = some .string := h
    unfold eqCells at he
    split at he
    · rename_i heq; cases heq
    · rename_i h1 _ _; simp at h1
    · rename_i h1 h2 h3
      simp only [List.cons.injEq, true_and] at h1 h2 h3
      obtain ⟨rfl, rfl⟩ := h2
      obtain ⟨rfl, rfl⟩ := h3
      subst h1
      obtain ⟨z, hz, he⟩ := bindO he
      simp only [Option.some.injEq] at he
      cases hx; cases hy
      refine ⟨_, z, hz, he.symm, fun w' => ?_⟩
      rw [run_equalIn_string w' d t _ _ h]
      congr 1
      rw [ByteArray.toList_eq, ByteArray.toList_eq]
      exact Bool.eq_iff_iff.2 (by simp)
    · rename_i h1 _ _; simp at h1
    · cases he

theorem eqFields_run (d : Nat) : ∀ (fs : List Field) (sh : List Nat) (o : Nat) (as cs : List AV) (xs ys pre pre' : List Value) (r : Bool), FieldsOk P fs sh o → pre.length = o → pre'.length = o → F2 (RA m σ w) as xs → F2 (RA m σ w) cs ys →
    eqCells sh as cs = some r → ∀ w', (Op.eqFields (d + 1) (pre ++ xs).toArray (pre' ++ ys).toArray fs).run P w' = .ok r w'
  | [], [], o, as, cs, xs, ys, pre, pre', r, hf, hp, hp', hx, hy, he, w' => by
    cases as <;> cases cs <;> simp [eqCells] at he
    subst he
    simp [Op.eqFields]
  | [], _ :: _, _, _, _, _, _, _, _, _, hf, _, _, _, _, _, _ => hf.elim
  | _ :: _, [], _, _, _, _, _, _, _, _, hf, _, _, _, _, _, _ => hf.elim
  | f :: fs, c :: sh, o, as, cs, xs, ys, pre, pre', r, hf, hp, hp', hx, hy, he, w' => by
    obtain ⟨h1, h2, h3, h4⟩ := hf
    cases hx with
    | nil => cases c with | zero => simp [eqCells] at he | succ c => cases c with | zero => simp [eqCells] at he | succ c => exact h3.elim
    | cons x hx =>
      cases hy with
      | nil => cases c with | zero => simp [eqCells] at he | succ c => cases c with | zero => simp [eqCells] at he | succ c => exact h3.elim
      | cons y hy =>
        rename_i a u as xs b v cs ys
        obtain ⟨s, r', k1, rfl, k2⟩ := scal_eq (P := P) h3 d x y he
        have g1 : (pre ++ u :: xs).toArray[f.offset]? = some u := by simp [h2, ← hp]
        have g2 : (pre' ++ v :: ys).toArray[f.offset]? = some v := by simp [h2, ← hp']
        have ih := eqFields_run d fs sh (o + 1) as cs xs ys (pre ++ [u]) (pre' ++ [v]) r' h4 (by simp [hp]) (by simp [hp']) hx hy k1 w'
        simp only [List.append_assoc, List.cons_append, List.nil_append] at ih
        simp only [Op.eqFields, if_pos h1, Sem.run_bind, part_scal h3 w' g1, part_scal h3 w' g2, k2 w', Result.andThen_ok]
        cases s
        · simp [Sem.run_pure]
        · simp only [Bool.not_true, Bool.false_eq_true, if_false, Bool.true_and]; exact ih

theorem eq_struct {t : TypeId} {fs : Array Field} {sh : List Nat} (ht : P.underlying t = some (.struct fs)) (hp : P.stoodInHeld t = false) (hg : P.eqGuardType P.depth t = false) (hf : FieldsOk P fs.toList sh 0)
    (as cs : List AV) (r : Bool) (he : eqCells sh as cs = some r) (m : Mt) (σ : St) (w : World) (xs ys : List Value) (hx : F2 (RA m σ w) as xs) (hy : F2 (RA m σ w) cs ys) :
    ∀ (w' : World), (Op.equal t (.agg xs.toArray) (.agg ys.toArray)).run P w' = .ok r w' ∧ ∀ op ox oy, (eqGuard op t ox oy (.agg xs.toArray) (.agg ys.toArray)).run P w' = .ok () w' := by
  intro w'
  have hfs : P.fieldsOf t = fs := by unfold Program.fieldsOf; rw [ht]
  refine ⟨?_, fun op ox oy => run_eqGuard_agg w' op t ox oy _ _ hg⟩
  have h1 := run_equalIn_struct w' 9999 t xs.toArray ys.toArray (by rw [hfs]; exact ht) hp
  have h2 := eqFields_run (P := P) (m := m) (σ := σ) (w := w) 9998 fs.toList sh 0 as cs xs ys [] [] r hf rfl rfl hx hy he w'
  rw [hfs] at h1
  exact h1.trans h2
end
end Go.Fx
