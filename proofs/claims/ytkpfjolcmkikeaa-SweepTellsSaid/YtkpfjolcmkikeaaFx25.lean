import Derived.Test.YtkpfjolcmkikeaaFx24
import Derived.ChangeKeysEq
set_option linter.unusedSimpArgs false
set_option linter.unusedVariables false
/-
  Arrays of whole numbers, held against each other.
-/
namespace Go.Fx
open Go.RowKit

section
variable {P : Program} {m : Mt} {σ : St} {w : World}

theorem eqItems_run {e : TypeId} {k : IntKind} (he : P.underlying e = some (.int k)) (d : Nat) : ∀ (n o : Nat) (as cs : List AV) (xs ys pre pre' : List Value) (r : Bool), pre.length = o → pre'.length = o → F2 (RA m σ w) as xs → F2 (RA m σ w) cs ys →
    eqCells (List.replicate n 0) as cs = some r → ∀ w', (Op.eqItems (d + 1) e 1 (pre ++ xs).toArray (pre' ++ ys).toArray (List.range' o n)).run P w' = .ok r w'
  | 0, o, as, cs, xs, ys, pre, pre', r, hp, hp', hx, hy, hc, w' => by
    cases as <;> cases cs <;> simp [eqCells] at hc
    subst hc
    simp [Op.eqItems]
  | n + 1, o, as, cs, xs, ys, pre, pre', r, hp, hp', hx, hy, hc, w' => by
    rw [List.replicate_succ] at hc
    cases hx with
    | nil => simp [eqCells] at hc
    | cons x hx =>
      cases hy with
      | nil => simp [eqCells] at hc
      | cons y hy =>
        rename_i a u as xs b v cs ys
        have hs : Scal P 0 e := ⟨k, he⟩
        obtain ⟨s, r', k1, rfl, k2⟩ := scal_eq (P := P) hs d x y hc
        have g1 : (pre ++ u :: xs).toArray[o * 1]? = some u := by simp [← hp]
        have g2 : (pre' ++ v :: ys).toArray[o * 1]? = some v := by simp [← hp']
        have ih := eqItems_run he d n (o + 1) as cs xs ys (pre ++ [u]) (pre' ++ [v]) r' (by simp [hp]) (by simp [hp']) hx hy k1 w'
        simp only [List.append_assoc, List.cons_append, List.nil_append] at ih
        simp only [List.range'_succ, Op.eqItems, Sem.run_bind, part_scal hs w' g1, part_scal hs w' g2, k2 w', Result.andThen_ok]
        cases s
        · simp [Sem.run_pure]
        · simp only [Bool.not_true, Bool.false_eq_true, if_false, Bool.true_and]; exact ih

theorem eq_arr {t e : TypeId} {n : Nat} {k : IntKind} {sh : List Nat} (ht : P.underlying t = some (.array n e)) (he : P.underlying e = some (.int k)) (hi : (P.info? e).isSome = true) (hc : P.cellsOf e = 1) (hsh : sh = List.replicate n 0) (hg : P.eqGuardType P.depth t = false)
    (as cs : List AV) (r : Bool) (hr : eqCells sh as cs = some r) (m : Mt) (σ : St) (w : World) (xs ys : List Value) (hx : F2 (RA m σ w) as xs) (hy : F2 (RA m σ w) cs ys) :
    ∀ (w' : World), (Op.equal t (.agg xs.toArray) (.agg ys.toArray)).run P w' = .ok r w' ∧ ∀ op ox oy, (eqGuard op t ox oy (.agg xs.toArray) (.agg ys.toArray)).run P w' = .ok () w' := by
  intro w'
  subst hsh
  obtain ⟨i, hi⟩ := Option.isSome_iff_exists.1 hi
  refine ⟨?_, fun op ox oy => run_eqGuard_agg w' op t ox oy _ _ hg⟩
  have h1 := run_equalIn_array (P := P) (w := w') 9999 xs.toArray ys.toArray ht hi
  have h2 := eqItems_run (P := P) (m := m) (σ := σ) (w := w) he 9998 n 0 as cs xs ys [] [] r rfl rfl hx hy hr w'
  rw [hc, List.range_eq_range'] at h1
  exact h1.trans h2
end
end Go.Fx
