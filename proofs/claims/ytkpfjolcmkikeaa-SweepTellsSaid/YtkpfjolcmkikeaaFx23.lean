import Derived.Test.YtkpfjolcmkikeaaFx22
set_option linter.unusedSimpArgs false
set_option linter.unusedVariables false
/-
  The rules of evaluation by rewriting, in few names; loops that count.
-/
set_option linter.defProp false
namespace Go.Fx

def fxa := And.intro (@x_seq) (And.intro (@x_reg) (And.intro (@x_skip) (And.intro (@x_exit) (And.intro (@x_ret) (And.intro (@x_block) (And.intro (@x_if) (And.intro (@wpC_t) (And.intro (@wpC_f) (And.intro (@wpI_cons) (And.intro (@wpI_nil) (And.intro (@wpX_some) (And.intro (@evI_any) (And.intro (@evI_rd) (And.intro (@evI_ad) (And.intro (@evI_g) (And.intro (@evG_u) (And.intro (@evG_b) (And.intro (@evG_tt) (And.intro (@evG_ff) (And.intro (@evG_tf) (And.intro (@evG_ft) (And.intro (@ev_t) (And.intro (@ev_c) (And.intro (@ev_f) (And.intro (@putD_some) (And.intro (@putD_none) (And.intro (@put_at) (And.intro (@add_bs) (And.intro (@add_clk) (And.intro (@add_ls) (And.intro (@put_bs) (And.intro (@put_clk) (And.intro (@put_ls) (And.intro (@kill_bs) (And.intro (@kill_clk) (And.intro (@kill_ls) (And.intro (@empty_clk) (And.intro (@empty_bs) (And.intro (@seqQ_norm) (And.intro (@seqQ_exit) (And.intro (@seqQ_ret) (And.intro (@blkQ_norm) (And.intro (@blkQ_exit) (And.intro (@blkQ_ret) (And.intro (@loopQ_norm) (And.intro (@loopQ_exit) (And.intro (@loopQ_ret) (And.intro (@retP_ret) (And.intro (@retP_norm) (And.intro (@retE_ret) (And.intro (@retE_norm) (And.intro (@retS_ret) (And.intro (@retS_norm) (And.intro (@wpO_some) (And.intro (@frA_fn) (And.intro (@klA_p) (And.intro (@klA_nil) (And.intro (@klA_own) (And.intro (@frL_p) (And.intro (@ofPT_a) (And.intro (@ofPT_g) (And.intro (@ofPT_t) (And.intro (@flat_i) (And.intro (@flat_b) (And.intro (@flat_s) (And.intro (@flat_l) (And.intro (@flat_g) (And.intro (@flatp_i) (And.intro (@flatp_b) (And.intro (@flatp_s) (And.intro (@flatp_l) (And.intro (@frA_p) (And.intro (@frA_nil) (And.intro (@frA_own) (And.intro (@klL_p) (@ownT_p))))))))))))))))))))))))))))))))))))))))))))))))))))))))))))))))))))))))))))
def fxb := And.intro (@Option.bind_some) (And.intro (@Option.bind_none) (And.intro (@Option.map_some) (And.intro (@List.getD_cons_zero) (And.intro (@List.getD_cons_succ) (And.intro (@List.getD_nil) (And.intro (@List.length_cons) (And.intro (@List.length_nil) (And.intro (@List.length_map) (And.intro (@List.map_cons) (And.intro (@List.map_nil) (And.intro (@List.drop_zero) (And.intro (@List.drop_succ_cons) (And.intro (@List.take_succ_cons) (And.intro (@List.take_zero) (And.intro (@List.drop_nil) (And.intro (@List.take_nil) (And.intro (@Nat.zero_add) (And.intro (@Nat.add_zero) (And.intro (@Prod.mk.injEq) (And.intro (@and_true) (And.intro (@true_and) (And.intro (@and_false) (And.intro (@false_and) (And.intro (@and_self) (And.intro (@Bool.not_true) (And.intro (@Bool.not_false) (And.intro (@Bool.not_eq_true') (And.intro (@decide_true) (And.intro (@decide_false) (And.intro (@Bool.and_false) (And.intro (@Bool.false_and) (And.intro (@Bool.or_true) (And.intro (@Bool.true_or) (And.intro (@Bool.false_eq_true) (And.intro (@List.all_cons) (And.intro (@List.all_nil) (And.intro (@List.any_cons) (And.intro (@List.any_nil) (And.intro (@List.replicate_succ) (And.intro (@List.replicate_zero) (And.intro (@List.set_cons_zero) (And.intro (@List.cons_append) (And.intro (@List.nil_append) (And.intro (@List.append_nil) (And.intro (@Bool.and_self) (And.intro (@Bool.and_true) (And.intro (@Bool.true_and) (And.intro (@Bool.or_self) (And.intro (@Bool.or_false) (And.intro (@Bool.false_or) (And.intro (@Nat.one_mul) (And.intro (@Nat.lt_add_one) (@Nat.le_refl)))))))))))))))))))))))))))))))))))))))))))))))))))))
def fxc := fxb.{0, 0, 0, 0, 0, 0, 0, 0, 0, 0, 0, 0, 0, 0, 0, 0, 0, 0, 0, 0, 0, 0, 0, 0, 0, 0, 0, 0, 0, 0, 0, 0, 0, 0, 0}

variable {S : Seat}
/-- what a round of a loop is asked -/
def LQ (I : Env → St → Prop) (Q : Ex → Env → St → Prop) : Ex → Env → St → Prop
  | .norm, e, σ => I e σ
  | x, e, σ => Q x e σ
theorem LQ_norm (I : Env → St → Prop) (Q : Ex → Env → St → Prop) (e : Env) (σ : St) : LQ I Q .norm e σ = I e σ := rfl
theorem LQ_exit (I : Env → St → Prop) (Q : Ex → Env → St → Prop) (id : Nat) (e : Env) (σ : St) : LQ I Q (.exit id) e σ = Q (.exit id) e σ := rfl
theorem LQ_ret (I : Env → St → Prop) (Q : Ex → Env → St → Prop) (e : Env) (σ : St) : LQ I Q .ret e σ = Q .ret e σ := rfl

/-- A loop that counts up to n. -/
theorem loop_nat {rd : Bool} {c : C} {Q : Ex → Env → St → Prop} (n : Nat) (I : Nat → Env → St → Prop) {i0 : Nat} {e : Env} {σ : St} (h0 : i0 ≤ n) (hI : I i0 e σ)
    (step : ∀ i e σ, i < n → I i e σ → wp S rd c e σ (LQ (I (i + 1)) Q))
    (fin : ∀ e σ, I n e σ → wp S rd c e σ (LQ (fun _ _ => False) Q)) : wp S rd (.loop c) e σ Q := by
  refine wp_loop_ind (fun k e σ => ∃ i, i + k = n ∧ I i e σ) (fun k e σ hk => ?_) (n - i0) e σ ⟨i0, by omega, hI⟩
  obtain ⟨i, hi, hI⟩ := hk
  by_cases h : i < n
  · refine wp_mono (step i e σ h hI) fun x e' σ' q => ?_
    cases x with
    | norm => exact ⟨k - 1, by omega, i + 1, by omega, q⟩
    | exit id => exact q
    | ret => exact q
  · have : i = n := by omega
    subst this
    refine wp_mono (fin e σ hI) fun x e' σ' q => ?_
    cases x with
    | norm => exact q.elim
    | exit id => exact q
    | ret => exact q

/-- a function over the caller's memory: what it comes to, exactly -/
theorem x_fnX {g : FuncId} {fc : FnC} (hf : S.fb g = some fc) {args : List TV} (hn : args.length = fc.np) {σ : St} {v0 : TV} {σ0 : St} (h : wp S false fc.body (Env.init args) σ (RetS fc.res fun v σ' => v = v0 ∧ σ' = σ0)) :
    eS S (.f g) args σ = some (v0, σ0) := by
  obtain ⟨v, σ', h1, rfl, rfl⟩ := x_fnS hf hn h
  exact h1
/-- .. with what is known of the memory behind it -/
theorem x_fnR {g : FuncId} {fc : FnC} (hf : S.fb g = some fc) {args : List TV} (hn : args.length = fc.np) {σ : St} {v0 : TV} {R : St → Prop} (h : wp S false fc.body (Env.init args) σ (RetS fc.res fun v σ' => v = v0 ∧ R σ')) :
    ∃ σ', eS S (.f g) args σ = some (v0, σ') ∧ R σ' := by
  obtain ⟨v, σ', h1, rfl, h2⟩ := x_fnS hf hn h
  exact ⟨σ', h1, h2⟩

noncomputable def bool (P : Prop) : Bool := @decide P (Classical.propDecidable P)
theorem bool_iff {P : Prop} : bool P = true ↔ P := by unfold bool; exact @decide_eq_true_iff P (Classical.propDecidable P)
theorem bool_t {P : Prop} (h : P) : bool P = true := bool_iff.2 h
theorem bool_f {P : Prop} (h : ¬ P) : bool P = false := by cases e : bool P; rfl; exact absurd (bool_iff.1 e) h
theorem bool_congr {P R : Prop} (h : P ↔ R) : bool P = bool R := by rw [propext h]
theorem bool_dec {P : Prop} [h : Decidable P] : bool P = decide P := by by_cases hp : P; rw [bool_t hp]; simp [hp]; rw [bool_f hp]; simp [hp]
/-- it is told whether P -/
def RB (P : Prop) (r : PT) : Prop := r = .a (.b (bool P))
theorem RB_t (P : Prop) : RB P (.a (.b true)) = P := by
  unfold RB; simp only [PT.a.injEq, PV.b.injEq]; exact propext ⟨fun h => bool_iff.1 h.symm, fun h => (bool_t h).symm⟩
theorem RB_f (P : Prop) : RB P (.a (.b false)) = ¬ P := by
  unfold RB; simp only [PT.a.injEq, PV.b.injEq]; exact propext ⟨fun h hp => (by rw [bool_t hp] at h; cases h), fun h => (bool_f h).symm⟩
theorem RB_b (P : Prop) (b : Bool) : RB P (.a (.b b)) = (b = true ↔ P) := by
  cases b
  · rw [RB_f]; simp
  · rw [RB_t]; simp
theorem x_fnB {g : FuncId} (ho : ∀ ps, S.orc g ps = none) {fc : FnC} (hf : S.fb g = some fc) {ps : List PT} (hn : ps.length = fc.np) {P : Prop}
    (h : wp S false fc.body (Env.init (ps.map ofPT)) .empty (RetE fc.res (RB P))) : eP S g ps = some (.a (.b (bool P))) := by
  obtain ⟨r, h1, h2⟩ := x_fnE ho hf hn h
  rw [h1, h2]
end Go.Fx
