import Derived.Test.YtkpfjolcmkikeaaFx21
set_option linter.unusedSimpArgs false
set_option linter.unusedVariables false
/-
  Evaluation by rewriting: what an instruction needs, and what comes behind it.
-/
namespace Go.Fx

/-! short names of instructions -/
@[reducible] def ia (d : Nat) (o : O) : Ins := ⟨some d, none, o, .any⟩
@[reducible] def ir (d : Nat) (o : O) : Ins := ⟨some d, none, o, .rd⟩
@[reducible] def io (o : O) : Ins := ⟨none, none, o, .any⟩
@[reducible] def ig (d t : Nat) (w : Bool) (o : O) : Ins := ⟨some d, some (t, w), o, .any⟩
@[reducible] def ih (d t : Nat) (w : Bool) (o : O) : Ins := ⟨some d, some (t, w), o, .rd⟩
@[reducible] def ci (n : Int) : X := .c (.a (.p (.i .i64 n)))

/-- It comes to something, of which K. -/
def wpO {α : Type} (x : Option α) (K : α → Prop) : Prop := ∃ y, x = some y ∧ K y

section
variable {α β : Type} {K : β → Prop}
theorem wpO_some (x : β) : wpO (some x) K = K x := propext ⟨fun ⟨_, h, k⟩ => by cases h; exact k, fun k => ⟨x, rfl, k⟩⟩
theorem wpO_none : wpO (none : Option β) K = False := propext ⟨fun ⟨_, h, _⟩ => (by cases h), fun h => h.elim⟩
theorem wpO_bind (x : Option α) (f : α → Option β) : wpO (x.bind f) K = wpO x fun y => wpO (f y) K :=
  propext ⟨fun ⟨y, h, k⟩ => let ⟨z, h1, h2⟩ := bindO h; ⟨z, h1, y, h2, k⟩, fun ⟨z, h1, y, h2, k⟩ => ⟨y, by rw [h1]; exact h2, k⟩⟩
theorem wpO_ite (c : Prop) [Decidable c] (x y : Option β) : wpO (if c then x else y) K = if c then wpO x K else wpO y K := by split <;> rfl
theorem wpO_pos {c : Prop} [Decidable c] (h : c) (x y : Option β) : wpO (if c then x else y) K = wpO x K := by rw [if_pos h]
end

variable {S : Seat}

/-- the rest of a region, behind an instruction -/
def wpX (S : Seat) (x : Option (Env × St)) (r : List Ins) (Q : Env → St → Prop) : Prop := ∃ y, x = some y ∧ wpI S r y.1 y.2 Q

theorem wpI_nil (e : Env) (σ : St) (Q : Env → St → Prop) : wpI S [] e σ Q = Q e σ := propext ⟨fun ⟨x, h, q⟩ => by simp only [evIs, Option.some.injEq] at h; subst h; exact q, fun q => ⟨(e, σ), rfl, q⟩⟩
theorem wpI_cons (i : Ins) (r : List Ins) (e : Env) (σ : St) (Q : Env → St → Prop) : wpI S (i :: r) e σ Q = wpX S (evI (eP S) (eS S) S.sp i e σ) r Q := by
  refine propext ⟨fun ⟨x, h, q⟩ => ?_, fun ⟨x, h, y, h2, q⟩ => ⟨y, by rw [evIs, h]; exact h2, q⟩⟩
  rw [evIs] at h
  obtain ⟨y, h1, h2⟩ := bindO h
  exact ⟨y, h1, x, h2, q⟩
theorem wpX_some (e : Env) (σ : St) (r : List Ins) (Q : Env → St → Prop) : wpX S (some (e, σ)) r Q = wpI S r e σ Q := propext ⟨fun ⟨_, h, k⟩ => by cases h; exact k, fun k => ⟨_, rfl, k⟩⟩
theorem wpX_split {c : Prop} [Decidable c] {x y : Option (Env × St)} {r : List Ins} {Q : Env → St → Prop} (h : c → wpX S x r Q) (k : ¬ c → wpX S y r Q) : wpX S (if c then x else y) r Q := by
  by_cases hc : c
  · rw [if_pos hc]; exact h hc
  · rw [if_neg hc]; exact k hc
theorem wpX_bsplit {b w : Bool} {x y : Option (Env × St)} {r : List Ins} {Q : Env → St → Prop} (h : b = w → wpX S x r Q) (k : b = (!w) → wpX S y r Q) : wpX S (if b = w then x else y) r Q := by
  refine wpX_split h fun hn => k ?_
  cases b <;> cases w <;> simp_all
theorem wpX_pos {c : Prop} [Decidable c] {x y : Option (Env × St)} {r : List Ins} {Q : Env → St → Prop} (hc : c) (h : wpX S x r Q) : wpX S (if c then x else y) r Q := by rw [if_pos hc]; exact h
/-- what must hold -/
theorem wpX_need {α : Type} {c : Prop} [Decidable c] {x : Option α} {f : α → Option (Env × St)} {r : List Ins} {Q : Env → St → Prop} (hc : c) (h : wpX S (x.bind f) r Q) : wpX S ((if c then x else none).bind f) r Q := by rw [if_pos hc]; exact h

theorem evI_any (d : Option Nat) (o : O) (e : Env) (σ : St) : evI (eP S) (eS S) S.sp ⟨d, none, o, .any⟩ e σ = (evO (eP S) (eS S) S.sp d e σ o).bind fun x => some (e.putD d x.1, x.2) := rfl
theorem evI_rd (d : Option Nat) (o : O) (e : Env) (σ : St) : evI (eP S) (eS S) S.sp ⟨d, none, o, .rd⟩ e σ = (evR (eP S) S.sp e σ o).bind fun v => some (e.putD d v, σ) := rfl
theorem evI_ad (d : Option Nat) (o : O) (e : Env) (σ : St) : evI (eP S) (eS S) S.sp ⟨d, none, o, .ad⟩ e σ = if o.adds e then (evO (eP S) (eS S) S.sp d e σ o).bind fun x => some (e.putD d x.1, x.2) else none := rfl

theorem evI_wr (d : Option Nat) (o : O) (ts : List Nat) (e : Env) (σ : St) : evI (eP S) (eS S) S.sp ⟨d, none, o, .wr ts⟩ e σ = if wrOk e σ o ts then (evO (eP S) (eS S) S.sp d e σ o).bind fun x => some (e.putD d x.1, x.2) else none := rfl
/-- a guard -/
def evG (v : TV) (w : Bool) (run : Option (Env × St)) (skip : Env × St) : Option (Env × St) :=
  match v with
  | .a (.p (.b x)) => if x = w then run else some skip
  | .u => some skip
  | _ => none
theorem evI_g (d : Option Nat) (t : Nat) (w : Bool) (o : O) (c : Cls) (e : Env) (σ : St) :
    evI (eP S) (eS S) S.sp ⟨d, some (t, w), o, c⟩ e σ = evG (e t) w (evI (eP S) (eS S) S.sp ⟨d, none, o, c⟩ e σ) (e.putD d .u, σ) := by
  simp only [evI, evG]
  cases e t with
  | a x =>
    cases x with
    | p v => cases v <;> rfl
    | _ => rfl
  | _ => rfl
theorem evG_u (w : Bool) (run : Option (Env × St)) (skip : Env × St) : evG .u w run skip = some skip := rfl
theorem evG_b (x w : Bool) (run : Option (Env × St)) (skip : Env × St) : evG (.a (.p (.b x))) w run skip = if x = w then run else some skip := rfl
theorem evG_tt (run : Option (Env × St)) (skip : Env × St) : evG (.a (.p (.b true))) true run skip = run := rfl
theorem evG_ff (run : Option (Env × St)) (skip : Env × St) : evG (.a (.p (.b false))) false run skip = run := rfl
theorem evG_tf (run : Option (Env × St)) (skip : Env × St) : evG (.a (.p (.b true))) false run skip = some skip := rfl
theorem evG_ft (run : Option (Env × St)) (skip : Env × St) : evG (.a (.p (.b false))) true run skip = some skip := rfl

theorem x_skip (rd : Bool) (e : Env) (σ : St) (Q : Ex → Env → St → Prop) : wp S rd .skip e σ Q = Q .norm e σ := propext (wp_skip S rd e σ Q)
theorem x_exit (rd : Bool) (id : Nat) (e : Env) (σ : St) (Q : Ex → Env → St → Prop) : wp S rd (.exit id) e σ Q = Q (.exit id) e σ := propext (wp_exit S rd id e σ Q)
theorem x_ret (rd : Bool) (e : Env) (σ : St) (Q : Ex → Env → St → Prop) : wp S rd .ret e σ Q = Q .ret e σ := propext (wp_ret S rd e σ Q)
theorem x_reg (rd : Bool) (is : List Ins) (e : Env) (σ : St) (Q : Ex → Env → St → Prop) : wp S rd (.reg is) e σ Q = wpI S is e σ (Q .norm) := propext (wp_reg S rd is e σ Q)
theorem x_seq (rd : Bool) (a b : C) (e : Env) (σ : St) (Q : Ex → Env → St → Prop) : wp S rd (.seq a b) e σ Q = wp S rd a e σ (seqQ S rd b Q) := propext (wp_seq S rd a b e σ Q)
theorem x_cond (rd : Bool) (x : X) (a b : C) (e : Env) (σ : St) (Q : Ex → Env → St → Prop) {t : Bool} (h : ev e x = .a (.p (.b t))) : wp S rd (.cond x a b) e σ Q = if t = true then wp S rd a e σ Q else wp S rd b e σ Q := propext (wp_cond S rd x a b e σ Q h)
/-- a branch -/
def wpC (S : Seat) (rd : Bool) (v : TV) (a b : C) (e : Env) (σ : St) (Q : Ex → Env → St → Prop) : Prop :=
  match v with
  | .a (.p (.b t)) => if t = true then wp S rd a e σ Q else wp S rd b e σ Q
  | _ => False
theorem x_if (rd : Bool) (x : X) (a b : C) (e : Env) (σ : St) (Q : Ex → Env → St → Prop) : wp S rd (.cond x a b) e σ Q = wpC S rd (ev e x) a b e σ Q := by
  unfold wpC
  split
  · rename_i t h; exact x_cond rd x a b e σ Q h
  · rename_i h
    refine propext ⟨fun ⟨n, y, h1, _⟩ => ?_, fun h => h.elim⟩
    simp only [evW, evC] at h1
    cases h1
theorem wpC_t (rd : Bool) (a b : C) (e : Env) (σ : St) (Q : Ex → Env → St → Prop) : wpC S rd (.a (.p (.b true))) a b e σ Q = wp S rd a e σ Q := by simp [wpC]
theorem wpC_f (rd : Bool) (a b : C) (e : Env) (σ : St) (Q : Ex → Env → St → Prop) : wpC S rd (.a (.p (.b false))) a b e σ Q = wp S rd b e σ Q := by simp [wpC]
theorem wpC_split {rd t : Bool} {a b : C} {e : Env} {σ : St} {Q : Ex → Env → St → Prop} (h : t = true → wp S rd a e σ Q) (k : t = false → wp S rd b e σ Q) : wpC S rd (.a (.p (.b t))) a b e σ Q := by
  cases t
  · rw [wpC_f]; exact k rfl
  · rw [wpC_t]; exact h rfl

theorem x_loop (rd : Bool) (c : C) (e : Env) (σ : St) (Q : Ex → Env → St → Prop) : wp S rd (.loop c) e σ Q = wp S rd c e σ (loopQ S rd c Q) := propext (wp_loop S rd c e σ Q)

theorem ofPT_a (v : PV) : ofPT (.a v) = .a (.p v) := rfl
theorem ofPT_g (cs : List PV) : ofPT (.g cs) = .g (cs.map .p) := rfl
theorem ofPT_t (vs : List (Bool × List PV)) : ofPT (.t vs) = .t (vs.map fun x => (x.1, x.2.map .p)) := rfl
theorem flat_i (k : IntKind) (n : Int) : (PT.a (.i k n)).flat = true := rfl
theorem flat_b (x : Bool) : (PT.a (.b x)).flat = true := rfl
theorem flat_s (x : List UInt8) : (PT.a (.s x)).flat = true := rfl
theorem flat_l (x : List (List PV)) : (PT.a (.l x)).flat = false := rfl

theorem flat_g (cs : List PV) : (PT.g cs).flat = cs.all PV.flat := rfl
theorem flatp_i (k : IntKind) (n : Int) : (PV.i k n).flat = true := rfl
theorem flatp_b (x : Bool) : (PV.b x).flat = true := rfl
theorem flatp_s (x : List UInt8) : (PV.s x).flat = true := rfl
theorem flatp_l (x : List (List PV)) : (PV.l x).flat = false := rfl
theorem klL_p (σ : St) (xs : List PV) : klL σ (xs.map .p) = σ := klL_none _ _ fun x hx => by obtain ⟨p, _, rfl⟩ := List.mem_map.1 hx; rfl
theorem ownT_p (xs : List PV) : (xs.map AV.p).any ownA = false := by induction xs with
  | nil => rfl
  | cons x xs ih => simp [ownA, ih]
theorem cells_p (xs : List PV) : cellsT (.g (xs.map .p)) = some (xs.map .p) := rfl

theorem frA_p (σ : St) (v : PV) : frA σ (.p v) = some v := rfl
theorem frA_nil (σ : St) : frA σ .nil = some (.l []) := rfl
theorem frA_own (σ : St) (s : Key) (off len : Nat) : frA σ (.own s off len) = match σ.bs s with
    | some (.row _ _ rows) => if off + len ≤ rows.length then some (.l ((rows.drop off).take len)) else none
    | _ => none := rfl
/-- variables are no slices -/
theorem frA_put_var {σ : St} {k : Key} {cs cs' : List AV} (h : σ.bs k = some (.var cs)) (x : AV) : frA (σ.put k (.var cs')) x = frA σ x := by
  cases x with
  | own s off len =>
    simp only [frA, St.put]
    by_cases e : s = k
    · subst e; rw [if_pos rfl, h]
    · rw [if_neg e]
  | _ => rfl

/-! ### the store -/
theorem add_bs (σ : St) (d : Nat) (b : Blk) (s : Key) : (σ.add d b).bs s = if s = (d, σ.clk) then some b else σ.bs s := rfl
theorem add_clk (σ : St) (d : Nat) (b : Blk) : (σ.add d b).clk = σ.clk + 1 := rfl
theorem add_ls (σ : St) (d : Nat) (b : Blk) : (σ.add d b).ls = σ.ls := rfl
theorem put_bs (σ : St) (k : Key) (b : Blk) (s : Key) : (σ.put k b).bs s = if s = k then some b else σ.bs s := rfl
theorem put_clk (σ : St) (k : Key) (b : Blk) : (σ.put k b).clk = σ.clk := rfl
theorem put_ls (σ : St) (k : Key) (b : Blk) : (σ.put k b).ls = σ.ls := rfl
theorem kill_bs (σ : St) (k : Key) (s : Key) : (σ.kill k).bs s = if s = k then none else σ.bs s := rfl
theorem kill_clk (σ : St) (k : Key) : (σ.kill k).clk = σ.clk := rfl
theorem kill_ls (σ : St) (k : Key) : (σ.kill k).ls = σ.ls := rfl
theorem empty_clk : St.empty.clk = 0 := rfl
theorem empty_bs (s : Key) : St.empty.bs s = none := rfl

theorem x_block (rd : Bool) (id : Nat) (c : C) (e : Env) (σ : St) (Q : Ex → Env → St → Prop) : wp S rd (.block id c) e σ Q = wp S rd c e σ (blkQ id Q) := propext (wp_block S rd id c e σ Q)

theorem x_fz (rd : Bool) (ts : List Nat) (c : C) (e : Env) (σ : St) (Q : Ex → Env → St → Prop) : wp S rd (.fz ts c) e σ Q = wpO (fzS e ts σ) fun σ' => wp S rd c e σ' Q := by
  refine propext ⟨fun ⟨n, x, h1, h2⟩ => ?_, fun ⟨σ', h1, n, x, h2, h3⟩ => ⟨n, x, ?_, h3⟩⟩
  · simp only [evW, evC] at h1
    obtain ⟨σ', h3, h1⟩ := bindO h1
    exact ⟨σ', h3, n, x, h1, h2⟩
  · simp only [evW, evC] at h2 ⊢
    rw [h1]; exact h2

theorem put_at (e : Env) (n m : Nat) (v : TV) : e.put n v m = if m = n then v else e m := rfl
theorem putD_some (e : Env) (n : Nat) (v : TV) : e.putD (some n) v = e.put n v := rfl
theorem putD_none (e : Env) (v : TV) : e.putD none v = e := rfl
theorem ev_t (e : Env) (n : Nat) : ev e (.t n) = e n := rfl
theorem ev_c (e : Env) (v : TV) : ev e (.c v) = v := rfl
theorem ev_f (e : Env) (f : FuncId) : ev e (.f f) = .a (.fn f []) := rfl

/-! ### values frozen -/
theorem frL_p (σ : St) (xs : List PV) : frL σ (xs.map .p) = some xs := by
  induction xs with
  | nil => rfl
  | cons x xs ih => simp only [List.map_cons, frL, frA, ih, Option.bind_some]

/-- what a pure function is asked at its end -/
def RetP (res : List Rs) (r : PT) : Ex → Env → St → Prop
  | .exit _, _, _ => False
  | _, e, σ => ((resVs e σ res).bind fun vs => (resT vs).bind fun v => frT σ v) = some r
theorem retP_ret (res : List Rs) (r : PT) (e : Env) (σ : St) : RetP res r .ret e σ = (((resVs e σ res).bind fun vs => (resT vs).bind fun v => frT σ v) = some r) := rfl
theorem retP_norm (res : List Rs) (r : PT) (e : Env) (σ : St) : RetP res r .norm e σ = (((resVs e σ res).bind fun vs => (resT vs).bind fun v => frT σ v) = some r) := rfl
theorem x_fn {g : FuncId} (ho : ∀ ps, S.orc g ps = none) {fc : FnC} (hf : S.fb g = some fc) {ps : List PT} (hn : ps.length = fc.np) {r : PT}
    (h : wp S false fc.body (Env.init (ps.map ofPT)) .empty (RetP fc.res r)) : eP S g ps = some r := by
  refine eP_of_wp S ho hf hn (wp_mono h fun x e σ q => ?_)
  cases x with
  | exit id => exact q.elim
  | norm => obtain ⟨vs, h1, q⟩ := bindO q; obtain ⟨v, h2, q⟩ := bindO q; exact ⟨.inl rfl, vs, v, h1, h2, q⟩
  | ret => obtain ⟨vs, h1, q⟩ := bindO q; obtain ⟨v, h2, q⟩ := bindO q; exact ⟨.inr rfl, vs, v, h1, h2, q⟩

/-- a cut: the ways up to here come together -/
theorem x_cut {rd : Bool} {a b : C} {e : Env} {σ : St} {Q : Ex → Env → St → Prop} (M : Env → St → Prop) (h : wp S rd a e σ fun x e' σ' => x = .norm ∧ M e' σ') (k : ∀ e' σ', M e' σ' → wp S rd b e' σ' Q) : wp S rd (.seq a b) e σ Q := by
  rw [x_seq]
  refine wp_mono h fun x e' σ' q => ?_
  obtain ⟨rfl, hM⟩ := q
  exact k e' σ' hM

/-- what a pure function is asked at its end, where it is not said which value -/
def RetE (res : List Rs) (K : PT → Prop) : Ex → Env → St → Prop
  | .exit _, _, _ => False
  | _, e, σ => wpO ((resVs e σ res).bind fun vs => (resT vs).bind fun v => frT σ v) K
theorem retE_ret (res : List Rs) (K : PT → Prop) (e : Env) (σ : St) : RetE res K .ret e σ = wpO ((resVs e σ res).bind fun vs => (resT vs).bind fun v => frT σ v) K := rfl
theorem retE_norm (res : List Rs) (K : PT → Prop) (e : Env) (σ : St) : RetE res K .norm e σ = wpO ((resVs e σ res).bind fun vs => (resT vs).bind fun v => frT σ v) K := rfl
theorem x_fnE {g : FuncId} (ho : ∀ ps, S.orc g ps = none) {fc : FnC} (hf : S.fb g = some fc) {ps : List PT} (hn : ps.length = fc.np) {K : PT → Prop}
    (h : wp S false fc.body (Env.init (ps.map ofPT)) .empty (RetE fc.res K)) : ∃ r, eP S g ps = some r ∧ K r := by
  obtain ⟨n, ⟨ex, e', σ'⟩, h1, h2⟩ := h
  have fin : (ex = .norm ∨ ex = .ret) → wpO ((resVs e' σ' fc.res).bind fun vs => (resT vs).bind fun v => frT σ' v) K → ∃ r, eP S g ps = some r ∧ K r := by
    rintro hx ⟨r, h3, h4⟩
    obtain ⟨vs, h5, h3⟩ := bindO h3
    obtain ⟨v, h6, h3⟩ := bindO h3
    exact ⟨r, eP_of_wp S ho hf hn ⟨n, _, h1, hx, vs, v, h5, h6, h3⟩, h4⟩
  cases ex with
  | exit id => exact h2.elim
  | norm => exact fin (.inl rfl) h2
  | ret => exact fin (.inr rfl) h2

/-- a call over the caller's memory, of which it is known what it comes to -/
theorem wpX_call {c : Cal} {vs : List TV} {σ : St} {f : TV × St → Option (Env × St)} {r : List Ins} {Q : Env → St → Prop} {K : TV → St → Prop} (h : ∃ v σ', eS S c vs σ = some (v, σ') ∧ K v σ')
    (k : ∀ v σ', K v σ' → wpX S (f (v, σ')) r Q) : wpX S ((eS S c vs σ).bind f) r Q := by
  obtain ⟨v, σ', h1, h2⟩ := h
  rw [h1]; exact k v σ' h2
/-- what a function over the caller's memory is asked at its end -/
def RetS (res : List Rs) (K : TV → St → Prop) : Ex → Env → St → Prop
  | .exit _, _, _ => False
  | _, e, σ => wpO ((resVs e σ res).bind resT) fun v => K v σ
theorem retS_ret (res : List Rs) (K : TV → St → Prop) (e : Env) (σ : St) : RetS res K .ret e σ = wpO ((resVs e σ res).bind resT) fun v => K v σ := rfl
theorem retS_norm (res : List Rs) (K : TV → St → Prop) (e : Env) (σ : St) : RetS res K .norm e σ = wpO ((resVs e σ res).bind resT) fun v => K v σ := rfl
theorem x_fnS {g : FuncId} {fc : FnC} (hf : S.fb g = some fc) {args : List TV} (hn : args.length = fc.np) {σ : St} {K : TV → St → Prop} (h : wp S false fc.body (Env.init args) σ (RetS fc.res K)) :
    ∃ v σ', eS S (.f g) args σ = some (v, σ') ∧ K v σ' := by
  obtain ⟨n, ⟨ex, e', σ'⟩, h1, h2⟩ := h
  have fin : (ex = .norm ∨ ex = .ret) → wpO ((resVs e' σ' fc.res).bind resT) (fun v => K v σ') → ∃ v σ', eS S (.f g) args σ = some (v, σ') ∧ K v σ' := by
    rintro hx ⟨v, h3, h4⟩
    obtain ⟨vs, h5, h6⟩ := bindO h3
    exact ⟨v, σ', eS_of_wp S hf hn ⟨n, _, h1, hx, vs, h5, h6, rfl⟩, h4⟩
  cases ex with
  | exit id => exact h2.elim
  | norm => exact fin (.inl rfl) h2
  | ret => exact fin (.inr rfl) h2

theorem frA_fn (σ : St) (f : FuncId) (caps : List Key) : frA σ (.fn f caps) = none := rfl
theorem klA_p (σ : St) (v : PV) : klA σ (.p v) = σ := rfl
theorem klA_nil (σ : St) : klA σ .nil = σ := rfl
theorem klA_own (σ : St) (s : Key) (o l : Nat) : klA σ (.own s o l) = σ.kill s := rfl
/-- blocks that were there are there, but for some -/
def Grow (c0 : Nat) (σ σ' : St) : Prop := σ.clk ≤ σ'.clk ∧ σ'.ls = σ.ls ∧ ∀ s : Key, c0 ≤ s.2 → s.2 < σ.clk → σ'.bs s = σ.bs s
theorem Grow.refl (c0 : Nat) (σ : St) : Grow c0 σ σ := ⟨Nat.le_refl _, rfl, fun _ _ _ => rfl⟩
theorem Grow.trans {c0 : Nat} {a b c : St} (h : Grow c0 a b) (k : Grow c0 b c) : Grow c0 a c :=
  ⟨Nat.le_trans h.1 k.1, k.2.1.trans h.2.1, fun s h1 h2 => (k.2.2 s h1 (Nat.lt_of_lt_of_le h2 h.1)).trans (h.2.2 s h1 h2)⟩

/-- A loop, by a number that falls. -/
theorem wp_loop_ind {rd : Bool} {c : C} {Q : Ex → Env → St → Prop} (I : Nat → Env → St → Prop)
    (h : ∀ k e σ, I k e σ → wp S rd c e σ fun x e' σ' => match x with | .norm => ∃ j, j < k ∧ I j e' σ' | x => Q x e' σ') : ∀ (k : Nat) (e : Env) (σ : St), I k e σ → wp S rd (.loop c) e σ Q := by
  intro k
  induction k using Nat.strongRecOn with
  | _ k ih =>
    intro e σ hI
    rw [wp_loop]
    refine wp_mono (h k e σ hI) fun x e' σ' q => ?_
    cases x with
    | norm => obtain ⟨j, hj, hI'⟩ := q; exact ih j hj e' σ' hI'
    | exit id => exact q
    | ret => exact q

end Go.Fx
