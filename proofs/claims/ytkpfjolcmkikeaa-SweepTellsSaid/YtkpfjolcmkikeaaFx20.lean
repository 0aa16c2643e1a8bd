import Derived.Test.YtkpfjolcmkikeaaFx19
set_option linter.unusedSimpArgs false
set_option linter.unusedVariables false
/-
  Functions, rounds, calls: THE EVALUATOR IS SOUND.
-/
namespace Go.Fx
open Go.RowKit

section
variable {P : Program} {eqs : List (TypeId × List Nat)} {CR : Nat → Code → C → Prop} {m m' : Mt} {σ σ' : St} {w w' : World} {e e' : Env} {a : Act}
variable {cp : FuncId → List PT → Option PT} {cs : Cal → List TV → St → Option (TV × St)} {sp : FuncId → Bool}

theorem load_var (hR : SR CR m σ w) {x : AV} {v : Value} (hx : RA m σ w x v) {t : TypeId} {n : Nat} {g : Bool} (hn : tsz P t = some n) (hg : tag P t = some g) (hg1 : ¬ (g = false ∧ n ≠ 1)) {r : TV}
    (h : (ldCells σ n x).bind (mkT g) = some r) : ∃ u, (do loadVar t (← asAddr v) : Sem Value).run P w = .ok u w ∧ RT m σ w r u := by
  obtain ⟨u, h1, h2⟩ := load_ok (P := P) hR hx hn hg hg1 h
  obtain ⟨cs, h3, h4⟩ := bindO h
  obtain ⟨B, o, vs, rfl, _⟩ := ldCells_ok hR hx h3
  refine ⟨u, ?_, h2⟩
  simpa only [Instr.loadAt, Instr.sureAddr, asAddr] using h1

theorem rga_of {g : Bool} {cs : List AV} {t : TV} {u : Value} (h : mkT g cs = some t) (hr : RT m σ w t u) : RGA (RA m σ w) g cs u := by
  unfold RGA
  cases g with
  | true => simp only [mkT, if_true, Option.some.injEq] at h ⊢; subst h; exact hr
  | false =>
    simp only [mkT, Bool.false_eq_true, if_false] at h ⊢
    split at h
    · simp only [Option.some.injEq] at h; subst h; exact ⟨_, rfl, hr⟩
    · cases h
theorem rt_of {g : Bool} {cs : List AV} {t : TV} {u : Value} (h : mkT g cs = some t) (hr : RGA (RA m σ w) g cs u) : RT m σ w t u := by
  unfold RGA at hr
  cases g with
  | true => simp only [mkT, if_true, Option.some.injEq] at h hr; subst h; exact hr
  | false =>
    simp only [mkT, Bool.false_eq_true, if_false] at h hr
    obtain ⟨x, rfl, hx⟩ := hr
    simp only [Option.some.injEq] at h; subst h; exact hx

def resOne (tmps : Array Value) : ResultVar → Sem Value
  | .tmp t => pure (tmps.getD t undef)
  | .cell a t => do loadVar t (← asAddr (tmps.getD a undef))

theorem resOne_ok (hR : SR CR m σ w) {tmps : Array Value} (hE : RE m σ w e tmps) {r : ResultVar} {s : Rs} (hc : ccR P r = some s) {x : Bool × List AV} (h : resV e σ s = some x) :
    ∃ u, (resOne tmps r).run P w = .ok u w ∧ RGA (RA m σ w) x.1 x.2 u := by
  cases r with
  | tmp t =>
    simp only [ccR, Option.some.injEq] at hc; subst hc
    have h1 := hE t
    simp only [resV] at h
    split at h
    · rename_i y hy
      simp only [Option.some.injEq] at h; subst h
      rw [hy] at h1
      exact ⟨_, rfl, by unfold RGA; exact ⟨_, rfl, h1⟩⟩
    · rename_i cs hy
      simp only [Option.some.injEq] at h; subst h
      rw [hy] at h1
      exact ⟨_, rfl, by unfold RGA; simp only [if_true]; exact h1⟩
    · cases h
  | cell a t =>
    simp only [ccR] at hc
    obtain ⟨n, hn, hc⟩ := bindO hc
    obtain ⟨g, hg, hc⟩ := bindO hc
    split at hc
    · cases hc
    · rename_i hg1
      simp only [Option.some.injEq] at hc; subst hc
      have h1 := hE a
      simp only [resV] at h
      split at h
      · rename_i y hy
        rw [hy] at h1
        obtain ⟨cs, h2, h⟩ := bindO h
        obtain ⟨t', h3, h⟩ := bindO h
        simp only [Option.some.injEq] at h; subst h
        obtain ⟨u, h4, h5⟩ := load_var (P := P) hR h1 hn hg hg1 (r := t') (by rw [h2]; exact h3)
        exact ⟨u, h4, rga_of h3 h5⟩
      · cases h

theorem res_ok (hR : SR CR m σ w) {tmps : Array Value} (hE : RE m σ w e tmps) : ∀ {l : List ResultVar} {l' : List Rs} {vs : List (Bool × List AV)}, F2 (fun r s => ccR P r = some s) l l' → resVs e σ l' = some vs →
    ∃ us : List Value, (l.mapM (resOne tmps)).run P w = .ok us w ∧ F2 (fun x u => RGA (RA m σ w) x.1 x.2 u) vs us
  | [], _, vs, .nil, h => by simp [resVs] at h; subst h; exact ⟨[], by simp, .nil⟩
  | r :: l, _, vs, .cons hr ht, h => by
    simp only [resVs] at h
    obtain ⟨x, h1, h⟩ := bindO h
    obtain ⟨xs, h2, h⟩ := bindO h
    simp only [Option.some.injEq] at h; subst h
    obtain ⟨u, h3, h4⟩ := resOne_ok (P := P) hR hE hr h1
    obtain ⟨us, h5, h6⟩ := res_ok hR hE ht h2
    exact ⟨u :: us, by simp [List.mapM_cons, h3, h5], .cons h4 h6⟩

theorem results_ok (hR : SR CR m σ w) {tmps : Array Value} (hE : RE m σ w e tmps) {fn : Func} {l' : List Rs} (hl : mapO (ccR P) fn.results.toList = some l') {vs : List (Bool × List AV)} (h : resVs e σ l' = some vs) {t : TV} (ht : resT vs = some t) :
    ∃ v, (results fn tmps).run P w = .ok v w ∧ RT m σ w t v := by
  obtain ⟨us, h1, h2⟩ := res_ok (P := P) hR hE (mapO_F2i (R := fun r s => ccR P r = some s) (fun _ _ h => h) hl) h
  have hrun : (results fn tmps).run P w = .ok (if hh : us.toArray.size = 1 then us.toArray[0] else .tuple us.toArray) w := by
    have : (results fn tmps) = (do let vs ← fn.results.mapM (resOne tmps); pure (if h : vs.size = 1 then vs[0] else .tuple vs)) := by
      unfold results
      congr 1
    rw [this, Array.mapM_eq_mapM_toList]
    simp [h1]
  refine ⟨_, hrun, ?_⟩
  cases h2 with
  | nil => simp only [resT, Option.some.injEq] at ht; subst ht; rfl
  | cons x r =>
    cases r with
    | nil =>
      rename_i y u
      obtain ⟨g, cs⟩ := y
      simp only [resT] at ht
      exact rt_of ht x
    | cons y r =>
      simp only [resT, Option.some.injEq] at ht; subst ht
      rw [dif_neg (by simp)]
      exact ⟨_, rfl, .cons x (.cons y r)⟩

theorem init_ok {args : List TV} {vs : List Value} (h : F2 (RT m σ w) args vs) (k : Nat) : RE m σ w (Env.init args) (vs.toArray ++ Array.replicate k undef) := by
  intro n
  unfold Env.init
  have hl := h.length
  rcases Nat.lt_or_ge n args.length with hn | hn
  · obtain ⟨v, h1, h2⟩ := h.get (List.getElem?_eq_getElem hn)
    rw [List.getD_eq_getElem?_getD, List.getElem?_eq_getElem hn, Array.getD_eq_getD_getElem?, Array.getElem?_append_left (by simp; omega)]
    simp only [List.getElem?_toArray, h1]
    exact h2
  · rw [List.getD_eq_getElem?_getD, List.getElem?_eq_none hn, Array.getD_eq_getD_getElem?, Array.getElem?_append_right (by simp; omega)]
    simp only [Option.getD_none, List.size_toArray, Array.getElem?_replicate]
    show _ = undef
    split <;> rfl

/-- A FUNCTION. -/
theorem fn_ok (hm : P.follows .mixedOrders = true) (hEq : EqOk P eqs) (hp : SndP P cp) (hs : SndS P (CRP P eqs) cs) {f : FuncId} {fn : Func} {fc : FnC} (hf : P.funcs[f]? = some fn) (hc : ccF P eqs fn = some (stripF fc))
    {args : List TV} {fuel : Nat} {x : Ex × Env × St} (hl : args.length = fc.np) (hev : evC cp cs sp fuel false fc.body (Env.init args) σ = some x) (hx : x.1 = .norm ∨ x.1 = .ret)
    {vs : List (Bool × List AV)} (hvs : resVs x.2.1 x.2.2 fc.res = some vs) {t : TV} (ht : resT vs = some t) : Ent P f ∧ ∀ m w vals, SR (CRP P eqs) m σ w → F2 (RT m σ w) args vals → ∀ rr n,
      CallsIn (FW rr) n P f vals.toArray w (PostS (CRP P eqs) m σ w t x.2.2) := by
  unfold ccF at hc
  obtain ⟨code, hb, hc⟩ := bindO hc
  obtain ⟨c, h1, hc⟩ := bindO hc
  obtain ⟨rs, h2, hc⟩ := bindO hc
  split at hc
  · rename_i hn
    simp only [Option.some.injEq] at hc
    obtain ⟨np, body, res⟩ := fc
    simp only [stripF, FnC.mk.injEq] at hc
    obtain ⟨hnp, rfl, rfl⟩ := hc
    subst hnp
    simp only at hl hev hvs
    refine ⟨⟨fn, hf, by rw [hb]; rfl, by simpa using hn.2⟩, fun m w vals hR hargs rr n => ?_⟩
    have hlen := hargs.length
    have main : CallsIn (FW none) n P f vals.toArray w (PostS (CRP P eqs) m σ w t x.2.2) := by
      refine callsIn_of_wp_marks hf hb trivial ?_
      have hsz : (vals.toArray ++ Array.replicate (fn.ntmps - vals.toArray.size) undef).size = fn.ntmps := by simp; omega
      let a0 : Act := { tmps := vals.toArray ++ Array.replicate (fn.ntmps - vals.toArray.size) undef, defers := [] }
      have hA : At (CRP P eqs) m σ w a0 m (Env.init args) σ a0 w := ⟨hR, init_ok hargs _, Xt.refl _ _ _, rfl, Marks.nil _ _ _ _⟩
      refine Code.wpIn_mono (fun ex a' w' q => ?_) (code_ok (a0 := a0) (rr := none) (n := n) hm hEq hp hs rfl code (by simpa only [a0, hsz] using h1) hev hA)
      obtain ⟨rfl, m', hA'⟩ := q
      have fin : LeavesInM (FW none) n P fn a'.tmps (PostS (CRP P eqs) m σ w t x.2.2) a'.defers .returning w' := by
        obtain ⟨ms, k1, k2, k3⟩ := hA'.df
        rw [k1]
        refine marks_leave k2 k3 hA'.sr hA'.xt fun w2 g1 g2 g3 => ?_
        obtain ⟨v, r1, r2⟩ := results_ok (P := P) g1 (e := x.2.1) (tmps := a'.tmps) (fun n => g3 _ _ (hA'.re n)) h2 hvs ht
        exact ⟨v, r1, v, m', rfl, g1, r2, g2⟩
      rcases hx with hx | hx <;> rw [hx] <;> exact fin
    cases rr with
    | none => exact main
    | some l => exact main
  · cases hc

theorem fold_size (l : List (Tmp × Value)) : ∀ (tmps : Array Value), (l.foldl (fun tmps (x : Tmp × Value) => tmps.setIfInBounds x.1 x.2) tmps).size = tmps.size := by
  induction l with
  | nil => intro _; rfl
  | cons x l ih => intro tmps; simp only [List.foldl_cons]; rw [ih]; simp

theorem putAll_ok : ∀ {ps : List Nat} {args : List TV} {vs : List Value} {e : Env} {tmps : Array Value}, F2 (RT m σ w) args vs → RE m σ w e tmps → (∀ p, p ∈ ps → p < tmps.size) →
    RE m σ w (putAll e ps args) ((ps.zip vs).foldl (fun tmps (x : Tmp × Value) => tmps.setIfInBounds x.1 x.2) tmps)
  | [], _, _, _, _, h, hE, _ => by cases h <;> exact hE
  | p :: ps, _, _, _, _, .nil, hE, _ => hE
  | p :: ps, _, _, e, tmps, .cons x t, hE, hp => by
    simp only [putAll, List.zip_cons_cons, List.foldl_cons]
    exact putAll_ok t (hE.put (hp p (by simp)) x) fun q hq => by simpa using hp q (by simp [hq])

/-- ONE ROUND. -/
theorem round_ok (hm : P.follows .mixedOrders = true) (hEq : EqOk P eqs) (hp : SndP P cp) (hs : SndS P (CRP P eqs) cs) {fuel l : Nat} {args : List TV} {t : TV} (hev : evY cp cs sp fuel l args σ = some (t, σ')) :
    SndS1 P (CRP P eqs) args σ t σ' (.y l) := by
  intro m w vals hR hargs lo hlo
  simp only [evY] at hev
  split at hev
  · rename_i r hr
    split at hev
    · rename_i hlen
      obtain ⟨lo', g1, g2, g3, g4, g5, g6, g7, g8, g9⟩ := hR.lrs l r hr
      rw [hlo] at g1; simp only [Option.some.injEq, Obj.loop.injEq] at g1; subst g1
      obtain ⟨x, h1, hev⟩ := bindO hev
      split at hev
      · rename_i hxn
        split at hev
        · rename_i r1 hr1
          split at hev
          · rename_i hst
            obtain ⟨y, h2, hev⟩ := bindO hev
            split at hev
            · rename_i r2 hr2
              have hl := hargs.length
              refine ⟨by rw [g3]; simp; omega, fun rr n => ?_⟩
              refine roundIn_of_wpIn trivial ?_
              have hll : l < σ.ls.length := (List.getElem?_eq_some_iff.1 hr).1
              obtain ⟨tm, htm⟩ : ∃ tm, tm = (lo.params.zip vals.toArray).foldl (fun tmps (x : Tmp × Value) => tmps.setIfInBounds x.1 x.2) lo.tmps := ⟨_, rfl⟩
              have htl : tm = (r.params.zip vals).foldl (fun tmps (x : Tmp × Value) => tmps.setIfInBounds x.1 x.2) lo.tmps := by
                rw [htm, g3, ← Array.foldl_toList]; simp
              have hsz : tm.size = lo.tmps.size := by rw [htl]; exact fold_size _ _
              let a0 : Act := { tmps := tm, defers := [] }
              have hA : At (CRP P eqs) m σ w a0 m (putAll r.env r.params args) σ a0 w := ⟨hR, by show RE m σ w _ tm; rw [htl]; exact putAll_ok hargs g2 g4, Xt.refl _ _ _, rfl, Marks.nil _ _ _ _⟩
              rw [← htm]
              refine Code.wpIn_mono (fun ex a' w' q => ?_) (code_ok (a0 := a0) (rr := some (m.la l)) (n := n) hm hEq hp hs rfl lo.assign (by simpa only [a0, hsz, CRP] using g5) h1 hA)
              obtain ⟨rfl, m1, hA1⟩ := q
              rw [hxn]
              show ∃ w₂, _
              have hla1 : m1.la l = m.la l := hA1.xt.la l hll
              obtain ⟨lo1, j1, j2, j3, j4, j5, j6, j7, j8, j9⟩ := hA1.sr.lrs l r1 hr1
              rw [hla1] at j1
              have hb := run_beginRound (P := P) j1 (by rw [j7, hst]; rfl)
              refine ⟨_, hb, ?_⟩
              have hll1 : l < x.2.2.ls.length := (List.getElem?_eq_some_iff.1 hr1).1
              have s1 : SR (CRP P eqs) m1 (setL x.2.2 l { r1 with st := .busy }) (w'.putObj (m1.la l) (.loop { lo1 with state := .busy })) :=
                setL_sr (lo0 := lo1) hA1.sr hr1 (by rw [hla1]; exact j1) rfl rfl rfl rfl rfl rfl rfl rfl rfl j8 j9
              have xt1 := setL_xt hA1.sr hll1 { r1 with st := .busy } (.loop { lo1 with state := .busy })
              rw [hla1] at s1 xt1
              have hA2 : At (CRP P eqs) m σ w a0 m1 x.2.1 (setL x.2.2 l { r1 with st := .busy }) a' (w'.putObj (m.la l) (.loop { lo1 with state := .busy })) :=
                ⟨s1, xt1.re hA1.sr hA1.re, hA1.xt.trans xt1, hA1.sz, hA1.df.xt xt1⟩
              refine Code.wpIn_mono (fun ex a2 w2 q => ?_) (code_ok (a0 := a0) (rr := some (m.la l)) (n := n) hm hEq hp hs rfl lo.body (by simpa only [a0, hsz, CRP] using g6) h2 hA2)
              obtain ⟨rfl, m2, hA3⟩ := q
              have hla2 : m2.la l = m.la l := hA3.xt.la l hll
              obtain ⟨lo2, q1, q2, q3, q4, q5, q6, q7, q8, q9⟩ := hA3.sr.lrs l r2 hr2
              rw [hla2] at q1
              have hll2 : l < y.2.2.ls.length := (List.getElem?_eq_some_iff.1 hr2).1
              have fin : ∀ (pd : Option Ex) (st : LSt), pd ≠ some .norm → (stR st = if (pd.map exC).isNone then .ready else .done) → t = .a (.p (.b (pd.map exC).isNone)) → σ' = setL y.2.2 l { r2 with st := st, pend := pd } →
                  ∃ v w4, (Instr.endRound (m.la l) (pd.map exC)).run P w2 = .ok v w4 ∧ PostS (CRP P eqs) m σ w t σ' (.returned v) w4 := by
                intro pd st k1 k2 k3 k4
                subst k3 k4
                have he := run_endRound (P := P) (pd.map exC) q1
                refine ⟨_, _, he, _, m2, rfl, ?_, RP.b _, ?_⟩
                · have := setL_sr (lo0 := lo2) (r := { r2 with st := st, pend := pd }) (lo := { lo2 with state := if (pd.map exC).isNone then .ready else .done, pending := pd.map exC }) hA3.sr hr2 (by rw [hla2]; exact q1) rfl rfl rfl rfl rfl rfl rfl rfl k2.symm rfl k1
                  rw [hla2] at this
                  exact this
                · have := setL_xt hA3.sr hll2 { r2 with st := st, pend := pd } (.loop { lo2 with state := if (pd.map exC).isNone then .ready else .done, pending := pd.map exC })
                  rw [hla2] at this
                  exact hA3.xt.trans this
              obtain ⟨ye, y2⟩ := y
              cases ye with
              | norm =>
                simp only [if_true, Option.some.injEq, Prod.mk.injEq] at hev
                exact fin none .ready (by simp) (by simp [stR]) hev.1.symm hev.2.symm
              | exit id =>
                rw [if_neg (by simp)] at hev
                simp only [Option.some.injEq, Prod.mk.injEq] at hev
                exact fin (some (.exit id)) .done (by simp) (by simp [stR]) hev.1.symm hev.2.symm
              | ret =>
                rw [if_neg (by simp)] at hev
                simp only [Option.some.injEq, Prod.mk.injEq] at hev
                exact fin (some .ret) .done (by simp) (by simp [stR]) hev.1.symm hev.2.symm
            · cases hev
          · cases hev
        · cases hev
      · cases hev
    · cases hev
  · cases hev

theorem ofPTs_ok : ∀ {ps : List PT} {vs : List Value}, F2 (RPT w m.D) ps vs → F2 (RT m σ w) (ps.map ofPT) vs
  | _, _, .nil => .nil
  | _, _, .cons x t => .cons (ofPT_ok x) (ofPTs_ok t)

/-- what a seat must hold to -/
structure SeatOk (P : Program) (eqs : List (TypeId × List Nat)) (S : Seat) : Prop where
  mixed : P.follows .mixedOrders = true
  eql : EqOk P eqs
  fb : ∀ f fc, S.fb f = some fc → ∃ fn, P.funcs[f]? = some fn ∧ ccF P eqs fn = some (stripF fc)
  orc : ∀ f ps r, S.orc f ps = some r → Ent P f ∧ SndP1 P f ps r

/-- **THE EVALUATOR IS SOUND.** -/
theorem sound {S : Seat} (hS : SeatOk P eqs S) : ∀ k, SndS P (CRP P eqs) (evS S k) ∧ SndP P (evP S k)
  | 0 => ⟨fun c args σ r σ' h => by simp [evS] at h, fun f ps r h => by simp [evP] at h⟩
  | k + 1 => by
    obtain ⟨ih1, ih2⟩ := sound hS k
    refine ⟨fun c args σ r σ' h => ?_, fun f ps r h => ?_⟩
    · cases c with
      | f g =>
        rw [evS] at h
        split at h
        · rename_i fc hfc
          split at h
          · rename_i hl
            obtain ⟨x, h1, h⟩ := bindO h
            split at h
            · rename_i hx
              obtain ⟨vs, h2, h⟩ := bindO h
              obtain ⟨v, h3, h⟩ := bindO h
              simp only [Option.some.injEq, Prod.mk.injEq] at h
              obtain ⟨rfl, rfl⟩ := h
              obtain ⟨fn, hf, hcc⟩ := hS.fb g fc hfc
              exact fn_ok hS.mixed hS.eql ih2 ih1 hf hcc hl h1 hx h2 h3
            · cases h
          · cases h
        · cases h
      | y l =>
        rw [evS] at h
        exact round_ok hS.mixed hS.eql ih2 ih1 h
    · rw [evP] at h
      split at h
      · rename_i r' hr
        simp only [Option.some.injEq] at h; subst h
        exact hS.orc f ps _ hr
      · obtain ⟨x, h1, h⟩ := bindO h
        obtain ⟨hen, hcall⟩ := ih1 _ _ _ _ _ h1
        refine ⟨hen, fun w D vs hD hps rr n => ?_⟩
        let m : Mt := { mu := fun _ => none, la := fun _ => 0, D := D }
        have hno : ∀ b, ¬ InS m .empty b := by
          rintro b (⟨s, bl, c, hs, _⟩ | ⟨l, hl, _⟩)
          · simp [St.empty] at hs
          · simp [St.empty] at hl
        have hR : SR (CRP P eqs) m .empty w :=
          { blk := fun s b hs => by simp [St.empty] at hs, gen := fun s b hs => by simp [St.empty] at hs, inj := fun s s' b b' B c c' hs => by simp [St.empty] at hs
            dj := fun b hb => absurd hb (hno b), dlt := hD, lrs := fun l r hl => by simp [St.empty] at hl, linj := fun l l' hl => by simp [St.empty] at hl }
        have hargs : F2 (RT m .empty w) (ps.map ofPT) vs := ofPTs_ok (m := m) hps
        refine (hcall m w vs hR hargs rr n).mono ?_
        rintro e w' ⟨v, m', rfl, j1, j2, j3⟩
        refine ⟨v, rfl, ?_, ?_⟩
        · refine RPT.mono (fun b hb => ⟨?_, rfl⟩) (frT_ok j1 j2 h)
          rcases hb with hb | hb
          · rcases j3.new b hb with h5 | h5 | h5
            · exact .inl h5
            · exact .inr ⟨h5, j1.dlt b hb⟩
            · exact absurd h5 (hno b)
          · rcases j3.img b hb with h5 | h5
            · exact absurd h5 (hno b)
            · exact .inr ⟨h5, j1.inS_lt hb⟩
        · exact { size := j3.size, block := fun b hb => j3.kept b hb (hno b), os := j3.os, tape := j3.tape, output := j3.output }

/-- **WHAT IT TELLS OF A PURE CALL.** -/
theorem eP_sound {S : Seat} (hS : SeatOk P eqs S) {f : FuncId} {ps : List PT} {r : PT} (h : eP S f ps = some r) : Ent P f ∧ SndP1 P f ps r := by
  obtain ⟨k, hk⟩ := (eP_some S).1 h
  exact (sound hS k).2 f ps r hk

theorem eP_calls {S : Seat} (hS : SeatOk P eqs S) {f : FuncId} {ps : List PT} {r : PT} (h : eP S f ps = some r) {w : World} {D : Nat → Prop} {vs : List Value} (hD : ∀ b, D b → b < w.heap.size) (hps : F2 (RPT w D) ps vs) :
    Calls P f vs.toArray w fun e w' => ∃ v, e = .returned v ∧ RPT w' (fun b => D b ∨ (w.heap.size ≤ b ∧ b < w'.heap.size)) r v ∧ Below w.heap.size w w' :=
  callsIn_wide.1 ((eP_sound hS h).2 w D vs hD hps none 0)
end

end Go.Fx
