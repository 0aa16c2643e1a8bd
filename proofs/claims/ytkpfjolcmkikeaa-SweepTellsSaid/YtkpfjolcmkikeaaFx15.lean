import Derived.Test.YtkpfjolcmkikeaaFx14
set_option linter.unusedSimpArgs false
set_option linter.unusedVariables false
/-
  What an instruction depends on: its operands; the blocks that they name.
-/
namespace Go.Fx

section
variable {e e' : Env} {σ σ' : St} {cp : FuncId → List PT → Option PT} {cs : Cal → List TV → St → Option (TV × St)} {sp : FuncId → Bool}

/-! ### of the temporaries -/
def AgX (e e' : Env) (xs : List X) : Prop := ∀ x, x ∈ xs → ev e' x = ev e x

theorem fillA_env : ∀ {ps : List (Nat × Nat × X)} {z : List AV}, AgX e e' (ps.map (·.2.2)) → fillA e' z ps = fillA e z ps
  | [], _, _ => rfl
  | (off, size, x) :: r, z, h => by
    simp only [fillA, h x (by simp)]
    refine congrArg (Option.bind _) (funext fun vs => ?_)
    split
    · exact fillA_env fun y hy => h y (List.mem_cons_of_mem _ hy)
    · rfl
theorem capsOf_env : ∀ {xs : List X}, AgX e e' xs → capsOf e' xs = capsOf e xs
  | [], _ => rfl
  | x :: r, h => by simp only [capsOf, h x (by simp), capsOf_env fun y hy => h y (List.mem_cons_of_mem _ hy)]
theorem map_env {xs : List X} (h : AgX e e' xs) : xs.map (ev e') = xs.map (ev e) := List.map_congr_left h
theorem optInt_env {x : Option X} {d : Int} (h : AgX e e' x.toList) : optInt e' x d = optInt e x d := by
  cases x with
  | none => rfl
  | some x => simp only [optInt, h x (by simp)]
theorem bslRows_env : ∀ {ps : List (Nat × X)} {σ : St} {k : Nat} {rows : List (List PV)}, AgX e e' (ps.map (·.2)) → evO.bslRows e' σ k rows ps = evO.bslRows e σ k rows ps
  | [], _, _, _, _ => rfl
  | (i, x) :: r, σ, k, rows, h => by
    simp only [evO.bslRows, h x (by simp)]
    refine congrArg (Option.bind _) (funext fun vs => congrArg (Option.bind _) (funext fun ws => ?_))
    split
    · exact bslRows_env fun y hy => h y (List.mem_cons_of_mem _ hy)
    · rfl

theorem evR_env {o : O} (h : AgX e e' o.xs) : evR cp sp e' σ o = evR cp sp e σ o := by
  cases o with
  | build z ps => simp only [evR, fillA_env h]
  | fn f caps => have h1 := capsOf_env (xs := caps) h; simp only [evR, h1]
  | call f args =>
    have h1 : ev e' f = ev e f := h f (by simp [O.xs])
    have h2 : args.map (ev e') = args.map (ev e) := map_env fun y hy => h y (by simp [O.xs, hy])
    simp only [evR, h1, h2]
  | slc k el x lo hi most =>
    have h1 : ev e' x = ev e x := h x (by simp [O.xs])
    have h2 : ∀ d, optInt e' lo d = optInt e lo d := fun d => optInt_env fun y hy => h y (by simp only [O.xs, List.mem_cons, List.mem_append]; exact .inr (.inl (.inl hy)))
    have h3 : ∀ d, optInt e' hi d = optInt e hi d := fun d => optInt_env fun y hy => h y (by simp only [O.xs, List.mem_cons, List.mem_append]; exact .inr (.inl (.inr hy)))
    cases most <;> simp only [evR, h1, h2, h3]
  | sub x lo hi =>
    have h1 : ev e' x = ev e x := h x (by simp [O.xs])
    have h2 : ∀ d, optInt e' lo d = optInt e lo d := fun d => optInt_env fun y hy => h y (by simp only [O.xs, List.mem_cons, List.mem_append]; exact .inr (.inl hy))
    have h3 : ∀ d, optInt e' hi d = optInt e hi d := fun d => optInt_env fun y hy => h y (by simp only [O.xs, List.mem_cons, List.mem_append]; exact .inr (.inr hy))
    simp only [evR, h1, h2, h3]
  | pick c a b =>
    have h1 : ev e' c = ev e c := h c (by simp [O.xs])
    have h2 : ev e' a = ev e a := h a (by simp [O.xs])
    have h3 : ev e' b = ev e b := h b (by simp [O.xs])
    simp only [evR, h1, h2, h3]
  | new z => rfl
  | bsl k el z len ps => rfl
  | mv x => have h1 : ev e' x = ev e x := h x (by simp [O.xs]); simp only [evR, h1]
  | box n x => rfl
  | ld n g x => have h1 : ev e' x = ev e x := h x (by simp [O.xs]); simp only [evR, h1]
  | st n x y => rfl
  | nck x => have h1 : ev e' x = ev e x := h x (by simp [O.xs]); simp only [evR, h1]
  | bin op x y => have h1 : ev e' x = ev e x := h x (by simp [O.xs]); have h2 : ev e' y = ev e y := h y (by simp [O.xs]); simp only [evR, h1, h2]
  | eqb g x y => have h1 : ev e' x = ev e x := h x (by simp [O.xs]); have h2 : ev e' y = ev e y := h y (by simp [O.xs]); simp only [evR, h1, h2]
  | eqg g s x y => have h1 : ev e' x = ev e x := h x (by simp [O.xs]); have h2 : ev e' y = ev e y := h y (by simp [O.xs]); simp only [evR, h1, h2]
  | nq g x => have h1 : ev e' x = ev e x := h x (by simp [O.xs]); simp only [evR, h1]
  | not x => have h1 : ev e' x = ev e x := h x (by simp [O.xs]); simp only [evR, h1]
  | neg x => have h1 : ev e' x = ev e x := h x (by simp [O.xs]); simp only [evR, h1]
  | cvi k x => have h1 : ev e' x = ev e x := h x (by simp [O.xs]); simp only [evR, h1]
  | cvs x => have h1 : ev e' x = ev e x := h x (by simp [O.xs]); simp only [evR, h1]
  | msl k el b z l c => rfl
  | mslF k el b z l c => rfl
  | fad o x => have h1 : ev e' x = ev e x := h x (by simp [O.xs]); simp only [evR, h1]
  | fld o n g x => have h1 : ev e' x = ev e x := h x (by simp [O.xs]); simp only [evR, h1]
  | ias k x y => have h1 : ev e' x = ev e x := h x (by simp [O.xs]); have h2 : ev e' y = ev e y := h y (by simp [O.xs]); simp only [evR, h1, h2]
  | iaa n k x y => have h1 : ev e' x = ev e x := h x (by simp [O.xs]); have h2 : ev e' y = ev e y := h y (by simp [O.xs]); simp only [evR, h1, h2]
  | ixs x y => have h1 : ev e' x = ev e x := h x (by simp [O.xs]); have h2 : ev e' y = ev e y := h y (by simp [O.xs]); simp only [evR, h1, h2]
  | ixa n k g x y => have h1 : ev e' x = ev e x := h x (by simp [O.xs]); have h2 : ev e' y = ev e y := h y (by simp [O.xs]); simp only [evR, h1, h2]
  | ext x i => have h1 : ev e' x = ev e x := h x (by simp [O.xs]); simp only [evR, h1]
  | len s x => have h1 : ev e' x = ev e x := h x (by simp [O.xs]); simp only [evR, h1]
  | app k el b x y => rfl
  | mx x y => have h1 : ev e' x = ev e x := h x (by simp [O.xs]); have h2 : ev e' y = ev e y := h y (by simp [O.xs]); simp only [evR, h1, h2]
  | mn x y => have h1 : ev e' x = ev e x := h x (by simp [O.xs]); have h2 : ev e' y = ev e y := h y (by simp [O.xs]); simp only [evR, h1, h2]

theorem evO_env {o : O} {d : Option Nat} (h : AgX e e' o.xs) : evO cp cs sp d e' σ o = evO cp cs sp d e σ o := by
  have hr := evR_env (cp := cp) (sp := sp) (σ := σ) h
  cases o with
  | new z => rfl
  | box n x => have h1 : ev e' x = ev e x := h x (by simp [O.xs]); simp only [evO, h1]
  | bsl k el z len ps => simp only [evO, bslRows_env h]
  | mslF k el b z l c => have h1 : ev e' l = ev e l := h l (by simp [O.xs]); have h2 : ev e' c = ev e c := h c (by simp [O.xs]); simp only [evO, h1, h2]
  | msl k el b z l c => have h1 : ev e' l = ev e l := h l (by simp [O.xs]); have h2 : ev e' c = ev e c := h c (by simp [O.xs]); simp only [evO, h1, h2]
  | st n x y => have h1 : ev e' x = ev e x := h x (by simp [O.xs]); have h2 : ev e' y = ev e y := h y (by simp [O.xs]); simp only [evO, h1, h2]
  | app k el b x y => have h1 : ev e' x = ev e x := h x (by simp [O.xs]); have h2 : ev e' y = ev e y := h y (by simp [O.xs]); simp only [evO, h1, h2]
  | slc k el x lo hi most =>
    cases most with
    | none => simp only [evO, hr]
    | some most =>
      have h1 : ev e' x = ev e x := h x (by simp [O.xs])
      have h2 : ∀ d, optInt e' lo d = optInt e lo d := fun d => optInt_env fun y hy => h y (by simp only [O.xs, List.mem_cons, List.mem_append]; exact .inr (.inl (.inl hy)))
      have h4 : ev e' most = ev e most := h most (by simp [O.xs])
      have h3 : hi.map (ev e') = hi.map (ev e) := by
        cases hi with
        | none => rfl
        | some y => simp only [Option.map_some, h y (by simp [O.xs])]
      simp only [evO, h1, h2, h3, h4]
  | call f args =>
    have h1 : ev e' f = ev e f := h f (by simp [O.xs])
    have h2 : args.map (ev e') = args.map (ev e) := map_env fun y hy => h y (by simp [O.xs, hy])
    simp only [evO, h1, h2]
  | _ => simp only [evO, hr]

theorem adds_env {o : O} (h : AgX e e' o.xs) : o.adds e' = o.adds e := by
  cases o with
  | bsl k el z len ps =>
    simp only [O.adds]
    have : ∀ {ps : List (Nat × X)}, AgX e e' (ps.map (·.2)) → (ps.all fun x => !ownT (ev e' x.2)) = ps.all fun x => !ownT (ev e x.2) := by
      intro ps
      induction ps with
      | nil => intro _; rfl
      | cons p ps ih => intro h; simp only [List.all_cons, h p.2 (by simp), ih fun y hy => h y (List.mem_cons_of_mem _ hy)]
    exact this h
  | _ => rfl

/-! ### of the blocks -/
def Up (σ σ' : St) (ks : List Key) : Prop := ∀ s, s ∈ ks → ∀ b, σ.bs s = some b → σ'.bs s = some b

theorem frA_up {x : AV} (h : Up σ σ' (keysA x)) {p : PV} (hp : frA σ x = some p) : frA σ' x = some p := by
  cases x with
  | own s off len =>
    simp only [frA] at hp ⊢
    cases hb : σ.bs s with
    | none => simp [hb] at hp
    | some b => rw [h s (by simp [keysA]) b hb]; rw [hb] at hp; exact hp
  | _ => exact hp
theorem frL_up : ∀ {xs : List AV} {ps : List PV}, Up σ σ' (xs.flatMap keysA) → frL σ xs = some ps → frL σ' xs = some ps
  | [], _, _, hp => hp
  | x :: r, ps, h, hp => by
    simp only [frL] at hp
    obtain ⟨v, h1, hp⟩ := bindO hp
    obtain ⟨vs, h2, hp⟩ := bindO hp
    simp only [Option.some.injEq] at hp; subst hp
    simp only [frL, frA_up (fun s hs => h s (by simp [hs])) h1, frL_up (fun s hs => h s (by simp only [List.flatMap_cons, List.mem_append]; exact .inr hs)) h2, Option.bind_some]
theorem frV_up : ∀ {xs : List (Bool × List AV)} {ps : List (Bool × List PV)}, Up σ σ' (xs.flatMap fun x => x.2.flatMap keysA) → frV σ xs = some ps → frV σ' xs = some ps
  | [], _, _, hp => hp
  | x :: r, ps, h, hp => by
    simp only [frV] at hp
    obtain ⟨v, h1, hp⟩ := bindO hp
    obtain ⟨vs, h2, hp⟩ := bindO hp
    simp only [Option.some.injEq] at hp; subst hp
    simp only [frV, frL_up (fun s hs => h s (by simp only [List.flatMap_cons, List.mem_append]; exact .inl hs)) h1, frV_up (fun s hs => h s (by simp only [List.flatMap_cons, List.mem_append]; exact .inr hs)) h2, Option.bind_some]
theorem frT_up {t : TV} (h : Up σ σ' (keysT t)) {p : PT} (hp : frT σ t = some p) : frT σ' t = some p := by
  cases t with
  | u => exact hp
  | a x => simp only [frT] at hp ⊢; obtain ⟨v, h1, hp⟩ := bindO hp; rw [frA_up h h1]; exact hp
  | g cs => simp only [frT] at hp ⊢; obtain ⟨v, h1, hp⟩ := bindO hp; rw [frL_up h h1]; exact hp
  | t vs => simp only [frT] at hp ⊢; obtain ⟨v, h1, hp⟩ := bindO hp; rw [frV_up h h1]; exact hp
theorem frTs_up : ∀ {ts : List TV} {ps : List PT}, Up σ σ' (ts.flatMap keysT) → frTs σ ts = some ps → frTs σ' ts = some ps
  | [], _, _, hp => hp
  | x :: r, ps, h, hp => by
    simp only [frTs] at hp
    obtain ⟨v, h1, hp⟩ := bindO hp
    obtain ⟨vs, h2, hp⟩ := bindO hp
    simp only [Option.some.injEq] at hp; subst hp
    simp only [frTs, frT_up (fun s hs => h s (by simp only [List.flatMap_cons, List.mem_append]; exact .inl hs)) h1, frTs_up (fun s hs => h s (by simp only [List.flatMap_cons, List.mem_append]; exact .inr hs)) h2, Option.bind_some]
theorem ldCells_up {n : Nat} {x : AV} (h : Up σ σ' (keysA x)) {cs : List AV} (hp : ldCells σ n x = some cs) : ldCells σ' n x = some cs := by
  cases x with
  | ptr s i j =>
    simp only [ldCells] at hp ⊢
    cases hb : σ.bs s with
    | none => simp [hb] at hp
    | some b => rw [h s (by simp [keysA]) b hb]; rw [hb] at hp; exact hp
  | _ => exact hp
theorem rowK_up {s : Key} {k : Nat} (h : Up σ σ' [s]) (hp : rowK σ s = some k) : rowK σ' s = some k := by
  simp only [rowK] at hp ⊢
  cases hb : σ.bs s with
  | none => simp [hb] at hp
  | some b => rw [h s (by simp) b hb]; rw [hb] at hp; exact hp
theorem rowsA_up {x : AV} (h : Up σ σ' (keysA x)) {rows : List (List PV)} (hp : rowsA σ x = some rows) : rowsA σ' x = some rows := by
  simp only [rowsA] at hp ⊢
  cases hb : frA σ x with
  | none => simp [hb] at hp
  | some p => rw [frA_up h hb]; rw [hb] at hp; exact hp

theorem evR_up {o : O} (h : ∀ x, x ∈ o.xs → Up σ σ' (keysT (ev e x))) {t : TV} (hp : evR cp sp e σ o = some t) : evR cp sp e σ' o = some t := by
  cases o with
  | ld n g x =>
    have h1 := h x (by simp [O.xs])
    simp only [evR] at hp ⊢
    split at hp
    · rename_i y hy
      rw [hy] at h1
      obtain ⟨c, h2, hp⟩ := bindO hp
      rw [ldCells_up h1 h2]; exact hp
    · cases hp
  | cvs x =>
    have h1 := h x (by simp [O.xs])
    simp only [evR] at hp ⊢
    split at hp
    · rename_i y hy
      rw [hy] at h1
      obtain ⟨c, h2, hp⟩ := bindO hp
      rw [rowsA_up h1 h2]; exact hp
    · cases hp
  | slc k el x lo hi most =>
    cases most with
    | some most => simp [evR] at hp
    | none =>
      have h1 := h x (by simp [O.xs])
      simp only [evR] at hp ⊢
      split at hp
      · rename_i s off len hy
        rw [hy] at h1
        obtain ⟨l, h2, hp⟩ := bindO hp
        obtain ⟨u, h3, hp⟩ := bindO hp
        split at hp
        · rename_i hc
          simp only [h2, h3, Option.bind_some]
          rw [if_pos ⟨hc.1, hc.2.1, hc.2.2.1, rowK_up h1 hc.2.2.2⟩]; exact hp
        · cases hp
      · exact hp
      · exact hp
      · cases hp
  | ias k x ix =>
    have h1 := h x (by simp [O.xs])
    simp only [evR] at hp ⊢
    split at hp
    · rename_i s off len i hy hi
      rw [hy] at h1
      split at hp
      · rename_i hc
        rw [if_pos ⟨hc.1, hc.2.1, rowK_up h1 hc.2.2⟩]; exact hp
      · cases hp
    · exact hp
    · cases hp
  | call f args =>
    simp only [evR] at hp ⊢
    split at hp
    · split at hp
      · cases hp
      · rename_i hsp
        rw [if_neg hsp]
        obtain ⟨ps, h2, hp⟩ := bindO hp
        rw [frTs_up (fun s hs => by
          obtain ⟨t, ht, hs⟩ := List.mem_flatMap.1 hs
          obtain ⟨x, hx, rfl⟩ := List.mem_map.1 ht
          exact h x (by simp [O.xs, hx]) s hs) h2]
        exact hp
    · cases hp
  | _ => exact hp

/-! ### what adds -/
theorem bslRows_none : ∀ {ps : List (Nat × X)} {σ : St} {k : Nat} {rows : List (List PV)} {r : List (List PV) × St}, (ps.all fun x => !ownT (ev e x.2)) = true → evO.bslRows e σ k rows ps = some r → r.2 = σ
  | [], _, _, _, _, _, h => by simp only [evO.bslRows, Option.some.injEq] at h; subst h; rfl
  | (i, x) :: ps, σ, k, rows, r, ha, h => by
    simp only [List.all_cons, Bool.and_eq_true, Bool.not_eq_true'] at ha
    simp only [evO.bslRows] at h
    obtain ⟨vs, h1, h⟩ := bindO h
    obtain ⟨ws, h2, h⟩ := bindO h
    split at h
    · have := bslRows_none ha.2 h
      rw [this]
      refine klL_none _ _ fun y hy => ownT_cells ha.1 y ?_
      cases hx : ev e x with
      | u => rw [hx] at h1; simp [cellsT] at h1
      | a z => rw [hx] at h1; simp only [cellsT, Option.some.injEq] at h1; subst h1; exact hy
      | g cs => rw [hx] at h1; simp only [cellsT, Option.some.injEq] at h1; subst h1; exact hy
      | t vs => rw [hx] at h1; simp [cellsT] at h1
    · cases h

theorem adds_add {o : O} (ha : o.adds e = true) {d : Option Nat} {r : TV × St} (h : evO cp cs sp d e σ o = some r) : ∃ d b, r.2 = σ.add d b ∨ r.2 = (σ.add d b).kill (d, σ.clk) := by
  cases o with
  | new z =>
    cases d with
    | none => simp [evO] at h
    | some d => simp only [evO, Option.some.injEq] at h; subst h; exact ⟨_, _, .inl rfl⟩
  | box n x =>
    simp only [evO] at h
    split at h
    · split at h
      · simp only [Option.some.injEq] at h; subst h; exact ⟨_, _, .inl rfl⟩
      · cases h
    · cases h
  | bsl k el z len ps =>
    cases d with
    | none => simp [evO] at h
    | some d =>
      simp only [evO] at h
      obtain ⟨z', h1, h⟩ := bindO h
      obtain ⟨x, h2, h⟩ := bindO h
      simp only [Option.some.injEq] at h; subst h
      have := bslRows_none ha h2
      simp only [this]
      exact ⟨_, _, .inl rfl⟩
  | msl k el b z l c =>
    simp only [evO] at h
    split at h
    · split at h
      · obtain ⟨z', h1, h⟩ := bindO h
        simp only [Option.some.injEq] at h; subst h; exact ⟨_, _, .inl rfl⟩
      · cases h
    · cases h
  | mslF k el b z l c =>
    simp only [evO] at h
    split at h
    · split at h
      · obtain ⟨z', h1, h⟩ := bindO h
        simp only [Option.some.injEq] at h; subst h; exact ⟨_, _, .inr rfl⟩
      · cases h
    · cases h
  | _ => simp [O.adds] at ha
end

/-! ### one instruction -/
/-- its value and its store -/
def evV (cp : FuncId → List PT → Option PT) (cs : Cal → List TV → St → Option (TV × St)) (sp : FuncId → Bool) (i : Ins) (e : Env) (σ : St) : Option (TV × St) :=
  let run : Option (TV × St) := match i.cl with
    | .rd => (evR cp sp e σ i.op).bind fun v => some (v, σ)
    | .any => evO cp cs sp i.dst e σ i.op
    | .ad => if i.op.adds e then evO cp cs sp i.dst e σ i.op else none
    | .wr ts => if wrOk e σ i.op ts then evO cp cs sp i.dst e σ i.op else none
  match i.gd with
  | none => run
  | some (t, w) => match e t with
    | .a (.p (.b x)) => if x = w then run else some (.u, σ)
    | .u => some (.u, σ)
    | _ => none

section
variable {e e' : Env} {σ σ' : St} {cp : FuncId → List PT → Option PT} {cs : Cal → List TV → St → Option (TV × St)} {sp : FuncId → Bool}
theorem evI_evV (i : Ins) : evI cp cs sp i e σ = (evV cp cs sp i e σ).bind fun x => some (e.putD i.dst x.1, x.2) := by
  obtain ⟨d, g, o, cl⟩ := i
  have run : (match cl with
    | .rd => (evR cp sp e σ o).bind fun v => some (e.putD d v, σ)
    | .any => (evO cp cs sp d e σ o).bind fun x => some (e.putD d x.1, x.2)
    | .ad => if o.adds e then (evO cp cs sp d e σ o).bind fun x => some (e.putD d x.1, x.2) else none
    | .wr ts => if wrOk e σ o ts then (evO cp cs sp d e σ o).bind fun x => some (e.putD d x.1, x.2) else none) = (match cl with
    | .rd => (evR cp sp e σ o).bind fun v => some (v, σ)
    | .any => evO cp cs sp d e σ o
    | .ad => if o.adds e then evO cp cs sp d e σ o else none
    | .wr ts => if wrOk e σ o ts then evO cp cs sp d e σ o else none).bind fun x => some (e.putD d x.1, x.2) := by
    cases cl with
    | wr ts => simp only []; split <;> rfl
    | rd => simp only [Option.bind_assoc, Option.bind_some]
    | any => rfl
    | ad => simp only []; split <;> rfl
  unfold evI evV
  cases g with
  | none => exact run
  | some g =>
    obtain ⟨t, w⟩ := g
    simp only []
    cases ht : e t with
    | u => rfl
    | g cs => rfl
    | t vs => rfl
    | a x =>
      cases x with
      | p v =>
        cases v with
        | b x =>
          simp only []
          split
          · exact run
          · rfl
        | _ => rfl
      | _ => rfl

theorem looks_agx {i : Ins} (h : ∀ t, t ∈ i.looks → e' t = e t) : AgX e e' i.op.xs := by
  intro x hx
  cases x with
  | t n => exact h n (by simp only [Ins.looks, List.mem_append, List.mem_flatMap]; exact .inr ⟨_, hx, by simp [xT]⟩)
  | c v => rfl
  | f f => rfl

/-- without its check -/
def Ins.loose (i : Ins) : Ins := match i.cl with | .wr _ => { i with cl := .any } | _ => i
theorem loose_dst (i : Ins) : i.loose.dst = i.dst := by unfold Ins.loose; split <;> rfl
theorem loose_op (i : Ins) : i.loose.op = i.op := by unfold Ins.loose; split <;> rfl
theorem loose_gd (i : Ins) : i.loose.gd = i.gd := by unfold Ins.loose; split <;> rfl
theorem loose_looks (i : Ins) : i.loose.looks = i.looks := by unfold Ins.looks; rw [loose_op, loose_gd]
theorem loose_wrs (i : Ins) : i.loose.cl.wrs = none := by
  obtain ⟨d, g, o, cl⟩ := i
  cases cl <;> rfl
theorem loose_rd {i : Ins} (h : i.cl.eff = false) : i.loose = i := by
  obtain ⟨d, g, o, cl⟩ := i
  cases cl <;> first | rfl | simp [Cls.eff] at h
theorem evV_loose {i : Ins} {r : TV × St} (h : evV cp cs sp i e σ = some r) : evV cp cs sp i.loose e σ = some r := by
  obtain ⟨d, g, o, cl⟩ := i
  cases cl with
  | wr ts =>
    have run : ∀ {r}, (if wrOk e σ o ts then evO cp cs sp d e σ o else none) = some r → evO cp cs sp d e σ o = some r := by
      intro r h; split at h
      · exact h
      · cases h
    simp only [evV, Ins.loose] at h ⊢
    cases g with
    | none => exact run h
    | some g =>
      obtain ⟨t, w⟩ := g
      simp only [] at h ⊢
      split at h
      · split at h
        · rename_i h1 h2; rw [if_pos h2]; exact run h
        · rename_i h1 h2; rw [if_neg h2]; exact h
      · exact h
      · cases h
  | _ => exact h

theorem evV_env {i : Ins} (hw : i.cl.wrs = none) (h : ∀ t, t ∈ i.looks → e' t = e t) : evV cp cs sp i e' σ = evV cp cs sp i e σ := by
  have hx := looks_agx h
  have hg : ∀ g, i.gd = some g → e' g.1 = e g.1 := fun g hg => h g.1 (by simp [Ins.looks, hg])
  obtain ⟨d, g, o, cl⟩ := i
  cases cl with
  | wr ts => simp [Cls.wrs] at hw
  | rd =>
    simp only [evV, evR_env (cp := cp) (sp := sp) hx]
    cases g with
    | none => rfl
    | some g => obtain ⟨t, w⟩ := g; simp only [hg _ rfl]
  | any =>
    simp only [evV, evO_env (cp := cp) (cs := cs) (sp := sp) hx]
    cases g with
    | none => rfl
    | some g => obtain ⟨t, w⟩ := g; simp only [hg _ rfl]
  | ad =>
    simp only [evV, evO_env (cp := cp) (cs := cs) (sp := sp) hx, adds_env hx]
    cases g with
    | none => rfl
    | some g => obtain ⟨t, w⟩ := g; simp only [hg _ rfl]

/-- what reads alone: over more blocks likewise -/
theorem evR_pure {o : O} (h : o.pure = true) (σ σ' : St) : evR cp sp e σ o = evR cp sp e σ' o := by
  cases o <;> first | rfl | simp [O.pure] at h
theorem evV_pure {i : Ins} (hc : i.cl.eff = false) (hp : i.op.pure = true) (σ σ' : St) {v : TV} {σ1 : St} (h : evV cp cs sp i e σ = some (v, σ1)) : σ1 = σ ∧ evV cp cs sp i e σ' = some (v, σ') := by
  obtain ⟨d, g, o, cl⟩ := i
  have hcl : cl = .rd := by cases cl <;> first | rfl | simp [Cls.eff] at hc
  subst hcl
  have run : ∀ {v σ1}, ((evR cp sp e σ o).bind fun v => some (v, σ)) = some (v, σ1) → σ1 = σ ∧ ((evR cp sp e σ' o).bind fun v => some (v, σ')) = some (v, σ') := by
    intro v σ1 h
    obtain ⟨t, h1, h⟩ := bindO h
    simp only [Option.some.injEq, Prod.mk.injEq] at h
    obtain ⟨rfl, rfl⟩ := h
    rw [← evR_pure (o := o) hp σ σ', h1]; exact ⟨rfl, rfl⟩
  simp only [evV] at h ⊢
  cases g with
  | none => exact run h
  | some g =>
    obtain ⟨t, w⟩ := g
    simp only [] at h ⊢
    split at h
    · split at h
      · rename_i h1 h2; rw [if_pos h2]; exact run h
      · rename_i h1 h2
        simp only [Option.some.injEq, Prod.mk.injEq] at h
        obtain ⟨rfl, rfl⟩ := h
        rw [if_neg h2]; exact ⟨rfl, rfl⟩
    · simp only [Option.some.injEq, Prod.mk.injEq] at h
      obtain ⟨rfl, rfl⟩ := h
      exact ⟨rfl, rfl⟩
    · cases h
/-- a store that is checked: what it turns -/
theorem evV_wr {i : Ins} {ts : List Nat} (hc : i.cl = .wr ts) {v : TV} {σ1 : St} (h : evV cp cs sp i e σ = some (v, σ1)) :
    σ1 = σ ∨ ∃ s cs0 cs1, σ.bs s = some (.var cs0) ∧ σ1 = σ.put s (.var cs1) ∧ ∀ t, t ∈ ts → s ∉ keysT (e t) := by
  obtain ⟨d, g, o, cl⟩ := i
  simp only at hc
  subst hc
  have run : (if wrOk e σ o ts then evO cp cs sp d e σ o else none) = some (v, σ1) → σ1 = σ ∨ ∃ s cs0 cs1, σ.bs s = some (.var cs0) ∧ σ1 = σ.put s (.var cs1) ∧ ∀ t, t ∈ ts → s ∉ keysT (e t) := by
    intro h
    split at h
    · rename_i hw
      unfold wrOk at hw
      split at hw
      · rename_i n a x
        split at hw
        · rename_i s i0 j0 ha
          split at hw
          · rename_i cs0 hs
            simp only [evO, ha] at h
            split at h
            · rename_i s' i' j' vs h1 h2
              simp only [TV.a.injEq, AV.ptr.injEq] at h1
              obtain ⟨rfl, rfl, rfl⟩ := h1
              split at h
              · simp only [hs] at h
                split at h
                · simp only [Option.some.injEq, Prod.mk.injEq] at h
                  refine .inr ⟨s, cs0, _, hs, h.2.symm, fun t ht hk => ?_⟩
                  have := List.all_eq_true.1 (List.all_eq_true.1 hw t ht) s hk
                  simp at this
                · cases h
              · cases h
            · cases h
          · cases hw
        · cases hw
      · cases hw
    · cases h
  simp only [evV] at h
  cases g with
  | none => exact run h
  | some g =>
    obtain ⟨t, w⟩ := g
    simp only [] at h
    split at h
    · split at h
      · exact run h
      · simp only [Option.some.injEq, Prod.mk.injEq] at h; exact .inl h.2.symm
    · simp only [Option.some.injEq, Prod.mk.injEq] at h; exact .inl h.2.symm
    · cases h

theorem evV_up {i : Ins} (hc : i.cl.eff = false) (hpl : i.op.xs.all X.plain = true) (h : ∀ t, t ∈ i.looks → Up σ σ' (keysT (e t))) {v : TV} {σ1 : St} (hp : evV cp cs sp i e σ = some (v, σ1)) : σ1 = σ ∧ evV cp cs sp i e σ' = some (v, σ') := by
  obtain ⟨d, g, o, cl⟩ := i
  cases cl with
  | any => simp [Cls.eff] at hc
  | ad => simp [Cls.eff] at hc
  | wr ts => simp [Cls.eff] at hc
  | rd =>
    have run : ∀ {v σ1}, ((evR cp sp e σ o).bind fun v => some (v, σ)) = some (v, σ1) → σ1 = σ ∧ ((evR cp sp e σ' o).bind fun v => some (v, σ')) = some (v, σ') := by
      intro v σ1 hp
      obtain ⟨t, h1, hp⟩ := bindO hp
      simp only [Option.some.injEq, Prod.mk.injEq] at hp
      obtain ⟨rfl, rfl⟩ := hp
      refine ⟨rfl, ?_⟩
      rw [evR_up (fun x hx => ?_) h1]; rfl
      cases x with
      | t n => exact h n (by simp only [Ins.looks, List.mem_append, List.mem_flatMap]; exact .inr ⟨_, hx, by simp [xT]⟩)
      | c w =>
        intro s hs
        have := List.all_eq_true.1 hpl _ hx
        simp only [X.plain, List.isEmpty_iff] at this
        simp only [ev] at hs
        rw [this] at hs; simp at hs
      | f f => intro s hs; simp [ev, keysT, keysA] at hs
    simp only [evV] at hp ⊢
    cases g with
    | none => exact run hp
    | some g =>
      obtain ⟨t, w⟩ := g
      simp only [] at hp ⊢
      split at hp
      · split at hp
        · rename_i h1 h2; rw [if_pos h2]; exact run hp
        · rename_i h1 h2
          simp only [Option.some.injEq, Prod.mk.injEq] at hp
          obtain ⟨rfl, rfl⟩ := hp
          rw [if_neg h2]; exact ⟨rfl, rfl⟩
      · simp only [Option.some.injEq, Prod.mk.injEq] at hp
        obtain ⟨rfl, rfl⟩ := hp
        exact ⟨rfl, rfl⟩
      · cases hp
end

end Go.Fx
