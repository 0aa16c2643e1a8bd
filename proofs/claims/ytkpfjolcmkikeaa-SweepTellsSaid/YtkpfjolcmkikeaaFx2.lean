import Derived.Test.YtkpfjolcmkikeaaFx1
/-
  More rounds tell the same; the evaluator without rounds, as a limit, and its rules.
-/
namespace Go.Fx

/-- What the one tells, the other tells. -/
def Le {α : Type} (a b : Option α) : Prop := ∀ x, a = some x → b = some x
theorem Le.refl {α : Type} (a : Option α) : Le a a := fun _ h => h
theorem Le.trans {α : Type} {a b c : Option α} (h : Le a b) (k : Le b c) : Le a c := fun x hx => k x (h x hx)
theorem Le.bind {α β : Type} {a b : Option α} {f g : α → Option β} (h : Le a b) (hf : ∀ x, Le (f x) (g x)) : Le (a.bind f) (b.bind g) := by
  intro x hx
  cases ha : a with
  | none => rw [ha] at hx; simp at hx
  | some y =>
    rw [ha] at hx; simp only [Option.bind_some] at hx
    rw [h y ha]; simp only [Option.bind_some]; exact hf y x hx

/-- A sequence that rises, and comes to whatever its limit tells. -/
structure Lim {α : Type} (a : Option α) (s : Nat → Option α) : Prop where
  up : ∀ k, Le (s k) (s (k + 1))
  ex : ∀ x, a = some x → ∃ k, s k = some x

theorem Lim.mono {α : Type} {a : Option α} {s : Nat → Option α} (h : Lim a s) {j k : Nat} (hjk : j ≤ k) : Le (s j) (s k) := by
  induction hjk with
  | refl => exact Le.refl _
  | step _ ih => exact ih.trans (h.up _)
theorem Lim.const {α : Type} (a : Option α) : Lim a (fun _ => a) := ⟨fun _ => Le.refl _, fun _ h => ⟨0, h⟩⟩
theorem Lim.bind {α β : Type} {a : Option α} {s : Nat → Option α} {f : α → Option β} {g : Nat → α → Option β} (h : Lim a s) (hf : ∀ x, Lim (f x) (fun k => g k x)) :
    Lim (a.bind f) (fun k => (s k).bind (g k)) := by
  refine ⟨fun k => Le.bind (h.up k) (fun x => (hf x).up k), fun y hy => ?_⟩
  cases ha : a with
  | none => rw [ha] at hy; simp at hy
  | some x =>
    rw [ha] at hy; simp only [Option.bind_some] at hy
    obtain ⟨k1, h1⟩ := h.ex x ha
    obtain ⟨k2, h2⟩ := (hf x).ex y hy
    refine ⟨max k1 k2, ?_⟩
    rw [h.mono (Nat.le_max_left k1 k2) x h1]; simp only [Option.bind_some]
    exact (hf x).mono (Nat.le_max_right k1 k2) y h2

section
variable {cp : FuncId → List PT → Option PT} {cs : Cal → List TV → St → Option (TV × St)} {cpk : Nat → FuncId → List PT → Option PT} {csk : Nat → Cal → List TV → St → Option (TV × St)} {sp : FuncId → Bool}

theorem evR_lim (hp : ∀ f ps, Lim (cp f ps) (fun k => cpk k f ps)) (e : Env) (σ : St) (o : O) : Lim (evR cp sp e σ o) (fun k => evR (cpk k) sp e σ o) := by
  cases o with
  | call f args =>
    simp only [evR]
    split
    · split
      · exact Lim.const _
      · exact Lim.bind (Lim.const _) fun ps => Lim.bind (hp _ _) fun r => Lim.const _
    · exact Lim.const _
  | slc k el x lo hi mx => cases mx <;> exact Lim.const _
  | _ => exact Lim.const _

theorem evO_lim (hp : ∀ f ps, Lim (cp f ps) (fun k => cpk k f ps)) (hs : ∀ f vs σ, Lim (cs f vs σ) (fun k => csk k f vs σ)) (d : Option Nat) (e : Env) (σ : St) (o : O) :
    Lim (evO cp cs sp d e σ o) (fun k => evO (cpk k) (csk k) sp d e σ o) := by
  cases o with
  | call f args =>
    simp only [evO]
    split
    · split
      · exact hs _ _ _
      · split
        · exact Lim.bind (hp _ _) fun r => Lim.const _
        · exact hs _ _ _
    · exact hs _ _ _
    · exact Lim.const _
  | slc k el x lo hi mx =>
    cases mx with
    | none => exact Lim.bind (evR_lim hp e σ _) fun v => Lim.const _
    | some mx => exact Lim.const _
  | new z => exact Lim.const _
  | box n x => exact Lim.const _
  | bsl k el z len ps => exact Lim.const _
  | msl k el bytes z len cap => exact Lim.const _
  | mslF k el bytes z len cap => exact Lim.const _
  | st n a x => exact Lim.const _
  | app k el bytes x y => exact Lim.const _
  | _ => simp only [evO]; exact Lim.bind (evR_lim hp e σ _) fun v => Lim.const _

theorem evI_lim (hp : ∀ f ps, Lim (cp f ps) (fun k => cpk k f ps)) (hs : ∀ f vs σ, Lim (cs f vs σ) (fun k => csk k f vs σ)) (i : Ins) (e : Env) (σ : St) :
    Lim (evI cp cs sp i e σ) (fun k => evI (cpk k) (csk k) sp i e σ) := by
  obtain ⟨d, gd, op, cl⟩ := i
  have run : Lim (match cl with
    | .rd => (evR cp sp e σ op).bind fun v => some (e.putD d v, σ)
    | .any => (evO cp cs sp d e σ op).bind fun x => some (e.putD d x.1, x.2)
    | .ad => if op.adds e then (evO cp cs sp d e σ op).bind fun x => some (e.putD d x.1, x.2) else none
    | .wr ts => if wrOk e σ op ts then (evO cp cs sp d e σ op).bind fun x => some (e.putD d x.1, x.2) else none) (fun k => match cl with
    | .rd => (evR (cpk k) sp e σ op).bind fun v => some (e.putD d v, σ)
    | .any => (evO (cpk k) (csk k) sp d e σ op).bind fun x => some (e.putD d x.1, x.2)
    | .ad => if op.adds e then (evO (cpk k) (csk k) sp d e σ op).bind fun x => some (e.putD d x.1, x.2) else none
    | .wr ts => if wrOk e σ op ts then (evO (cpk k) (csk k) sp d e σ op).bind fun x => some (e.putD d x.1, x.2) else none) := by
    cases cl with
    | wr ts =>
      simp only []
      split
      · exact Lim.bind (evO_lim hp hs d e σ op) fun v => Lim.const _
      · exact Lim.const _
    | rd => exact Lim.bind (evR_lim hp e σ op) fun v => Lim.const _
    | any => exact Lim.bind (evO_lim hp hs d e σ op) fun v => Lim.const _
    | ad =>
      simp only []
      split
      · exact Lim.bind (evO_lim hp hs d e σ op) fun v => Lim.const _
      · exact Lim.const _
  simp only [evI]
  cases gd with
  | none => exact run
  | some g =>
    obtain ⟨t, w⟩ := g
    simp only []
    split
    · split
      · exact run
      · exact Lim.const _
    · exact Lim.const _
    · exact Lim.const _

theorem evIs_lim (hp : ∀ f ps, Lim (cp f ps) (fun k => cpk k f ps)) (hs : ∀ f vs σ, Lim (cs f vs σ) (fun k => csk k f vs σ)) : ∀ (is : List Ins) (e : Env) (σ : St),
    Lim (evIs cp cs sp is e σ) (fun k => evIs (cpk k) (csk k) sp is e σ)
  | [], _, _ => Lim.const _
  | i :: r, e, σ => Lim.bind (evI_lim hp hs i e σ) fun x => evIs_lim hp hs r x.1 x.2

theorem iter_lim {f : Env → St → Option (Ex × Env × St)} {g : Nat → Env → St → Option (Ex × Env × St)} (h : ∀ e σ, Lim (f e σ) (fun k => g k e σ)) : ∀ (n : Nat) (e : Env) (σ : St),
    Lim (iter f n e σ) (fun k => iter (g k) n e σ)
  | 0, _, _ => Lim.const _
  | n + 1, e, σ => by
    refine Lim.bind (h e σ) fun x => ?_
    obtain ⟨ex, e', σ'⟩ := x
    cases ex with
    | norm => exact iter_lim h n e' σ'
    | exit id => exact Lim.const _
    | ret => exact Lim.const _

theorem evC_lim (hp : ∀ f ps, Lim (cp f ps) (fun k => cpk k f ps)) (hs : ∀ f vs σ, Lim (cs f vs σ) (fun k => csk k f vs σ)) (n : Nat) (rd : Bool) : ∀ (c : C) (e : Env) (σ : St),
    Lim (evC cp cs sp n rd c e σ) (fun k => evC (cpk k) (csk k) sp n rd c e σ)
  | .skip, _, _ => Lim.const _
  | .reg ops, e, σ => Lim.bind (evIs_lim hp hs ops e σ) fun x => Lim.const _
  | .seq a b, e, σ => by
    refine Lim.bind (evC_lim hp hs n rd a e σ) fun x => ?_
    obtain ⟨ex, e', σ'⟩ := x
    cases ex with
    | norm => exact evC_lim hp hs n rd b e' σ'
    | exit id => exact Lim.const _
    | ret => exact Lim.const _
  | .cond x a b, e, σ => by
    simp only [evC]
    split
    · split
      · exact evC_lim hp hs n rd a e σ
      · exact evC_lim hp hs n rd b e σ
    · exact Lim.const _
  | .block id c, e, σ => Lim.bind (evC_lim hp hs n rd c e σ) fun x => Lim.const _
  | .loop c, e, σ => iter_lim (fun e σ => evC_lim hp hs n rd c e σ) n e σ
  | .exit id, _, _ => Lim.const _
  | .ret, _, _ => Lim.const _
  | .rng f params assign body, e, σ => by
    simp only [evC]
    split
    · exact Lim.const _
    · split
      · exact Lim.bind (hs _ _ _) fun x => Lim.const _
      · exact Lim.const _
  | .fz ts c, e, σ => Lim.bind (Lim.const _) fun x => evC_lim hp hs n rd c e x

theorem iter_n {f : Env → St → Option (Ex × Env × St)} {g : Env → St → Option (Ex × Env × St)} (h : ∀ e σ, Le (f e σ) (g e σ)) : ∀ (n : Nat) (e : Env) (σ : St), Le (iter f n e σ) (iter g (n + 1) e σ)
  | 0, _, _ => fun _ hx => by simp [iter] at hx
  | n + 1, e, σ => by
    refine Le.bind (h e σ) fun x => ?_
    obtain ⟨ex, e', σ'⟩ := x
    cases ex with
    | norm => exact iter_n h n e' σ'
    | exit id => exact Le.refl _
    | ret => exact Le.refl _

theorem evC_n (n : Nat) (rd : Bool) : ∀ (c : C) (e : Env) (σ : St), Le (evC cp cs sp n rd c e σ) (evC cp cs sp (n + 1) rd c e σ)
  | .skip, _, _ => Le.refl _
  | .reg ops, e, σ => Le.refl _
  | .seq a b, e, σ => by
    refine Le.bind (evC_n n rd a e σ) fun x => ?_
    obtain ⟨ex, e', σ'⟩ := x
    cases ex with
    | norm => exact evC_n n rd b e' σ'
    | exit id => exact Le.refl _
    | ret => exact Le.refl _
  | .cond x a b, e, σ => by
    simp only [evC]
    split
    · split
      · exact evC_n n rd a e σ
      · exact evC_n n rd b e σ
    · exact Le.refl _
  | .block id c, e, σ => Le.bind (evC_n n rd c e σ) fun x => Le.refl _
  | .loop c, e, σ => iter_n (fun e σ => evC_n n rd c e σ) n e σ
  | .exit id, _, _ => Le.refl _
  | .ret, _, _ => Le.refl _
  | .rng f params assign body, e, σ => Le.refl _
  | .fz ts c, e, σ => Le.bind (Le.refl _) fun x => evC_n n rd c e x

/-- More of all. -/
theorem evC_le {cp' : FuncId → List PT → Option PT} {cs' : Cal → List TV → St → Option (TV × St)} (hp : ∀ f ps, Le (cp f ps) (cp' f ps)) (hs : ∀ f vs σ, Le (cs f vs σ) (cs' f vs σ)) (n : Nat) (rd : Bool) (c : C) (e : Env) (σ : St) :
    Le (evC cp cs sp n rd c e σ) (evC cp' cs' sp (n + 1) rd c e σ) := by
  have h := (evC_lim (cp := cp') (cs := cs') (cpk := fun k => if k = 0 then cp else cp') (csk := fun k => if k = 0 then cs else cs') (sp := sp)
    (fun f ps => ⟨fun k => by cases k with
      | zero => simpa using hp f ps
      | succ k => exact Le.refl _, fun x hx => ⟨1, by simpa using hx⟩⟩)
    (fun f vs σ => ⟨fun k => by cases k with
      | zero => simpa using hs f vs σ
      | succ k => exact Le.refl _, fun x hx => ⟨1, by simpa using hx⟩⟩) n rd c e σ).up 0
  simp only [if_true] at h
  exact Le.trans (by simpa using h) (evC_n n rd c e σ)

theorem evY_lim (hp : ∀ f ps, Lim (cp f ps) (fun k => cpk k f ps)) (hs : ∀ f vs σ, Lim (cs f vs σ) (fun k => csk k f vs σ)) (n l : Nat) (args : List TV) (σ : St) :
    Lim (evY cp cs sp n l args σ) (fun k => evY (cpk k) (csk k) sp n l args σ) := by
  simp only [evY]
  split
  · split
    · refine Lim.bind (evC_lim hp hs n true _ _ _) fun x => ?_
      split
      · split
        · split
          · exact Lim.bind (evC_lim hp hs n true _ _ _) fun y => Lim.const _
          · exact Lim.const _
        · exact Lim.const _
      · exact Lim.const _
    · exact Lim.const _
  · exact Lim.const _

theorem evY_le {cp' : FuncId → List PT → Option PT} {cs' : Cal → List TV → St → Option (TV × St)} (hp : ∀ f ps, Le (cp f ps) (cp' f ps)) (hs : ∀ f vs σ, Le (cs f vs σ) (cs' f vs σ)) (n l : Nat) (args : List TV) (σ : St) :
    Le (evY cp cs sp n l args σ) (evY cp' cs' sp (n + 1) l args σ) := by
  simp only [evY]
  split
  · split
    · refine Le.bind (evC_le hp hs n true _ _ _) fun x => ?_
      split
      · split
        · split
          · exact Le.bind (evC_le hp hs n true _ _ _) fun y => Le.refl _
          · exact Le.refl _
        · exact Le.refl _
      · exact Le.refl _
    · exact Le.refl _
  · exact Le.refl _
end

variable (S : Seat)

theorem ev_up : ∀ k, (∀ c vs σ, Le (evS S k c vs σ) (evS S (k + 1) c vs σ)) ∧ (∀ f ps, Le (evP S k f ps) (evP S (k + 1) f ps))
  | 0 => ⟨fun _ _ _ x h => by simp [evS] at h, fun _ _ x h => by simp [evP] at h⟩
  | k + 1 => by
    obtain ⟨h1, h2⟩ := ev_up k
    refine ⟨fun c vs σ => ?_, fun f ps => ?_⟩
    · cases c with
      | f g =>
        rw [evS, evS]
        split
        · split
          · exact Le.bind (evC_le h2 h1 k false _ _ _) fun x => Le.refl _
          · exact Le.refl _
        · exact Le.refl _
      | y l =>
        rw [evS, evS]
        exact evY_le h2 h1 k l vs σ
    · rw [evP, evP]
      split
      · exact Le.refl _
      · exact Le.bind (h1 _ _ _) fun x => Le.refl _

theorem evS_le {j k : Nat} (h : j ≤ k) (c : Cal) (vs : List TV) (σ : St) : Le (evS S j c vs σ) (evS S k c vs σ) := by
  induction h with
  | refl => exact Le.refl _
  | step _ ih => exact ih.trans ((ev_up S _).1 c vs σ)
theorem evP_le {j k : Nat} (h : j ≤ k) (f : FuncId) (ps : List PT) : Le (evP S j f ps) (evP S k f ps) := by
  induction h with
  | refl => exact Le.refl _
  | step _ ih => exact ih.trans ((ev_up S _).2 f ps)

/-- What it tells with enough rounds. -/
noncomputable def lim {α : Type} (s : Nat → Option α) : Option α :=
  open Classical in if h : ∃ k, (s k).isSome = true then s (Classical.choose h) else none

theorem lim_some {α : Type} {s : Nat → Option α} (up : ∀ k, Le (s k) (s (k + 1))) {x : α} : lim s = some x ↔ ∃ k, s k = some x := by
  have hm : ∀ {j k : Nat}, j ≤ k → Le (s j) (s k) := by
    intro j k h
    induction h with
    | refl => exact Le.refl _
    | step _ ih => exact ih.trans (up _)
  constructor
  · intro h
    unfold lim at h
    split at h
    · exact ⟨_, h⟩
    · cases h
  · rintro ⟨k, hk⟩
    unfold lim
    have hex : ∃ k, (s k).isSome = true := ⟨k, by rw [hk]; rfl⟩
    rw [dif_pos hex]
    obtain ⟨y, hy⟩ := Option.isSome_iff_exists.1 (Classical.choose_spec hex)
    rw [hy]
    have a := hm (Nat.le_max_left k (Classical.choose hex)) x hk
    have b := hm (Nat.le_max_right k (Classical.choose hex)) y hy
    rw [a] at b
    exact b.symm

noncomputable def eS (c : Cal) (vs : List TV) (σ : St) : Option (TV × St) := lim fun k => evS S k c vs σ
noncomputable def eP (f : FuncId) (ps : List PT) : Option PT := lim fun k => evP S k f ps

theorem eS_some {c : Cal} {vs : List TV} {σ : St} {x : TV × St} : eS S c vs σ = some x ↔ ∃ k, evS S k c vs σ = some x := lim_some fun k => (ev_up S k).1 c vs σ
theorem eP_some {f : FuncId} {ps : List PT} {x : PT} : eP S f ps = some x ↔ ∃ k, evP S k f ps = some x := lim_some fun k => (ev_up S k).2 f ps

theorem eS_lim (c : Cal) (vs : List TV) (σ : St) : Lim (eS S c vs σ) (fun k => evS S k c vs σ) := ⟨fun k => (ev_up S k).1 c vs σ, fun _ h => (eS_some S).1 h⟩
theorem eP_lim (f : FuncId) (ps : List PT) : Lim (eP S f ps) (fun k => evP S k f ps) := ⟨fun k => (ev_up S k).2 f ps, fun _ h => (eP_some S).1 h⟩

/-- The evaluator over the limit of all calls. -/
noncomputable abbrev evW (n : Nat) (rd : Bool) (c : C) (e : Env) (σ : St) : Option (Ex × Env × St) := evC (eP S) (eS S) S.sp n rd c e σ

theorem evW_le {S : Seat} {j k : Nat} (h : j ≤ k) (rd : Bool) (c : C) (e : Env) (σ : St) : Le (evW S j rd c e σ) (evW S k rd c e σ) := by
  induction h with
  | refl => exact Le.refl _
  | step _ ih => exact ih.trans (evC_n _ rd c e σ)

/-- What is told of a piece of code: it ends so that Q. -/
def wp (rd : Bool) (c : C) (e : Env) (σ : St) (Q : Ex → Env → St → Prop) : Prop := ∃ n x, evW S n rd c e σ = some x ∧ Q x.1 x.2.1 x.2.2
def wpI (is : List Ins) (e : Env) (σ : St) (Q : Env → St → Prop) : Prop := ∃ x, evIs (eP S) (eS S) S.sp is e σ = some x ∧ Q x.1 x.2

theorem wp_mono {S : Seat} {rd : Bool} {c : C} {e : Env} {σ : St} {Q Q' : Ex → Env → St → Prop} (h : wp S rd c e σ Q) (hq : ∀ x e σ, Q x e σ → Q' x e σ) : wp S rd c e σ Q' :=
  let ⟨n, x, h1, h2⟩ := h
  ⟨n, x, h1, hq _ _ _ h2⟩

theorem wp_skip (rd : Bool) (e : Env) (σ : St) (Q : Ex → Env → St → Prop) : wp S rd .skip e σ Q ↔ Q .norm e σ :=
  ⟨fun ⟨_, _, h, q⟩ => by cases h; exact q, fun q => ⟨0, _, rfl, q⟩⟩
theorem wp_exit (rd : Bool) (id : Nat) (e : Env) (σ : St) (Q : Ex → Env → St → Prop) : wp S rd (.exit id) e σ Q ↔ Q (.exit id) e σ :=
  ⟨fun ⟨_, _, h, q⟩ => by cases h; exact q, fun q => ⟨0, _, rfl, q⟩⟩
theorem wp_ret (rd : Bool) (e : Env) (σ : St) (Q : Ex → Env → St → Prop) : wp S rd .ret e σ Q ↔ Q .ret e σ :=
  ⟨fun ⟨_, _, h, q⟩ => by cases h; exact q, fun q => ⟨0, _, rfl, q⟩⟩
theorem wp_reg (rd : Bool) (is : List Ins) (e : Env) (σ : St) (Q : Ex → Env → St → Prop) : wp S rd (.reg is) e σ Q ↔ wpI S is e σ (Q .norm) := by
  constructor
  · rintro ⟨n, x, h, q⟩
    simp only [evW, evC] at h
    cases hh : evIs (eP S) (eS S) S.sp is e σ with
    | none => rw [hh] at h; cases h
    | some y => rw [hh] at h; cases h; exact ⟨y, hh, q⟩
  · rintro ⟨y, h, q⟩
    exact ⟨0, (.norm, y.1, y.2), by simp only [evW, evC, h, Option.bind_some], q⟩

def seqQ (S : Seat) (rd : Bool) (b : C) (Q : Ex → Env → St → Prop) : Ex → Env → St → Prop
  | .norm, e, σ => wp S rd b e σ Q
  | x, e, σ => Q x e σ
@[simp] theorem seqQ_norm (rd : Bool) (b : C) (Q : Ex → Env → St → Prop) (e : Env) (σ : St) : seqQ S rd b Q .norm e σ = wp S rd b e σ Q := rfl
@[simp] theorem seqQ_exit (rd : Bool) (b : C) (Q : Ex → Env → St → Prop) (id : Nat) (e : Env) (σ : St) : seqQ S rd b Q (.exit id) e σ = Q (.exit id) e σ := rfl
@[simp] theorem seqQ_ret (rd : Bool) (b : C) (Q : Ex → Env → St → Prop) (e : Env) (σ : St) : seqQ S rd b Q .ret e σ = Q .ret e σ := rfl

theorem wp_seq (rd : Bool) (a b : C) (e : Env) (σ : St) (Q : Ex → Env → St → Prop) : wp S rd (.seq a b) e σ Q ↔ wp S rd a e σ (seqQ S rd b Q) := by
  constructor
  · rintro ⟨n, x, h, q⟩
    simp only [evW, evC] at h
    cases hh : evC (eP S) (eS S) S.sp n rd a e σ with
    | none => rw [hh] at h; cases h
    | some y =>
      obtain ⟨ex, e', σ'⟩ := y
      rw [hh] at h
      simp only [Option.bind_some] at h
      cases ex with
      | norm => exact ⟨n, _, hh, n, x, h, q⟩
      | exit id => cases h; exact ⟨n, _, hh, q⟩
      | ret => cases h; exact ⟨n, _, hh, q⟩
  · rintro ⟨n, ⟨ex, e', σ'⟩, h, q⟩
    cases ex with
    | norm =>
      obtain ⟨m, y, h2, q2⟩ := q
      refine ⟨max n m, y, ?_, q2⟩
      have h' := evW_le (Nat.le_max_left n m) rd a e σ _ h
      have h2' := evW_le (Nat.le_max_right n m) rd b e' σ' _ h2
      simp only [evW, evC] at h' h2' ⊢
      rw [h']; simp only [Option.bind_some]; exact h2'
    | exit id => exact ⟨n, _, by simp only [evW, evC] at h ⊢; rw [h]; rfl, q⟩
    | ret => exact ⟨n, _, by simp only [evW, evC] at h ⊢; rw [h]; rfl, q⟩

theorem wp_cond (rd : Bool) (x : X) (a b : C) (e : Env) (σ : St) (Q : Ex → Env → St → Prop) {t : Bool} (h : ev e x = .a (.p (.b t))) :
    wp S rd (.cond x a b) e σ Q ↔ (if t = true then wp S rd a e σ Q else wp S rd b e σ Q) := by
  unfold wp
  simp only [evW, evC, h]
  cases t <;> simp

def blkQ (id : Nat) (Q : Ex → Env → St → Prop) : Ex → Env → St → Prop
  | .exit j, e, σ => if j = id then Q .norm e σ else Q (.exit j) e σ
  | x, e, σ => Q x e σ
@[simp] theorem blkQ_norm (id : Nat) (Q : Ex → Env → St → Prop) (e : Env) (σ : St) : blkQ id Q .norm e σ = Q .norm e σ := rfl
@[simp] theorem blkQ_exit (id j : Nat) (Q : Ex → Env → St → Prop) (e : Env) (σ : St) : blkQ id Q (.exit j) e σ = if j = id then Q .norm e σ else Q (.exit j) e σ := rfl
@[simp] theorem blkQ_ret (id : Nat) (Q : Ex → Env → St → Prop) (e : Env) (σ : St) : blkQ id Q .ret e σ = Q .ret e σ := rfl

theorem blkQ_eq (id : Nat) (Q : Ex → Env → St → Prop) (x : Ex) (e : Env) (σ : St) : blkQ id Q x e σ = Q (if x = .exit id then .norm else x) e σ := by
  cases x with
  | norm => simp
  | ret => simp
  | exit j =>
    by_cases h : j = id
    · simp [h]
    · simp [h]

theorem wp_block (rd : Bool) (id : Nat) (c : C) (e : Env) (σ : St) (Q : Ex → Env → St → Prop) : wp S rd (.block id c) e σ Q ↔ wp S rd c e σ (blkQ id Q) := by
  constructor
  · rintro ⟨n, x, h, q⟩
    simp only [evW, evC] at h
    cases hh : evC (eP S) (eS S) S.sp n rd c e σ with
    | none => rw [hh] at h; cases h
    | some y =>
      rw [hh] at h; simp only [Option.bind_some, Option.some.injEq] at h
      subst h
      exact ⟨n, y, hh, by rw [blkQ_eq]; exact q⟩
  · rintro ⟨n, y, h, q⟩
    refine ⟨n, _, by simp only [evW, evC] at h ⊢; rw [h]; rfl, ?_⟩
    rw [blkQ_eq] at q
    exact q

def loopQ (S : Seat) (rd : Bool) (c : C) (Q : Ex → Env → St → Prop) : Ex → Env → St → Prop
  | .norm, e, σ => wp S rd (.loop c) e σ Q
  | x, e, σ => Q x e σ
@[simp] theorem loopQ_norm (rd : Bool) (c : C) (Q : Ex → Env → St → Prop) (e : Env) (σ : St) : loopQ S rd c Q .norm e σ = wp S rd (.loop c) e σ Q := rfl
@[simp] theorem loopQ_exit (rd : Bool) (c : C) (Q : Ex → Env → St → Prop) (id : Nat) (e : Env) (σ : St) : loopQ S rd c Q (.exit id) e σ = Q (.exit id) e σ := rfl
@[simp] theorem loopQ_ret (rd : Bool) (c : C) (Q : Ex → Env → St → Prop) (e : Env) (σ : St) : loopQ S rd c Q .ret e σ = Q .ret e σ := rfl

theorem iter_mono {f g : Env → St → Option (Ex × Env × St)} (h : ∀ e σ, Le (f e σ) (g e σ)) {n m : Nat} (hnm : n ≤ m) (e : Env) (σ : St) : Le (iter f n e σ) (iter g m e σ) := by
  induction n generalizing m e σ with
  | zero => intro x hx; simp [iter] at hx
  | succ n ih =>
    obtain ⟨m, rfl⟩ : ∃ j, m = j + 1 := ⟨m - 1, by omega⟩
    refine Le.bind (h e σ) fun x => ?_
    obtain ⟨ex, e', σ'⟩ := x
    cases ex with
    | norm => exact ih (by omega) e' σ'
    | exit id => exact Le.refl _
    | ret => exact Le.refl _

/-- One round of a loop. -/
theorem wp_loop (rd : Bool) (c : C) (e : Env) (σ : St) (Q : Ex → Env → St → Prop) : wp S rd (.loop c) e σ Q ↔ wp S rd c e σ (loopQ S rd c Q) := by
  constructor
  · rintro ⟨n, x, h, q⟩
    simp only [evW, evC] at h
    cases n with
    | zero => simp [iter] at h
    | succ n =>
      simp only [iter] at h
      cases hh : evC (eP S) (eS S) S.sp (n + 1) rd c e σ with
      | none => rw [hh] at h; cases h
      | some y =>
        obtain ⟨ex, e', σ'⟩ := y
        rw [hh] at h
        simp only [Option.bind_some] at h
        cases ex with
        | norm => exact ⟨n + 1, _, hh, n + 1, x, iter_mono (fun _ _ => Le.refl _) (by omega) _ _ _ h, q⟩
        | exit id => cases h; exact ⟨n + 1, _, hh, q⟩
        | ret => cases h; exact ⟨n + 1, _, hh, q⟩
  · rintro ⟨n, ⟨ex, e', σ'⟩, h, q⟩
    cases ex with
    | norm =>
      obtain ⟨m, y, h2, q2⟩ := q
      refine ⟨max n m + 1, y, ?_, q2⟩
      have h' := evW_le (Nat.le_trans (Nat.le_max_left n m) (Nat.le_succ _)) rd c e σ _ h
      simp only [evW, evC] at h' h2 ⊢
      simp only [iter]
      rw [h']; simp only [Option.bind_some]
      exact iter_mono (fun e σ => evW_le (S := S) (Nat.le_trans (Nat.le_max_right n m) (Nat.le_succ _)) rd c e σ) (Nat.le_max_right n m) _ _ _ h2
    | exit id =>
      refine ⟨n + 1, _, ?_, q⟩
      have h' := evW_le (Nat.le_succ n) rd c e σ _ h
      simp only [evW, evC] at h' ⊢
      simp only [iter]
      rw [h']; rfl
    | ret =>
      refine ⟨n + 1, _, ?_, q⟩
      have h' := evW_le (Nat.le_succ n) rd c e σ _ h
      simp only [evW, evC] at h' ⊢
      simp only [iter]
      rw [h']; rfl

/-- A call over the caller's memory, out of its body. -/
theorem eS_of_wp {g : FuncId} {fc : FnC} (hf : S.fb g = some fc) {args : List TV} (hn : args.length = fc.np) {σ : St} {r : TV × St}
    (h : wp S false fc.body (Env.init args) σ fun x e σ' => (x = .norm ∨ x = .ret) ∧ ∃ vs, resVs e σ' fc.res = some vs ∧ resT vs = some r.1 ∧ σ' = r.2) : eS S (.f g) args σ = some r := by
  obtain ⟨n, ⟨ex, e', σ'⟩, h1, hx, vs, h2, h3, h4⟩ := h
  simp only at hx h2 h3 h4
  obtain ⟨k, hk⟩ := (evC_lim (cp := eP S) (cs := eS S) (sp := S.sp) (fun f ps => eP_lim S f ps) (fun f vs σ => eS_lim S f vs σ) n false fc.body (Env.init args) σ).ex _ h1
  refine (eS_some S).2 ⟨max k n + 1, ?_⟩
  have hk' : evC (evP S (max k n)) (evS S (max k n)) S.sp (max k n) false fc.body (Env.init args) σ = some (ex, e', σ') := by
    have a : evC (evP S (max k n)) (evS S (max k n)) S.sp n false fc.body (Env.init args) σ = some (ex, e', σ') :=
      (evC_lim (cp := eP S) (cs := eS S) (sp := S.sp) (fun f ps => eP_lim S f ps) (fun f vs σ => eS_lim S f vs σ) n false fc.body (Env.init args) σ).mono (Nat.le_max_left k n) _ hk
    have b : ∀ {j m : Nat}, j ≤ m → Le (evC (evP S (max k n)) (evS S (max k n)) S.sp j false fc.body (Env.init args) σ) (evC (evP S (max k n)) (evS S (max k n)) S.sp m false fc.body (Env.init args) σ) := by
      intro j m h
      induction h with
      | refl => exact Le.refl _
      | step _ ih => exact ih.trans (evC_n _ _ _ _ _)
    exact b (Nat.le_max_right k n) _ a
  rw [evS, hf]
  subst h4
  simp only [hn, if_true, hk', Option.bind_some, hx, h2, h3]

/-- A call of a pure function, out of its body. -/
theorem eP_of_wp {g : FuncId} (ho : ∀ ps, S.orc g ps = none) {fc : FnC} (hf : S.fb g = some fc) {ps : List PT} (hn : ps.length = fc.np) {r : PT}
    (h : wp S false fc.body (Env.init (ps.map ofPT)) .empty fun x e σ' => (x = .norm ∨ x = .ret) ∧ ∃ vs v, resVs e σ' fc.res = some vs ∧ resT vs = some v ∧ frT σ' v = some r) : eP S g ps = some r := by
  obtain ⟨n, ⟨ex, e', σ'⟩, h1, hx, vs, v, h2, h3, h4⟩ := h
  have hs : eS S (.f g) (ps.map ofPT) .empty = some (v, σ') :=
    eS_of_wp S hf (by simpa using hn) ⟨n, _, h1, hx, vs, h2, h3, rfl⟩
  obtain ⟨k, hk⟩ := (eS_some S).1 hs
  refine (eP_some S).2 ⟨k + 1, ?_⟩
  rw [evP, ho]
  simp only [hk, Option.bind_some, h4]

theorem eP_of_orc {g : FuncId} {ps : List PT} {r : PT} (ho : S.orc g ps = some r) : eP S g ps = some r := (eP_some S).2 ⟨1, by rw [evP, ho]⟩

end Go.Fx
