import Derived.Test.YtkpfjolcmkikeaaFx18
set_option linter.unusedSimpArgs false
set_option linter.unusedVariables false
/-
  Code; functions; the whole evaluator: what it tells, the machine does.
-/
namespace Go.Fx
open Go.RowKit

section
variable {P : Program} {eqs : List (TypeId × List Nat)} {m m' : Mt} {σ σ' : St} {w w' : World} {e e' : Env} {a : Act}
variable {cp : FuncId → List PT → Option PT} {cs : Cal → List TV → St → Option (TV × St)} {sp : FuncId → Bool}

/-- code, and what it was turned into -/
def CRP (P : Program) (eqs : List (TypeId × List Nat)) : Nat → Code → C → Prop := fun n code c => ccC P eqs n code = some (strip c)

def exE : Ex → Exit
  | .norm => .normal
  | .exit id => .exit id
  | .ret => .ret

def QC (P : Program) (eqs : List (TypeId × List Nat)) (m0 : Mt) (σ0 : St) (w0 : World) (a0 : Act) (x : Ex × Env × St) : Exit → Act → World → Prop :=
  fun ex a' w' => ex = exE x.1 ∧ ∃ m', At (CRP P eqs) m0 σ0 w0 a0 m' x.2.1 x.2.2 a' w'

theorem At.drew {CR : Nat → Code → C → Prop} {m0 : Mt} {σ0 : St} {w0 : World} {a0 : Act} (h : At CR m0 σ0 w0 a0 m e σ a w) : At CR m0 σ0 w0 a0 m e σ a w.drew := by
  obtain ⟨h1, h2⟩ := drew_ok h.sr
  exact ⟨h1, h2.re h.sr h.re, h.xt.trans h2, h.sz, h.df.xt h2⟩

theorem mapO_F2i {α β : Type} {f : α → Option β} {R : α → β → Prop} (h : ∀ x y, f x = some y → R x y) : ∀ {l : List α} {l' : List β}, mapO f l = some l' → F2 R l l'
  | [], l', hl => by simp [mapO] at hl; subst hl; exact .nil
  | x :: r, l', hl => by
    simp only [mapO] at hl
    obtain ⟨y, h1, hl⟩ := bindO hl
    obtain ⟨ys, h2, hl⟩ := bindO hl
    simp only [Option.some.injEq] at hl; subst hl
    exact .cons (h x y h1) (mapO_F2i h h2)

theorem zipO_get {α β : Type} {f : Nat → α → Option β} : ∀ {l : List α} {k : Nat} {l' : List β}, zipO f k l = some l' → l'.length = l.length ∧ ∀ (i : Nat) (x : α), l[i]? = some x → ∃ y, l'[i]? = some y ∧ f (k + i) x = some y
  | [], k, l', hl => by simp [zipO] at hl; subst hl; exact ⟨rfl, fun i x h => by simp at h⟩
  | z :: r, k, l', hl => by
    simp only [zipO] at hl
    obtain ⟨y, h1, hl⟩ := bindO hl
    obtain ⟨ys, h2, hl⟩ := bindO hl
    simp only [Option.some.injEq] at hl; subst hl
    obtain ⟨h3, h4⟩ := zipO_get h2
    refine ⟨by simp [h3], fun i x hx => ?_⟩
    cases i with
    | zero => simp only [List.getElem?_cons_zero, Option.some.injEq] at hx; subst hx; exact ⟨y, by simp, by simpa using h1⟩
    | succ i =>
      obtain ⟨q, h5, h6⟩ := h4 i x (by simpa using hx)
      exact ⟨q, by simpa using h5, by rw [← h6]; congr 1; omega⟩

theorem F2_mapl {α β γ : Type} {R : β → γ → Prop} {f : α → β} : ∀ {as : List α} {cs : List γ}, F2 (fun a c => R (f a) c) as cs → F2 R (as.map f) cs
  | _, _, .nil => .nil
  | _, _, .cons x t => .cons x (F2_mapl t)

theorem fz1_ok {CR : Nat → Code → C → Prop} (h : SR CR m σ w) {v : TV} (hf : fz1 σ v = some σ') : ∃ m', SR CR m' σ' w ∧ Xt m σ w m' σ' w := by
  unfold fz1 at hf
  split at hf
  · rename_i s
    split at hf
    · rename_i cs hs
      split at hf
      · rename_i hne
        obtain ⟨ps, h1, hf⟩ := bindO hf
        simp only [Option.some.injEq] at hf; subst hf
        obtain ⟨m1, h2, x1, d1⟩ := klL_ok (xs := cs) h
        have hb1 : (klL σ cs).bs s = some (.var cs) := by
          rw [klL_bs, hs]
          intro x hx o l e
          subst e
          have := List.all_eq_true.1 hne _ hx
          simp at this
        have hlen : (ps.map AV.p).length = cs.length := by rw [List.length_map]; exact ((frL_F2 h1).length).symm
        have old : ∀ t b, ((klL σ cs).put s (.var (ps.map .p))).bs t = some b → t ≠ s → (klL σ cs).bs t = some b := by
          intro t b ht e
          simp only [St.put] at ht
          rw [if_neg e] at ht; exact ht
        have alive : ∀ t b, ((klL σ cs).put s (.var (ps.map .p))).bs t = some b → ∃ b0, (klL σ cs).bs t = some b0 := by
          intro t b ht
          by_cases e : t = s
          · subst e; exact ⟨_, hb1⟩
          · exact ⟨b, old t b ht e⟩
        have img : ∀ b, InS m1 ((klL σ cs).put s (.var (ps.map .p))) b → InS m1 (klL σ cs) b := by
          rintro b (⟨t, bl, c, ht, hm⟩ | hl)
          · obtain ⟨b0, h0⟩ := alive t bl ht
            exact .inl ⟨t, b0, c, h0, hm⟩
          · exact .inr hl
        have x2 : Xt m1 (klL σ cs) w m1 ((klL σ cs).put s (.var (ps.map .p))) w :=
          { mu := fun _ _ => rfl, la := fun _ _ => rfl, clk := Nat.le_refl _, len := Nat.le_refl _
            bs := fun t b' ht _ => by
              by_cases e : t = s
              · subst e
                simp only [St.put, if_true, Option.some.injEq] at ht
                subst ht
                exact ⟨_, hb1, hlen.symm⟩
              · exact ⟨b', old t b' ht e, sameShape.refl _⟩
            D := fun _ hb => hb, new := fun _ hb => .inl hb, img := fun b hb => .inl (img b hb), kept := fun _ _ _ => rfl, os := rfl, tape := rfl, output := rfl, size := Nat.le_refl _ }
        refine ⟨m1, SR.step h2 x2 ?_ ?_ ?_ ?_ ?_ rfl (fun _ _ => rfl), x1.trans x2⟩
        · intro t b ht
          by_cases e : t = s
          · subst e
            simp only [St.put, if_true, Option.some.injEq] at ht
            subst ht
            left
            rcases h.blk t _ hs with g1 | ⟨B, T, vs, g1, g2, g3⟩
            · exact .inl ((x1.mu t (h.gen t _ hs)).trans g1)
            · exact .inr ⟨B, T, vs, (x1.mu t (h.gen t _ hs)).trans g1, g2, F2_mapl (F2_comp (fun x p v hx a b => d1 x hx p v b a) (frL_F2 h1) g3)⟩
          · exact .inr ⟨old t b ht e, rfl, fun _ _ _ => rfl⟩
        · intro t b ht
          obtain ⟨b0, h0⟩ := alive t b ht
          exact h2.gen t b0 h0
        · intro t t' b b' B1 c1 c2 g1 g2 g3 g4
          obtain ⟨b0, h0⟩ := alive t b g1
          obtain ⟨b0', h0'⟩ := alive t' b' g2
          exact h2.inj t t' b0 b0' B1 c1 c2 h0 h0' g3 g4
        · exact fun b hb => h2.dj b (img b hb)
        · exact h2.dlt
      · cases hf
    · cases hf
  · cases hf

theorem fzS_ok {CR : Nat → Code → C → Prop} : ∀ {ts : List Nat} {m : Mt} {σ : St}, SR CR m σ w → fzS e ts σ = some σ' → ∃ m', SR CR m' σ' w ∧ Xt m σ w m' σ' w
  | [], m, σ, h, hf => by simp only [fzS, Option.some.injEq] at hf; subst hf; exact ⟨m, h, Xt.refl _ _ _⟩
  | t :: ts, m, σ, h, hf => by
    simp only [fzS] at hf
    obtain ⟨σ1, h1, hf⟩ := bindO hf
    obtain ⟨m1, g1, x1⟩ := fz1_ok h h1
    obtain ⟨m2, g2, x2⟩ := fzS_ok g1 hf
    exact ⟨m2, g2, x1.trans x2⟩

def nfz : C → Bool
  | .fz _ _ => false
  | _ => true

theorem unfz {CR : Nat → Code → C → Prop} {m0 : Mt} {σ0 : St} {w0 : World} {a0 : Act} {n : Nat} {rd : Bool} {x : Ex × Env × St} : ∀ (c : C) {m : Mt} {σ : St}, At CR m0 σ0 w0 a0 m e σ a w → evC cp cs sp n rd c e σ = some x →
    ∃ c1 σ1 m1, nfz c1 = true ∧ strip c1 = strip c ∧ evC cp cs sp n rd c1 e σ1 = some x ∧ At CR m0 σ0 w0 a0 m1 e σ1 a w
  | .fz ts c, m, σ, hA, hev => by
    simp only [evC] at hev
    obtain ⟨σ1, h1, hev⟩ := bindO hev
    obtain ⟨m1, g1, x1⟩ := fzS_ok hA.sr h1
    exact unfz c (m := m1) ⟨g1, x1.re hA.sr hA.re, hA.xt.trans x1, hA.sz, hA.df.xt x1⟩ hev
  | .skip, m, σ, hA, hev => ⟨_, σ, m, rfl, rfl, hev, hA⟩
  | .reg _, m, σ, hA, hev => ⟨_, σ, m, rfl, rfl, hev, hA⟩
  | .seq _ _, m, σ, hA, hev => ⟨_, σ, m, rfl, rfl, hev, hA⟩
  | .cond _ _ _, m, σ, hA, hev => ⟨_, σ, m, rfl, rfl, hev, hA⟩
  | .block _ _, m, σ, hA, hev => ⟨_, σ, m, rfl, rfl, hev, hA⟩
  | .loop _, m, σ, hA, hev => ⟨_, σ, m, rfl, rfl, hev, hA⟩
  | .exit _, m, σ, hA, hev => ⟨_, σ, m, rfl, rfl, hev, hA⟩
  | .ret, m, σ, hA, hev => ⟨_, σ, m, rfl, rfl, hev, hA⟩
  | .rng _ _ _ _, m, σ, hA, hev => ⟨_, σ, m, rfl, rfl, hev, hA⟩

theorem strip_skip {c : C} (hn : nfz c = true) (h : C.skip = strip c) : c = .skip := by cases c <;> simp_all [strip, nfz]
theorem strip_exit {c : C} {id : Nat} (hn : nfz c = true) (h : C.exit id = strip c) : c = .exit id := by cases c <;> simp_all [strip, nfz]
theorem strip_ret {c : C} (hn : nfz c = true) (h : C.ret = strip c) : c = .ret := by cases c <;> simp_all [strip, nfz]
theorem strip_reg {c : C} {is : List Ins} (hn : nfz c = true) (h : C.reg is = strip c) : c = .reg is := by cases c <;> simp_all [strip, nfz]
theorem strip_seq {c p q : C} (hn : nfz c = true) (h : C.seq p q = strip c) : ∃ p' q', c = .seq p' q' ∧ p = strip p' ∧ q = strip q' := by
  cases c <;> simp_all [strip, nfz]
  exact ⟨_, _, ⟨rfl, rfl⟩, rfl, rfl⟩
theorem strip_cond {c p q : C} {y : X} (hn : nfz c = true) (h : C.cond y p q = strip c) : ∃ p' q', c = .cond y p' q' ∧ p = strip p' ∧ q = strip q' := by
  cases c <;> simp_all [strip, nfz]
  exact ⟨_, _, ⟨rfl, rfl⟩, rfl, rfl⟩
theorem strip_block {c p : C} {id : Nat} (hn : nfz c = true) (h : C.block id p = strip c) : ∃ p', c = .block id p' ∧ p = strip p' := by cases c <;> simp_all [strip, nfz]
theorem strip_loop {c p : C} (hn : nfz c = true) (h : C.loop p = strip c) : ∃ p', c = .loop p' ∧ p = strip p' := by cases c <;> simp_all [strip, nfz]
theorem strip_rng {c p q : C} {f : X} {ps : List Nat} (hn : nfz c = true) (h : C.rng f ps p q = strip c) : ∃ p' q', c = .rng f ps p' q' ∧ p = strip p' ∧ q = strip q' := by
  cases c <;> simp_all [strip, nfz]
  exact ⟨_, _, ⟨rfl, rfl⟩, rfl, rfl⟩

/-- CODE. -/
theorem code_ok (hm : P.follows .mixedOrders = true) (hEq : EqOk P eqs) (hp : SndP P cp) (hs : SndS P (CRP P eqs) cs) {m0 : Mt} {σ0 : St} {w0 : World} {a0 : Act} {rr : Option Nat} {n : Nat} {fuel : Nat} {rd : Bool} (hrd : rr.isSome = rd) :
    ∀ (code : Code) {c : C} {m : Mt} {e : Env} {σ : St} {a : Act} {w : World} {x : Ex × Env × St}, ccC P eqs a0.tmps.size code = some (strip c) → evC cp cs sp fuel rd c e σ = some x → At (CRP P eqs) m0 σ0 w0 a0 m e σ a w →
      code.wpIn (FW rr) n P (QC P eqs m0 σ0 w0 a0 x) a w
  | .skip, c, m, e, σ, a, w, x, hc, hev, hA => by
    obtain ⟨c, σ, m, hn, hst, hev, hA⟩ := unfz c hA hev
    rw [← hst] at hc
    clear hst
    simp only [ccC, Option.some.injEq] at hc; obtain rfl := strip_skip hn hc
    simp only [evC, Option.some.injEq] at hev; subst hev
    exact wpIn_skip ⟨rfl, m, hA⟩
  | .region id ops draw, c, m, e, σ, a, w, x, hc, hev, hA => by
    obtain ⟨c, σ, m, hn, hst, hev, hA⟩ := unfz c hA hev
    rw [← hst] at hc
    clear hst
    simp only [ccC] at hc
    cases draw with
    | true =>
      simp only [if_true] at hc
      obtain ⟨is, his, hc⟩ := bindO hc
      split at hc
      · rename_i hok
        simp only [Option.some.injEq] at hc; obtain rfl := strip_reg hn hc
        simp only [evC] at hev
        obtain ⟨y, h1, hev⟩ := bindO hev
        simp only [Option.some.injEq] at hev; subst hev
        obtain ⟨E, S, e0, s0, en, sn, ht⟩ := tr_of (e' := y.1) (σ' := y.2) h1
        obtain ⟨hl, hg⟩ := zipO_get his
        have hfl : (fixW (befores ops) is).length = is.length := by simp [fixW]
        have hfg : ∀ (i : Nat) (x : Ins), is[i]? = some x → ∃ y, (fixW (befores ops) is)[i]? = some y ∧ y.op = x.op ∧ y.gd = x.gd ∧ y.dst = x.dst := by
          intro i x hx
          unfold fixW
          rw [List.getElem?_map, List.getElem?_zipIdx, hx]
          simp only [Option.map_some]
          refine ⟨_, rfl, ?_⟩
          split <;> exact ⟨rfl, rfl, rfl⟩
        have hA1 := hA.drew
        refine wpIn_region_any hm ?_
        refine draw_ok (a0 := a0) hEq hp hs (by rw [hfl, hl]; simp) (fun i o ho => ?_) (drawOk_spec hok) ht (fun m' a' w' hA' => ⟨rfl, m', by rw [en, sn] at hA'; exact hA'⟩) ops.size (Array.replicate ops.size false) (by simp) (by simp) (fun i o ho h => ?_) ?_ (by rw [← e0, ← s0] at hA1; exact hA1) (fun i d z _ hlt => absurd hlt (Nat.not_lt_zero _))
        · obtain ⟨ins, h2, h3⟩ := hg i o (by simpa using ho)
          obtain ⟨y, h4, h5, h6, h7⟩ := hfg i ins h2
          obtain ⟨g1, g2, g3, g4⟩ := (ccI_ok h3).1
          exact ⟨y, h4, by rw [h5]; exact g1, by rw [h6]; exact g2, by rw [h7]; exact g3, g4⟩
        · rw [Array.getElem?_replicate] at h; split at h <;> simp at h
        · have hno : ∀ i : Nat, ¬ (Array.replicate ops.size false)[i]? = some true := by
            intro i h
            rw [Array.getElem?_replicate] at h; split at h <;> simp at h
          exact { env := fun t => .inr ⟨fun i ins hi hL => absurd hL (hno i), rfl⟩
                  st := ⟨0, Nat.le_refl _, Nat.zero_le _, fun i ins hi _ => ⟨fun hL => absurd hL (hno i), fun h => by omega⟩, fun i h => by omega, fun i ins hi _ hL => absurd hL (hno i), by rw [s0]; exact hA.sr.gen⟩ }
      · cases hc
    | false =>
      simp only [Bool.false_eq_true, if_false] at hc
      obtain ⟨is, his, hc⟩ := bindO hc
      simp only [Option.some.injEq] at hc; obtain rfl := strip_reg hn hc
      simp only [evC] at hev
      obtain ⟨y, h1, hev⟩ := bindO hev
      simp only [Option.some.injEq] at hev; subst hev
      exact wpIn_region_list (list_ok (a0 := a0) (e' := y.1) (σ' := y.2) hEq hp hs (mapO_F2i (fun o i h => (ccI_ok h).1) his) hA h1 fun m' a' w' hA' => ⟨rfl, m', hA'⟩)
  | .seq p q, c, m, e, σ, a, w, x, hc, hev, hA => by
    obtain ⟨c, σ, m, hn, hst, hev, hA⟩ := unfz c hA hev
    rw [← hst] at hc
    clear hst
    simp only [ccC] at hc
    obtain ⟨p', h1, hc⟩ := bindO hc
    obtain ⟨q', h2, hc⟩ := bindO hc
    simp only [Option.some.injEq] at hc; obtain ⟨p', q', rfl, rfl, rfl⟩ := strip_seq hn hc
    simp only [evC] at hev
    obtain ⟨y, h3, hev⟩ := bindO hev
    obtain ⟨ex, e1, σ1⟩ := y
    refine wpIn_seq (Code.wpIn_mono (fun z a' w' q => ?_) (code_ok hm hEq hp hs hrd p h1 h3 hA))
    obtain ⟨rfl, m', hA'⟩ := q
    cases ex with
    | norm => exact code_ok hm hEq hp hs hrd _ h2 hev hA'
    | exit id => simp only [Option.some.injEq] at hev; subst hev; exact ⟨rfl, m', hA'⟩
    | ret => simp only [Option.some.injEq] at hev; subst hev; exact ⟨rfl, m', hA'⟩
  | .cond x0 p q, c, m, e, σ, a, w, x, hc, hev, hA => by
    obtain ⟨c, σ, m, hn, hst, hev, hA⟩ := unfz c hA hev
    rw [← hst] at hc
    clear hst
    simp only [ccC] at hc
    obtain ⟨y0, h0, hc⟩ := bindO hc
    obtain ⟨p', h1, hc⟩ := bindO hc
    obtain ⟨q', h2, hc⟩ := bindO hc
    simp only [Option.some.injEq] at hc; obtain ⟨p', q', rfl, rfl, rfl⟩ := strip_cond hn hc
    simp only [evC] at hev
    split at hev
    · rename_i t ht
      have h3 := ev_ok hA.re h0
      rw [ht] at h3
      refine wpIn_cond h3.b ?_
      cases t with
      | true => simp only [if_true] at hev ⊢; exact code_ok hm hEq hp hs hrd p h1 hev hA
      | false => simp only [Bool.false_eq_true, if_false] at hev ⊢; exact code_ok hm hEq hp hs hrd q h2 hev hA
    · cases hev
  | .block id p, c, m, e, σ, a, w, x, hc, hev, hA => by
    obtain ⟨c, σ, m, hn, hst, hev, hA⟩ := unfz c hA hev
    rw [← hst] at hc
    clear hst
    simp only [ccC] at hc
    obtain ⟨p', h1, hc⟩ := bindO hc
    simp only [Option.some.injEq] at hc; obtain ⟨p', rfl, rfl⟩ := strip_block hn hc
    simp only [evC] at hev
    obtain ⟨y, h3, hev⟩ := bindO hev
    obtain ⟨ex, e1, σ1⟩ := y
    simp only [Option.some.injEq] at hev; subst hev
    refine wpIn_block (Code.wpIn_mono (fun z a' w' q => ?_) (code_ok hm hEq hp hs hrd p h1 h3 hA))
    obtain ⟨rfl, m', hA'⟩ := q
    cases ex with
    | norm => exact ⟨rfl, m', hA'⟩
    | ret => exact ⟨rfl, m', hA'⟩
    | exit id' =>
      simp only [exE, Exit.inBlock]
      by_cases hid : id' = id
      · subst hid; simp only [if_true]; exact ⟨rfl, m', hA'⟩
      · rw [if_neg hid]
        have : (if Ex.exit id' = Ex.exit id then Ex.norm else Ex.exit id') = Ex.exit id' := if_neg (fun h => hid (by cases h; rfl))
        exact ⟨by rw [this]; rfl, m', hA'⟩
  | .loop p, c, m, e, σ, a, w, x, hc, hev, hA => by
    obtain ⟨c, σ, m, hn, hst, hev, hA⟩ := unfz c hA hev
    rw [← hst] at hc
    clear hst
    simp only [ccC] at hc
    obtain ⟨p', h1, hc⟩ := bindO hc
    simp only [Option.some.injEq] at hc; obtain ⟨p', rfl, rfl⟩ := strip_loop hn hc
    simp only [evC] at hev
    refine wpIn_loop_fuel (fun k a w => ∃ m e σ, At (CRP P eqs) m0 σ0 w0 a0 m e σ a w ∧ iter (evC cp cs sp fuel rd p') k e σ = some x) (k := fuel) ⟨m, e, σ, hA, hev⟩ ?_
    rintro k a w ⟨m, e, σ, hA, hev⟩
    cases k with
    | zero => simp [iter] at hev
    | succ k =>
      simp only [iter] at hev
      obtain ⟨y, h3, hev⟩ := bindO hev
      obtain ⟨ex, e1, σ1⟩ := y
      refine Code.wpIn_mono (fun z a' w' q => ?_) (code_ok hm hEq hp hs hrd p h1 h3 hA)
      obtain ⟨rfl, m', hA'⟩ := q
      cases ex with
      | norm => exact ⟨k, Nat.lt_succ_self k, m', e1, σ1, hA', hev⟩
      | exit id => simp only [Option.some.injEq] at hev; subst hev; exact ⟨rfl, m', hA'⟩
      | ret => simp only [Option.some.injEq] at hev; subst hev; exact ⟨rfl, m', hA'⟩
  | .exit id, c, m, e, σ, a, w, x, hc, hev, hA => by
    obtain ⟨c, σ, m, hn, hst, hev, hA⟩ := unfz c hA hev
    rw [← hst] at hc
    clear hst
    simp only [ccC, Option.some.injEq] at hc; obtain rfl := strip_exit hn hc
    simp only [evC, Option.some.injEq] at hev; subst hev
    exact wpIn_exit ⟨rfl, m, hA⟩
  | .ret, c, m, e, σ, a, w, x, hc, hev, hA => by
    obtain ⟨c, σ, m, hn, hst, hev, hA⟩ := unfz c hA hev
    rw [← hst] at hc
    clear hst
    simp only [ccC, Option.some.injEq] at hc; obtain rfl := strip_ret hn hc
    simp only [evC, Option.some.injEq] at hev; subst hev
    exact wpIn_ret ⟨rfl, m, hA⟩
  | .rangeFunc f ps assign body, c, m, e, σ, a, w, x, hc, hev, hA => by
    obtain ⟨c, σ, m, hn, hst, hev, hA⟩ := unfz c hA hev
    rw [← hst] at hc
    clear hst
    simp only [ccC] at hc
    obtain ⟨f', hf, hc⟩ := bindO hc
    obtain ⟨as', has, hc⟩ := bindO hc
    obtain ⟨bd', hbd, hc⟩ := bindO hc
    split at hc
    · rename_i hps
      simp only [Option.some.injEq] at hc; obtain ⟨as', bd', rfl, rfl, rfl⟩ := strip_rng hn hc
      simp only [evC] at hev
      split at hev
      · cases hev
      · rename_i hrd'
        have hrr : rr = none := by
          cases rr with
          | none => rfl
          | some l => exact absurd hrd.symm hrd'
        subst hrr
        split at hev
        · rename_i g caps hg
          obtain ⟨y, h1, hev⟩ := bindO hev
          have hf1 := ev_ok hA.re hf
          rw [hg] at hf1
          obtain ⟨cv, hfv, hcv⟩ := hf1
          obtain ⟨hen, hcall⟩ := hs _ _ _ _ _ h1
          refine wpIn_rangeFunc fun fn _ => ?_
          -- the two blocks
          obtain ⟨b1, x1⟩ := alloc_beside hA.sr (.deferred (some []))
          let lo : Loop := { state := .ready, pending := none, fn, tmps := a.tmps, params := ps, assign, body, defers := w.heap.size }
          let r : LRec := { env := e, params := ps.toList, assign := as', body := bd', st := .ready, pend := none }
          have x2 := addL_xt b1 r (.loop lo)
          have re1 := x1.re hA.sr hA.re
          have b2 : SR (CRP P eqs) (m.addL σ.ls.length (w.alloc (.deferred (some []))).heap.size) (σ.addL r) ((w.alloc (.deferred (some []))).alloc (.loop lo)) := by
            refine addL_sr b1 ⟨lo, ?_, x2.re b1 re1, by simp [lo, r], ?_, ?_, ?_, rfl, rfl, by simp [r]⟩
            · simp only [Mt.addL, if_true]; exact World.alloc_heap_new _ _
            · intro p hp
              have := (Array.all_eq_true'.1 hps) p (by simpa [r] using hp)
              simp only [lo, hA.sz]; simpa using this
            · simp only [lo, r, hA.sz]; exact has
            · simp only [lo, r, hA.sz]; exact hbd
          have x12 := x1.trans x2
          have hmark : Marks w0.heap.size (m.addL σ.ls.length (w.alloc (.deferred (some []))).heap.size) (σ.addL r) ((w.alloc (.deferred (some []))).alloc (.loop lo)) ([markOf w.heap.size] ++ a.defers) := by
            obtain ⟨rs, g1, g2, g3⟩ := hA.df.xt x12
            obtain ⟨rs0, k1, k2, k3⟩ := hA.df
            have hrs : rs = rs0 := by
              have : rs.map markOf = rs0.map markOf := g1.symm.trans k1
              have inj : ∀ (p q : List Nat), p.map markOf = q.map markOf → p = q := by
                intro p
                induction p with
                | nil => intro q h; cases q with
                  | nil => rfl
                  | cons _ _ => simp at h
                | cons a p ih => intro q h; cases q with
                  | nil => simp at h
                  | cons b q => simp only [List.map_cons, List.cons.injEq, markOf, Deferred.mk.injEq, Target.collected.injEq] at h; rw [h.1.1, ih q h.2]
              exact inj _ _ this
            subst hrs
            refine ⟨w.heap.size :: rs, by simp [g1], List.nodup_cons.2 ⟨fun hh => ?_, g2⟩, fun q hq => ?_⟩
            · have := (Array.getElem?_eq_some_iff.1 (k3 _ hh).2.1).1; omega
            · rcases List.mem_cons.1 hq with rfl | hq
              · refine ⟨hA.xt.size, ?_, fun hi => ?_, fun hD => ?_⟩
                · rw [Below.heap_alloc _ _ _ (by simp)]; exact World.alloc_heap_new w _
                · rcases hi with ⟨s, bl, c, hs1, hm1⟩ | ⟨l, hl, hle⟩
                  · have := hA.sr.inS_lt (.inl ⟨s, bl, c, hs1, hm1⟩); omega
                  · simp only [St.addL, List.length_append, List.length_singleton] at hl
                    simp only [Mt.addL] at hle
                    split at hle
                    · simp at hle
                    · have := hA.sr.inS_lt (b := m.la l) (.inr ⟨l, by omega, rfl⟩); omega
                · have := hA.sr.dlt _ hD; omega
              · exact g3 q hq
          have hargs : F2 (RT (m.addL σ.ls.length (w.alloc (.deferred (some []))).heap.size) (σ.addL r) ((w.alloc (.deferred (some []))).alloc (.loop lo))) (.a (.yl σ.ls.length) :: caps.map fun s => .a (.ptr s 0 0))
              (.func (.yield (w.heap.size + 1)) #[] #[] :: cv) := by
            refine .cons ⟨by simp [St.addL], by simp [Mt.addL]⟩ ?_
            have h0 : F2 (RT m σ w) (caps.map fun s => .a (.ptr s 0 0)) cv := caps_rt hcv
            exact h0.imp fun _ _ hx => x12.rt hA.sr hx
          refine ⟨w.heap.size + 1, [markOf w.heap.size], (w.alloc (.deferred (some []))).alloc (.loop lo), { target := .fn (.func g) cv.toArray, args := #[.func (.yield (w.heap.size + 1)) #[] #[]] }, (w.alloc (.deferred (some []))).alloc (.loop lo), g, (.func (.yield (w.heap.size + 1)) #[] #[] :: cv).toArray, (w.alloc (.deferred (some []))).alloc (.loop lo),
            run_enterLoop_outer fn a.tmps ps assign body, ?_, fun _ _ => trivial, ?_, fun h => by simp [FW] at h, ?_⟩
          · simp only [resolve, hfv]
            simp [Deferred.ofValue, go_sem]
          · simp only [invoke]
            rw [callFunc_run hen]
            simp
          · refine (hcall _ _ _ b2 hargs none (n - 1)).mono ?_
            rintro en w2 ⟨v, m2, rfl, j1, j2, j3⟩
            split at hev
            · rename_i r2 hr2
              split at hev
              · cases hev
              · rename_i hst
                simp only [Option.some.injEq] at hev; subst hev
                obtain ⟨lo2, q1, q2, q3, q4, q5, q6, q7, q8, q9⟩ := j1.lrs _ r2 hr2
                have hla : m2.la σ.ls.length = w.heap.size + 1 := by
                  rw [j3.la _ (by simp [St.addL])]
                  simp [Mt.addL]
                rw [hla] at q1
                have hend := run_endLoop (P := P) q1 (by rw [q7]; cases hh : r2.st <;> simp_all [stR])
                have hsr : SR (CRP P eqs) m2 (setL y.2 σ.ls.length { r2 with st := .gone }) (w2.putObj (m2.la σ.ls.length) (.loop { lo2 with state := .exhausted })) :=
                  setL_sr (lo0 := lo2) j1 hr2 (by rw [hla]; exact q1) rfl rfl rfl rfl rfl rfl rfl rfl rfl q8 q9
                have hxt := setL_xt j1 (List.getElem?_eq_some_iff.1 hr2).1 { r2 with st := .gone } (.loop { lo2 with state := .exhausted })
                rw [hla] at hsr hxt
                have xall := x12.trans (j3.trans hxt)
                have hAt : At (CRP P eqs) m0 σ0 w0 a0 m2 e (setL y.2 σ.ls.length { r2 with st := .gone }) { a with defers := [markOf w.heap.size] ++ a.defers } (w2.putObj (w.heap.size + 1) (.loop { lo2 with state := .exhausted })) :=
                  ⟨hsr, xall.re hA.sr hA.re, hA.xt.trans xall, hA.sz, hmark.xt (j3.trans hxt)⟩
                have hpd : r2.pend = none ∨ ∃ ex, r2.pend = some ex := by cases r2.pend <;> simp
                rcases hpd with hpd | ⟨ex, hpd⟩
                · have hj : lo2.pending = none := by rw [q8, hpd]; rfl
                  exact ⟨none, w2.putObj (w.heap.size + 1) (.loop { lo2 with state := .exhausted }), hend.trans (by rw [hj]), by rw [hpd]; rfl, m2, hAt⟩
                · have hj : lo2.pending = some (exC ex) := by rw [q8, hpd]; rfl
                  refine ⟨some (exC ex), w2.putObj (w.heap.size + 1) (.loop { lo2 with state := .exhausted }), hend.trans (by rw [hj]), ?_⟩
                  cases ex with
                  | norm => exact absurd hpd q9
                  | exit id => exact wpIn_exit ⟨by rw [hpd]; rfl, m2, hAt⟩
                  | ret => exact wpIn_ret ⟨by rw [hpd]; rfl, m2, hAt⟩
            · cases hev
        · cases hev
    · cases hc
  | .goto _, c, m, e, σ, a, w, x, hc, hev, hA => by simp [ccC] at hc
  | .label _, c, m, e, σ, a, w, x, hc, hev, hA => by simp [ccC] at hc
  | .scope _, c, m, e, σ, a, w, x, hc, hev, hA => by simp [ccC] at hc
  | .refuse _, c, m, e, σ, a, w, x, hc, hev, hA => by simp [ccC] at hc
end

end Go.Fx
