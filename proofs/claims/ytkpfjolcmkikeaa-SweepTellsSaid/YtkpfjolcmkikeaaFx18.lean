import Derived.Test.YtkpfjolcmkikeaaFx17
import Derived.RangeFuncLeaves
set_option linter.unusedSimpArgs false
set_option linter.unusedVariables false
/-
  What lies beside: blocks that are none of the call's own values; the records of ranges over functions.
-/
namespace Go.Fx
open Go.RowKit

section
variable {P : Program} {eqs : List (TypeId × List Nat)} {CR : Nat → Code → C → Prop} {m m' : Mt} {σ σ' : St} {w w' : World} {e e' : Env} {a : Act}

theorem RP.world (h : ∀ b, m.D b → w'.heap[b]? = w.heap[b]?) {p : PV} {v : Value} (hp : RP w m.D p v) : RP w' m.D p v := RP.mono (fun b hb => ⟨hb, h b hb⟩) hp

theorem RA.world (h : ∀ b, m.D b → w'.heap[b]? = w.heap[b]?) {x : AV} {v : Value} (hx : RA m σ w x v) : RA m σ w' x v := by
  cases x with
  | p y => exact RP.world h hx
  | cptr r j =>
    obtain ⟨B, o, vals, hD, hv, hr⟩ := hx
    exact ⟨B, o, vals, hD, hv, fun i c hc => ⟨(World.cell?_of_block (w := w) (a := ⟨B, _, none⟩) (h B hD)).trans (hr i c hc).1, RP.world h (hr i c hc).2⟩⟩
  | _ => exact hx

theorem RT.world (h : ∀ b, m.D b → w'.heap[b]? = w.heap[b]?) {t : TV} {v : Value} (hx : RT m σ w t v) : RT m σ w' t v := hx.imp fun _ _ => RA.world h

/-- other blocks turned -/
theorem SR.world (h : SR CR m σ w) (hD : ∀ b, m.D b → w'.heap[b]? = w.heap[b]?) (hI : ∀ b, InS m σ b → w'.heap[b]? = w.heap[b]?) (hs : w.heap.size ≤ w'.heap.size) : SR CR m σ w' where
  blk s b hs := by
    have hb := h.blk s b hs
    cases b with
    | var cs =>
      rcases hb with h1 | ⟨B, T, vs, h1, h2, h3⟩
      · exact .inl h1
      · exact .inr ⟨B, T, vs, h1, (hI B (.inl ⟨s, _, 0, hs, h1⟩)).trans h2, h3.imp fun _ _ => RA.world hD⟩
    | row k e rows =>
      obtain ⟨h0, h1, h2⟩ := hb
      refine ⟨h0, h1, ?_⟩
      rcases h2 with h3 | ⟨B, c, cur, h3, h4, h5, h6, h7, h8⟩
      · exact .inl h3
      · exact .inr ⟨B, c, cur, h3, (hI B (.inl ⟨s, _, c, hs, h3⟩)).trans h4, h5, h6, h7, fun i r j p hr hp => let ⟨v, hv, hp'⟩ := h8 i r j p hr hp; ⟨v, hv, RP.world hD hp'⟩⟩
  gen := h.gen
  inj := h.inj
  dj := h.dj
  dlt b hb := Nat.lt_of_lt_of_le (h.dlt b hb) hs
  lrs l r hl := by
    obtain ⟨lo, h1, h2, h3⟩ := h.lrs l r hl
    exact ⟨lo, (hI _ (.inr ⟨l, (List.getElem?_eq_some_iff.1 hl).1, rfl⟩)).trans h1, fun n => RT.world hD (h2 n), h3⟩
  linj := h.linj

theorem alloc_beside (h : SR CR m σ w) (o : Obj) : SR CR m σ (w.alloc o) ∧ Xt m σ w m σ (w.alloc o) := by
  have hk : ∀ b, b < w.heap.size → (w.alloc o).heap[b]? = w.heap[b]? := fun b hb => Below.heap_alloc w o b hb
  refine ⟨h.world (fun b hb => hk b (h.dlt b hb)) (fun b hb => hk b (h.inS_lt hb)) (by simp), ?_⟩
  exact { mu := fun _ _ => rfl, la := fun _ _ => rfl, clk := Nat.le_refl _, len := Nat.le_refl _
          bs := fun s b hs _ => ⟨b, hs, sameShape.refl _⟩
          D := fun _ hb => hb, new := fun _ hb => .inl hb, img := fun _ hb => .inl hb
          kept := fun b hb _ => hk b hb, os := rfl, tape := rfl, output := rfl, size := by simp }

/-- a block beside is turned -/
theorem put_beside (h : SR CR m σ w) {r : Nat} (o : Obj) (hD : ¬ m.D r) (hI : ¬ InS m σ r) : SR CR m σ (w.putObj r o) :=
  h.world (fun b hb => World.putObj_heap_other (by rintro rfl; exact hD hb)) (fun b hb => World.putObj_heap_other (by rintro rfl; exact hI hb)) (by simp)

theorem Xt.put {m0 : Mt} {σ0 : St} {w0 : World} (x : Xt m0 σ0 w0 m σ w) {r : Nat} (o : Obj) (hr : w0.heap.size ≤ r) : Xt m0 σ0 w0 m σ (w.putObj r o) :=
  { x with
    kept := fun b hb hn => (World.putObj_heap_other (by omega)).trans (x.kept b hb hn)
    os := x.os, tape := x.tape, output := x.output, size := by simpa using x.size }

/-! ### a record more -/
def Mt.addL (m : Mt) (l B : Nat) : Mt := { m with la := fun k => if k = l then B else m.la k }
def St.addL (σ : St) (r : LRec) : St := { σ with ls := σ.ls ++ [r] }

theorem addL_xt (h : SR CR m σ w) (r : LRec) (o : Obj) : Xt m σ w (m.addL σ.ls.length w.heap.size) (σ.addL r) (w.alloc o) where
  mu _ _ := rfl
  la l hl := by simp only [Mt.addL]; rw [if_neg (by omega)]
  clk := Nat.le_refl _
  len := by simp [St.addL]
  bs s b hs _ := ⟨b, hs, sameShape.refl _⟩
  D _ hb := hb
  new _ hb := .inl hb
  img b hb := by
    rcases hb with hb | ⟨l, hl, e⟩
    · exact .inl (.inl hb)
    · simp only [St.addL, List.length_append, List.length_singleton] at hl
      by_cases e' : l = σ.ls.length
      · subst e'; simp only [Mt.addL, if_true] at e; exact .inr (by omega)
      · simp only [Mt.addL, if_neg e'] at e; exact .inl (.inr ⟨l, by omega, e⟩)
  kept b hb _ := Below.heap_alloc w o b hb
  os := rfl
  tape := rfl
  output := rfl
  size := by simp

theorem addL_sr (h : SR CR m σ w) {r : LRec} {lo : Loop} (hr : LR CR (m.addL σ.ls.length w.heap.size) (σ.addL r) (w.alloc (.loop lo)) σ.ls.length r) :
    SR CR (m.addL σ.ls.length w.heap.size) (σ.addL r) (w.alloc (.loop lo)) := by
  have x := addL_xt h r (.loop lo)
  have hk : ∀ b, b < w.heap.size → (w.alloc (.loop lo)).heap[b]? = w.heap[b]? := fun b hb => Below.heap_alloc w _ b hb
  refine { blk := fun s b hs => ?_, gen := h.gen, inj := h.inj, dj := fun b hb hD => ?_, dlt := fun b hb => Nat.lt_of_lt_of_le (h.dlt b hb) (by simp), lrs := fun l r' hl => ?_, linj := fun l l' h1 h2 h3 => ?_ }
  · exact BR.xt h x (h.blk s b hs) rfl fun B c hm => hk B (h.inS_lt (.inl ⟨s, b, c, hs, hm⟩))
  · rcases x.img b hb with h1 | h1
    · exact h.dj b h1 hD
    · have := h.dlt b hD; omega
  · by_cases e : l = σ.ls.length
    · subst e
      simp only [St.addL, List.getElem?_append_right (Nat.le_refl _), Nat.sub_self, List.getElem?_cons_zero, Option.some.injEq] at hl
      subst hl; exact hr
    · have hlt : l < σ.ls.length := by
        have := (List.getElem?_eq_some_iff.1 hl).1
        simp only [St.addL, List.length_append, List.length_singleton] at this
        omega
      have hl' : σ.ls[l]? = some r' := by
        simp only [St.addL] at hl
        rw [List.getElem?_append_left hlt] at hl; exact hl
      exact LR.xt h x (h.lrs l r' hl') hlt (hk _ (h.inS_lt (.inr ⟨l, hlt, rfl⟩)))
  · simp only [St.addL, List.length_append, List.length_singleton] at h1 h2
    simp only [Mt.addL] at h3
    by_cases e : l = σ.ls.length <;> by_cases e' : l' = σ.ls.length
    · omega
    · rw [if_pos e, if_neg e'] at h3
      have := h.inS_lt (b := m.la l') (.inr ⟨l', by omega, rfl⟩); omega
    · rw [if_neg e, if_pos e'] at h3
      have := h.inS_lt (b := m.la l) (.inr ⟨l, by omega, rfl⟩); omega
    · rw [if_neg e, if_neg e'] at h3
      exact h.linj l l' (by omega) (by omega) h3

/-! ### a record turned -/
theorem setL_xt (h : SR CR m σ w) {l : Nat} (hl : l < σ.ls.length) (r : LRec) (o : Obj) : Xt m σ w m (setL σ l r) (w.putObj (m.la l) o) where
  mu _ _ := rfl
  la _ _ := rfl
  clk := Nat.le_refl _
  len := by simp [setL]
  bs s b hs _ := ⟨b, hs, sameShape.refl _⟩
  D _ hb := hb
  new _ hb := .inl hb
  img b hb := by
    rcases hb with hb | ⟨k, hk, e⟩
    · exact .inl (.inl hb)
    · exact .inl (.inr ⟨k, by simpa [setL] using hk, e⟩)
  kept b hb hn := World.putObj_heap_other (by rintro rfl; exact hn (.inr ⟨l, hl, rfl⟩))
  os := rfl
  tape := rfl
  output := rfl
  size := by simp

theorem setL_sr (h : SR CR m σ w) {l : Nat} {r0 r : LRec} {lo0 lo : Loop} (hl : σ.ls[l]? = some r0) (h0 : w.heap[m.la l]? = some (.loop lo0)) (he : r.env = r0.env) (hp : r.params = r0.params) (ha : r.assign = r0.assign) (hb : r.body = r0.body)
    (k1 : lo.tmps = lo0.tmps) (k2 : lo.params = lo0.params) (k3 : lo.assign = lo0.assign) (k4 : lo.body = lo0.body) (k5 : lo.state = stR r.st) (k6 : lo.pending = r.pend.map exC) (k7 : r.pend ≠ some .norm) :
    SR CR m (setL σ l r) (w.putObj (m.la l) (.loop lo)) := by
  have hll : l < σ.ls.length := (List.getElem?_eq_some_iff.1 hl).1
  have x := setL_xt h hll r (.loop lo)
  have hin : m.la l < w.heap.size := h.inS_lt (.inr ⟨l, hll, rfl⟩)
  refine { blk := fun s b hs => ?_, gen := h.gen, inj := h.inj, dj := fun b hb hD => ?_, dlt := fun b hb => by simpa using h.dlt b hb, lrs := fun k r' hk => ?_, linj := fun k k' h1 h2 h3 => ?_ }
  · exact BR.xt h x (h.blk s b hs) rfl fun B c hm => World.putObj_heap_other (fun e => h.loop_ne hs hm hll e.symm)
  · rcases x.img b hb with h1 | h1
    · exact h.dj b h1 hD
    · have := h.dlt b hD; omega
  · by_cases e : k = l
    · subst e
      simp only [setL] at hk
      rw [List.getElem?_set_self hll] at hk
      simp only [Option.some.injEq] at hk; subst hk
      obtain ⟨lo', g1, g2, g3, g4, g5, g6, _⟩ := h.lrs k r0 hl
      rw [h0] at g1; simp only [Option.some.injEq, Obj.loop.injEq] at g1; subst g1
      refine ⟨lo, World.putObj_heap_same hin, ?_, by rw [k2, hp]; exact g3, by rw [k1, hp]; exact g4, by rw [k1, k3, ha]; exact g5, by rw [k1, k4, hb]; exact g6, k5, k6, k7⟩
      rw [he, k1]; exact x.re h g2
    · have hk' : σ.ls[k]? = some r' := by
        simp only [setL] at hk
        rwa [List.getElem?_set_ne (Ne.symm e)] at hk
      have hkl : k < σ.ls.length := (List.getElem?_eq_some_iff.1 hk').1
      exact LR.xt h x (h.lrs k r' hk') hkl (World.putObj_heap_other fun e' => e (h.linj k l hkl hll e'))
  · simp only [setL, List.length_set] at h1 h2
    exact h.linj k k' h1 h2 h3

/-! ### loops by rounds -/
theorem least {p : Nat → Prop} (h : ∃ k, p k) : ∃ k, p k ∧ ∀ j, p j → k ≤ j := by
  obtain ⟨k, hk⟩ := h
  induction k using Nat.strongRecOn with
  | _ k ih =>
    by_cases hc : ∃ j, j < k ∧ p j
    · obtain ⟨j, hj, hp⟩ := hc; exact ih j hj hp
    · refine ⟨k, hk, fun j hj => ?_⟩
      rcases Nat.lt_or_ge j k with h | h
      · exact absurd ⟨j, h, hj⟩ hc
      · exact h

theorem wpIn_loop_fuel {F : Fence} {n : Nat} {c : Code} {Q : Exit → Act → World → Prop} (R : Nat → Act → World → Prop) {k : Nat} {a : Act} {w : World} (h0 : R k a w)
    (hstep : ∀ k a w, R k a w → c.wpIn F n P (Exit.then (fun a' w' => ∃ j, j < k ∧ R j a' w') Q) a w) : (Code.loop c).wpIn F n P Q a w := by
  have hex : ∀ a w, (∃ k, R k a w) → ∃ k, R k a w ∧ ∀ j, R j a w → k ≤ j := fun a w h => least h
  let μ : Act → World → Nat := fun a w => open Classical in if h : ∃ k, R k a w then Classical.choose (hex a w h) else 0
  have hμ : ∀ a w (h : ∃ k, R k a w), R (μ a w) a w ∧ ∀ j, R j a w → μ a w ≤ j := by
    intro a w h
    have : μ a w = Classical.choose (hex a w h) := dif_pos h
    rw [this]; exact Classical.choose_spec (hex a w h)
  refine wpIn_loop (fun a w => ∃ k, R k a w) μ ⟨k, h0⟩ fun a w h => ?_
  obtain ⟨h1, h2⟩ := hμ a w h
  refine Code.wpIn_mono (fun e a' w' q => ?_) (hstep _ a w h1)
  cases e with
  | normal =>
    obtain ⟨j, hj, hR⟩ := q
    exact ⟨⟨j, hR⟩, Nat.lt_of_le_of_lt ((hμ a' w' ⟨j, hR⟩).2 j hR) hj⟩
  | _ => exact q

/-! ### the end of a function -/
/-- the marks are taken: nothing was deferred -/
theorem marks_leave {F : Fence} {n : Nat} {fn : Func} {tmps : Array Value} {R : Ending → World → Prop} {m0 : Mt} {σ0 : St} {w0 : World} :
    ∀ {rs : List Nat} {w : World}, rs.Nodup → (∀ r, r ∈ rs → w0.heap.size ≤ r ∧ w.heap[r]? = some (.deferred (some [])) ∧ ¬ InS m σ r ∧ ¬ m.D r) → SR CR m σ w → Xt m0 σ0 w0 m σ w →
      (∀ w', SR CR m σ w' → Xt m0 σ0 w0 m σ w' → (∀ x v, RT m σ w x v → RT m σ w' x v) → ∃ v, (results fn tmps).run P w' = .ok v w' ∧ R (.returned v) w') → LeavesInM F n P fn tmps R (rs.map markOf) .returning w
  | [], w, _, _, hR, hx, hfin => hfin w hR hx fun _ _ h => h
  | r :: rs, w, hn, hm, hR, hx, hfin => by
    obtain ⟨k1, k2, k3, k4⟩ := hm r (by simp)
    obtain ⟨hnr, hn'⟩ := List.nodup_cons.1 hn
    refine ⟨by simp, .inl ⟨r, w.putObj r (.deferred none), rfl, run_takeDeferred k2, ?_⟩⟩
    have hR' := put_beside (o := .deferred none) hR k4 k3
    have hx' := hx.put (.deferred none) k1
    refine marks_leave hn' (fun q hq => ?_) hR' hx' fun w' g1 g2 g3 => hfin w' g1 g2 fun x v h => g3 x v (RT.world (fun b hb => World.putObj_heap_other (by rintro rfl; exact k4 hb)) h)
    obtain ⟨j1, j2, j3, j4⟩ := hm q (by simp [hq])
    exact ⟨j1, (World.putObj_heap_other (by rintro rfl; exact hnr hq)).trans j2, j3, j4⟩
end

end Go.Fx
