import Derived.Test.YtkpfjolcmkikeaaFx7
import Derived.Laws.OwnMore
set_option linter.unusedSimpArgs false
set_option linter.unusedVariables false
/-
  Steps of the store: a new block, a block given up, a block written.
-/
namespace Go.Fx
open Go.RowKit

section
variable {P : Program} {eqs : List (TypeId × List Nat)} {CR : Nat → Code → C → Prop} {m m' : Mt} {σ σ' : St} {w w' : World} {e : Env} {a : Act}

theorem BR.xt (h : SR CR m σ w) (x : Xt m σ w m' σ' w') {s : Key} {b : Blk} (hb : BR m σ w s b) (hm : m'.mu s = m.mu s) (hk : ∀ B c, m.mu s = some (B, c) → w'.heap[B]? = w.heap[B]?) : BR m' σ' w' s b := by
  cases b with
  | var cs =>
    rcases hb with h1 | ⟨B, T, vs, h1, h2, h3⟩
    · exact .inl (hm.trans h1)
    · exact .inr ⟨B, T, vs, hm.trans h1, (hk B 0 h1).trans h2, h3.imp fun _ _ hx => x.ra h hx⟩
  | row k e rows =>
    obtain ⟨h0, h1, h2⟩ := hb
    refine ⟨h0, h1, ?_⟩
    rcases h2 with ⟨h3, h4⟩ | ⟨B, c, cur, h3, h4, h5, h6, h7, h8⟩
    · exact .inl ⟨hm.trans h3, h4⟩
    · exact .inr ⟨B, c, cur, hm.trans h3, (hk B c h3).trans h4, h5, h6, h7, fun i r j p hr hp => let ⟨v, hv, hp'⟩ := h8 i r j p hr hp; ⟨v, hv, x.rp h hp'⟩⟩

theorem LR.xt (h : SR CR m σ w) (x : Xt m σ w m' σ' w') {l : Nat} {r : LRec} (hl : LR CR m σ w l r) (hll : l < σ.ls.length) (hk : w'.heap[m.la l]? = w.heap[m.la l]?) : LR CR m' σ' w' l r := by
  obtain ⟨lo, h1, h2, h3⟩ := hl
  exact ⟨lo, by rw [x.la l hll, hk]; exact h1, x.re h h2, h3⟩

/-- The relation, behind a step that leaves the loops' records alone. -/
theorem SR.step (h : SR CR m σ w) (x : Xt m σ w m' σ' w')
    (hb : ∀ s b, σ'.bs s = some b → BR m' σ' w' s b ∨ (σ.bs s = some b ∧ m'.mu s = m.mu s ∧ ∀ B c, m.mu s = some (B, c) → w'.heap[B]? = w.heap[B]?))
    (hgen : ∀ s b, σ'.bs s = some b → s.2 < σ'.clk)
    (hinj : ∀ s s' b b' B c c', σ'.bs s = some b → σ'.bs s' = some b' → m'.mu s = some (B, c) → m'.mu s' = some (B, c') → s = s')
    (hdj : ∀ b, InS m' σ' b → ¬ m'.D b) (hdlt : ∀ b, m'.D b → b < w'.heap.size) (hls : σ'.ls = σ.ls) (hla : ∀ l, l < σ.ls.length → w'.heap[m.la l]? = w.heap[m.la l]?) : SR CR m' σ' w' where
  blk s b hs := by
    rcases hb s b hs with h1 | ⟨h1, h2, h3⟩
    · exact h1
    · exact BR.xt h x (h.blk s b h1) h2 h3
  gen := hgen
  inj := hinj
  dj := hdj
  dlt := hdlt
  lrs l r hl := by
    rw [hls] at hl
    have hll : l < σ.ls.length := (List.getElem?_eq_some_iff.1 hl).1
    exact LR.xt h x (h.lrs l r hl) hll (hla l hll)
  linj l l' h1 h2 h3 := by
    rw [hls] at h1 h2
    rw [x.la l h1, x.la l' h2] at h3
    exact h.linj l l' h1 h2 h3

/-- A loop's record is no row of cells. -/
theorem SR.loop_ne (h : SR CR m σ w) {s : Key} {b : Blk} {B c : Nat} (hs : σ.bs s = some b) (hm : m.mu s = some (B, c)) {l : Nat} (hl : l < σ.ls.length) : m.la l ≠ B := by
  intro e
  obtain ⟨lo, h1, _⟩ := h.lrs l _ (List.getElem?_eq_getElem hl)
  rw [e] at h1
  have hb := h.blk s b hs
  cases b with
  | var cs => obtain ⟨B', T, vs, h2, h3, _⟩ := hb.resolve_left (by rw [hm]; simp); rw [hm] at h2; cases h2; rw [h1] at h3; cases h3
  | row k e rows =>
    obtain ⟨_, _, ⟨h2, _⟩ | ⟨B', c', cur, h2, h3, _⟩⟩ := hb
    · rw [hm] at h2; cases h2
    · rw [hm] at h2; cases h2; rw [h1] at h3; cases h3

/-- A new block of the call's own. -/
def Mt.add (m : Mt) (s : Key) (v : Option (Nat × Nat)) : Mt := { m with mu := fun t => if t = s then v else m.mu t }

theorem add_xt (h : SR CR m σ w) (d : Nat) (blk : Blk) (o : Obj) (c : Nat) : Xt m σ w (m.add (d, σ.clk) (some (w.heap.size, c))) (σ.add d blk) (w.alloc o) where
  mu s hs := by simp only [Mt.add]; rw [if_neg]; intro e; subst e; simp at hs
  la l hl := rfl
  clk := by simp [St.add]
  len := Nat.le_refl _
  bs s b' hs hc := by
    simp only [St.add, St.put] at hs
    rw [if_neg (by intro e; subst e; simp at hc)] at hs
    exact ⟨b', hs, sameShape.refl _⟩
  D b hb := hb
  new b hb := .inl hb
  img b hb := by
    rcases hb with ⟨s, bl, c', hs, hm⟩ | ⟨l, hl, e⟩
    · simp only [St.add, St.put] at hs
      simp only [Mt.add] at hm
      by_cases e : s = (d, σ.clk)
      · rw [if_pos e] at hm; simp only [Option.some.injEq, Prod.mk.injEq] at hm; exact .inr (by omega)
      · rw [if_neg e] at hs hm; exact .inl (.inl ⟨s, bl, c', hs, hm⟩)
    · exact .inl (.inr ⟨l, hl, e⟩)
  kept b hb hn := Below.heap_alloc w o b hb
  os := rfl
  tape := rfl
  output := rfl
  size := by simp

theorem add_sr (h : SR CR m σ w) (d : Nat) (blk : Blk) (o : Obj) (c : Nat) (hB : BR (m.add (d, σ.clk) (some (w.heap.size, c))) (σ.add d blk) (w.alloc o) (d, σ.clk) blk) :
    SR CR (m.add (d, σ.clk) (some (w.heap.size, c))) (σ.add d blk) (w.alloc o) := by
  have x := add_xt h d blk o c
  have old : ∀ s b, (σ.add d blk).bs s = some b → s ≠ (d, σ.clk) → σ.bs s = some b ∧ (m.add (d, σ.clk) (some (w.heap.size, c))).mu s = m.mu s := by
    intro s b hs e
    simp only [St.add, St.put] at hs
    rw [if_neg e] at hs
    exact ⟨hs, by simp [Mt.add, e]⟩
  refine SR.step h x ?_ ?_ ?_ ?_ ?_ rfl ?_
  · intro s b hs
    by_cases e : s = (d, σ.clk)
    · subst e
      simp only [St.add, St.put, if_true, Option.some.injEq] at hs
      subst hs; exact .inl hB
    · obtain ⟨h1, h2⟩ := old s b hs e
      exact .inr ⟨h1, h2, fun B c' hm => Below.heap_alloc w o B (h.inS_lt (.inl ⟨s, b, c', h1, hm⟩))⟩
  · intro s b hs
    by_cases e : s = (d, σ.clk)
    · subst e; simp [St.add]
    · have := h.gen s b (old s b hs e).1; simp [St.add]; omega
  · intro s s' b b' B c1 c2 hs hs' hm hm'
    by_cases e : s = (d, σ.clk) <;> by_cases e' : s' = (d, σ.clk)
    · rw [e, e']
    · obtain ⟨h1, h2⟩ := old s' b' hs' e'
      rw [h2] at hm'
      simp only [Mt.add, e, if_true, Option.some.injEq, Prod.mk.injEq] at hm
      have := h.inS_lt (.inl ⟨s', b', c2, h1, hm'⟩)
      omega
    · obtain ⟨h1, h2⟩ := old s b hs e
      rw [h2] at hm
      simp only [Mt.add, e', if_true, Option.some.injEq, Prod.mk.injEq] at hm'
      have := h.inS_lt (.inl ⟨s, b, c1, h1, hm⟩)
      omega
    · obtain ⟨h1, h2⟩ := old s b hs e
      obtain ⟨h3, h4⟩ := old s' b' hs' e'
      rw [h2] at hm; rw [h4] at hm'
      exact h.inj s s' b b' B c1 c2 h1 h3 hm hm'
  · intro b hb hD
    rcases x.img b hb with h1 | h1
    · exact h.dj b h1 hD
    · have := h.dlt b hD; omega
  · intro b hb
    have := h.dlt b hb; simp; omega
  · intro l hl
    exact Below.heap_alloc w o _ (h.inS_lt (.inr ⟨l, hl, rfl⟩))

/-- A block of the call's own is given up: it may be read, and is never written again. -/
def Mt.kill (m : Mt) (σ : St) (s : Key) : Mt := { m with D := DK m σ s }

theorem kill_ok (h : SR CR m σ w) (s : Key) : SR CR (m.kill σ s) (σ.kill s) w ∧ Xt m σ w (m.kill σ s) (σ.kill s) w := by
  have hbs : ∀ t b, (σ.kill s).bs t = some b → t ≠ s ∧ σ.bs t = some b := by
    intro t b ht
    simp only [St.kill] at ht
    by_cases e : t = s
    · rw [if_pos e] at ht; cases ht
    · rw [if_neg e] at ht; exact ⟨e, ht⟩
  have img : ∀ b, InS (m.kill σ s) (σ.kill s) b → InS m σ b := by
    intro b hb
    rcases hb with ⟨t, bl, c, ht, hm⟩ | ⟨l, hl, e⟩
    · exact .inl ⟨t, bl, c, (hbs t bl ht).2, hm⟩
    · exact .inr ⟨l, hl, e⟩
  have x : Xt m σ w (m.kill σ s) (σ.kill s) w :=
    { mu := fun _ _ => rfl, la := fun _ _ => rfl, clk := Nat.le_refl _, len := Nat.le_refl _
      bs := fun t b ht _ => ⟨b, (hbs t b ht).2, sameShape.refl _⟩
      D := fun b hb => .inl hb
      new := fun b hb => by
        rcases hb with hb | ⟨bl, c, h1, h2⟩
        · exact .inl hb
        · exact .inr (.inr (.inl ⟨s, bl, c, h1, h2⟩))
      img := fun b hb => .inl (img b hb)
      kept := fun _ _ _ => rfl, os := rfl, tape := rfl, output := rfl, size := Nat.le_refl _ }
  refine ⟨SR.step h x (fun t b ht => .inr ⟨(hbs t b ht).2, rfl, fun _ _ _ => rfl⟩) (fun t b ht => h.gen t b (hbs t b ht).2)
    (fun t t' b b' B c c' h1 h2 h3 h4 => h.inj t t' b b' B c c' (hbs t b h1).2 (hbs t' b' h2).2 h3 h4) ?_ ?_ rfl (fun _ _ => rfl), x⟩
  · intro b hb hD
    rcases hD with hD | ⟨bl, c, h1, h2⟩
    · exact h.dj b (img b hb) hD
    · rcases hb with ⟨t, bl', c', ht, hm⟩ | ⟨l, hl, e⟩
      · exact (hbs t bl' ht).1 (h.inj t s bl' bl b c' c (hbs t bl' ht).2 h1 hm h2)
      · exact h.loop_ne h1 h2 hl e
  · intro b hb
    rcases hb with hb | ⟨bl, c, h1, h2⟩
    · exact h.dlt b hb
    · exact h.inS_lt (.inl ⟨s, bl, c, h1, h2⟩)

theorem klA_ok (h : SR CR m σ w) (x : AV) : ∃ m', SR CR m' (klA σ x) w ∧ Xt m σ w m' (klA σ x) w ∧ ∀ b, DA m σ x b → m'.D b := by
  cases x with
  | own s off len => exact ⟨_, (kill_ok h s).1, (kill_ok h s).2, fun b hb => hb⟩
  | _ => exact ⟨m, h, Xt.refl _ _ _, fun b hb => hb⟩

/-- what was frozen stays frozen, when it is given up -/
theorem klL_ok : ∀ {xs : List AV} {m : Mt} {σ : St}, SR CR m σ w → ∃ m', SR CR m' (klL σ xs) w ∧ Xt m σ w m' (klL σ xs) w ∧
    ∀ x, x ∈ xs → ∀ p v, RA m σ w x v → frA σ x = some p → RP w m'.D p v
  | [], m, σ, h => ⟨m, h, Xt.refl _ _ _, fun x hx => by simp at hx⟩
  | x :: xs, m, σ, h => by
    obtain ⟨m1, h1, x1, d1⟩ := klA_ok h x
    obtain ⟨m2, h2, x2, d2⟩ := klL_ok (xs := xs) h1
    refine ⟨m2, h2, x1.trans x2, fun y hy p v hr hf => ?_⟩
    have first : (∀ b, DA m σ y b → m1.D b) → RP w m2.D p v := fun hd =>
      RP.mono (fun b hb => ⟨x2.D b (hd b hb), rfl⟩) (frA_fine h hr hf)
    by_cases hsame : ∀ b, DA m σ y b → m1.D b
    · exact first hsame
    · -- y is a slice of another block
      have hy' : y ∈ xs := by
        rcases List.mem_cons.1 hy with rfl | hy'
        · exact absurd d1 hsame
        · exact hy'
      refine d2 y hy' p v (x1.ra h hr) ?_
      cases y with
      | own s off len =>
        cases x with
        | own s' off' len' =>
          by_cases e : s = s'
          · subst e; exact absurd d1 hsame
          · simp only [frA, klA, St.kill] at hf ⊢
            rw [if_neg e]; exact hf
        | _ => exact hf
      | raw c =>
        exact hf
      | _ => simp [frA] at hf ⊢ <;> exact hf

theorem frL_F2 {xs : List AV} {ps : List PV} (h : frL σ xs = some ps) : F2 (fun x p => frA σ x = some p) xs ps := by
  induction xs generalizing ps with
  | nil => simp [frL] at h; subst h; exact .nil
  | cons x xs ih =>
    simp only [frL] at h
    obtain ⟨v, h1, h⟩ := bindO h
    obtain ⟨vs, h2, h⟩ := bindO h
    simp only [Option.some.injEq] at h; subst h
    exact .cons h1 (ih h2)

theorem F2_comp {α β γ : Type} {R : α → β → Prop} {T : α → γ → Prop} {U : β → γ → Prop} : ∀ {as : List α} {bs : List β} {cs : List γ}, (∀ a b c, a ∈ as → R a b → T a c → U b c) → F2 R as bs → F2 T as cs → F2 U bs cs
  | _, _, _, _, .nil, .nil => .nil
  | _, _, _, h, .cons x t, .cons y t' => .cons (h _ _ _ (by simp) x y) (F2_comp (fun a b c ha => h a b c (by simp [ha])) t t')

/-- cells, frozen and given up -/
theorem fkL_ok (h : SR CR m σ w) {xs : List AV} {ps : List PV} {vs : List Value} (hr : F2 (RA m σ w) xs vs) (hf : frL σ xs = some ps) :
    ∃ m', SR CR m' (klL σ xs) w ∧ Xt m σ w m' (klL σ xs) w ∧ F2 (RP w m'.D) ps vs := by
  obtain ⟨m', h1, x1, d1⟩ := klL_ok (xs := xs) h
  exact ⟨m', h1, x1, F2_comp (fun x p v hx a b => d1 x hx p v b a) (frL_F2 hf) hr⟩

theorem klA_clk (x : AV) : (klA σ x).clk = σ.clk := by cases x <;> rfl
theorem klL_clk : ∀ (xs : List AV) (σ : St), (klL σ xs).clk = σ.clk
  | [], _ => rfl
  | x :: xs, σ => by simp only [klL]; rw [klL_clk xs, klA_clk]
end

end Go.Fx
