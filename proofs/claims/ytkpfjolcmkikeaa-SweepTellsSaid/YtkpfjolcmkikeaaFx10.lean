import Derived.Test.YtkpfjolcmkikeaaFx9
set_option linter.unusedSimpArgs false
set_option linter.unusedVariables false
/-
  Stores and appends.
-/
namespace Go.Fx
open Go.RowKit

section
variable {P : Program} {eqs : List (TypeId × List Nat)} {CR : Nat → Code → C → Prop} {m m' : Mt} {σ σ' : St} {w w' : World} {e : Env} {a : Act}

/-- A block of the call's own is written. -/
theorem wr_xt (h : SR CR m σ w) {s : Key} {blk blk' : Blk} {B c : Nat} (hs : σ.bs s = some blk) (hm : m.mu s = some (B, c)) (hsh : sameShape blk blk') (cur : Array Value) : Xt m σ w m (σ.put s blk') (w.setRow B cur) where
  mu _ _ := rfl
  la _ _ := rfl
  clk := Nat.le_refl _
  len := Nat.le_refl _
  bs t b' ht _ := by
    simp only [St.put] at ht
    by_cases e : t = s
    · rw [if_pos e] at ht; simp only [Option.some.injEq] at ht; subst ht; subst e; exact ⟨blk, hs, hsh⟩
    · rw [if_neg e] at ht; exact ⟨b', ht, sameShape.refl _⟩
  D _ hb := hb
  new _ hb := .inl hb
  img b hb := by
    rcases hb with ⟨t, bl, c', ht, hm'⟩ | hl
    · simp only [St.put] at ht
      by_cases e : t = s
      · subst e; exact .inl (.inl ⟨t, blk, c', hs, hm'⟩)
      · rw [if_neg e] at ht; exact .inl (.inl ⟨t, bl, c', ht, hm'⟩)
    · exact .inl (.inr hl)
  kept b hb hn := setRow_other w B b cur (fun e => hn (.inl ⟨s, blk, c, hs, e ▸ hm⟩))
  os := rfl
  tape := rfl
  output := rfl
  size := by simp

theorem wr_sr (h : SR CR m σ w) {s : Key} {blk blk' : Blk} {B c : Nat} (hs : σ.bs s = some blk) (hm : m.mu s = some (B, c)) (hsh : sameShape blk blk') (cur : Array Value)
    (hB : BR m (σ.put s blk') (w.setRow B cur) s blk') : SR CR m (σ.put s blk') (w.setRow B cur) := by
  have x := wr_xt h hs hm hsh cur
  have old : ∀ t b, (σ.put s blk').bs t = some b → t ≠ s → σ.bs t = some b := by
    intro t b ht e
    simp only [St.put] at ht
    rw [if_neg e] at ht; exact ht
  have alive : ∀ t b, (σ.put s blk').bs t = some b → ∃ b0, σ.bs t = some b0 := by
    intro t b ht
    by_cases e : t = s
    · subst e; exact ⟨_, hs⟩
    · exact ⟨b, old t b ht e⟩
  refine SR.step h x ?_ ?_ ?_ ?_ ?_ rfl ?_
  · intro t b ht
    by_cases e : t = s
    · subst e
      simp only [St.put, if_true, Option.some.injEq] at ht
      subst ht; exact .inl hB
    · have h1 := old t b ht e
      refine .inr ⟨h1, rfl, fun B' c' hm' => setRow_other w B B' cur (fun e' => e ?_)⟩
      subst e'
      exact h.inj t s b blk B' c' c h1 hs hm' hm
  · intro t b ht
    obtain ⟨b0, h0⟩ := alive t b ht
    exact h.gen t b0 h0
  · intro t t' b b' B1 c1 c2 h1 h2 h3 h4
    obtain ⟨b0, h0⟩ := alive t b h1
    obtain ⟨b0', h0'⟩ := alive t' b' h2
    exact h.inj t t' b0 b0' B1 c1 c2 h0 h0' h3 h4
  · intro b hb hD
    rcases x.img b hb with h1 | h1
    · exact h.dj b h1 hD
    · have := h.dlt b hD; omega
  · intro b hb
    have := h.dlt b hb; simpa using this
  · intro l hl
    exact setRow_other w B _ cur (h.loop_ne hs hm hl)

theorem klA_bs {s : Key} {x : AV} (h : ∀ o l, x ≠ .own s o l) : (klA σ x).bs s = σ.bs s := by
  cases x with
  | own t o l =>
    simp only [klA, St.kill]
    rw [if_neg]; intro e; subst e; exact h o l rfl
  | _ => rfl
theorem klL_bs {s : Key} : ∀ {xs : List AV} {σ : St}, (∀ x, x ∈ xs → ∀ o l, x ≠ .own s o l) → (klL σ xs).bs s = σ.bs s
  | [], _, _ => rfl
  | x :: xs, σ, h => by
    simp only [klL]
    rw [klL_bs (fun y hy => h y (by simp [hy])), klA_bs (h x (by simp))]

theorem store_run {t : TypeId} {n : Nat} (hn : tsz P t = some n) {B o : Nat} {cur : Array Value} {T : TypeId} {v : Value} (hg : w.heap[B]? = some (.cells cur T (0, 0))) (hl : v.cells.size = n) (hfit : o + n ≤ cur.size) (h1 : ∀ u ∈ v.cells.toList, u.oneCell' = true) :
    (do Instr.storeAt t (.pointer (some ⟨B, o, none⟩)) v; pure Next.skip : Sem Next).run P w = .ok .skip (w.setRow B (over cur.toList o v.cells.toList).toArray) := by
  have hst := run_storeCells_at P B o T v.cells.toList 0 cur w hg (by simp; omega) h1
  simp only [Nat.add_zero] at hst
  simp only [Instr.storeAt, Instr.sureAddr, storeVar, Sem.run_bind, Sem.run_pure, Result.andThen_ok, tsz_run hn, Sem.run_ite]
  rw [if_neg (by omega), hst]
  rfl

theorem st_ok (h : SR CR m σ w) {t : TypeId} {n : Nat} (hn : tsz P t = some n) {s : Key} {i j : Nat} {pv v : Value} (hp : RT m σ w (.a (.ptr s i j)) pv) {vs : List AV} (hv : F2 (RA m σ w) vs v.cells.toList) (hvn : vs.length = n) {σ' : St}
    (hev : (match σ.bs s with
        | some (.var cs) => if i = 0 ∧ j + n ≤ cs.length then some (TV.u, σ.put s (.var (over cs j vs))) else none
        | some (.row k el rows) => match rows[i]?, frL σ vs with
          | some r, some ws => if j + n ≤ r.length ∧ vs.all (fun v => match v with | .own t _ _ => t ≠ s | _ => true) then
              some (TV.u, (klL σ vs).put s (.row k el (rows.set i (over r j ws)))) else none
          | _, _ => none
        | none => none) = some (.u, σ')) :
    Eff P CR m σ w (do Instr.storeAt t pv v; pure Next.skip) .u σ' := by
  have hvs : v.cells.size = n := by have := hv.length; simp at this; omega
  obtain ⟨⟨hlt, hal⟩, _⟩ := hp
  cases hb : σ.bs s with
  | none => simp [hb] at hev
  | some blk =>
    obtain ⟨B, c, hm, rfl⟩ := hal blk hb
    have hbr := h.blk s blk hb
    cases blk with
    | var cs =>
      simp only [hb] at hev
      split at hev
      · rename_i hc
        obtain ⟨rfl, hc⟩ := hc
        simp only [Option.some.injEq, Prod.mk.injEq, true_and] at hev; subst hev
        obtain ⟨B', T, us, h1, h2, h3⟩ := hbr.resolve_left (by rw [hm]; simp)
        rw [hm] at h1; simp only [Option.some.injEq, Prod.mk.injEq] at h1
        obtain ⟨rfl, rfl⟩ := h1
        have hul := h3.length
        have hr := store_run (P := P) hn (B := B) (o := j) (v := v) h2 hvs (by simp; omega) (F2.one hv)
        have hsh : sameShape (.var cs) (.var (over cs j vs)) := by
          simp only [sameShape]; rw [over_len]; omega
        have x := wr_xt h hb hm hsh (over us j v.cells.toList).toArray
        rw [show us.toArray.toList = us from rfl] at hr
        refine ⟨undef, w.setRow B (over us j v.cells.toList).toArray, m, .inr ⟨by simpa [Blk.k] using hr, rfl⟩, wr_sr h hb hm hsh _ ?_, rfl, x⟩
        exact .inr ⟨B, T, over us j v.cells.toList, hm, setRow_heap w B _ _ T _ h2, F2.over j (h3.imp fun _ _ hx => x.ra h hx) (hv.imp fun _ _ hx => x.ra h hx)⟩
      · cases hev
    | row k el rows =>
      simp only [hb] at hev
      cases hri : rows[i]? with
      | none => simp [hri] at hev
      | some r =>
        cases hfr : frL σ vs with
        | none => simp [hri, hfr] at hev
        | some ws =>
          simp only [hri, hfr] at hev
          split at hev
          · rename_i hc
            obtain ⟨hc1, hc2⟩ := hc
            simp only [Option.some.injEq, Prod.mk.injEq, true_and] at hev; subst hev
            obtain ⟨m1, h1, x1, hf1⟩ := fkL_ok h hv hfr
            have hb1 : (klL σ vs).bs s = some (.row k el rows) := by
              rw [klL_bs, hb]
              intro y hy o l e
              subst e
              rw [List.all_eq_true] at hc2
              have := hc2 _ hy
              simp at this
            have hm1 : m1.mu s = some (B, c) := (x1.mu s hlt).trans hm
            obtain ⟨hk, hkl, hbr⟩ := h1.blk s _ hb1
            rcases hbr with ⟨h2, _⟩ | ⟨B', c', cur, h2, h3, h4, h5, h6, h7⟩
            · rw [hm1] at h2; cases h2
            · rw [hm1] at h2; simp only [Option.some.injEq, Prod.mk.injEq] at h2
              obtain ⟨rfl, rfl⟩ := h2
              have hil : i < rows.length := (List.getElem?_eq_some_iff.1 hri).1
              have hrk : r.length = k := hkl r (List.mem_of_getElem? hri)
              have hik : i * k + k ≤ c * k := by rw [← Nat.succ_mul]; exact Nat.mul_le_mul_right _ (by omega)
              have hwl : ws.length = n := by have := hf1.length; simp at this; omega
              have hr := store_run (P := P) hn (B := B) (o := i * k + j) (v := v) h3 hvs (by omega) (F2.one hv)
              have hsh : sameShape (.row k el rows) (.row k el (rows.set i (over r j ws))) := ⟨rfl, rfl⟩
              have x2 := wr_xt h1 hb1 hm1 hsh (over cur.toList (i * k + j) v.cells.toList).toArray
              refine ⟨undef, w.setRow B (over cur.toList (i * k + j) v.cells.toList).toArray, m1, .inr ⟨hr, rfl⟩, wr_sr h1 hb1 hm1 hsh _ ?_, rfl, x1.trans x2⟩
              have hcl : (over cur.toList (i * k + j) v.cells.toList).length = cur.size := by rw [over_len]; simp; simp; omega
              have hrl : (over r j ws).length = k := by rw [over_len]; exact hrk; omega
              refine ⟨hk, ?_, .inr ⟨B, c, _, hm1, setRow_heap w B _ _ el _ h3, by simp [hcl]; omega, by simpa using h5, h6, ?_⟩⟩
              · intro r' hr'
                rcases List.mem_or_eq_of_mem_set hr' with hr' | rfl
                · exact hkl r' hr'
                · exact hrl
              · intro i' r' j' p hr' hp'
                rw [List.getElem?_set] at hr'
                have key : ∀ u, RP w m1.D p u → RP (w.setRow B (over cur.toList (i * k + j) v.cells.toList).toArray) m1.D p u := fun u hu => x2.rp h1 hu
                by_cases e : i = i'
                · subst e
                  simp only [if_true, hil, Option.some.injEq] at hr'
                  subst hr'
                  rw [over_get _ _ _ (by omega)] at hp'
                  by_cases hj : j ≤ j' ∧ j' < j + ws.length
                  · rw [if_pos hj] at hp'
                    obtain ⟨u, hu1, hu2⟩ := hf1.get hp'
                    refine ⟨u, ?_, key u hu2⟩
                    rw [List.getElem?_toArray, over_get _ _ _ (by simp; omega), if_pos ⟨by omega, by simp; omega⟩, show i * k + j' - (i * k + j) = j' - j by omega]
                    exact hu1
                  · rw [if_neg hj] at hp'
                    obtain ⟨u, hu1, hu2⟩ := h7 i r j' p hri hp'
                    refine ⟨u, ?_, key u hu2⟩
                    rw [List.getElem?_toArray, over_get _ _ _ (by simp; omega), if_neg (by simp; omega)]
                    simpa using hu1
                · rw [if_neg e] at hr'
                  obtain ⟨u, hu1, hu2⟩ := h7 i' r' j' p hr' hp'
                  refine ⟨u, ?_, key u hu2⟩
                  have hj : j' < k := by
                    rw [← hkl r' (List.mem_of_getElem? hr')]; exact (List.getElem?_eq_some_iff.1 hp').1
                  rw [List.getElem?_toArray, over_get _ _ _ (by simp; omega), if_neg]
                  · simpa using hu1
                  · rcases Nat.lt_or_ge i' i with h8 | h8
                    · have : i' * k + k ≤ i * k := by rw [← Nat.succ_mul]; exact Nat.mul_le_mul_right _ h8
                      omega
                    · have : i * k + k ≤ i' * k := by rw [← Nat.succ_mul]; exact Nat.mul_le_mul_right _ (by omega)
                      simp; omega
          · cases hev
end

end Go.Fx
