import Derived.Test.YtkpfjolcmkikeaaFx10
set_option linter.unusedSimpArgs false
set_option linter.unusedVariables false
/-
  Appends.
-/
namespace Go.Fx
open Go.RowKit

section
variable {P : Program} {eqs : List (TypeId × List Nat)} {CR : Nat → Code → C → Prop} {m m' : Mt} {σ σ' : St} {w w' : World} {e : Env} {a : Act}

/-- A draw turns nothing. -/
theorem drew_ok (h : SR CR m σ w) : SR CR m σ w.drew ∧ Xt m σ w m σ w.drew := by
  have x : Xt m σ w m σ w.drew := { Xt.refl m σ w with kept := fun _ _ _ => rfl, os := rfl, tape := rfl, output := rfl, size := Nat.le_refl _ }
  exact ⟨SR.step h x (fun s b hs => .inr ⟨hs, rfl, fun _ _ _ => rfl⟩) h.gen h.inj h.dj h.dlt rfl (fun _ _ => rfl), x⟩

/-- A new slice of the call's own that has no row of cells. -/
theorem add0_ok (h : SR CR m σ w) (d k el : Nat) (hk : 0 < k) : SR CR (m.add (d, σ.clk) none) (σ.add d (.row k el [])) w ∧ Xt m σ w (m.add (d, σ.clk) none) (σ.add d (.row k el [])) w := by
  have old : ∀ s b, (σ.add d (.row k el [])).bs s = some b → s ≠ (d, σ.clk) → σ.bs s = some b ∧ (m.add (d, σ.clk) none).mu s = m.mu s := by
    intro s b hs e
    simp only [St.add, St.put] at hs
    rw [if_neg e] at hs
    exact ⟨hs, by simp [Mt.add, e]⟩
  have hno : ∀ B c, (m.add (d, σ.clk) none).mu (d, σ.clk) ≠ some (B, c) := by intro B c; simp [Mt.add]
  have img : ∀ b, InS (m.add (d, σ.clk) none) (σ.add d (.row k el [])) b → InS m σ b := by
    intro b hb
    rcases hb with ⟨s, bl, c', hs, hm⟩ | ⟨l, hl, e⟩
    · by_cases e : s = (d, σ.clk)
      · subst e; exact absurd hm (hno _ _)
      · obtain ⟨h1, h2⟩ := old s bl hs e; rw [h2] at hm; exact .inl ⟨s, bl, c', h1, hm⟩
    · exact .inr ⟨l, hl, e⟩
  have x : Xt m σ w (m.add (d, σ.clk) none) (σ.add d (.row k el [])) w :=
    { mu := fun s hs => by simp only [Mt.add]; rw [if_neg]; intro e; subst e; simp at hs
      la := fun _ _ => rfl
      clk := by simp [St.add]
      len := Nat.le_refl _
      bs := fun s b' hs hc => ⟨b', (old s b' hs (by intro e; subst e; simp at hc)).1, sameShape.refl _⟩
      D := fun _ hb => hb
      new := fun _ hb => .inl hb
      img := fun b hb => .inl (img b hb)
      kept := fun _ _ _ => rfl, os := rfl, tape := rfl, output := rfl, size := Nat.le_refl _ }
  refine ⟨SR.step h x ?_ ?_ ?_ (fun b hb => h.dj b (img b hb)) h.dlt rfl (fun _ _ => rfl), x⟩
  · intro s b hs
    by_cases e : s = (d, σ.clk)
    · subst e
      simp only [St.add, St.put, if_true, Option.some.injEq] at hs
      subst hs
      exact .inl ⟨hk, by simp, .inl ⟨by simp [Mt.add], rfl⟩⟩
    · obtain ⟨h1, h2⟩ := old s b hs e
      exact .inr ⟨h1, h2, fun _ _ _ => rfl⟩
  · intro s b hs
    by_cases e : s = (d, σ.clk)
    · subst e; simp [St.add]
    · have := h.gen s b (old s b hs e).1; simp [St.add]; omega
  · intro s s' b b' B c c' h1 h2 h3 h4
    by_cases e : s = (d, σ.clk)
    · subst e; exact absurd h3 (hno _ _)
    · by_cases e' : s' = (d, σ.clk)
      · subst e'; exact absurd h4 (hno _ _)
      · obtain ⟨a1, a2⟩ := old s b h1 e
        obtain ⟨a3, a4⟩ := old s' b' h2 e'
        rw [a2] at h3; rw [a4] at h4
        exact h.inj s s' b b' B c c' a1 a3 h3 h4

theorem own0 (h : SR CR m σ w) (d k el : Nat) (b : Option Addr) : RT (m.add (d, σ.clk) none) (σ.add d (.row k el [])) w (.a (.own (d, σ.clk) 0 0)) (.slice b 0 0) :=
  ⟨by simp [St.add], ⟨_, _, rfl, Nat.le_refl _⟩, fun _ _ _ _ => .inl ⟨rfl, b, rfl⟩⟩

/-- A slice of the call's own goes over into another one, in its own row of cells. -/
theorem rekey_ok (h : SR CR m σ w) {s : Key} {k el : Nat} {rows rows' : List (List PV)} {B c : Nat} {cur cur' : Array Value} (hs : σ.bs s = some (.row k el rows)) (hm : m.mu s = some (B, c)) (hg : w.heap[B]? = some (.cells cur el (0, 0))) (d : Nat)
    (hk : 0 < k) (hkl : ∀ r : List PV, r ∈ rows' → r.length = k) (hsz : cur'.size = c * k) (hle : rows'.length ≤ c) (hc : c ≤ maxLen) (hf : Flat w m.D k rows' cur') :
    SR CR (m.add (d, σ.clk) (some (B, c))) ((σ.kill s).add d (.row k el rows')) (w.setRow B cur') ∧ Xt m σ w (m.add (d, σ.clk) (some (B, c))) ((σ.kill s).add d (.row k el rows')) (w.setRow B cur') := by
  have hlt := h.gen s _ hs
  have hne : s ≠ (d, σ.clk) := by intro e; subst e; simp at hlt
  have old : ∀ t b, ((σ.kill s).add d (.row k el rows')).bs t = some b → t ≠ (d, σ.clk) → t ≠ s ∧ σ.bs t = some b ∧ (m.add (d, σ.clk) (some (B, c))).mu t = m.mu t := by
    intro t b ht e
    simp only [St.add, St.put] at ht
    split at ht
    · rename_i e'; exact absurd e' e
    · simp only [St.kill] at ht
      by_cases e2 : t = s
      · rw [if_pos e2] at ht; cases ht
      · rw [if_neg e2] at ht; exact ⟨e2, ht, by simp [Mt.add, e]⟩
  have img : ∀ b, InS (m.add (d, σ.clk) (some (B, c))) ((σ.kill s).add d (.row k el rows')) b → InS m σ b := by
    intro b hb
    rcases hb with ⟨t, bl, c', ht, hm'⟩ | ⟨l, hl, e⟩
    · by_cases e : t = (d, σ.clk)
      · subst e
        simp only [Mt.add, if_true, Option.some.injEq, Prod.mk.injEq] at hm'
        exact .inl ⟨s, _, c, hs, by rw [hm, hm'.1]⟩
      · obtain ⟨_, h1, h2⟩ := old t bl ht e; rw [h2] at hm'; exact .inl ⟨t, bl, c', h1, hm'⟩
    · exact .inr ⟨l, hl, e⟩
  have x : Xt m σ w (m.add (d, σ.clk) (some (B, c))) ((σ.kill s).add d (.row k el rows')) (w.setRow B cur') :=
    { mu := fun s hs => by simp only [Mt.add]; rw [if_neg]; intro e; subst e; simp at hs
      la := fun _ _ => rfl
      clk := by simp [St.add, St.kill]
      len := Nat.le_refl _
      bs := fun t b' ht hc => ⟨b', (old t b' ht (by intro e; subst e; simp at hc)).2.1, sameShape.refl _⟩
      D := fun _ hb => hb
      new := fun _ hb => .inl hb
      img := fun b hb => .inl (img b hb)
      kept := fun b hb hn => setRow_other w B b cur' (fun e => hn (.inl ⟨s, _, c, hs, e ▸ hm⟩))
      os := rfl, tape := rfl, output := rfl, size := by simp }
  refine ⟨SR.step h x ?_ ?_ ?_ (fun b hb => h.dj b (img b hb)) (fun b hb => by simpa using h.dlt b hb) rfl (fun l hl => setRow_other w B _ cur' (h.loop_ne hs hm hl)), x⟩
  · intro t b ht
    by_cases e : t = (d, σ.clk)
    · subst e
      have ht : some (Blk.row k el rows') = some b := by
        rw [← ht]; simp [St.add, St.put, St.kill]
      simp only [Option.some.injEq] at ht
      subst ht
      refine .inl ⟨hk, hkl, .inr ⟨B, c, cur', by simp [Mt.add], setRow_heap w B cur cur' el _ hg, hsz, hle, hc, ?_⟩⟩
      exact hf.mono fun b hb => ⟨x.D b hb, x.kept b (h.dlt b hb) (fun hi => h.dj b hi hb)⟩
    · obtain ⟨h0, h1, h2⟩ := old t b ht e
      refine .inr ⟨h1, h2, fun B' c' hm' => setRow_other w B B' cur' (fun e' => h0 ?_)⟩
      subst e'
      exact h.inj t s b _ B' c' c h1 hs hm' hm
  · intro t b ht
    by_cases e : t = (d, σ.clk)
    · subst e; simp [St.add, St.kill]
    · have := h.gen t b (old t b ht e).2.1; simp [St.add, St.kill]; omega
  · intro t t' b b' B1 c1 c2 h1 h2 h3 h4
    by_cases e : t = (d, σ.clk) <;> by_cases e' : t' = (d, σ.clk)
    · rw [e, e']
    · obtain ⟨a1, a2, a3⟩ := old t' b' h2 e'
      rw [a3] at h4
      simp only [Mt.add, e, if_true, Option.some.injEq, Prod.mk.injEq] at h3
      exact absurd (h.inj t' s b' _ B c2 c a2 hs (by rw [h4, h3.1]) hm) a1
    · obtain ⟨a1, a2, a3⟩ := old t b h1 e
      rw [a3] at h3
      simp only [Mt.add, e', if_true, Option.some.injEq, Prod.mk.injEq] at h4
      exact absurd (h.inj t s b _ B c1 c a2 hs (by rw [h3, h4.1]) hm) a1
    · obtain ⟨_, a2, a3⟩ := old t b h1 e
      obtain ⟨_, a5, a6⟩ := old t' b' h2 e'
      rw [a3] at h3; rw [a6] at h4
      exact h.inj t t' b b' B1 c1 c2 a2 a5 h3 h4

/-- what is appended: its cells, one behind the other -/
theorem src_ok (h : SR CR m σ w) {y : AV} {u : Value} (hy : RA m σ w y u) {ns : List (List PV)} (hr : rowsA σ y = some ns) {k : Nat} (hk : 0 < k) (hkl : ∀ r : List PV, r ∈ ns → r.length = k) :
    ∃ b cap, u = .slice b ns.length cap ∧ (ns ≠ [] → ∃ (ad : Addr) (news : List Value), b = some ad ∧ news.length = ns.length * k ∧ (∀ j v, news[j]? = some v → w.cell? (ad.add j) = some v) ∧ (∀ v ∈ news, v.oneCell' = true) ∧ Flat w m.D k ns news.toArray) := by
  -- out of cells one by one
  have mk : ∀ (ad : Addr) (vals : Nat → Nat → Value), ad.spot = none → (∀ (i : Nat) (r : List PV) (j : Nat) (p : PV), ns[i]? = some r → r[j]? = some p → w.cell? ⟨ad.block, ad.off + (i * k + j), none⟩ = some (vals i j) ∧ RP w m.D p (vals i j)) →
      ∃ news : List Value, news.length = ns.length * k ∧ (∀ j v, news[j]? = some v → w.cell? (ad.add j) = some v) ∧ (∀ v ∈ news, v.oneCell' = true) ∧ Flat w m.D k ns news.toArray := by
    intro ad vals hs hv
    have idx : ∀ q, q < ns.length * k → q / k < ns.length ∧ q % k < k ∧ q / k * k + q % k = q := fun q hq =>
      ⟨Nat.div_lt_of_lt_mul (by rw [Nat.mul_comm]; exact hq), Nat.mod_lt _ hk, by rw [Nat.mul_comm]; exact Nat.div_add_mod q k⟩
    have at_ : ∀ q, q < ns.length * k → ∃ r p, ns[q / k]? = some r ∧ r[q % k]? = some p := by
      intro q hq
      obtain ⟨h1, h2, _⟩ := idx q hq
      have hr : ns[q / k].length = k := hkl _ (List.getElem_mem h1)
      exact ⟨_, _, List.getElem?_eq_getElem h1, List.getElem?_eq_getElem (by omega)⟩
    refine ⟨(List.range (ns.length * k)).map fun q => vals (q / k) (q % k), by simp, ?_, ?_, ?_⟩
    · intro q v hq
      have hql : q < ns.length * k := by have := (List.getElem?_eq_some_iff.1 hq).1; simpa using this
      simp only [List.getElem?_map, List.getElem?_range hql, Option.map_some, Option.some.injEq] at hq
      subst hq
      obtain ⟨r, p, h1, h2⟩ := at_ q hql
      have := (hv _ r _ p h1 h2).1
      rw [(idx q hql).2.2] at this
      rw [addr_add' ad hs]; exact this
    · intro v hq
      simp only [List.mem_map, List.mem_range] at hq
      obtain ⟨q, hql, rfl⟩ := hq
      obtain ⟨r, p, h1, h2⟩ := at_ q hql
      exact (hv _ r _ p h1 h2).2.one
    · intro i r j p hi hj
      have hjk : j < k := by rw [← hkl r (List.mem_of_getElem? hi)]; exact (List.getElem?_eq_some_iff.1 hj).1
      have hil : i < ns.length := (List.getElem?_eq_some_iff.1 hi).1
      have hq : i * k + j < ns.length * k := by
        have : i * k + k ≤ ns.length * k := by rw [← Nat.succ_mul]; exact Nat.mul_le_mul_right _ hil
        omega
      have e1 : (i * k + j) / k = i := by rw [Nat.add_comm, Nat.add_mul_div_right _ _ hk, Nat.div_eq_of_lt hjk, Nat.zero_add]
      have e2 : (i * k + j) % k = j := by rw [Nat.mul_comm, Nat.mul_add_mod, Nat.mod_eq_of_lt hjk]
      refine ⟨vals i j, ?_, (hv i r j p hi hj).2⟩
      simp [hq, e1, e2]
  unfold rowsA at hr
  split at hr
  · rename_i rows hfr
    simp only [Option.some.injEq] at hr; subst hr
    cases y with
    | p q =>
      simp only [frA, Option.some.injEq] at hfr; subst hfr
      have hy : RP w m.D (.l rows) u := hy
      obtain ⟨b, cap, hu⟩ := hy.slice
      refine ⟨b, cap, hu, fun hne => ?_⟩
      obtain ⟨ad, k', cap', vals, hv, hs, hD, hc, hk', hvv, hrr⟩ := hy.cells hne
      rw [hu] at hv; simp only [Value.slice.injEq] at hv
      obtain ⟨rfl, _, _⟩ := hv
      have hkk : k' = k := by
        cases rows with
        | nil => exact absurd rfl hne
        | cons r rs => rw [← hk' 0 r (by simp)]; exact hkl r (by simp)
      subst hkk
      obtain ⟨news, n1, n2, n3, n4⟩ := mk ad vals hs (fun i r j p hi hj => ⟨hvv i r j p hi hj, hrr i r j p hi hj⟩)
      exact ⟨ad, news, rfl, n1, n2, n3, n4⟩
    | nil =>
      simp only [frA, Option.some.injEq, PV.l.injEq] at hfr; subst hfr
      cases hy
      exact ⟨none, 0, rfl, fun hne => absurd rfl hne⟩
    | own s off len =>
      simp only [frA] at hfr
      cases hb : σ.bs s with
      | none => simp [hb] at hfr
      | some blk =>
        cases blk with
        | var cs => simp [hb] at hfr
        | row k' el' rows' =>
          simp only [hb] at hfr
          split at hfr
          · rename_i hl
            simp only [Option.some.injEq, PV.l.injEq] at hfr; subst hfr
            have hlen : ((rows'.drop off).take len).length = len := by simp; omega
            obtain ⟨hlt, ⟨b, cap, hu, hcap⟩, hal⟩ := hy
            refine ⟨b, cap, by rw [hlen]; exact hu, fun hne => ?_⟩
            rcases hal _ _ _ hb with ⟨rfl, _⟩ | ⟨B, c, hm, hv, hle⟩
            · simp at hne
            · rw [hu] at hv; simp only [Value.slice.injEq] at hv
              obtain ⟨rfl, _, rfl⟩ := hv
              obtain ⟨hk0, hkl0, hbr⟩ := h.blk s _ hb
              rcases hbr with ⟨h1, _⟩ | ⟨B', c', cur, h1, h2, h3, h4, h5, h6⟩
              · rw [hm] at h1; cases h1
              · rw [hm] at h1; simp only [Option.some.injEq, Prod.mk.injEq] at h1
                obtain ⟨rfl, rfl⟩ := h1
                have hget : ∀ (i : Nat) (r : List PV), ((rows'.drop off).take len)[i]? = some r → rows'[off + i]? = some r := by
                  intro i r hr
                  rw [List.getElem?_take] at hr
                  split at hr
                  · simpa [List.getElem?_drop] using hr
                  · cases hr
                have hkk : k' = k := by
                  cases hq : (rows'.drop off).take len with
                  | nil => exact absurd hq hne
                  | cons r rs =>
                    have h0 : ((rows'.drop off).take len)[0]? = some r := by rw [hq]; simp
                    rw [← hkl0 r (List.mem_of_getElem? (hget 0 r h0))]
                    exact hkl r (by rw [hq]; simp)
                subst hkk
                obtain ⟨news, n1, n2, n3, n4⟩ := mk ⟨B, off * k', none⟩ (fun i j => (cur[(off + i) * k' + j]?).getD undef) rfl (fun i r j p hi hj => by
                  obtain ⟨v, hv1, hv2⟩ := h6 (off + i) r j p (hget i r hi) hj
                  simp only [hv1, Option.getD_some]
                  refine ⟨?_, hv2⟩
                  simp only [World.cell?, h2, Option.isSome_none, Bool.false_eq_true, if_false]
                  rw [show off * k' + (i * k' + j) = (off + i) * k' + j by rw [Nat.add_mul]; omega]
                  exact hv1)
                exact ⟨_, news, rfl, n1, n2, n3, n4⟩
          · cases hfr
    | ptr s i j => simp [frA] at hfr
    | cptr r j => simp [frA] at hfr
    | fn f caps => simp [frA] at hfr
    | yl l => simp [frA] at hfr
    | raw c =>
      obtain ⟨rfl, _⟩ := hy
      cases u with
      | slice ad n cap =>
        cases n with
        | zero =>
          simp only [frA, rawE, Option.some.injEq, PV.l.injEq] at hfr; subst hfr
          exact ⟨ad, cap, rfl, fun hne => absurd rfl hne⟩
        | succ n => simp [frA, rawE] at hfr
      | _ => simp [frA, rawE] at hfr
  · cases hr

/-- nothing is appended -/
theorem run_append_zero {t ty : TypeId} {el : Nat × Nat × Nat} (hel : telem P t = some el) (b : Option Addr) (n cap : Nat) (hn : n ≤ cap) (b' : Option Addr) (cap' : Nat) :
    (Builtin.append_ #[t, t] ty #[.slice b n cap, .slice b' 0 cap']).run P w = .ok (.slice b n cap) w := by
  obtain ⟨hu, ii, hii, hsz, hby, hpos, hbp⟩ := telem_spec hel
  cases b' with
  | none => cases b <;> simp [Builtin.append_, run_underlying hu, sizeOf, typeInfo, hii, Builtin.lenOf, hn, Builtin.firstCells, storeCells]
  | some a => cases b <;> simp [Builtin.append_, run_underlying hu, sizeOf, typeInfo, hii, Builtin.lenOf, hn, Builtin.firstCells, loadCells, loadCellsFrom, storeCells]

theorem flat_append {D : Nat → Prop} {k : Nat} {rows ns : List (List PV)} {cells news rest : List Value} (h1 : Flat w D k rows cells.toArray) (hl : cells.length = rows.length * k) (h2 : Flat w D k ns news.toArray) :
    Flat w D k (rows ++ ns) (cells ++ news ++ rest).toArray := by
  intro i r j p hr hp
  by_cases hi : i < rows.length
  · rw [List.getElem?_append_left hi] at hr
    obtain ⟨v, hv1, hv2⟩ := h1 i r j p hr hp
    refine ⟨v, ?_, hv2⟩
    rw [List.getElem?_toArray] at hv1 ⊢
    have := (List.getElem?_eq_some_iff.1 hv1).1
    rw [List.append_assoc, List.getElem?_append_left this]
    exact hv1
  · rw [List.getElem?_append_right (by omega)] at hr
    obtain ⟨v, hv1, hv2⟩ := h2 (i - rows.length) r j p hr hp
    refine ⟨v, ?_, hv2⟩
    rw [List.getElem?_toArray] at hv1 ⊢
    have e1 : i * k + j - cells.length = (i - rows.length) * k + j := by
      rw [hl, Nat.sub_mul]
      have : rows.length * k ≤ i * k := Nat.mul_le_mul_right _ (by omega)
      omega
    have hge : cells.length ≤ i * k + j := by
      rw [hl]
      have : rows.length * k ≤ i * k := Nat.mul_le_mul_right _ (by omega)
      omega
    have := (List.getElem?_eq_some_iff.1 hv1).1
    rw [List.append_assoc, List.getElem?_append_right hge, e1, List.getElem?_append_left this]
    exact hv1

theorem flat_take {D : Nat → Prop} {k : Nat} {rows : List (List PV)} {cur : Array Value} (h : Flat w D k rows cur) (hkl : ∀ r : List PV, r ∈ rows → r.length = k) (len : Nat) : Flat w D k (rows.take len) (cur.toList.take (len * k)).toArray := by
  intro i r j p hr hp
  rw [List.getElem?_take] at hr
  split at hr
  · rename_i hi
    obtain ⟨v, hv1, hv2⟩ := h i r j p hr hp
    refine ⟨v, ?_, hv2⟩
    have hj : j < k := by rw [← hkl r (List.mem_of_getElem? hr)]; exact (List.getElem?_eq_some_iff.1 hp).1
    have : i * k + k ≤ len * k := by rw [← Nat.succ_mul]; exact Nat.mul_le_mul_right _ hi
    rw [List.getElem?_toArray, List.getElem?_take, if_pos (by omega)]
    simpa using hv1
  · cases hr
end

end Go.Fx
