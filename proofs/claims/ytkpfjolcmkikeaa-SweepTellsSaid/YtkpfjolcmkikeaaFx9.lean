import Derived.Test.YtkpfjolcmkikeaaFx8
set_option linter.unusedSimpArgs false
set_option linter.unusedVariables false
/-
  Operations that make blocks, write them, append to them.
-/
namespace Go.Fx
open Go.RowKit

section
variable {P : Program} {eqs : List (TypeId × List Nat)} {CR : Nat → Code → C → Prop} {m m' : Mt} {σ σ' : St} {w w' : World} {e : Env} {a : Act}

/-- An operation comes to this value, this store, in some world. -/
def Eff (P : Program) (CR : Nat → Code → C → Prop) (m : Mt) (σ : St) (w : World) (s : Sem Next) (t : TV) (σ' : St) : Prop :=
  ∃ v w' m', (s.run P w = .ok (.value v) w' ∨ (s.run P w = .ok .skip w' ∧ v = undef)) ∧ SR CR m' σ' w' ∧ RT m' σ' w' t v ∧ Xt m σ w m' σ' w'

theorem Eff.val {s : Sem Value} {t : TV} {v : Value} (hs : s.run P w = .ok v w') (h1 : SR CR m' σ' w') (h2 : RT m' σ' w' t v) (h3 : Xt m σ w m' σ' w') :
    Eff P CR m σ w (do pure (Next.value (← s))) t σ' := ⟨v, w', m', .inl (by simp [hs]), h1, h2, h3⟩

theorem new_ptr (h : SR CR m σ w) (d : Nat) (blk : Blk) (o : Obj) (c : Nat) : RT (m.add (d, σ.clk) (some (w.heap.size, c))) (σ.add d blk) (w.alloc o) (.a (.ptr (d, σ.clk) 0 0)) (.pointer (some ⟨w.heap.size, 0, none⟩)) := by
  refine ⟨⟨by simp [St.add], fun b hb => ⟨w.heap.size, c, by simp [Mt.add], ?_⟩⟩, _, rfl⟩
  simp

theorem new_ok (h : SR CR m σ w) {t : TypeId} {z : List AV} (hz : tzero P t = some z) (d : Nat) : Eff P CR m σ w (do pure (Next.value (← Instr.alloc t true (.tuple #[])))) (.a (.ptr (d, σ.clk) 0 0)) (σ.add d (.var z)) := by
  obtain ⟨zv, hr, hf⟩ := tzero_run hz w
  have hs : (Instr.alloc t true (.tuple #[])).run P w = .ok (.pointer (some ⟨w.heap.size, 0, none⟩)) (w.alloc (.cells zv.cells t)) := by
    simp [Instr.alloc, hr, newVar, newRow]
  refine Eff.val hs (add_sr h d _ _ 0 (.inr ⟨w.heap.size, t, zv.cells.toList, by simp [Mt.add], by simpa using World.alloc_heap_new w _, hf _ _ _⟩)) (new_ptr h d _ _ 0) (add_xt h d _ _ 0)

theorem box_ok (h : SR CR m σ w) {t : TypeId} {v : Value} {vs : List AV} (hv : F2 (RA m σ w) vs v.cells.toList) (d : Nat) : Eff P CR m σ w (do pure (Next.value (← Instr.box t v))) (.a (.ptr (d, σ.clk) 0 0)) (σ.add d (.var vs)) := by
  have hs : (Instr.box t v).run P w = .ok (.pointer (some ⟨w.heap.size, 0, none⟩)) (w.alloc (.cells v.cells t)) := by
    simp [Instr.box, newVar, newRow]
  refine Eff.val hs (add_sr h d _ _ 0 (.inr ⟨w.heap.size, t, v.cells.toList, by simp [Mt.add], by simpa using World.alloc_heap_new w _, ?_⟩)) (new_ptr h d _ _ 0) (add_xt h d _ _ 0)
  exact hv.imp fun _ _ hx => (add_xt h d _ _ 0).ra h hx

/-- what is constant, frozen -/
theorem z_frozen {z : List AV} {vs : List Value} {ps : List PV} (hz : ∀ (m : Mt) (σ : St) (w : World), F2 (RA m σ w) z vs) (hno : ∀ x, x ∈ z → ownA x = false) (hf : frL σ z = some ps) (m : Mt) (w : World) : F2 (RP w m.D) ps vs := by
  refine F2_comp (R := fun x p => frA σ x = some p) (T := RA m σ w) (fun x p v hx h1 h2 => ?_) (frL_F2 hf) (hz m σ w)
  cases x with
  | p y => simp only [frA, Option.some.injEq] at h1; subst h1; exact h2
  | nil => simp only [frA, Option.some.injEq] at h1; subst h1; cases h2; exact .e _ _
  | own s off len => have := hno _ hx; simp [ownA] at this
  | raw c =>
    obtain ⟨rfl, _⟩ := h2
    cases v with
    | slice ad n cap =>
      cases n with
      | zero => simp only [frA, rawE, Option.some.injEq] at h1; subst h1; exact .e _ _
      | succ n => simp [frA, rawE] at h1
    | _ => simp [frA, rawE] at h1
  | _ => simp [frA] at h1

theorem tzero_own {t : TypeId} {z : List AV} (h : tzero P t = some z) : ∀ x, x ∈ z → ownA x = false := by
  unfold tzero at h
  obtain ⟨i, _, h⟩ := bindO h
  obtain ⟨v, _, h⟩ := bindO h
  have : ∀ (l : List Value) (l' : List AV), mapO cAV l = some l' → ∀ x, x ∈ l' → ownA x = false := by
    intro l
    induction l with
    | nil => intro l' h x hx; simp [mapO] at h; subst h; simp at hx
    | cons v l ih =>
      intro l' h x hx
      simp only [mapO] at h
      obtain ⟨y, h1, h⟩ := bindO h
      obtain ⟨ys, h2, h⟩ := bindO h
      simp only [Option.some.injEq] at h; subst h
      rcases List.mem_cons.1 hx with rfl | hx
      · unfold cAV at h1
        split at h1 <;> first | (simp only [Option.some.injEq] at h1; subst h1; rfl) | (cases h1)
      · exact ih ys h2 x hx
  exact this _ _ h

theorem made_get (z : Array Value) (n j : Nat) (h : j < n) : (madeCells z n)[j]? = some (z[j % z.size]!) := by
  simp [madeCells, h]

/-- rows of a flat row of cells -/
def Flat (w : World) (D : Nat → Prop) (k : Nat) (rows : List (List PV)) (cur : Array Value) : Prop :=
  ∀ (i : Nat) (r : List PV) (j : Nat) (p : PV), rows[i]? = some r → r[j]? = some p → ∃ v, cur[i * k + j]? = some v ∧ RP w D p v

theorem flat_made {D : Nat → Prop} {ps : List PV} {z : Array Value} {k l n : Nat} (hk : 0 < k) (hz : z.size = k) (hf : F2 (RP w D) ps z.toList) (hl : l * k ≤ n) : Flat w D k (List.replicate l ps) (madeCells z n) := by
  intro i r j p hr hp
  obtain ⟨hi, rfl⟩ : i < l ∧ r = ps := by
    rw [List.getElem?_replicate] at hr
    split at hr
    · simp only [Option.some.injEq] at hr; exact ⟨by assumption, hr.symm⟩
    · cases hr
  have hjk : j < k := by
    have := hf.length
    have h2 : j < r.length := (List.getElem?_eq_some_iff.1 hp).1
    simp at this; omega
  obtain ⟨v, hv, hrp⟩ := hf.get hp
  refine ⟨v, ?_, hrp⟩
  have hlt : i * k + j < n := by
    have : i * k + k ≤ l * k := by rw [← Nat.succ_mul]; exact Nat.mul_le_mul_right _ hi
    omega
  rw [made_get z n _ hlt, hz]
  have : (i * k + j) % k = j := by rw [Nat.mul_comm, Nat.mul_add_mod, Nat.mod_eq_of_lt hjk]
  rw [this]
  have hjz : j < z.size := by omega
  rw [getElem!_pos z j hjz]
  have hv' : z[j]? = some v := by simpa using hv
  rw [Array.getElem?_eq_getElem hjz] at hv'
  exact hv'

theorem zeroLen_spec {t : TypeId} {k : Nat} (h : zeroLen P t = some k) : ∃ i v, P.info? t = some i ∧ i.zero = some v ∧ v.cells.size = k := by
  unfold zeroLen at h
  obtain ⟨i, hi, h⟩ := bindO h
  obtain ⟨v, hv, h⟩ := bindO h
  simp only [Option.some.injEq] at h
  exact ⟨i, v, hi, hv, h⟩

/-- a new slice of the call's own -/
theorem new_own (h : SR CR m σ w) (d k el : Nat) (rows : List (List PV)) (o : Obj) (c l : Nat) (hl : l ≤ c) : RT (m.add (d, σ.clk) (some (w.heap.size, c))) (σ.add d (.row k el rows)) (w.alloc o) (.a (.own (d, σ.clk) 0 l)) (.slice (some ⟨w.heap.size, 0, none⟩) l c) := by
  refine ⟨by simp [St.add], ⟨_, _, rfl, hl⟩, fun k' e' rows' hb => .inr ⟨w.heap.size, c, by simp [Mt.add], by simp, by omega⟩⟩

theorem flat_len {D : Nat → Prop} {ps : List PV} {z : Array Value} {k : Nat} (hz : z.size = k) (hf : F2 (RP w D) ps z.toList) : ps.length = k := by
  have := hf.length; simp at this; omega

theorem msl_ok (h : SR CR m σ w) {t : TypeId} {el : Nat × Nat × Nat} (hel : telem P t = some el) {z : List AV} (hz : tzero P el.1 = some z) (hzl : zeroLen P el.1 = some el.2.1) {ps : List PV} (hps : frL σ z = some ps)
    {kl kc : IntKind} {l c : Int} (h0 : 0 ≤ l) (h1 : l ≤ c) (h2 : c * el.2.2 ≤ 140737488355328) (d : Nat) :
    Eff P CR m σ w (do pure (Next.value (← Instr.makeSlice t (.int kl l) (.int kc c)))) (.a (.own (d, σ.clk) 0 l.toNat)) (σ.add d (.row el.2.1 el.1 (List.replicate l.toNat ps))) := by
  obtain ⟨hu, ii, hii, hsz, hby, hpos, hbp⟩ := telem_spec hel
  obtain ⟨ii', zv, hii', hzv, hzs⟩ := zeroLen_spec hzl
  rw [hii] at hii'; cases hii'
  have hc : c ≤ 140737488355328 := by
    have : c * 1 ≤ c * el.2.2 := Int.mul_le_mul_of_nonneg_left (by omega) (by omega)
    omega
  have hr := run_make (P := P) w t el.1 ii zv hu hii hzv kl kc l c h0 h1 (by rw [hby, Int.mul_comm]; omega) (by omega)
  rw [hsz] at hr
  obtain ⟨zv', hz1, hz2⟩ := tzero_run hz w
  have : zv' = zv := by
    simp [zeroValue, typeInfo, hii, hzv] at hz1; exact hz1.symm
  subst this
  let blk : Blk := .row el.2.1 el.1 (List.replicate l.toNat ps)
  let o : Obj := .cells (madeCells zv'.cells (c.toNat * el.2.1)) el.1
  have hpz := z_frozen (fun m σ w => hz2 m σ w) (tzero_own hz) hps (m.add (d, σ.clk) (some (w.heap.size, c.toNat))) (w.alloc o)
  have hB : BR (m.add (d, σ.clk) (some (w.heap.size, c.toNat))) (σ.add d blk) (w.alloc o) (d, σ.clk) blk := by
    refine ⟨by omega, fun r hr => ?_, .inr ⟨w.heap.size, c.toNat, _, by simp [Mt.add], World.alloc_heap_new w o, size_madeCells _ _, by simp; omega, by simp only [maxLen]; omega, ?_⟩⟩
    · rw [List.mem_replicate] at hr; rw [hr.2]; exact flat_len hzs hpz
    · exact flat_made (by omega) hzs hpz (Nat.mul_le_mul_right _ (by omega))
  exact Eff.val hr (add_sr h d blk o c.toNat hB) (new_own h d _ _ _ o c.toNat l.toNat (by omega)) (add_xt h d blk o c.toNat)

theorem over_get {α : Type} (cs : List α) (o : Nat) (vs : List α) (h : o + vs.length ≤ cs.length) (i : Nat) : (over cs o vs)[i]? = if o ≤ i ∧ i < o + vs.length then vs[i - o]? else cs[i]? := by
  unfold over
  have ho : (cs.take o).length = o := by simp; omega
  by_cases h1 : i < o
  · rw [List.append_assoc, List.getElem?_append_left (by omega), List.getElem?_take, if_pos h1, if_neg (by omega)]
  · by_cases h2 : i < o + vs.length
    · rw [List.append_assoc, List.getElem?_append_right (by omega), ho, List.getElem?_append_left (by omega), if_pos ⟨by omega, h2⟩]
    · rw [List.getElem?_append_right (by simp; omega), List.getElem?_drop, if_neg (by omega)]
      congr 1
      simp; omega

theorem over_len {α : Type} (cs : List α) (o : Nat) (vs : List α) (h : o + vs.length ≤ cs.length) : (over cs o vs).length = cs.length := by
  unfold over; simp; omega

theorem flat_set {D : Nat → Prop} {k : Nat} {rows : List (List PV)} {cells : List Value} (hf : Flat w D k rows cells.toArray) (hlen : rows.length * k ≤ cells.length) (hk : ∀ r : List PV, r ∈ rows → r.length = k) {i : Nat} (hi : i < rows.length) {ws : List PV} {vs : List Value} (hws : ws.length = k)
    (hv : F2 (RP w D) ws vs) : Flat w D k (rows.set i ws) (over cells (i * k) vs).toArray := by
  have hvl : vs.length = k := by rw [← hv.length]; exact hws
  have hik : i * k + k ≤ rows.length * k := by rw [← Nat.succ_mul]; exact Nat.mul_le_mul_right _ hi
  intro i' r j p hr hp
  rw [List.getElem?_set] at hr
  by_cases e : i = i'
  · subst e
    simp only [if_true, hi] at hr
    simp only [Option.some.injEq] at hr; subst hr
    have hj : j < ws.length := (List.getElem?_eq_some_iff.1 hp).1
    obtain ⟨v, hv1, hv2⟩ := hv.get hp
    refine ⟨v, ?_, hv2⟩
    rw [List.getElem?_toArray, over_get _ _ _ (by omega), if_pos ⟨by omega, by omega⟩, Nat.add_sub_cancel_left]
    exact hv1
  · rw [if_neg e] at hr
    obtain ⟨v, hv1, hv2⟩ := hf i' r j p hr hp
    refine ⟨v, ?_, hv2⟩
    rw [List.getElem?_toArray] at hv1 ⊢
    rw [over_get _ _ _ (by omega), if_neg]
    · exact hv1
    · have hj : j < k := by
        rw [← hk r (List.mem_of_getElem? hr)]; exact (List.getElem?_eq_some_iff.1 hp).1
      rcases Nat.lt_or_ge i' i with h1 | h1
      · have : i' * k + k ≤ i * k := by rw [← Nat.succ_mul]; exact Nat.mul_le_mul_right _ h1
        omega
      · have : i * k + k ≤ i' * k := by rw [← Nat.succ_mul]; exact Nat.mul_le_mul_right _ (by omega)
        omega

theorem Flat.mono {D D' : Nat → Prop} {k : Nat} {rows : List (List PV)} {cur : Array Value} (h : ∀ b, D b → D' b ∧ w'.heap[b]? = w.heap[b]?) (hf : Flat w D k rows cur) : Flat w' D' k rows cur :=
  fun i r j p hr hp => let ⟨v, h1, h2⟩ := hf i r j p hr hp; ⟨v, h1, h2.mono h⟩

/-- parts, frozen into rows -/
theorem bslRows_ok {k : Nat} : ∀ {ps : List (Nat × Operand)} {ps' : List (Nat × X)} {m : Mt} {σ σ1 : St} {rows rows1 : List (List PV)} {cells : List Value},
    mapO (fun p => (ccX p.2).bind fun x => some (p.1, x)) ps = some ps' → SR CR m σ w → RE m σ w e a.tmps → evO.bslRows e σ k rows ps' = some (rows1, σ1) → Flat w m.D k rows cells.toArray → rows.length * k = cells.length →
      (∀ r : List PV, r ∈ rows → r.length = k) →
    ∃ m1 cells1, SR CR m1 σ1 w ∧ Xt m σ w m1 σ1 w ∧ Instr.fill (fun i => some (i * k, k)) cells.toArray (ps.map fun p => (p.1, a.eval p.2)) = some (List.toArray cells1) ∧ Flat w m1.D k rows1 (List.toArray cells1) ∧
      rows1.length = rows.length ∧ cells1.length = cells.length ∧ (∀ r : List PV, r ∈ rows1 → r.length = k) ∧ σ1.clk = σ.clk
  | [], ps', m, σ, σ1, rows, rows1, cells, hm, h, hE, hb, hf, hl, hk => by
    simp only [mapO, Option.some.injEq] at hm; subst hm
    simp only [evO.bslRows, Option.some.injEq, Prod.mk.injEq] at hb
    obtain ⟨rfl, rfl⟩ := hb
    exact ⟨m, cells, h, Xt.refl _ _ _, rfl, hf, rfl, rfl, hk, rfl⟩
  | (i, o) :: ps, ps', m, σ, σ1, rows, rows1, cells, hm, h, hE, hb, hf, hl, hk => by
    simp only [mapO] at hm
    obtain ⟨y, hy, hm⟩ := bindO hm
    obtain ⟨ys, hys, hm⟩ := bindO hm
    simp only [Option.some.injEq] at hm; subst hm
    obtain ⟨x, hx, hy⟩ := bindO hy
    simp only [Option.some.injEq] at hy; subst hy
    simp only [evO.bslRows] at hb
    obtain ⟨vs, hvs, hb⟩ := bindO hb
    obtain ⟨ws, hws, hb⟩ := bindO hb
    split at hb
    · rename_i hc
      obtain ⟨hc1, hc2⟩ := hc
      have hcl := cells_ok (ev_ok hE hx) hvs
      obtain ⟨m1, h1, x1, hf1⟩ := fkL_ok h hcl hws
      have hsz : (a.eval o).cells.size = k := by
        have := hcl.length; have := hf1.length; simp at *; omega
      have hf0 : Flat w m1.D k rows cells.toArray := hf.mono (fun b hb => ⟨x1.D b hb, rfl⟩)
      have hfl := flat_set hf0 (by omega) hk hc2 hc1 hf1
      have hik : i * k + k ≤ rows.length * k := by rw [← Nat.succ_mul]; exact Nat.mul_le_mul_right _ hc2
      have hol : (over cells (i * k) (a.eval o).cells.toList).length = cells.length := over_len _ _ _ (by simp; omega)
      obtain ⟨m2, cells2, h2, x2, e2, f2, l2, l3, k2, c2⟩ := bslRows_ok (ps := ps) (cells := over cells (i * k) (a.eval o).cells.toList) hys h1 (x1.re h hE) hb hfl (by rw [hol]; simp; omega)
        (fun r hr => by
          rcases List.mem_or_eq_of_mem_set hr with hr | rfl
          · exact hk r hr
          · exact hc1)
      refine ⟨m2, cells2, h2, x1.trans x2, ?_, f2, by simpa using l2, by omega, k2, by rw [c2, klL_clk]⟩
      simp only [List.map_cons]
      rw [fill_over (off := i * k) (size := k) rfl hsz (by simp; omega)]
      exact e2
    · cases hb

theorem bsl_ok (h : SR CR m σ w) (hE : RE m σ w e a.tmps) {t : TypeId} {el : Nat × Nat × Nat} (hel : telem P t = some el) {z : List AV} (hz : tzero P el.1 = some z) (hzl : zeroLen P el.1 = some el.2.1) {ps : List PV} (hps : frL σ z = some ps)
    {len : Nat} (hlen : len * el.2.1 ≤ 16777216) {parts : Array (Nat × Operand)} {parts' : List (Nat × X)} (hm : mapO (fun p => (ccX p.2).bind fun x => some (p.1, x)) parts.toList = some parts') {rows : List (List PV)} {σ1 : St}
    (hb : evO.bslRows e σ el.2.1 (List.replicate len ps) parts' = some (rows, σ1)) (d : Nat) :
    Eff P CR m σ w (do pure (Next.value (← Instr.buildSlice t len (parts.map fun (i, x) => (i, a.eval x))))) (.a (.own (d, σ1.clk) 0 len)) (σ1.add d (.row el.2.1 el.1 rows)) := by
  obtain ⟨hu, ii, hii, hsz, hby, hpos, hbp⟩ := telem_spec hel
  obtain ⟨ii', zv, hii', hzv, hzs⟩ := zeroLen_spec hzl
  rw [hii] at hii'; cases hii'
  obtain ⟨zv', hz1, hz2⟩ := tzero_run hz w
  have : zv' = zv := by
    simp [zeroValue, typeInfo, hii, hzv] at hz1; exact hz1.symm
  subst this
  have hpz := z_frozen (fun m σ w => hz2 m σ w) (tzero_own hz) hps m w
  have hpl : ps.length = el.2.1 := flat_len hzs hpz
  obtain ⟨m1, cells1, h1, x1, e1, f1, l1, l2, k1, c1⟩ := bslRows_ok (w := w) (cells := (madeCells zv'.cells (len * el.2.1)).toList) hm h hE hb
    (by simpa using flat_made (n := len * el.2.1) (by omega) hzs hpz (Nat.le_refl _)) (by simp [size_madeCells]) (fun r hr => by rw [List.mem_replicate] at hr; rw [hr.2]; exact hpl)
  have hs : (Instr.buildSlice t len (parts.map fun (i, x) => (i, a.eval x))).run P w = .ok (.slice (some ⟨w.heap.size, 0, none⟩) len len) (w.alloc (.cells cells1.toArray el.1)) := by
    have e2 : Instr.fill (fun i => some (i * el.2.1, el.2.1)) (madeCells zv'.cells (len * el.2.1)) (parts.map fun (x : Nat × Operand) => (x.1, a.eval x.2)).toList = some cells1.toArray := by
      rw [show (parts.map fun (x : Nat × Operand) => (x.1, a.eval x.2)).toList = parts.toList.map fun p => (p.1, a.eval p.2) by simp]
      simpa using e1
    have hsr : (sizeOf el.1).run P w = .ok el.2.1 w := by simp [sizeOf, typeInfo, hii, hsz]
    have hz0 : (zeroValue el.1).run P w = .ok zv' w := hz1
    have hnot : ¬ (len * el.2.1 > 2 ^ 24) := by omega
    by_cases hl0 : len * el.2.1 = 0
    · have e3 : Instr.fill (fun i => some (i * el.2.1, el.2.1)) #[] (parts.map fun (x : Nat × Operand) => (x.1, a.eval x.2)).toList = some cells1.toArray := by
        rw [hl0] at e2; simpa [madeCells, Array.range_zero'] using e2
      simp only [Instr.buildSlice, Sem.run_bind, run_underlying hu, Result.andThen_ok, hsr, Sem.run_ite]
      rw [if_neg hnot]
      simp only [Result.andThen_ok, Sem.run_pure, hl0, if_true, Array.range_zero', Array.map_empty]
      rw [e3]
      simp [newRow]
    · simp only [Instr.buildSlice, Sem.run_bind, run_underlying hu, Result.andThen_ok, hsr, Sem.run_ite]
      rw [if_neg hnot, if_neg hl0]
      simp only [Result.andThen_ok, Sem.run_pure, Sem.run_bind, hz0]
      have e4 : (Array.range (len * el.2.1)).map (fun x => zv'.cells[x % zv'.cells.size]!) = madeCells zv'.cells (len * el.2.1) := rfl
      rw [e4, e2]
      simp [newRow]
  have hml : len * el.2.1 = cells1.length := by rw [l2]; simp [size_madeCells]
  have hl1 : rows.length = len := by rw [l1]; simp
  let blk : Blk := .row el.2.1 el.1 rows
  let o : Obj := .cells cells1.toArray el.1
  have x2 := add_xt h1 d blk o len
  have hB : BR (m1.add (d, σ1.clk) (some (w.heap.size, len))) (σ1.add d blk) (w.alloc o) (d, σ1.clk) blk := by
    refine ⟨by omega, k1, .inr ⟨w.heap.size, len, _, by simp [Mt.add], World.alloc_heap_new w o, by simp; omega, by omega, ?_, ?_⟩⟩
    · have : len * 1 ≤ len * el.2.1 := Nat.mul_le_mul_left _ (by omega)
      simp only [maxLen]; omega
    · exact f1.mono (fun b hb => ⟨x2.D b hb, x2.kept b (h1.dlt b hb) (fun hi => h1.dj b hi hb)⟩)
  exact Eff.val hs (add_sr h1 d blk o len hB) (new_own h1 d _ _ _ o len len (Nat.le_refl _)) (x1.trans x2)
end

end Go.Fx
