import Derived.Test.YtkpfjolcmkikeaaFx4
import Derived.Laws.Tables
import Derived.Laws.Rows
import Derived.Laws.StructEq
import Derived.Laws.Strings
import Derived.Laws.CopyRow
/-
  What reads alone, held against the model.
-/
namespace Go.Fx
open Go.RowKit

theorem addr_add (B o n : Nat) : (⟨B, o, none⟩ : Addr).add n = ⟨B, o + n, none⟩ := by
  unfold Addr.add; split <;> simp_all
theorem addr_add' (a : Addr) (h : a.spot = none) (n : Nat) : a.add n = ⟨a.block, a.off + n, none⟩ := by
  cases a; simp only at h; subst h; exact addr_add _ _ _

theorem mapO_F2 {α β γ : Type} {f : α → Option β} {R : β → γ → Prop} {g : α → γ} (h : ∀ x y, f x = some y → R y (g x)) : ∀ {l : List α} {l' : List β}, mapO f l = some l' → F2 R l' (l.map g)
  | [], l', e => by simp [mapO] at e; subst e; exact .nil
  | x :: r, l', e => by
    simp only [mapO] at e
    obtain ⟨y, h1, e⟩ := Option.bind_eq_some_iff.1 e
    obtain ⟨ys, h2, e⟩ := Option.bind_eq_some_iff.1 e
    simp only [Option.some.injEq] at e; subst e
    exact .cons (h x y h1) (mapO_F2 h h2)

section
variable {m : Mt} {σ : St} {w : World}

theorem cAV_ok {v : Value} {x : AV} (h : cAV v = some x) : RA m σ w x v := by
  unfold cAV at h
  split at h <;> first | (simp only [Option.some.injEq] at h; subst h) | (cases h)
  · exact .b _
  · exact .i _ _
  · exact .s _
  · rfl
  · exact ⟨rfl, rfl⟩
  · exact ⟨rfl, rfl⟩

theorem cTV_ok {v : Value} {x : TV} (h : cTV v = some x) : RT m σ w x v := by
  unfold cTV at h
  split at h
  · rename_i vs
    split at h
    · rename_i hs
      simp only [Option.some.injEq] at h; subst h
      show Value.tuple vs = Value.tuple #[]
      rw [Array.eq_empty_of_size_eq_zero hs]
    · cases h
  · obtain ⟨y, h1, h⟩ := Option.bind_eq_some_iff.1 h
    simp only [Option.some.injEq] at h; subst h
    exact cAV_ok h1

theorem ev_ok {e : Env} {a : Act} (hE : RE m σ w e a.tmps) {x : Operand} {y : X} (h : ccX x = some y) : RT m σ w (ev e y) (a.eval x) := by
  cases x with
  | tmp t => simp only [ccX, Option.some.injEq] at h; subst h; exact hE t
  | const v =>
    simp only [ccX] at h
    obtain ⟨t, h1, h⟩ := Option.bind_eq_some_iff.1 h
    simp only [Option.some.injEq] at h; subst h
    exact cTV_ok h1
  | func f => simp only [ccX, Option.some.injEq] at h; subst h; exact ⟨[], rfl, .nil⟩
  | global g => simp [ccX] at h

theorem cells_ok {t : TV} {v : Value} {cs : List AV} (h : RT m σ w t v) (hc : cellsT t = some cs) : F2 (RA m σ w) cs v.cells.toList := by
  cases t with
  | u => simp [cellsT] at hc
  | a x =>
    simp only [cellsT, Option.some.injEq] at hc; subst hc
    have h1 : RA m σ w x v := h
    have : v.cells = #[v] := by have := h1.one; cases v <;> simp_all [Value.cells, Value.oneCell']
    rw [this]; exact .cons h1 .nil
  | g cs' =>
    simp only [cellsT, Option.some.injEq] at hc; subst hc
    obtain ⟨vs, rfl, h2⟩ := h
    simpa [Value.cells] using h2
  | t vs => simp [cellsT] at hc

theorem F2.one {cs : List AV} {vs : List Value} (h : F2 (RA m σ w) cs vs) : ∀ v ∈ vs, v.oneCell' = true := by
  induction h with
  | nil => simp
  | cons x _ ih => intro v hv; simp at hv; rcases hv with rfl | hv; exact x.one; exact ih v hv

theorem intT_ok {t : TV} {v : Value} {n : Int} (h : RT m σ w t v) (hn : intT t = some n) : ∃ k, v = .int k n := by
  unfold intT at hn
  split at hn
  · simp only [Option.some.injEq] at hn; subst hn
    rename_i k n
    have h : RP w m.D (.i k n) v := h
    cases h; exact ⟨k, rfl⟩
  · cases hn

theorem mkT_ok {g : Bool} {cs : List AV} {vs : List Value} {t : TV} (h : F2 (RA m σ w) cs vs) (ht : mkT g cs = some t) :
    if g = true then RT m σ w t (.agg vs.toArray) else ∃ v, vs = [v] ∧ RT m σ w t v := by
  cases g with
  | true => simp only [mkT, if_true, Option.some.injEq] at ht; subst ht; simpa using ⟨vs, rfl, h⟩
  | false =>
    simp only [mkT, Bool.false_eq_true, if_false] at ht ⊢
    cases h with
    | nil => simp at ht
    | cons x t' =>
      cases t' with
      | nil => simp only [Option.some.injEq] at ht; subst ht; exact ⟨_, rfl, x⟩
      | cons y t'' => simp at ht

/-- a slice's value and its rows -/
theorem RP.rows {D : Nat → Prop} {rows : List (List PV)} {v : Value} (h : RP w D (.l rows) v) : ∃ a cap, v = .slice a rows.length cap ∧ rows.length ≤ cap ∨ ∃ a cap, v = .slice a rows.length cap := by
  cases h with
  | e a cap => exact ⟨a, cap, .inr ⟨a, cap, rfl⟩⟩
  | l rows a k cap vals hs hD hc hk hv hr => exact ⟨some a, cap, .inl ⟨rfl, hc⟩⟩

theorem RP.slice {D : Nat → Prop} {rows : List (List PV)} {v : Value} (h : RP w D (.l rows) v) : ∃ a cap, v = .slice a rows.length cap := by
  cases h with
  | e a cap => exact ⟨a, cap, rfl⟩
  | l rows a k cap vals hs hD hc hk hv hr => exact ⟨some a, cap, rfl⟩

/-- the rows, read cell by cell -/
theorem RP.cells {D : Nat → Prop} {rows : List (List PV)} {v : Value} (h : RP w D (.l rows) v) (hne : rows ≠ []) :
    ∃ (a : Addr) (k cap : Nat) (vals : Nat → Nat → Value), v = .slice (some a) rows.length cap ∧ a.spot = none ∧ D a.block ∧ rows.length ≤ cap ∧ (∀ (i : Nat) (r : List PV), rows[i]? = some r → r.length = k) ∧
      (∀ (i : Nat) (r : List PV) (j : Nat) (c : PV), rows[i]? = some r → r[j]? = some c → w.cell? ⟨a.block, a.off + (i * k + j), none⟩ = some (vals i j)) ∧
      (∀ (i : Nat) (r : List PV) (j : Nat) (c : PV), rows[i]? = some r → r[j]? = some c → RP w D c (vals i j)) := by
  cases h with
  | e a cap => exact absurd rfl hne
  | l rows a k cap vals hs hD hc hk hv hr => exact ⟨a, k, cap, vals, rfl, hs, hD, hc, hk, hv, hr⟩

theorem F2_of_fun {R : PV → Value → Prop} (f : Nat → Value) : ∀ {r : List PV} (o : Nat), (∀ (i : Nat) c, r[i]? = some c → R c (f (o + i))) → F2 R r ((List.range r.length).map fun i => f (o + i))
  | [], _, _ => .nil
  | c :: r, o, h => by
    rw [List.length_cons, List.range_succ_eq_map, List.map_cons, List.map_map]
    refine .cons (h 0 c (by simp)) ?_
    have := F2_of_fun f (r := r) (o + 1) (fun i c hc => by have := h (i + 1) c (by simpa using hc); rwa [show o + (i + 1) = o + 1 + i by omega] at this)
    have e : (fun i => f (o + 1 + i)) = ((fun i => f (o + i)) ∘ Nat.succ) := by funext i; simp; congr 1; omega
    rw [e] at this; exact this

theorem F2_p {D : Nat → Prop} {cs : List PV} {vs : List Value} (hD : m.D = D) (h : F2 (RP w D) cs vs) : F2 (RA m σ w) (cs.map .p) vs := by
  induction h with
  | nil => exact .nil
  | cons x _ ih => exact .cons (by subst hD; exact x) ih

/-- the cells behind a pointer -/
theorem ldCells_ok {CR : Nat → Code → C → Prop} (hR : SR CR m σ w) {x : AV} {v : Value} (hx : RA m σ w x v) {n : Nat} {cs : List AV} (h : ldCells σ n x = some cs) :
    ∃ (B o : Nat) (vs : List Value), v = .pointer (some ⟨B, o, none⟩) ∧ vs.length = n ∧ (∀ j u, vs[j]? = some u → w.cell? ⟨B, o + j, none⟩ = some u) ∧ F2 (RA m σ w) cs vs := by
  cases x with
  | ptr s i j =>
    obtain ⟨⟨hlt, hp⟩, _⟩ := hx
    simp only [ldCells] at h
    cases hb : σ.bs s with
    | none => simp [hb] at h
    | some b =>
      obtain ⟨B, c, hm, rfl⟩ := hp b hb
      have hbr := hR.blk s b hb
      cases b with
      | var cells =>
        simp only [hb] at h
        obtain ⟨B', T, vs, h1, h2, h3⟩ := hbr.resolve_left (by rw [hm]; simp)
        rw [hm] at h1; simp only [Option.some.injEq, Prod.mk.injEq] at h1
        obtain ⟨rfl, _⟩ := h1
        split at h
        · rename_i hc
          obtain ⟨rfl, hl⟩ := hc
          simp only [Option.some.injEq] at h; subst h
          refine ⟨B, j, (vs.drop j).take n, by simp [Blk.k], ?_, ?_, (h3.drop j).take n⟩
          · have := h3.length; simp; omega
          · intro i u hu
            have : vs[j + i]? = some u := by
              rw [List.getElem?_take] at hu
              split at hu
              · simpa [List.getElem?_drop] using hu
              · cases hu
            simp only [World.cell?, h2]
            simpa using this
        · cases h
      | row k e rows =>
        simp only [hb] at h
        obtain ⟨hk, hkl, hbr⟩ := hbr
        cases hr : rows[i]? with
        | none => simp [hr] at h
        | some r =>
          simp only [hr] at h
          split at h
          · rename_i hl
            simp only [Option.some.injEq] at h; subst h
            rcases hbr with ⟨h1, _⟩ | ⟨B', c', cur, h1, h2, h3, h4, h5, h6⟩
            · rw [hm] at h1; cases h1
            · rw [hm] at h1; simp only [Option.some.injEq, Prod.mk.injEq] at h1
              obtain ⟨rfl, rfl⟩ := h1
              have hf : ∀ (q : Nat) p, r[q]? = some p → ∃ u, cur[i * k + q]? = some u ∧ RP w m.D p u := fun q p hq => h6 i r q p hr hq
              refine ⟨B, i * k + j, (List.range ((r.drop j).take n).length).map fun q => (cur[i * k + (j + q)]?).getD undef, rfl, ?_, ?_, ?_⟩
              · simp; omega
              · intro q u hu
                simp only [List.getElem?_map] at hu
                have hql : q < ((r.drop j).take n).length := by
                  rcases Nat.lt_or_ge q ((r.drop j).take n).length with h' | h'
                  · exact h'
                  · rw [List.getElem?_eq_none (by simpa using h')] at hu; cases hu
                rw [List.getElem?_range hql] at hu
                simp only [Option.map_some, Option.some.injEq] at hu
                have hjq : j + q < r.length := by simp at hql; omega
                obtain ⟨u', hu', _⟩ := hf (j + q) _ (List.getElem?_eq_getElem hjq)
                rw [hu'] at hu; simp only [Option.getD_some] at hu; subst hu
                simp only [World.cell?, h2]
                simp only [Option.isSome_none, Bool.false_eq_true, if_false]
                rw [show i * k + j + q = i * k + (j + q) by omega]; exact hu'
              · refine F2_p rfl (F2_of_fun (fun q => (cur[i * k + q]?).getD undef) j ?_)
                intro q c hc
                have : r[j + q]? = some c := by
                  rw [List.getElem?_take] at hc
                  split at hc
                  · simpa [List.getElem?_drop] using hc
                  · cases hc
                obtain ⟨u', hu', hr'⟩ := hf (j + q) c this
                simp only [hu', Option.getD_some]; exact hr'
          · cases h
  | cptr r j =>
    obtain ⟨B, o, vals, hD, rfl, hr⟩ := hx
    simp only [ldCells] at h
    split at h
    · rename_i hl
      simp only [Option.some.injEq] at h; subst h
      refine ⟨B, o + j, (List.range ((r.drop j).take n).length).map fun q => vals (j + q), rfl, by simp; omega, ?_, ?_⟩
      · intro q u hu
        simp only [List.getElem?_map] at hu
        have hql : q < ((r.drop j).take n).length := by
          rcases Nat.lt_or_ge q ((r.drop j).take n).length with h' | h'
          · exact h'
          · rw [List.getElem?_eq_none (by simpa using h')] at hu; cases hu
        rw [List.getElem?_range hql] at hu
        simp only [Option.map_some, Option.some.injEq] at hu
        have hjq : j + q < r.length := by simp at hql; omega
        have := (hr (j + q) _ (List.getElem?_eq_getElem hjq)).1
        rw [hu, ← Nat.add_assoc] at this; exact this
      · refine F2_p rfl (F2_of_fun vals j ?_)
        intro q c hc
        have : r[j + q]? = some c := by
          rw [List.getElem?_take] at hc
          split at hc
          · simpa [List.getElem?_drop] using hc
          · cases hc
        exact (hr (j + q) c this).2
    · cases h
  | p y => simp [ldCells] at h
  | nil => simp [ldCells] at h
  | own s off len => simp [ldCells] at h
  | fn f caps => simp [ldCells] at h
  | yl l => simp [ldCells] at h
  | raw c => simp [ldCells] at h
end

/-! ### operations -/
theorem tsz_run {P : Program} {t : TypeId} {n : Nat} (h : tsz P t = some n) (w : World) : (sizeOf t).run P w = .ok n w := by
  unfold tsz at h
  obtain ⟨i, hi, h⟩ := Option.bind_eq_some_iff.1 h
  simp only [Option.some.injEq] at h; subst h
  simp [sizeOf, typeInfo, hi]
theorem tag_run {P : Program} {t : TypeId} {g : Bool} (h : tag P t = some g) (w : World) : (isAgg t).run P w = .ok g w := by
  unfold tag at h
  obtain ⟨d, hd, h⟩ := Option.bind_eq_some_iff.1 h
  simp only [Option.some.injEq] at h; subst h
  simp only [isAgg, Sem.run_bind, run_underlying hd, Result.andThen_ok]
  cases d <;> rfl
theorem tzero_run {P : Program} {t : TypeId} {z : List AV} (h : tzero P t = some z) (w : World) : ∃ v, (zeroValue t).run P w = .ok v w ∧ ∀ m σ w, F2 (RA m σ w) z v.cells.toList := by
  unfold tzero at h
  obtain ⟨i, hi, h⟩ := Option.bind_eq_some_iff.1 h
  obtain ⟨v, hv, h⟩ := Option.bind_eq_some_iff.1 h
  refine ⟨v, by simp [zeroValue, typeInfo, hi, hv], fun m σ w => ?_⟩
  have := mapO_F2 (R := RA m σ w) (g := fun v : Value => v) (fun _ _ => cAV_ok) h
  simpa using this
theorem telem_spec {P : Program} {t : TypeId} {e : Nat × Nat × Nat} (h : telem P t = some e) : P.underlying t = some (.slice e.1) ∧ ∃ i, P.info? e.1 = some i ∧ i.size = e.2.1 ∧ i.bytes = e.2.2 ∧ 0 < i.size ∧ 0 < i.bytes := by
  unfold telem at h
  split at h
  · rename_i el hu
    obtain ⟨i, hi, h⟩ := Option.bind_eq_some_iff.1 h
    split at h
    · simp only [Option.some.injEq] at h; subst h
      exact ⟨hu, i, hi, rfl, rfl, by assumption⟩
    · cases h
  · cases h
theorem tfield_spec {P : Program} {t : TypeId} {f : Nat} {p : Nat × TypeId} (h : tfield P t f = some p) : ∃ fs fd, P.underlying t = some (.struct fs) ∧ fs[f]? = some fd ∧ fd.offset = p.1 ∧ fd.type = p.2 := by
  unfold tfield at h
  split at h
  · rename_i fs hu
    obtain ⟨fd, hf, h⟩ := Option.bind_eq_some_iff.1 h
    simp only [Option.some.injEq] at h; subst h
    exact ⟨fs, fd, hu, hf, rfl, rfl⟩
  · cases h

theorem bin_ok {P : Program} {op : BinOp} {t : TypeId} {w : World} {D : Nat → Prop} {a c r : PV} {x y : Value} (hop : op ≠ .shl ∧ op ≠ .shr ∧ op ≠ .and ∧ op ≠ .or ∧ op ≠ .xor ∧ op ≠ .andNot)
    (hx : RP w D a x) (hy : RP w D c y) (h : binPV op a c = some r) (ox oy : Operand) :
    ∃ v, ((do eqGuard op t ox oy x y; binOp op t x y : Sem Value)).run P w = .ok v w ∧ RP w D r v := by
  unfold binPV at h
  split at h
  · rename_i k p k' q
    cases hx; cases hy
    split at h
    · rename_i hk
      subst hk
      have hg : (eqGuard op t ox oy (.int k p) (.int k q)).run P w = .ok () w := by
        unfold eqGuard; split <;> simp
      cases op <;> simp only [Option.some.injEq, reduceCtorEq] at h <;> (try subst h) <;> (try (simp only [Sem.run_bind, hg, Result.andThen_ok]; refine ⟨_, by simp only [binOp, ne_eq, not_true_eq_false, if_false, Op.intArith, Op.intCmp]; rfl, ?_⟩))
      · exact .i _ _
      · exact .i _ _
      · exact .i _ _
      · split at h
        · cases h
        · rename_i hq
          simp only [Option.some.injEq] at h; subst h
          refine ⟨_, ?_, .i _ _⟩
          simp only [Sem.run_bind, hg, Result.andThen_ok]
          simp [binOp, Op.intDiv, hq]
      · split at h
        · cases h
        · rename_i hq
          simp only [Option.some.injEq] at h; subst h
          refine ⟨_, ?_, .i _ _⟩
          simp only [Sem.run_bind, hg, Result.andThen_ok]
          simp [binOp, Op.intDiv, hq]
      all_goals first | exact .b _ | skip
    · cases h
  · rename_i p q
    generalize hp : (PV.s p) = pp at hx
    generalize hq : (PV.s q) = qq at hy
    cases hx <;> simp only [PV.s.injEq, reduceCtorEq] at hp
    cases hy <;> simp only [PV.s.injEq, reduceCtorEq] at hq
    rename_i x y
    subst hp; subst hq
    have hg : (eqGuard op t ox oy (.string x) (.string y)).run P w = .ok () w := by
      unfold eqGuard; split <;> simp
    simp only [Sem.run_bind, hg, Result.andThen_ok]
    cases op <;> simp only [Option.some.injEq, reduceCtorEq] at h
    · split at h
      · rename_i hl
        simp only [Option.some.injEq] at h; subst h
        refine ⟨.string (x ++ y), ?_, ?_⟩
        · simp only [binOp, Op.stringOp]
          simp only [Array.length_toList, ByteArray.size_data] at hl
          simp
          omega
        · have := RP.s (w := w) (D := D) (x ++ y)
          simpa using this
      · cases h
    · subst h
      refine ⟨_, by simp only [binOp, Op.stringOp]; rfl, ?_⟩
      have : (x.toList == y.toList) = decide (x.data.toList = y.data.toList) := by rw [ByteArray.toList_eq, ByteArray.toList_eq, Bool.eq_iff_iff]; simp
      rw [this]; exact .b _
    · subst h
      refine ⟨_, by simp only [binOp, Op.stringOp]; rfl, ?_⟩
      have : (x.toList == y.toList) = decide (x.data.toList = y.data.toList) := by rw [ByteArray.toList_eq, ByteArray.toList_eq, Bool.eq_iff_iff]; simp
      rw [this]; exact .b _
  · cases h

end Go.Fx
