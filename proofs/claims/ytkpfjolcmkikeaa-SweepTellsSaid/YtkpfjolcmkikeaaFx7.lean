import Derived.Test.YtkpfjolcmkikeaaFx6
import Derived.Laws.BytesString
/-
  All operations that read alone, and make no call.
-/
set_option linter.unusedSimpArgs false
set_option linter.unusedVariables false
namespace Go.Fx
open Go.RowKit

section
variable {P : Program} {eqs : List (TypeId × List Nat)} {CR : Nat → Code → C → Prop} {m : Mt} {σ : St} {w : World} {e : Env} {a : Act}

theorem RT.i {k : IntKind} {n : Int} {v : Value} (h : RT m σ w (.a (.p (.i k n))) v) : v = .int k n := by
  have h : RP w m.D (.i k n) v := h
  cases h; rfl
theorem RT.b {x : Bool} {v : Value} (h : RT m σ w (.a (.p (.b x))) v) : v = .bool x := by
  have h : RP w m.D (.b x) v := h
  cases h; rfl
theorem RT.s {x : List UInt8} {v : Value} (h : RT m σ w (.a (.p (.s x))) v) : ∃ b : ByteArray, v = .string b ∧ b.data.toList = x := by
  have h : RP w m.D (.s x) v := h
  generalize hq : (PV.s x) = q at h
  cases h <;> simp only [PV.s.injEq, reduceCtorEq] at hq
  exact ⟨_, rfl, hq.symm⟩

theorem intT_a {t : TV} {n : Int} (h : intT t = some n) : ∃ k, t = .a (.p (.i k n)) := by
  unfold intT at h
  split at h
  · simp only [Option.some.injEq] at h; subst h; exact ⟨_, rfl⟩
  · cases h

theorem caps_ok (hE : RE m σ w e a.tmps) : ∀ {l : List Operand} {l' : List X} {ks : List Key}, mapO ccX l = some l' → capsOf e l' = some ks → F2 (fun s u => ptrV m σ s 0 0 u ∧ ∃ A, u = .pointer (some A)) ks (l.map a.eval)
  | [], l', ks, h, h2 => by simp [mapO] at h; subst h; simp [capsOf] at h2; subst h2; exact .nil
  | x :: r, l', ks, h, h2 => by
    simp only [mapO] at h
    obtain ⟨y, h1, h⟩ := bindO h
    obtain ⟨ys, h3, h⟩ := bindO h
    simp only [Option.some.injEq] at h; subst h
    simp only [capsOf] at h2
    have hy := ev_ok hE h1
    split at h2
    · rename_i s hs
      rw [hs] at hy
      obtain ⟨ks', h4, h2⟩ := bindO h2
      simp only [Option.some.injEq] at h2; subst h2
      exact .cons hy (caps_ok hE h3 h4)
    · cases h2

theorem len_ok {x : AV} {v : Value} (hx : RA m σ w x v) {t : TypeId} {n : Nat} {str : Bool} (hl : lenA str x = some n)
    (ht : if str = true then P.underlying t = some .string else ∃ el, P.underlying t = some (.slice el)) (ty : TypeId) : (Builtin.len_ #[t] ty #[v]).run P w = .ok (.int .i64 n) w := by
  cases str with
  | true =>
    simp only [if_true] at ht
    unfold lenA at hl
    split at hl <;> simp only [Option.some.injEq, reduceCtorEq, Bool.true_eq_false, Bool.false_eq_true] at hl <;> (try (rename_i h0; cases h0; done))
    rename_i y
    obtain ⟨b, rfl, hb⟩ := RT.s (m := m) (σ := σ) (w := w) hx
    subst hl
    simp [Builtin.len_, run_underlying ht, goInt, ← hb]
  | false =>
    simp only [Bool.false_eq_true, if_false] at ht
    obtain ⟨el, hk⟩ := ht
    have : ∃ b c, v = .slice b n c := by
      unfold lenA at hl
      split at hl <;> simp only [Option.some.injEq, reduceCtorEq, Bool.true_eq_false, Bool.false_eq_true] at hl <;> (try (rename_i h0; cases h0; done))
      · subst hl; obtain ⟨b, cap, rfl⟩ := RP.slice hx; exact ⟨b, cap, rfl⟩
      · subst hl; cases hx; exact ⟨none, 0, rfl⟩
      · subst hl; obtain ⟨_, ⟨b, c, rfl, _⟩, _⟩ := hx; exact ⟨b, c, rfl⟩
    obtain ⟨b, c, rfl⟩ := this
    simp [Builtin.len_, run_underlying hk, goInt]

/-- the blocks that may be read: those of D, and the call's own -/
def DS (m : Mt) (σ : St) (b : Nat) : Prop := m.D b ∨ InS m σ b

/-- the blocks that may be read, and those of one slice of the call's own -/
def DK (m : Mt) (σ : St) (s : Key) (b : Nat) : Prop := m.D b ∨ ∃ blk c, σ.bs s = some blk ∧ m.mu s = some (b, c)
def DA (m : Mt) (σ : St) : AV → Nat → Prop
  | .own s _ _ => DK m σ s
  | _ => m.D

theorem frA_fine (hR : SR CR m σ w) {x : AV} {v : Value} (hx : RA m σ w x v) {p : PV} (h : frA σ x = some p) : RP w (DA m σ x) p v := by
  cases x with
  | p y => simp only [frA, Option.some.injEq] at h; subst h; exact hx
  | nil => simp only [frA, Option.some.injEq] at h; subst h; cases hx; exact .e _ _
  | own s off len =>
    simp only [frA] at h
    cases hb : σ.bs s with
    | none => simp [hb] at h
    | some b =>
      cases b with
      | var cs => simp [hb] at h
      | row k el rows =>
        simp only [hb] at h
        split at h
        · rename_i hl
          simp only [Option.some.injEq] at h; subst h
          rcases hx.2.2 k el rows hb with ⟨rfl, a, rfl⟩ | ⟨B, c, hm, rfl, hle⟩
          · simp only [List.take_zero]; exact .e _ _
          · obtain ⟨hk, hkl, hbr⟩ := hR.blk s _ hb
            rcases hbr with ⟨h1, _⟩ | ⟨B', c', cur, h1, h2, h3, h4, h5, h6⟩
            · rw [hm] at h1; cases h1
            · rw [hm] at h1; simp only [Option.some.injEq, Prod.mk.injEq] at h1
              obtain ⟨rfl, rfl⟩ := h1
              have hlen : ((rows.drop off).take len).length = len := by simp; omega
              have hget : ∀ (i : Nat) (r : List PV), ((rows.drop off).take len)[i]? = some r → rows[off + i]? = some r := by
                intro i r hr
                rw [List.getElem?_take] at hr
                split at hr
                · simpa [List.getElem?_drop] using hr
                · cases hr
              have key := RP.l (w := w) (D := DK m σ s) ((rows.drop off).take len) ⟨B, off * k, none⟩ k (c - off) (fun i j => (cur[(off + i) * k + j]?).getD undef) rfl (.inr ⟨_, c, hb, hm⟩) (by omega)
                (fun i r hr => hkl r (List.mem_of_getElem? (hget i r hr)))
                (fun i r j q hr hq => by
                  obtain ⟨u, hu, _⟩ := h6 (off + i) r j q (hget i r hr) hq
                  simp only [World.cell?, h2, Option.isSome_none, Bool.false_eq_true, if_false]
                  rw [show off * k + (i * k + j) = (off + i) * k + j by rw [Nat.add_mul]; omega, hu]; rfl)
                (fun i r j q hr hq => by
                  obtain ⟨u, hu, hp⟩ := h6 (off + i) r j q (hget i r hr) hq
                  simp only [hu, Option.getD_some]
                  exact RP.mono (fun b hb => ⟨.inl hb, rfl⟩) hp)
              rw [hlen] at key
              exact key
        · cases h
  | ptr s i j => simp [frA] at h
  | cptr r j => simp [frA] at h
  | fn f caps => simp [frA] at h
  | yl l => simp [frA] at h
  | raw c =>
    obtain ⟨rfl, _⟩ := hx
    cases v with
    | slice a n cap =>
      cases n with
      | zero => simp only [frA, rawE, Option.some.injEq] at h; subst h; exact .e _ _
      | succ n => simp [frA, rawE] at h
    | _ => simp [frA, rawE] at h

theorem frA_ok (hR : SR CR m σ w) {x : AV} {v : Value} (hx : RA m σ w x v) {p : PV} (h : frA σ x = some p) : RP w (DS m σ) p v := by
  refine RP.mono (fun b hb => ⟨?_, rfl⟩) (frA_fine hR hx h)
  cases x with
  | own s off len =>
    rcases hb with hb | ⟨blk, c, h1, h2⟩
    · exact .inl hb
    · exact .inr (.inl ⟨s, blk, c, h1, h2⟩)
  | _ => exact .inl hb

theorem bytes_one {D : Nat → Prop} {rows : List (List PV)} {bs : List UInt8} (h : bytesOf rows = some bs) (f : Nat → Nat → Value) (hf : ∀ (i : Nat) (r : List PV) (j : Nat) (c : PV), rows[i]? = some r → r[j]? = some c → RP w D c (f i j)) :
    ∃ ns : List Int, ns.length = rows.length ∧ (∀ (j : Nat) q, ns[j]? = some q → ∃ r, rows[j]? = some r ∧ r = [.i .u8 q]) ∧ ns.map (fun n => UInt8.ofNat n.toNat) = bs := by
  induction rows generalizing bs f with
  | nil => simp [bytesOf] at h; subst h; exact ⟨[], rfl, by simp, rfl⟩
  | cons r rs ih =>
    unfold bytesOf at h
    split at h
    · rename_i e; cases e
    · rename_i n rs' e; cases e
      obtain ⟨bs', h1, h⟩ := bindO h
      simp only [Option.some.injEq] at h; subst h
      obtain ⟨ns, a1, a2, a3⟩ := ih h1 (fun i j => f (i + 1) j) (fun i r j c hi hj => hf (i + 1) r j c (by simpa using hi) hj)
      refine ⟨n :: ns, by simp [a1], fun j q hq => ?_, by simp [a3]⟩
      cases j with
      | zero => simp at hq; subst hq; exact ⟨_, by simp, rfl⟩
      | succ j => obtain ⟨r, h2, h3⟩ := a2 j q (by simpa using hq); exact ⟨r, by simpa using h2, h3⟩
    · cases h

theorem cvs_ok {rows : List (List PV)} {bs : List UInt8} {D : Nat → Prop} {v : Value} (h : RP w D (.l rows) v) (hb : bytesOf rows = some bs) :
    ∃ s : ByteArray, (Conv.bytesToString v).run P w = .ok (.string s) w ∧ s.data.toList = bs := by
  by_cases hne : rows = []
  · subst hne
    simp only [bytesOf, Option.some.injEq] at hb; subst hb
    obtain ⟨a, cap, rfl⟩ := h.slice
    cases a with
    | none => exact ⟨.empty, by simp [Conv.bytesToString], rfl⟩
    | some a => exact ⟨.empty, by simp [Conv.bytesToString, loadCells, loadCellsFrom], rfl⟩
  · obtain ⟨a, k, cap, vals, rfl, hs, hD, hc, hk, hv, hr⟩ := h.cells hne
    have hb2 := bytes_one (w := w) (D := D) hb vals hr
    obtain ⟨ns, hn1, hn2, hn3⟩ := hb2
    have hk1 : k = 1 := by
      cases rows with
      | nil => exact absurd rfl hne
      | cons r rs =>
        have := hk 0 r (by simp)
        unfold bytesOf at hb
        split at hb
        · rename_i e; cases e
        · rename_i e; cases e; exact this.symm
        · cases hb
    subst hk1
    have hl : (loadCells a rows.length).run P w = .ok (ns.map (Value.int .u8)).toArray w := by
      have := run_loadCells_list (P := P) w a (ns.map (Value.int .u8)) (fun j u hu => by
        rw [List.getElem?_map] at hu
        cases hj : ns[j]? with
        | none => simp [hj] at hu
        | some q =>
          simp only [hj, Option.map_some, Option.some.injEq] at hu; subst hu
          obtain ⟨r, hr1, hr2⟩ := hn2 j q hj
          rw [addr_add' a hs]
          have := hv j r 0 (.i .u8 q) hr1 (by rw [hr2]; simp)
          rw [show a.off + (j * 1 + 0) = a.off + j by omega] at this
          have h4 := hr j r 0 (.i .u8 q) hr1 (by rw [hr2]; simp)
          generalize vals j 0 = u at *
          cases h4
          exact this)
      rw [List.length_map, hn1] at this
      exact this
    refine ⟨_, run_bytesToString w a rows.length cap ns hl, ?_⟩
    rw [← hn3]
    have key : ∀ (l : List Int) (acc : ByteArray), (l.foldl (fun r n => r.push (UInt8.ofNat n.toNat)) acc).data.toList = acc.data.toList ++ l.map fun n => UInt8.ofNat n.toNat := by
      intro l
      induction l with
      | nil => simp
      | cons x l ih => intro acc; rw [List.foldl_cons, ih]; simp [ByteArray.push]
    rw [key]; rfl

theorem fa_ok {t : TypeId} {f : Nat} {p : Nat × TypeId} {n : Nat} (h1 : tfield P t f = some p) (h2 : tsz P p.2 = some n) (h3 : n ≠ 0) (A : Addr) :
    (Instr.fieldAt t (.pointer (some A)) f).run P w = .ok (.pointer (some (A.add p.1))) w := by
  obtain ⟨fs, fd, hu, hf, hp1, hp2⟩ := tfield_spec h1
  rw [← hp2] at h2
  have hsz := tsz_run h2 w
  simp only [Instr.fieldAt, Sem.run_bind, run_underlying hu, Result.andThen_ok, hf, Instr.sureAddr, Sem.run_pure, fieldPlace, hsz, Sem.run_ite]
  rw [if_neg h3]
  simp [hp1]

/-- EVERY OPERATION THAT READS ALONE, AND IS NO CALL. -/
theorem evR_ok (hR : SR CR m σ w) (hE : RE m σ w e a.tmps) (hEq : EqOk P eqs) {cp : FuncId → List PT → Option PT} {sp : FuncId → Bool} {o : Oper} {op : O} {t_ : TV} (hcc : ccO P eqs o.op = some op)
    (hev : evR cp sp e σ op = some t_) (hnc : ∀ f args, op ≠ .call f args) : ∃ v, (execOp a.eval o).run P w = .ok (.value v) w ∧ RT m σ w t_ v := by
  obtain ⟨dst, opc, ty, pos, after, guard⟩ := o
  simp only at hcc
  have fin : ∀ {s : Sem Value} {v : Value}, s.run P w = .ok v w → (do pure (Next.value (← s)) : Sem Next).run P w = .ok (.value v) w := by
    intro s v hs; simp [hs]
  cases opc with
  | move x =>
    simp only [ccO] at hcc
    obtain ⟨y, hy, hcc⟩ := bindO hcc
    simp only [Option.some.injEq] at hcc; subst hcc
    simp only [evR, Option.some.injEq] at hev; subst hev
    exact ⟨a.eval x, rfl, ev_ok hE hy⟩
  | assign x =>
    simp only [ccO] at hcc
    obtain ⟨y, hy, hcc⟩ := bindO hcc
    simp only [Option.some.injEq] at hcc; subst hcc
    simp only [evR, Option.some.injEq] at hev; subst hev
    exact ⟨a.eval x, rfl, ev_ok hE hy⟩
  | pick c x y =>
    simp only [ccO] at hcc
    obtain ⟨c', hc, hcc⟩ := bindO hcc
    obtain ⟨x', hx, hcc⟩ := bindO hcc
    obtain ⟨y', hy, hcc⟩ := bindO hcc
    simp only [Option.some.injEq] at hcc; subst hcc
    simp only [evR] at hev
    split at hev
    · rename_i q hq
      simp only [Option.some.injEq] at hev; subst hev
      have h1 := ev_ok hE hc
      rw [hq] at h1
      have h1 := h1.b
      refine ⟨if q then a.eval x else a.eval y, ?_, ?_⟩
      · simp only [execOp, h1, asBool, Sem.run_bind, Sem.run_pure, Result.andThen_ok]
      · cases q
        · exact ev_ok hE hy
        · exact ev_ok hE hx
    · cases hev
  | alloc t => simp only [ccO] at hcc; obtain ⟨z, _, hcc⟩ := bindO hcc; simp only [Option.some.injEq] at hcc; subst hcc; simp [evR] at hev
  | box t x => simp only [ccO] at hcc; obtain ⟨y, _, hcc⟩ := bindO hcc; obtain ⟨n, _, hcc⟩ := bindO hcc; simp only [Option.some.injEq] at hcc; subst hcc; simp [evR] at hev
  | build t ps =>
    obtain ⟨v, h1, h2⟩ := build_ok hE hcc hev
    exact ⟨v, fin h1, h2⟩
  | buildSlice t len ps =>
    simp only [ccO] at hcc
    obtain ⟨el, _, hcc⟩ := bindO hcc
    obtain ⟨z, _, hcc⟩ := bindO hcc
    split at hcc
    · obtain ⟨ps', _, hcc⟩ := bindO hcc
      simp only [Option.some.injEq] at hcc; subst hcc; simp [evR] at hev
    · cases hcc
  | load t x =>
    simp only [ccO] at hcc
    obtain ⟨y, hy, hcc⟩ := bindO hcc
    obtain ⟨n, hn, hcc⟩ := bindO hcc
    obtain ⟨g, hg, hcc⟩ := bindO hcc
    split at hcc
    · cases hcc
    · rename_i hg1
      simp only [Option.some.injEq] at hcc; subst hcc
      simp only [evR] at hev
      split at hev
      · rename_i q hq
        have h1 := ev_ok hE hy
        rw [hq] at h1
        obtain ⟨u, h2, h3⟩ := load_ok hR h1 hn hg hg1 hev
        exact ⟨u, fin h2, h3⟩
      · cases hev
  | store t x y => simp only [ccO] at hcc; obtain ⟨_, _, hcc⟩ := bindO hcc; obtain ⟨_, _, hcc⟩ := bindO hcc; obtain ⟨_, _, hcc⟩ := bindO hcc; simp only [Option.some.injEq] at hcc; subst hcc; simp [evR] at hev
  | nilCheck x =>
    simp only [ccO] at hcc
    obtain ⟨y, hy, hcc⟩ := bindO hcc
    simp only [Option.some.injEq] at hcc; subst hcc
    have h1 := ev_ok hE hy
    simp only [evR] at hev
    split at hev
    · rename_i s i j hq
      rw [hq] at h1
      simp only [Option.some.injEq] at hev; subst hev
      have h1' := h1
      obtain ⟨hp, A, hv⟩ := h1'
      refine ⟨a.eval x, ?_, h1⟩
      simp [execOp, hv]
    · rename_i r j hq
      rw [hq] at h1
      simp only [Option.some.injEq] at hev; subst hev
      have h1' := h1
      obtain ⟨B, o, vals, hD, hv, hr⟩ := h1'
      refine ⟨a.eval x, ?_, h1⟩
      simp [execOp, hv]
    · cases hev
  | binOp bop t x y ty' =>
    simp only [ccO] at hcc
    obtain ⟨x', hx, hcc⟩ := bindO hcc
    obtain ⟨y', hy, hcc⟩ := bindO hcc
    have hx1 := ev_ok hE hx
    have hy1 := ev_ok hE hy
    have plain : (bop ≠ .shl ∧ bop ≠ .shr ∧ bop ≠ .and ∧ bop ≠ .or ∧ bop ≠ .xor ∧ bop ≠ .andNot) → ∀ r, evR cp sp e σ (.bin bop x' y') = some r →
        ∃ v, (do eqGuard bop t x y (a.eval x) (a.eval y); binOp bop t (a.eval x) (a.eval y) : Sem Value).run P w = .ok v w ∧ RT m σ w r v := by
      intro hb r hr
      simp only [evR] at hr
      split at hr
      · rename_i p q hp hq
        obtain ⟨s, hs, hr⟩ := bindO hr
        simp only [Option.some.injEq] at hr; subst hr
        rw [hp] at hx1; rw [hq] at hy1
        obtain ⟨v, h1, h2⟩ := bin_ok (P := P) (t := t) hb hx1 hy1 hs x y
        exact ⟨v, h1, h2⟩
      · cases hr
    have eqs1 : ∀ (neg : Bool), (bop = .eql ∧ neg = false ∨ bop = .neq ∧ neg = true) → P.underlying t = some .bool → ∀ r, evR cp sp e σ (.eqb neg x' y') = some r →
        ∃ v, (do eqGuard bop t x y (a.eval x) (a.eval y); binOp bop t (a.eval x) (a.eval y) : Sem Value).run P w = .ok v w ∧ RT m σ w r v := by
      intro neg hb hu r hr
      simp only [evR] at hr
      split at hr
      · rename_i p q hp hq
        simp only [Option.some.injEq] at hr; subst hr
        rw [hp] at hx1; rw [hq] at hy1
        rw [hx1.b, hy1.b]
        have hg : (eqGuard bop t x y (.bool p) (.bool q)).run P w = .ok () w := by unfold eqGuard; split <;> simp
        have he : (Op.equal t (.bool p) (.bool q)).run P w = .ok (p == q) w := by
          exact run_equalIn_bool' w 9999 t p q hu
        have hd : (p == q) = decide (p = q) := by cases p <;> cases q <;> rfl
        simp only [Sem.run_bind, hg, Result.andThen_ok]
        rcases hb with ⟨rfl, rfl⟩ | ⟨rfl, rfl⟩
        · refine ⟨_, by simp only [binOp, Sem.run_bind, he, Result.andThen_ok, Sem.run_pure]; rfl, ?_⟩
          rw [hd]; exact RP.b _
        · refine ⟨_, by simp only [binOp, Sem.run_bind, he, Result.andThen_ok, Sem.run_pure]; rfl, ?_⟩
          rw [hd]; exact RP.b _
      · cases hr
    have eqs2 : ∀ (neg : Bool) sh, (bop = .eql ∧ neg = false ∨ bop = .neq ∧ neg = true) → (t, sh) ∈ eqs → ∀ r, evR cp sp e σ (.eqg neg sh x' y') = some r →
        ∃ v, (do eqGuard bop t x y (a.eval x) (a.eval y); binOp bop t (a.eval x) (a.eval y) : Sem Value).run P w = .ok v w ∧ RT m σ w r v := by
      intro neg sh hb hu r hr
      simp only [evR] at hr
      split at hr
      · rename_i p q hp hq
        obtain ⟨s, hs, hr⟩ := bindO hr
        simp only [Option.some.injEq] at hr; subst hr
        rw [hp] at hx1; rw [hq] at hy1
        obtain ⟨xs, hxs, hx2⟩ := hx1
        obtain ⟨ys, hys, hy2⟩ := hy1
        rw [hxs, hys]
        obtain ⟨he, hg⟩ := hEq t sh hu p q s hs m σ w xs ys hx2 hy2 w
        simp only [Sem.run_bind, hg, Result.andThen_ok]
        rcases hb with ⟨rfl, rfl⟩ | ⟨rfl, rfl⟩
        · refine ⟨_, by simp only [binOp, Sem.run_bind, he, Result.andThen_ok, Sem.run_pure]; rfl, ?_⟩
          exact RP.b _
        · refine ⟨_, by simp only [binOp, Sem.run_bind, he, Result.andThen_ok, Sem.run_pure]; rfl, ?_⟩
          exact RP.b _
      · cases hr
    have eqs3 : ∀ (neg : Bool) (el : TypeId), (bop = .eql ∧ neg = false ∨ bop = .neq ∧ neg = true) → P.underlying t = some (.slice el) → isNilX y' = true → ∀ r, evR cp sp e σ (.nq neg x') = some r →
        ∃ v, (do eqGuard bop t x y (a.eval x) (a.eval y); binOp bop t (a.eval x) (a.eval y) : Sem Value).run P w = .ok v w ∧ RT m σ w r v := by
      intro neg el hb hu hn r hr
      have hy2 : a.eval y = .slice none 0 0 := by
        unfold isNilX at hn
        split at hn
        · exact hy1
        · cases hn
      have hx2 : ∃ ad n c s, a.eval x = .slice ad n c ∧ ad.isNone = s ∧ r = .a (.p (.b (if neg then !s else s))) := by
        simp only [evR] at hr
        split at hr
        · rename_i q hq
          rw [hq] at hx1
          obtain ⟨s, hs, hr⟩ := bindO hr
          simp only [Option.some.injEq] at hr; subst hr
          have hx1 : RA m σ w q (a.eval x) := hx1
          cases q with
          | nil => simp only [nilA, Option.some.injEq] at hs; subst hs; exact ⟨none, 0, 0, true, hx1, rfl, rfl⟩
          | p q =>
            cases q with
            | l rows =>
              cases rows with
              | nil => simp [nilA] at hs
              | cons r rs =>
                simp only [nilA, Option.some.injEq] at hs; subst hs
                have hx1 : RP w m.D (.l (r :: rs)) (a.eval x) := hx1
                obtain ⟨ad, k', cap', vals, hv, _⟩ := hx1.cells (by simp)
                exact ⟨some ad, _, _, false, hv, rfl, rfl⟩
            | _ => simp [nilA] at hs
          | raw c =>
            obtain ⟨hv, _⟩ := hx1
            cases c with
            | slice ad n c => simp only [nilA, Option.some.injEq] at hs; exact ⟨ad, n, c, s, hv, hs, rfl⟩
            | _ => simp [nilA] at hs
          | _ => simp [nilA] at hs
        · cases hr
      obtain ⟨ad, n, c, s, hv, hs, rfl⟩ := hx2
      rw [hv, hy2]
      have hg : (eqGuard bop t x y (.slice ad n c) (.slice none 0 0)).run P w = .ok () w := by unfold eqGuard; split <;> simp
      have he : (Op.equal t (.slice ad n c) (.slice none 0 0)).run P w = .ok ad.isNone w := by
        have : ∀ d, (Op.equalIn (d + 1) t (.slice ad n c) (.slice none 0 0)).run P w = .ok ad.isNone w := by
          intro d
          cases ad <;> simp [Op.equalIn, run_underlying hu]
        exact this 9999
      simp only [Sem.run_bind, hg, Result.andThen_ok]
      rcases hb with ⟨rfl, rfl⟩ | ⟨rfl, rfl⟩
      · refine ⟨_, by simp only [binOp, Sem.run_bind, he, Result.andThen_ok, Sem.run_pure]; rfl, ?_⟩
        rw [hs]; exact RP.b _
      · refine ⟨_, by simp only [binOp, Sem.run_bind, he, Result.andThen_ok, Sem.run_pure]; rfl, ?_⟩
        rw [hs]; exact RP.b _
    have done : ∀ {v}, (do eqGuard bop t x y (a.eval x) (a.eval y); binOp bop t (a.eval x) (a.eval y) : Sem Value).run P w = .ok v w →
        (execOp a.eval { dst := dst, op := .binOp bop t x y ty', type := ty, pos := pos, after := after, guard := guard }).run P w = .ok (.value v) w := fun h => fin h
    have find : ∀ {s : TypeId × List Nat}, eqs.find? (·.1 == t) = some s → (t, s.2) ∈ eqs := by
      intro s hs
      have h1 := List.mem_of_find?_eq_some hs
      have h2 := List.find?_some hs
      simp only [beq_iff_eq] at h2
      rw [← h2]; exact h1
    cases bop with
    | eql =>
      simp only at hcc
      cases hu : P.underlying t with
      | none => simp [hu] at hcc
      | some d =>
        simp only [hu] at hcc
        cases d with
        | int k => simp only [Option.some.injEq] at hcc; subst hcc; obtain ⟨v, h1, h2⟩ := plain (by simp) _ hev; exact ⟨v, done h1, h2⟩
        | string => simp only [Option.some.injEq] at hcc; subst hcc; obtain ⟨v, h1, h2⟩ := plain (by simp) _ hev; exact ⟨v, done h1, h2⟩
        | bool => simp only [Option.some.injEq] at hcc; subst hcc; obtain ⟨v, h1, h2⟩ := eqs1 false (.inl ⟨rfl, rfl⟩) hu _ hev; exact ⟨v, done h1, h2⟩
        | slice el =>
          have hcc : (if isNilX y' = true then some (O.nq false x') else none) = some op := hcc
          split at hcc
          · rename_i hn; simp only [Option.some.injEq] at hcc; subst hcc; obtain ⟨v, h1, h2⟩ := eqs3 false el (.inl ⟨rfl, rfl⟩) hu hn _ hev; exact ⟨v, done h1, h2⟩
          · cases hcc
        | struct fs => obtain ⟨s, hs, hcc⟩ := bindO hcc; simp only [Option.some.injEq] at hcc; subst hcc; obtain ⟨v, h1, h2⟩ := eqs2 false _ (.inl ⟨rfl, rfl⟩) (find hs) _ hev; exact ⟨v, done h1, h2⟩
        | array n el => obtain ⟨s, hs, hcc⟩ := bindO hcc; simp only [Option.some.injEq] at hcc; subst hcc; obtain ⟨v, h1, h2⟩ := eqs2 false _ (.inl ⟨rfl, rfl⟩) (find hs) _ hev; exact ⟨v, done h1, h2⟩
        | _ => simp at hcc
    | neq =>
      simp only at hcc
      cases hu : P.underlying t with
      | none => simp [hu] at hcc
      | some d =>
        simp only [hu] at hcc
        cases d with
        | int k => simp only [Option.some.injEq] at hcc; subst hcc; obtain ⟨v, h1, h2⟩ := plain (by simp) _ hev; exact ⟨v, done h1, h2⟩
        | string => simp only [Option.some.injEq] at hcc; subst hcc; obtain ⟨v, h1, h2⟩ := plain (by simp) _ hev; exact ⟨v, done h1, h2⟩
        | bool => simp only [Option.some.injEq] at hcc; subst hcc; obtain ⟨v, h1, h2⟩ := eqs1 true (.inr ⟨rfl, rfl⟩) hu _ hev; exact ⟨v, done h1, h2⟩
        | slice el =>
          have hcc : (if isNilX y' = true then some (O.nq true x') else none) = some op := hcc
          split at hcc
          · rename_i hn; simp only [Option.some.injEq] at hcc; subst hcc; obtain ⟨v, h1, h2⟩ := eqs3 true el (.inr ⟨rfl, rfl⟩) hu hn _ hev; exact ⟨v, done h1, h2⟩
          · cases hcc
        | struct fs => obtain ⟨s, hs, hcc⟩ := bindO hcc; simp only [Option.some.injEq] at hcc; subst hcc; obtain ⟨v, h1, h2⟩ := eqs2 true _ (.inr ⟨rfl, rfl⟩) (find hs) _ hev; exact ⟨v, done h1, h2⟩
        | array n el => obtain ⟨s, hs, hcc⟩ := bindO hcc; simp only [Option.some.injEq] at hcc; subst hcc; obtain ⟨v, h1, h2⟩ := eqs2 true _ (.inr ⟨rfl, rfl⟩) (find hs) _ hev; exact ⟨v, done h1, h2⟩
        | _ => simp at hcc
    | add => simp only [Option.some.injEq] at hcc; subst hcc; obtain ⟨v, h1, h2⟩ := plain (by simp) _ hev; exact ⟨v, done h1, h2⟩
    | sub => simp only [Option.some.injEq] at hcc; subst hcc; obtain ⟨v, h1, h2⟩ := plain (by simp) _ hev; exact ⟨v, done h1, h2⟩
    | mul => simp only [Option.some.injEq] at hcc; subst hcc; obtain ⟨v, h1, h2⟩ := plain (by simp) _ hev; exact ⟨v, done h1, h2⟩
    | quo => simp only [Option.some.injEq] at hcc; subst hcc; obtain ⟨v, h1, h2⟩ := plain (by simp) _ hev; exact ⟨v, done h1, h2⟩
    | rem => simp only [Option.some.injEq] at hcc; subst hcc; obtain ⟨v, h1, h2⟩ := plain (by simp) _ hev; exact ⟨v, done h1, h2⟩
    | lss => simp only [Option.some.injEq] at hcc; subst hcc; obtain ⟨v, h1, h2⟩ := plain (by simp) _ hev; exact ⟨v, done h1, h2⟩
    | leq => simp only [Option.some.injEq] at hcc; subst hcc; obtain ⟨v, h1, h2⟩ := plain (by simp) _ hev; exact ⟨v, done h1, h2⟩
    | gtr => simp only [Option.some.injEq] at hcc; subst hcc; obtain ⟨v, h1, h2⟩ := plain (by simp) _ hev; exact ⟨v, done h1, h2⟩
    | geq => simp only [Option.some.injEq] at hcc; subst hcc; obtain ⟨v, h1, h2⟩ := plain (by simp) _ hev; exact ⟨v, done h1, h2⟩
    | _ => simp at hcc
  | unOp u t x =>
    cases u with
    | not =>
      simp only [ccO] at hcc
      obtain ⟨y, hy, hcc⟩ := bindO hcc
      simp only [Option.some.injEq] at hcc; subst hcc
      simp only [evR] at hev
      split at hev
      · rename_i q hq
        simp only [Option.some.injEq] at hev; subst hev
        have h1 := ev_ok hE hy
        rw [hq] at h1
        refine ⟨.bool !q, fin ?_, RP.b _⟩
        rw [h1.b]; simp [Op.unary]
      · cases hev
    | neg =>
      simp only [ccO] at hcc
      obtain ⟨y, hy, hcc⟩ := bindO hcc
      simp only [Option.some.injEq] at hcc; subst hcc
      simp only [evR] at hev
      split at hev
      · rename_i k q hq
        simp only [Option.some.injEq] at hev; subst hev
        have h1 := ev_ok hE hy
        rw [hq] at h1
        refine ⟨.int k (k.wrap (0 - q)), fin ?_, RP.i _ _⟩
        rw [h1.i]; simp [Op.unary, Op.intArith]
      · cases hev
    | _ => simp [ccO] at hcc
  | convert src t x =>
    simp only [ccO] at hcc
    obtain ⟨y, hy, hcc⟩ := bindO hcc
    have h1 := ev_ok hE hy
    cases hu1 : P.underlying src with
    | none => simp [hu1] at hcc
    | some d1 =>
      cases hu2 : P.underlying t with
      | none => simp [hu1, hu2] at hcc
      | some d2 =>
        simp only [hu1, hu2] at hcc
        split at hcc
        · rename_i k1 k2 e1 e2
          simp only [Option.some.injEq] at e1 e2 hcc; subst e1; subst e2; subst hcc
          simp only [evR] at hev
          split at hev
          · rename_i k q hq
            simp only [Option.some.injEq] at hev; subst hev
            rw [hq] at h1
            refine ⟨.int k2 (k2.wrap q), fin ?_, RP.i _ _⟩
            rw [h1.i]; simp [convert, run_underlying hu1, run_underlying hu2, Conv.intToInt]
          · cases hev
        · rename_i el e1 e2
          simp only [Option.some.injEq] at e1 e2; subst e1; subst e2
          cases hu3 : P.underlying el with
          | none => simp [hu3] at hcc
          | some d3 =>
            simp only [hu3] at hcc
            split at hcc
            · rename_i e3
              simp only [Option.some.injEq] at e3 hcc; subst e3; subst hcc
              simp only [evR] at hev
              split at hev
              · rename_i q hq
                obtain ⟨rows, hr, hev⟩ := bindO hev
                obtain ⟨bs, hb, hev⟩ := bindO hev
                simp only [Option.some.injEq] at hev; subst hev
                rw [hq] at h1
                unfold rowsA at hr
                split at hr
                · rename_i rows' hfr
                  simp only [Option.some.injEq] at hr; subst hr
                  have h2 := frA_ok hR h1 hfr
                  obtain ⟨s, h3, h4⟩ := cvs_ok (P := P) h2 hb
                  refine ⟨.string s, fin ?_, by rw [← h4]; exact RP.s _⟩
                  obtain ⟨b, cap, hv⟩ := h2.slice
                  simp only [convert, Sem.run_bind, run_underlying hu1, run_underlying hu2, Result.andThen_ok]
                  rw [hv] at h3 ⊢
                  simp only [Sem.run_bind, run_underlying hu3, Result.andThen_ok, h3]
                · cases hr
              · cases hev
            · cases hcc
        · cases hcc
  | makeFunc fn first caps =>
    cases fn with
    | func f =>
      simp only [ccO] at hcc
      split at hcc
      · rename_i hfi
        obtain ⟨cs, hcs, hcc⟩ := bindO hcc
        simp only [Option.some.injEq] at hcc; subst hcc
        simp only [evR] at hev
        obtain ⟨ks, hks, hev⟩ := bindO hev
        simp only [Option.some.injEq] at hev; subst hev
        refine ⟨.func (.func f) #[] (caps.toList.map a.eval).toArray, fin ?_, _, rfl, caps_ok hE hcs hks⟩
        have : first = #[] := Array.eq_empty_of_size_eq_zero hfi
        subst this
        rw [show (caps.toList.map a.eval).toArray = caps.map a.eval by apply Array.ext'; simp]
        simp [Instr.makeFunc]
      · cases hcc
    | _ => simp [ccO] at hcc
  | makeSlice t l c =>
    simp only [ccO] at hcc
    obtain ⟨_, _, hcc⟩ := bindO hcc; obtain ⟨_, _, hcc⟩ := bindO hcc; obtain ⟨_, _, hcc⟩ := bindO hcc; obtain ⟨_, _, hcc⟩ := bindO hcc
    split at hcc
    · simp only [Option.some.injEq] at hcc
      split at hcc <;> (subst hcc; simp [evR] at hev)
    · cases hcc
  | fieldAddr t x f =>
    simp only [ccO] at hcc
    obtain ⟨y, hy, hcc⟩ := bindO hcc
    obtain ⟨p, hp, hcc⟩ := bindO hcc
    obtain ⟨n, hn, hcc⟩ := bindO hcc
    split at hcc
    · cases hcc
    · rename_i hn0
      simp only [Option.some.injEq] at hcc; subst hcc
      have h1 := ev_ok hE hy
      simp only [evR] at hev
      split at hev
      · rename_i s i j hq
        simp only [Option.some.injEq] at hev; subst hev
        rw [hq] at h1
        obtain ⟨hpv, A, hv⟩ := h1
        refine ⟨.pointer (some (A.add p.1)), fin ?_, ⟨hpv.1, fun b hb => ?_⟩, _, rfl⟩
        · rw [hv]; exact fa_ok hp hn hn0 A
        · obtain ⟨B, c, hm, hv2⟩ := hpv.2 b hb
          rw [hv2] at hv; simp only [Value.pointer.injEq, Option.some.injEq] at hv
          subst hv
          exact ⟨B, c, hm, by rw [addr_add, Nat.add_assoc]⟩
      · rename_i r j hq
        simp only [Option.some.injEq] at hev; subst hev
        rw [hq] at h1
        obtain ⟨B, o, vals, hD, hv, hr⟩ := h1
        refine ⟨.pointer (some ⟨B, o + (j + p.1), none⟩), fin ?_, B, o, vals, hD, rfl, hr⟩
        rw [hv, fa_ok hp hn hn0, addr_add, Nat.add_assoc]
      · cases hev
  | field t x f =>
    simp only [ccO] at hcc
    obtain ⟨y, hy, hcc⟩ := bindO hcc
    obtain ⟨p, hp, hcc⟩ := bindO hcc
    obtain ⟨n, hn, hcc⟩ := bindO hcc
    obtain ⟨g, hg, hcc⟩ := bindO hcc
    split at hcc
    · cases hcc
    · rename_i hg1
      simp only [Option.some.injEq] at hcc; subst hcc
      have h1 := ev_ok hE hy
      simp only [evR] at hev
      split at hev
      · rename_i cs hq
        split at hev
        · rename_i hl
          rw [hq] at h1
          obtain ⟨vs, hv, h2⟩ := h1
          obtain ⟨fs, fd, hu, hf, hp1, hp2⟩ := tfield_spec hp
          rw [← hp2] at hn hg
          rw [← hp1] at hl hev
          obtain ⟨u, h3, h4⟩ := part_ok h2 hn hg hg1 hev
          refine ⟨u, fin ?_, h4⟩
          rw [hv]
          simp [Instr.field, run_underlying hu, hf, asAgg, h3]
        · cases hev
      · cases hev
  | slice t x lo hi mx =>
    simp only [ccO] at hcc
    obtain ⟨y, hy, hcc⟩ := bindO hcc
    obtain ⟨lo', hlo, hcc⟩ := bindO hcc
    obtain ⟨hi', hhi, hcc⟩ := bindO hcc
    obtain ⟨mx', hmx, hcc⟩ := bindO hcc
    have h1 := ev_ok hE hy
    cases hu : P.underlying t with
    | none => simp [hu] at hcc
    | some d =>
      simp only [hu] at hcc
      cases d with
      | string =>
        simp only at hcc
        split at hcc
        · cases hcc
        · rename_i hm0
          simp only [Option.some.injEq] at hcc; subst hcc
          have hmx0 : mx = none := by
            cases mx with
            | none => rfl
            | some z => simp only [optX] at hmx; obtain ⟨q, _, hmx⟩ := bindO hmx; simp only [Option.some.injEq] at hmx; subst hmx; simp at hm0
          subst hmx0
          simp only [evR] at hev
          split at hev
          · rename_i b hq
            obtain ⟨l, hl, hev⟩ := bindO hev
            obtain ⟨h, hh, hev⟩ := bindO hev
            split at hev
            · rename_i hc
              obtain ⟨hc1, hc2, hc3⟩ := hc
              simp only [Option.some.injEq] at hev; subst hev
              rw [hq] at h1
              obtain ⟨s, hs, hsb⟩ := h1.s
              have hsz : b.length = s.size := by rw [← hsb]; simp
              rw [hsz] at hh hc3
              have hb := bounds_ok (P := P) (b := false) hE hlo hhi hl hh hc1 hc2 hc3 (Nat.le_refl _)
              refine ⟨.string (s.extract l.toNat h.toNat), fin ?_, ?_⟩
              · rw [hs]
                simp only [Instr.sliceAt, Sem.run_bind, run_underlying hu, Result.andThen_ok, Instr.slice, Option.map_none, Option.isSome_none, Bool.false_eq_true, if_false, Sem.run_pure, hb]
              · have := RP.s (w := w) (D := m.D) (s.extract l.toNat h.toNat)
                have e1 : (s.extract l.toNat h.toNat).data.toList = (b.drop l.toNat).take (h.toNat - l.toNat) := by
                  rw [← hsb, ByteArray.data_extract, Array.toList_extract, List.extract_eq_take_drop]
                rw [e1] at this
                exact this
            · cases hev
          · cases hev
      | slice el0 =>
        simp only at hcc
        obtain ⟨el, hel, hcc⟩ := bindO hcc
        simp only [Option.some.injEq] at hcc; subst hcc
        cases mx' with
        | some z => simp [evR] at hev
        | none =>
          have hmx0 : mx = none := by
            cases mx with
            | none => rfl
            | some z => simp only [optX] at hmx; obtain ⟨q, _, hmx⟩ := bindO hmx; simp only [Option.some.injEq, reduceCtorEq] at hmx
          subst hmx0
          obtain ⟨hu2, ii, hii, hsz, _, hpos, _⟩ := telem_spec hel
          have hsr : ∀ w : World, (sizeOf el.1).run P w = .ok el.2.1 w := fun w => by simp [sizeOf, typeInfo, hii, hsz]
          -- the slice of a slice, at its bounds
          have go : ∀ (b : Option Addr) (len cap : Nat) (l h : Int), optInt e lo' 0 = some l → optInt e hi' len = some h → 0 ≤ l → l ≤ h → h ≤ len → len ≤ cap →
              (Instr.sliceAt t (.slice b len cap) (lo.map a.eval) (hi.map a.eval) none).run P w = .ok (.slice (if cap = l.toNat then b else b.map (·.add (l.toNat * el.2.1))) (h.toNat - l.toNat) (cap - l.toNat)) w := by
            intro b len cap l h e1 e2 e3 e4 e5 e6
            have hb := bounds_ok (P := P) (b := true) hE hlo hhi e1 e2 e3 e4 e5 e6
            simp only [Instr.sliceAt, Sem.run_bind, run_underlying hu2, Result.andThen_ok, Instr.slice, hb, hsr, Sem.run_pure]
          simp only [evR] at hev
          split at hev
          · -- own
            rename_i s off len hq
            obtain ⟨l, hl, hev⟩ := bindO hev
            obtain ⟨h, hh, hev⟩ := bindO hev
            split at hev
            · rename_i hc
              obtain ⟨hc1, hc2, hc3, hc4⟩ := hc
              simp only [Option.some.injEq] at hev; subst hev
              rw [hq] at h1
              obtain ⟨hlt, ⟨b, cap, hv, hcap⟩, hal⟩ := h1
              have hgo := go b len cap l h hl hh hc1 hc2 hc3 hcap
              refine ⟨_, fin (by rw [hv]; exact hgo), hlt, ⟨_, _, rfl, by omega⟩, fun k e' rows hb => ?_⟩
              have hk : k = el.2.1 := by
                unfold rowK at hc4
                rw [hb] at hc4
                simpa using hc4
              subst hk
              rcases hal _ _ _ hb with ⟨rfl, b', hv2⟩ | ⟨B, c, hm, hv2, hle⟩
              · rw [hv] at hv2; simp only [Value.slice.injEq] at hv2
                obtain ⟨rfl, _, rfl⟩ := hv2
                have : l.toNat = 0 := by omega
                have h00 : h.toNat = 0 := by omega
                left
                refine ⟨by omega, _, by rw [this, h00]⟩
              · rw [hv] at hv2; simp only [Value.slice.injEq] at hv2
                obtain ⟨rfl, _, rfl⟩ := hv2
                by_cases hcl : c - off = l.toNat
                · left
                  refine ⟨by omega, _, by rw [if_pos hcl, show h.toNat - l.toNat = 0 by omega, show c - off - l.toNat = 0 by omega]⟩
                · right
                  refine ⟨B, c, hm, ?_, by omega⟩
                  rw [if_neg hcl]
                  simp only [Option.map_some, addr_add]
                  rw [show c - off - l.toNat = c - (off + l.toNat) by omega, show off * el.2.1 + l.toNat * el.2.1 = (off + l.toNat) * el.2.1 by rw [Nat.add_mul]]
            · cases hev
          · -- rows
            rename_i rows hq
            obtain ⟨l, hl, hev⟩ := bindO hev
            obtain ⟨h, hh, hev⟩ := bindO hev
            obtain ⟨r, hr, hev⟩ := bindO hev
            split at hev
            · rename_i hall
              simp only [Option.some.injEq] at hev; subst hev
              unfold subRows at hr
              split at hr
              · rename_i hc
                obtain ⟨hc1, hc2, hc3⟩ := hc
                simp only [Option.some.injEq] at hr; subst hr
                rw [hq] at h1
                have h1 : RP w m.D (.l rows) (a.eval x) := h1
                by_cases hne : (rows.drop l.toNat).take (h.toNat - l.toNat) = []
                · obtain ⟨b, cap, hv⟩ := h1.slice
                  have hcap : rows.length ≤ cap := by
                    by_cases h0 : rows = []
                    · subst h0; simp
                    · obtain ⟨_, _, cap', _, hv', _, _, hc', _⟩ := h1.cells h0
                      rw [hv] at hv'; simp only [Value.slice.injEq] at hv'
                      omega
                  have hgo := go b rows.length cap l h hl hh hc1 hc2 hc3 hcap
                  refine ⟨_, fin (by rw [hv]; exact hgo), ?_⟩
                  show RP w m.D _ _
                  rw [hne]
                  have : h.toNat - l.toNat = 0 := by
                    have := congrArg List.length hne
                    simp at this; omega
                  rw [this]; exact .e _ _
                · have h0 : rows ≠ [] := by intro h0; subst h0; simp at hne
                  obtain ⟨b, k, cap, vals, hv, hs, hD, hcap, hk, hvv, hrr⟩ := h1.cells h0
                  have hkk : k = el.2.1 := by
                    cases rows with
                    | nil => exact absurd rfl h0
                    | cons r rs =>
                      have h2 := hk 0 r (by simp)
                      simp only [List.all_cons, Bool.and_eq_true, decide_eq_true_eq] at hall
                      omega
                  subst hkk
                  have hgo := go (some b) rows.length cap l h hl hh hc1 hc2 hc3 hcap
                  have hlen : ((rows.drop l.toNat).take (h.toNat - l.toNat)).length = h.toNat - l.toNat := by simp; omega
                  have hpos2 : 0 < h.toNat - l.toNat := by
                    rw [← hlen]; exact List.length_pos_iff.2 hne
                  refine ⟨_, fin (by rw [hv]; exact hgo), ?_⟩
                  show RP w m.D _ _
                  rw [if_neg (by omega)]
                  simp only [Option.map_some]
                  rw [addr_add' b hs]
                  have hget : ∀ (i : Nat) (r : List PV), ((rows.drop l.toNat).take (h.toNat - l.toNat))[i]? = some r → rows[l.toNat + i]? = some r := by
                    intro i r hr
                    rw [List.getElem?_take] at hr
                    split at hr
                    · simpa [List.getElem?_drop] using hr
                    · cases hr
                  have key := RP.l (w := w) (D := m.D) ((rows.drop l.toNat).take (h.toNat - l.toNat)) ⟨b.block, b.off + l.toNat * el.2.1, none⟩ el.2.1 (cap - l.toNat) (fun i j => vals (l.toNat + i) j) rfl hD (by omega)
                    (fun i r hr => hk _ r (hget i r hr))
                    (fun i r j q hr hq => by
                      have := hvv (l.toNat + i) r j q (hget i r hr) hq
                      rw [← this]
                      congr 2
                      show b.off + l.toNat * el.2.1 + (i * el.2.1 + j) = b.off + ((l.toNat + i) * el.2.1 + j)
                      rw [Nat.add_mul]; omega)
                    (fun i r j q hr hq => hrr (l.toNat + i) r j q (hget i r hr) hq)
                  rw [hlen] at key
                  exact key
              · cases hr
            · cases hev
          · -- nil
            rename_i hq
            obtain ⟨l, hl, hev⟩ := bindO hev
            obtain ⟨h, hh, hev⟩ := bindO hev
            split at hev
            · rename_i hc
              simp only [Option.some.injEq] at hev; subst hev
              obtain ⟨rfl, rfl⟩ := hc
              rw [hq] at h1
              have h1 : a.eval x = .slice none 0 0 := h1
              have hgo := go none 0 0 0 0 hl hh (by omega) (by omega) (by omega) (by omega)
              refine ⟨_, fin (by rw [h1]; exact hgo), ?_⟩
              simp; rfl
            · cases hev
          · cases hev
      | _ => simp at hcc
  | indexAddr t x ix =>
    simp only [ccO] at hcc
    obtain ⟨y, hy, hcc⟩ := bindO hcc
    obtain ⟨iy, hiy, hcc⟩ := bindO hcc
    have h1 := ev_ok hE hy
    have h2 := ev_ok hE hiy
    cases hu : P.underlying t with
    | none => simp [hu] at hcc
    | some d =>
      simp only [hu] at hcc
      cases d with
      | slice el0 =>
        simp only at hcc
        obtain ⟨el, hel, hcc⟩ := bindO hcc
        simp only [Option.some.injEq] at hcc; subst hcc
        obtain ⟨hu2, ii, hii, hsz, _, hpos, _⟩ := telem_spec hel
        have hsr : ∀ w : World, (sizeOf el.1).run P w = .ok el.2.1 w := fun w => by simp [sizeOf, typeInfo, hii, hsz]
        have go : ∀ (b : Addr) (len cap : Nat) (k : IntKind) (i : Int), 0 ≤ i → i < len → (Instr.indexAt t (.slice (some b) len cap) (.int k i)).run P w = .ok (.pointer (some (b.add (i.toNat * el.2.1)))) w := by
          intro b len cap k i e1 e2
          simp [Instr.indexAt, run_underlying hu2, asIntOf, e1, e2, hsr]
        simp only [evR] at hev
        split at hev
        · rename_i s off len i hq hi
          split at hev
          · rename_i hc
            obtain ⟨hc1, hc2, hc3⟩ := hc
            simp only [Option.some.injEq] at hev; subst hev
            rw [hq] at h1
            obtain ⟨k, hk⟩ := intT_ok h2 hi
            obtain ⟨hlt, ⟨b, cap, hv, hcap⟩, hal⟩ := h1
            have hsome : ∃ b', b = some b' := by
              unfold rowK at hc3
              split at hc3
              · rename_i k' e' rows hb
                rcases hal _ _ _ hb with ⟨rfl, b', hv2⟩ | ⟨B, c, hm, hv2, hle⟩
                · omega
                · rw [hv] at hv2; simp only [Value.slice.injEq] at hv2; exact ⟨_, hv2.1⟩
              · cases hc3
            obtain ⟨b', rfl⟩ := hsome
            refine ⟨_, fin (by rw [hv, hk]; exact go b' len cap k i hc1 hc2), ⟨hlt, fun bl hb => ?_⟩, _, rfl⟩
            unfold rowK at hc3
            rw [hb] at hc3
            cases bl with
            | var cs => simp at hc3
            | row k' e' rows =>
              simp only [Option.some.injEq] at hc3; subst hc3
              rcases hal _ _ _ hb with ⟨rfl, b'', hv2⟩ | ⟨B, c, hm, hv2, hle⟩
              · omega
              · rw [hv] at hv2; simp only [Value.slice.injEq, Option.some.injEq] at hv2
                obtain ⟨rfl, _, rfl⟩ := hv2
                refine ⟨B, c, hm, ?_⟩
                rw [addr_add]
                simp only [Blk.k, Nat.add_zero]
                rw [Nat.add_mul]
          · cases hev
        · rename_i rows i hq hi
          split at hev
          · rename_i hc
            obtain ⟨hc1, hc2⟩ := hc
            split at hev
            · rename_i r hr
              split at hev
              · rename_i hrk
                obtain ⟨hrk, hall⟩ := hrk
                simp only [Option.some.injEq] at hev; subst hev
                rw [hq] at h1
                have h1 : RP w m.D (.l rows) (a.eval x) := h1
                obtain ⟨k, hk⟩ := intT_ok h2 hi
                have h0 : rows ≠ [] := by intro h0; subst h0; simp at hr
                obtain ⟨b, k', cap, vals, hv, hs, hD, hcap, hkl, hvv, hrr⟩ := h1.cells h0
                have hkk : k' = el.2.1 := by rw [← hrk]; exact (hkl _ r hr).symm
                subst hkk
                refine ⟨_, fin (by rw [hv, hk]; exact go b rows.length cap k i hc1 hc2), b.block, b.off + i.toNat * el.2.1, fun j => vals i.toNat j, hD, ?_, fun j c hj => ?_⟩
                · rw [addr_add' b hs]; simp
                · have := hvv i.toNat r j c hr hj
                  exact ⟨by rw [← this]; congr 2; show b.off + i.toNat * el.2.1 + j = b.off + (i.toNat * el.2.1 + j); omega, hrr i.toNat r j c hr hj⟩
              · cases hev
            · cases hev
          · cases hev
        · cases hev
      | array n el =>
        simp only at hcc
        obtain ⟨k0, hk0, hcc⟩ := bindO hcc
        simp only [Option.some.injEq] at hcc; subst hcc
        have hsr := tsz_run hk0
        have go : ∀ (b : Addr) (k : IntKind) (i : Int), 0 ≤ i → i < n → (Instr.indexAt t (.pointer (some b)) (.int k i)).run P w = .ok (.pointer (some (b.add (i.toNat * k0)))) w := by
          intro b k i e1 e2
          simp [Instr.indexAt, run_underlying hu, asIntOf, Instr.sureAddr, e1, e2, hsr]
        simp only [evR] at hev
        split at hev
        · rename_i s i j q hq hi
          split at hev
          · rename_i hc
            obtain ⟨hc1, hc2⟩ := hc
            simp only [Option.some.injEq] at hev; subst hev
            rw [hq] at h1
            obtain ⟨k, hk⟩ := intT_ok h2 hi
            obtain ⟨hpv, A, hv⟩ := h1
            refine ⟨_, fin (by rw [hv, hk]; exact go A k q hc1 hc2), ⟨hpv.1, fun b hb => ?_⟩, _, rfl⟩
            obtain ⟨B, c, hm, hv2⟩ := hpv.2 b hb
            rw [hv2] at hv; simp only [Value.pointer.injEq, Option.some.injEq] at hv
            subst hv
            exact ⟨B, c, hm, by rw [addr_add, Nat.add_assoc]⟩
          · cases hev
        · rename_i r j q hq hi
          split at hev
          · rename_i hc
            obtain ⟨hc1, hc2⟩ := hc
            simp only [Option.some.injEq] at hev; subst hev
            rw [hq] at h1
            obtain ⟨k, hk⟩ := intT_ok h2 hi
            obtain ⟨B, o, vals, hD, hv, hr⟩ := h1
            refine ⟨_, fin (by rw [hv, hk]; exact go _ k q hc1 hc2), B, o, vals, hD, ?_, hr⟩
            rw [addr_add, Nat.add_assoc]
          · cases hev
        · cases hev
      | _ => simp at hcc
  | index t x ix =>
    simp only [ccO] at hcc
    obtain ⟨y, hy, hcc⟩ := bindO hcc
    obtain ⟨iy, hiy, hcc⟩ := bindO hcc
    have h1 := ev_ok hE hy
    have h2 := ev_ok hE hiy
    cases hu : P.underlying t with
    | none => simp [hu] at hcc
    | some d =>
      simp only [hu] at hcc
      cases d with
      | string =>
        simp only [Option.some.injEq] at hcc; subst hcc
        simp only [evR] at hev
        split at hev
        · rename_i b i hq hi
          split at hev
          · rename_i hc
            split at hev
            · rename_i c hb
              simp only [Option.some.injEq] at hev; subst hev
              rw [hq] at h1
              obtain ⟨k, hk⟩ := intT_ok h2 hi
              obtain ⟨s, hs, hsb⟩ := h1.s
              refine ⟨.int .u8 c.toNat, fin ?_, RP.i _ _⟩
              rw [hs, hk]
              have hg : s[i.toNat]? = some c := by
                rw [← hsb] at hb
                obtain ⟨hl, hg⟩ := List.getElem?_eq_some_iff.1 hb
                have hl' : i.toNat < s.size := by simpa using hl
                rw [getElem?_pos s i.toNat hl']
                congr 1
              simp [Instr.index, run_underlying hu, asIntOf, hc, hg]
            · cases hev
          · cases hev
        · cases hev
      | array n el =>
        simp only at hcc
        obtain ⟨k0, hk0, hcc⟩ := bindO hcc
        obtain ⟨g, hg, hcc⟩ := bindO hcc
        split at hcc
        · cases hcc
        · rename_i hg1
          simp only [Option.some.injEq] at hcc; subst hcc
          simp only [evR] at hev
          split at hev
          · rename_i cs i hq hi
            split at hev
            · rename_i hc
              obtain ⟨hc1, hc2, hc3⟩ := hc
              rw [hq] at h1
              obtain ⟨k, hk⟩ := intT_ok h2 hi
              obtain ⟨vs, hv, h3⟩ := h1
              obtain ⟨u, h4, h5⟩ := part_ok h3 hk0 hg hg1 hev
              refine ⟨u, fin ?_, h5⟩
              rw [hv, hk]
              simp [Instr.index, run_underlying hu, asIntOf, hc1, hc2, tsz_run hk0, h4]
            · cases hev
          · cases hev
      | _ => simp at hcc
  | extract x i =>
    simp only [ccO] at hcc
    obtain ⟨y, hy, hcc⟩ := bindO hcc
    simp only [Option.some.injEq] at hcc; subst hcc
    have h1 := ev_ok hE hy
    simp only [evR] at hev
    split at hev
    · rename_i vs hq
      rw [hq] at h1
      obtain ⟨us, hv, h2⟩ := h1
      cases hvi : vs[i]? with
      | none => simp [hvi] at hev
      | some z =>
        obtain ⟨g, cs⟩ := z
        simp only [hvi] at hev
        obtain ⟨u, hui, hru⟩ := h2.get hvi
        refine ⟨u, fin ?_, ?_⟩
        · rw [hv]; simp [Instr.extract, hui]
        · unfold RGA at hru
          cases g with
          | true =>
            simp only [if_true] at hru
            simp only [mkT, if_true, Option.some.injEq] at hev; subst hev
            exact hru
          | false =>
            simp only [Bool.false_eq_true, if_false] at hru
            obtain ⟨q, rfl, hq2⟩ := hru
            simp only [mkT, Bool.false_eq_true, if_false, Option.some.injEq] at hev; subst hev
            exact hq2
    · cases hev
  | call c =>
    obtain ⟨callee, args, argTypes⟩ := c
    simp only [ccO] at hcc
    cases callee with
    | value f =>
      simp only at hcc
      obtain ⟨f', _, hcc⟩ := bindO hcc
      obtain ⟨as, _, hcc⟩ := bindO hcc
      simp only [Option.some.injEq] at hcc
      exact absurd hcc.symm (hnc _ _)
    | invoke r n => simp at hcc
    | builtin b =>
      have bl : ∀ {s : Sem Value} {v : Value}, (∀ (cs : Array Bool), builtin b argTypes ty cs (args.map a.eval) = (do pure (Next.value (← s)))) → s.run P w = .ok v w →
          (execOp a.eval { dst := dst, op := .call { callee := .builtin b, args := args, argTypes := argTypes }, type := ty, pos := pos, after := after, guard := guard }).run P w = .ok (.value v) w := by
        intro s v hb hs
        simp only [execOp, resolve, Sem.run_bind, Sem.run_pure, Result.andThen_ok, invoke, hb, hs]
      cases b with
      | len =>
        simp only at hcc
        split at hcc
        · rename_i x t ha hat
          obtain ⟨y, hy, hcc⟩ := bindO hcc
          have h1 := ev_ok hE hy
          have ea : args = #[x] := by apply Array.ext'; simpa using ha
          have et : argTypes = #[t] := by apply Array.ext'; simpa using hat
          subst ea; subst et
          have go : ∀ str, evR cp sp e σ (.len str y) = some t_ → (if str = true then P.underlying t = some .string else ∃ el, P.underlying t = some (.slice el)) →
              ∃ v, (execOp a.eval { dst := dst, op := .call { callee := .builtin .len, args := #[x], argTypes := #[t] }, type := ty, pos := pos, after := after, guard := guard }).run P w = .ok (.value v) w ∧ RT m σ w t_ v := by
            intro str hs ht
            simp only [evR] at hs
            split at hs
            · rename_i q hq
              obtain ⟨n, hn, hs⟩ := bindO hs
              simp only [Option.some.injEq] at hs; subst hs
              rw [hq] at h1
              have := len_ok (P := P) h1 hn ht ty
              exact ⟨.int .i64 n, bl (fun cs => rfl) (by simpa using this), RP.i _ _⟩
            · cases hs
          cases hu : P.underlying t with
          | none => simp [hu] at hcc
          | some d =>
            simp only [hu] at hcc
            cases d with
            | slice el => simp only [Option.some.injEq] at hcc; subst hcc; exact go false hev (by simpa using ⟨el, hu⟩)
            | string => simp only [Option.some.injEq] at hcc; subst hcc; exact go true hev (by simpa using hu)
            | _ => simp at hcc
        · cases hcc
      | append =>
        simp only at hcc
        split at hcc
        · obtain ⟨_, _, hcc⟩ := bindO hcc; obtain ⟨_, _, hcc⟩ := bindO hcc; obtain ⟨_, _, hcc⟩ := bindO hcc
          split at hcc
          · simp only [Option.some.injEq] at hcc; subst hcc; simp [evR] at hev
          · cases hcc
        · cases hcc
      | max =>
        simp only at hcc
        split at hcc
        · rename_i x1 x2 ha
          obtain ⟨y1, hy1, hcc⟩ := bindO hcc
          obtain ⟨y2, hy2, hcc⟩ := bindO hcc
          simp only [Option.some.injEq] at hcc; subst hcc
          have h1 := ev_ok hE hy1
          have h2 := ev_ok hE hy2
          have ea : args = #[x1, x2] := by apply Array.ext'; simpa using ha
          subst ea
          simp only [evR] at hev
          split at hev
          · rename_i k p k' q hp hq
            split at hev
            · rename_i hk
              subst hk
              simp only [Option.some.injEq] at hev; subst hev
              rw [hp] at h1; rw [hq] at h2
              refine ⟨.int k (if q > p then q else p), bl (s := Builtin.max_ argTypes ty #[a.eval x1, a.eval x2]) (fun cs => by simp [builtin]) ?_, RP.i _ _⟩
              rw [h1.i, h2.i]
              simp [Builtin.max_, Builtin.max2]
            · cases hev
          · cases hev
        · cases hcc
      | min =>
        simp only at hcc
        split at hcc
        · rename_i x1 x2 ha
          obtain ⟨y1, hy1, hcc⟩ := bindO hcc
          obtain ⟨y2, hy2, hcc⟩ := bindO hcc
          simp only [Option.some.injEq] at hcc; subst hcc
          have h1 := ev_ok hE hy1
          have h2 := ev_ok hE hy2
          have ea : args = #[x1, x2] := by apply Array.ext'; simpa using ha
          subst ea
          simp only [evR] at hev
          split at hev
          · rename_i k p k' q hp hq
            split at hev
            · rename_i hk
              subst hk
              simp only [Option.some.injEq] at hev; subst hev
              rw [hp] at h1; rw [hq] at h2
              refine ⟨.int k (if q < p then q else p), bl (s := Builtin.min_ argTypes ty #[a.eval x1, a.eval x2]) (fun cs => by simp [builtin]) ?_, RP.i _ _⟩
              rw [h1.i, h2.i]
              simp [Builtin.min_, Builtin.min2]
            · cases hev
          · cases hev
        · cases hcc
      | _ => simp at hcc
  | _ => simp [ccO] at hcc

end

end Go.Fx
