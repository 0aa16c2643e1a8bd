import Derived.Test.YtkpfjolcmkikeaaFx13
import Derived.TacticsIn
import Derived.RangeFuncRecord
set_option linter.unusedSimpArgs false
set_option linter.unusedVariables false
/-
  Every operation, as the walk meets it.
-/
namespace Go.Fx
open Go.RowKit

section
variable {P : Program} {eqs : List (TypeId × List Nat)} {CR : Nat → Code → C → Prop} {m m' : Mt} {σ σ' : St} {w w' : World} {e : Env} {a : Act}

theorem ccO_defer {op : Op} {x : O} (h : ccO P eqs op = some x) (c : Call) : op ≠ .defer c := by
  rintro rfl; simp [ccO] at h

/-- An operation, run: what is asked of the walk. -/
theorem wpIn_of_run {rr : Option Nat} {n : Nat} {o : Oper} {K : Act → World → Prop} {Q : Exit → Act → World → Prop} (hd : ∀ c, o.op ≠ .defer c)
    (h : o.uponIn (FW rr) n P a K Q ((execOp a.eval o).run P w)) : o.wpIn (FW rr) n P a w K Q := by
  refine ⟨fun _ _ => trivial, ?_⟩
  have : o.semAt (FW rr).round a.eval = execOp a.eval o := by
    cases rr with
    | none => exact Oper.semAt_none _ _
    | some l => exact Oper.semAt_some l _ o hd
  rw [this]; exact h

/-- What is asked behind an operation. -/
def After (CR : Nat → Code → C → Prop) (m : Mt) (σ : St) (w : World) (a : Act) (d : Option Nat) (t : TV) (σ' : St) (K : Act → World → Prop) : Prop :=
  ∀ v w' m', SR CR m' σ' w' → RT m' σ' w' t v → Xt m σ w m' σ' w' → K (a.put d v) w'

theorem wpIn_of_eff {rr : Option Nat} {n : Nat} {o : Oper} {K : Act → World → Prop} {Q : Exit → Act → World → Prop} {t : TV} (hd : ∀ c, o.op ≠ .defer c)
    (h : Eff P CR m σ w (execOp a.eval o) t σ') (hK : After CR m σ w a o.dst t σ' K) : o.wpIn (FW rr) n P a w K Q := by
  obtain ⟨v, w', m', hr | ⟨hr, rfl⟩, h1, h2, h3⟩ := h
  · exact wpIn_of_run hd (by rw [hr]; exact hK v w' m' h1 h2 h3)
  · exact wpIn_of_run hd (by rw [hr]; exact hK _ w' m' h1 h2 h3)

theorem wpIn_of_enter {rr : Option Nat} {n : Nat} {o : Oper} {K : Act → World → Prop} {Q : Exit → Act → World → Prop} {t : TV} {f : FuncId} {args : Array Value} (hd : ∀ c, o.op ≠ .defer c)
    (hr : (execOp a.eval o).run P w = .ok (.enter f args) w) (hc : CallsIn (FW rr) (n - 1) P f args w (PostS CR m σ w t σ')) (hK : After CR m σ w a o.dst t σ' K) : o.wpIn (FW rr) n P a w K Q := by
  refine wpIn_of_run hd ?_
  rw [hr, Oper.uponIn_enter]
  refine ⟨fun h => by simp [FW] at h, hc.mono ?_⟩
  rintro e w' ⟨v, m', rfl, h1, h2, h3⟩
  exact hK v w' m' h1 h2 h3

theorem wpIn_of_round {rr : Option Nat} {n : Nat} {o : Oper} {K : Act → World → Prop} {Q : Exit → Act → World → Prop} {t : TV} {l : Nat} {f : FuncId} {tmps : Array Value} {assign body : Code} (hd : ∀ c, o.op ≠ .defer c)
    (hr : (execOp a.eval o).run P w = .ok (.round l f tmps assign body) w) (hc : RoundIn (FW rr) (n - 1) P l f tmps assign body w (PostS CR m σ w t σ')) (hK : After CR m σ w a o.dst t σ' K) : o.wpIn (FW rr) n P a w K Q := by
  refine wpIn_of_run hd ?_
  rw [hr, Oper.uponIn_round]
  refine ⟨fun h => by simp [FW] at h, hc.mono ?_⟩
  rintro e w' ⟨v, m', rfl, h1, h2, h3⟩
  exact hK v w' m' h1 h2 h3

theorem mapO_X (hE : RE m σ w e a.tmps) : ∀ {xs : List Operand} {ys : List X}, mapO ccX xs = some ys → F2 (RT m σ w) (ys.map (ev e)) (xs.map a.eval)
  | [], ys, h => by simp [mapO] at h; subst h; exact .nil
  | x :: xs, ys, h => by
    simp only [mapO] at h
    obtain ⟨y, h1, h⟩ := bindO h
    obtain ⟨zs, h2, h⟩ := bindO h
    simp only [Option.some.injEq] at h; subst h
    exact .cons (ev_ok hE h1) (mapO_X hE h2)

theorem caps_rt {caps : List Key} {vs : List Value} (h : F2 (fun s u => ptrV m σ s 0 0 u ∧ ∃ A, u = .pointer (some A)) caps vs) : F2 (RT m σ w) (caps.map fun s => .a (.ptr s 0 0)) vs := by
  induction h with
  | nil => exact .nil
  | cons x _ ih => exact .cons x ih

theorem klTs_none {ts : List TV} (h : ts.any ownT = false) (σ : St) : klTs σ ts = σ := by
  rw [klTs_eq]
  refine klL_none _ _ fun x hx => ?_
  obtain ⟨t, ht, hx⟩ := List.mem_flatMap.1 hx
  simp only [List.any_eq_false] at h
  exact ownT_cells (by simpa using h t ht) x hx

/-- What reads alone does what it does in its order. -/
theorem evR_evO {cp : FuncId → List PT → Option PT} {cs : Cal → List TV → St → Option (TV × St)} {sp : FuncId → Bool} {op : O} {t : TV} (h : evR cp sp e σ op = some t) (d : Option Nat) : evO cp cs sp d e σ op = some (t, σ) := by
  cases op with
  | call f args =>
    simp only [evR] at h
    split at h
    · rename_i g hg
      split at h
      · cases h
      · rename_i hsp
        obtain ⟨ps, h1, h⟩ := bindO h
        obtain ⟨r, h2, h⟩ := bindO h
        split at h
        · rename_i hfl
          simp only [Option.some.injEq] at h; subst h
          simp only [evO, hg, h1, h2, Option.bind_some, if_neg hsp]
          by_cases hr : r.flat = true
          · simp [hr]
          · have : (args.map (ev e)).any ownT = false := by simpa [hr] using hfl
            simp [hr, klTs_none this]
        · cases h
    · cases h
  | slc k el x lo hi mx =>
    cases mx with
    | none => simp only [evO, h, Option.bind_some]
    | some mx => simp [evR] at h
  | new z => simp [evR] at h
  | box n x => simp [evR] at h
  | bsl k el z len ps => simp [evR] at h
  | msl k el bytes z len cap => simp [evR] at h
  | mslF k el bytes z len cap => simp [evR] at h
  | st n a x => simp [evR] at h
  | app k el bytes x y => simp [evR] at h
  | _ => simp only [evO, h, Option.bind_some]

/-- EVERY OPERATION. -/
theorem op_ok (hR : SR CR m σ w) (hE : RE m σ w e a.tmps) (hEq : EqOk P eqs) {cp : FuncId → List PT → Option PT} {cs : Cal → List TV → St → Option (TV × St)} {sp : FuncId → Bool} (hp : SndP P cp) (hs : SndS P CR cs)
    {o : Oper} {op : O} {t : TV} (hcc : ccO P eqs o.op = some op) (hev : evO cp cs sp o.dst e σ op = some (t, σ')) {rr : Option Nat} {n : Nat} {K : Act → World → Prop} {Q : Exit → Act → World → Prop}
    (hK : After CR m σ w a o.dst t σ' K) : o.wpIn (FW rr) n P a w K Q := by
  have hd := ccO_defer hcc
  have rd : ∀ {t_ : TV}, evR cp sp e σ op = some t_ → (∀ f args, op ≠ .call f args) → t_ = t → σ = σ' → o.wpIn (FW rr) n P a w K Q := by
    intro t_ h1 h2 h3 h4
    subst h3 h4
    obtain ⟨v, hr, hv⟩ := evR_ok hR hE hEq hcc h1 h2
    exact wpIn_of_run hd (by rw [hr]; exact hK v w m hR hv (Xt.refl _ _ _))
  have rd' : (evR cp sp e σ op).bind (fun v => some (v, σ)) = some (t, σ') → (∀ f args, op ≠ .call f args) → o.wpIn (FW rr) n P a w K Q := by
    intro h1 h2
    obtain ⟨v, h3, h1⟩ := bindO h1
    simp only [Option.some.injEq, Prod.mk.injEq] at h1
    exact rd h3 h2 h1.1 h1.2
  obtain ⟨dst, opc, ty, pos, after, guard⟩ := o
  simp only at hcc hd hev hK
  cases opc with
  | alloc t0 =>
    simp only [ccO] at hcc
    obtain ⟨z, hz, hcc⟩ := bindO hcc
    simp only [Option.some.injEq] at hcc; subst hcc
    cases dst with
    | none => simp [evO] at hev
    | some d =>
      simp only [evO, Option.some.injEq, Prod.mk.injEq] at hev
      obtain ⟨rfl, rfl⟩ := hev
      exact wpIn_of_eff hd (new_ok hR hz d) hK
  | box t0 x =>
    simp only [ccO] at hcc
    obtain ⟨y, hy, hcc⟩ := bindO hcc
    obtain ⟨k, hk, hcc⟩ := bindO hcc
    simp only [Option.some.injEq] at hcc; subst hcc
    simp only [evO] at hev
    split at hev
    · rename_i d vs hvs
      split at hev
      · simp only [Option.some.injEq, Prod.mk.injEq] at hev
        obtain ⟨rfl, rfl⟩ := hev
        exact wpIn_of_eff hd (box_ok hR (cells_ok (ev_ok hE hy) hvs) d) hK
      · cases hev
    · cases hev
  | buildSlice t0 len ps =>
    simp only [ccO] at hcc
    obtain ⟨el, hel, hcc⟩ := bindO hcc
    obtain ⟨z, hz, hcc⟩ := bindO hcc
    split at hcc
    · rename_i hlen
      obtain ⟨ps', hps, hcc⟩ := bindO hcc
      simp only [Option.some.injEq] at hcc; subst hcc
      simp only [evO] at hev
      split at hev
      · rename_i d
        obtain ⟨z', hz', hev⟩ := bindO hev
        obtain ⟨rows, hrows, hev⟩ := bindO hev
        simp only [Option.some.injEq, Prod.mk.injEq] at hev
        obtain ⟨rfl, rfl⟩ := hev
        exact wpIn_of_eff hd (bsl_ok hR hE hel hz hlen.2 hz' hlen.1 hps hrows d) hK
      · cases hev
    · cases hcc
  | makeSlice t0 l c =>
    simp only [ccO] at hcc
    obtain ⟨l', hl, hcc⟩ := bindO hcc
    obtain ⟨c', hc, hcc⟩ := bindO hcc
    obtain ⟨el, hel, hcc⟩ := bindO hcc
    obtain ⟨z, hz, hcc⟩ := bindO hcc
    split at hcc
    · rename_i hzl
      simp only [Option.some.injEq] at hcc
      split at hcc
      · subst hcc
        simp only [evO] at hev
        split at hev
        · rename_i d li ci hli hci
          split at hev
          · rename_i hb
            obtain ⟨z', hz', hev⟩ := bindO hev
            simp only [Option.some.injEq, Prod.mk.injEq] at hev
            obtain ⟨rfl, rfl⟩ := hev
            obtain ⟨k1, e1⟩ := intT_ok (ev_ok hE hl) hli
            obtain ⟨k2, e2⟩ := intT_ok (ev_ok hE hc) hci
            refine wpIn_of_eff hd ?_ hK
            have h9 := msl_ok (P := P) hR hel hz hzl hz' (kl := k1) (kc := k2) hb.1 hb.2.1 hb.2.2 d
            have h10 : Eff P CR m σ w (do pure (Next.value (← Instr.makeSlice t0 (.int k1 li) (.int k2 ci)))) (.a (.p (.l (List.replicate li.toNat z')))) ((σ.add d (.row el.2.1 el.1 (List.replicate li.toNat z'))).kill (d, σ.clk)) := by
              obtain ⟨v, w1, m1, g1, g2, g3, g4⟩ := h9
              obtain ⟨m2, k1, k2, k3⟩ := klA_ok g2 (.own (d, σ.clk) 0 li.toNat)
              refine ⟨v, w1, m2, g1, k1, ?_, g4.trans k2⟩
              have hfr : frA (σ.add d (.row el.2.1 el.1 (List.replicate li.toNat z'))) (.own (d, σ.clk) 0 li.toNat) = some (.l (List.replicate li.toNat z')) := by
                simp [frA, St.add, St.put]
              have g3' : RA m1 (σ.add d (.row el.2.1 el.1 (List.replicate li.toNat z'))) w1 (.own (d, σ.clk) 0 li.toNat) v := g3
              have g5 := RP.mono (fun b hb => ⟨k3 b hb, rfl⟩) (frA_fine g2 g3' hfr)
              exact g5
            simpa only [execOp, e1, e2] using h10
          · cases hev
        · cases hev
      · subst hcc
        simp only [evO] at hev
        split at hev
        · rename_i d li ci hli hci
          split at hev
          · rename_i hb
            obtain ⟨z', hz', hev⟩ := bindO hev
            simp only [Option.some.injEq, Prod.mk.injEq] at hev
            obtain ⟨rfl, rfl⟩ := hev
            obtain ⟨k1, e1⟩ := intT_ok (ev_ok hE hl) hli
            obtain ⟨k2, e2⟩ := intT_ok (ev_ok hE hc) hci
            refine wpIn_of_eff hd ?_ hK
            have := msl_ok (P := P) hR hel hz hzl hz' (kl := k1) (kc := k2) hb.1 hb.2.1 hb.2.2 d
            simpa only [execOp, e1, e2] using this
          · cases hev
        · cases hev
    · cases hcc
  | store t0 x y =>
    simp only [ccO] at hcc
    obtain ⟨x', hx, hcc⟩ := bindO hcc
    obtain ⟨y', hy, hcc⟩ := bindO hcc
    obtain ⟨k, hk, hcc⟩ := bindO hcc
    simp only [Option.some.injEq] at hcc; subst hcc
    simp only [evO] at hev
    split at hev
    · rename_i s i j vs hs1 hvs
      split at hev
      · rename_i hvn
        have hx1 := ev_ok hE hx
        rw [hs1] at hx1
        have ht : t = .u := by
          split at hev
          · split at hev
            · simp only [Option.some.injEq, Prod.mk.injEq] at hev; exact hev.1.symm
            · cases hev
          · split at hev
            · split at hev
              · simp only [Option.some.injEq, Prod.mk.injEq] at hev; exact hev.1.symm
              · cases hev
            · cases hev
          · cases hev
        subst ht
        exact wpIn_of_eff hd (st_ok hR hk hx1 (cells_ok (ev_ok hE hy) hvs) hvn hev) hK
      · cases hev
    · cases hev
  | slice t0 x lo hi mx =>
    have hcc' := hcc
    simp only [ccO] at hcc
    obtain ⟨x', hx, hcc⟩ := bindO hcc
    obtain ⟨lo', hlo, hcc⟩ := bindO hcc
    obtain ⟨hi', hhi, hcc⟩ := bindO hcc
    obtain ⟨mx', hmx, hcc⟩ := bindO hcc
    split at hcc
    · obtain ⟨el, hel, hcc⟩ := bindO hcc
      simp only [Option.some.injEq] at hcc; subst hcc
      cases mx' with
      | none => exact rd' hev (by simp)
      | some mz =>
        have fin : ∀ {d : Nat}, dst = some d → optInt e lo' 0 = some 0 → (hi'.map (ev e)).bind intT = some 0 → intT (ev e mz) = some 0 → (∃ b n c, a.eval x = .slice b n c) →
            t = .a (.own (d, σ.clk) 0 0) → σ' = σ.add d (.row el.2.1 el.1 []) → Oper.wpIn (FW rr) n P { dst := dst, op := .slice t0 x lo hi mx, type := ty, pos := pos, after := after, guard := guard } a w K Q := by
          intro d h1 h2 h3 h4 h5 h6 h7
          subst h1 h6 h7
          exact wpIn_of_eff hd (slc0_ok hR hE hel hlo hhi hmx h2 h3 h4 h5 d) hK
        have hx1 := ev_ok hE hx
        simp only [evO] at hev
        split at hev
        · rename_i d _ _ _ rows h1 h2 h3 h4
          simp only [Option.some.injEq, Prod.mk.injEq] at hev
          rw [h4] at hx1
          obtain ⟨b, c, hb⟩ := RP.slice hx1
          exact fin rfl h1 h2 h3 ⟨b, _, c, hb⟩ hev.1.symm hev.2.symm
        · rename_i d _ _ _ s off len h1 h2 h3 h4
          simp only [Option.some.injEq, Prod.mk.injEq] at hev
          rw [h4] at hx1
          obtain ⟨_, ⟨b, c, hb, _⟩, _⟩ := hx1
          exact fin rfl h1 h2 h3 ⟨b, _, c, hb⟩ hev.1.symm hev.2.symm
        · rename_i d _ _ _ h1 h2 h3 h4
          simp only [Option.some.injEq, Prod.mk.injEq] at hev
          rw [h4] at hx1
          exact fin rfl h1 h2 h3 ⟨_, _, _, hx1⟩ hev.1.symm hev.2.symm
        · cases hev
    · split at hcc
      · cases hcc
      · simp only [Option.some.injEq] at hcc; subst hcc
        exact rd' hev (by simp)
    · cases hcc
  | call c =>
    obtain ⟨callee, args, argTypes⟩ := c
    cases callee with
    | builtin b =>
      cases b with
      | append =>
        simp only [ccO] at hcc
        split at hcc
        · rename_i x y t1 u1 hxs hts
          obtain ⟨x', hx, hcc⟩ := bindO hcc
          obtain ⟨y', hy, hcc⟩ := bindO hcc
          obtain ⟨el, hel, hcc⟩ := bindO hcc
          split at hcc
          · rename_i hh
            obtain ⟨htu, hzl⟩ := hh
            simp only [Option.some.injEq] at hcc; subst hcc
            subst htu
            have hxs' : args = #[x, y] := by rw [← Array.toList_inj, hxs]
            have hts' : argTypes = #[t1, t1] := by rw [← Array.toList_inj, hts]
            subst hxs' hts'
            have hx1 := ev_ok hE hx
            have hy1 := ev_ok hE hy
            simp only [evO] at hev
            have fin : ∀ {d : Nat} {xa ya : AV}, dst = some d → ev e x' = .a xa → ev e y' = .a ya → (match xa with
                | .nil => (rowsA σ ya).bind fun ns =>
                    if ns.length * el.2.2 ≤ 140737488355328 ∧ ns.all (fun r => r.length = el.2.1) then some (TV.a (.own (d, σ.clk) 0 ns.length), σ.add d (.row el.2.1 el.1 ns)) else none
                | .own s off len => match σ.bs s, rowsA σ ya with
                  | some (.row k' el' rows), some ns =>
                    if off = 0 ∧ k' = el.2.1 ∧ el' = el.1 ∧ len ≤ rows.length ∧ (len + ns.length) * el.2.2 ≤ 140737488355328 ∧ ns.all (fun r => r.length = el.2.1) then
                      some (TV.a (.own (d, σ.clk) 0 (len + ns.length)), (σ.kill s).add d (.row el.2.1 el.1 (rows.take len ++ ns)))
                    else none
                  | _, _ => none
                | _ => none) = some (t, σ') → Oper.wpIn (FW rr) n P { dst := dst, op := .call { callee := .builtin .append, args := #[x, y], argTypes := #[t1, t1] }, type := ty, pos := pos, after := after, guard := guard } a w K Q := by
              intro d xa ya h1 h2 h3 h4
              subst h1
              rw [h2] at hx1; rw [h3] at hy1
              refine wpIn_of_eff hd ?_ hK
              have hrun : (execOp a.eval { dst := some d, op := .call { callee := .builtin .append, args := #[x, y], argTypes := #[t1, t1] }, type := ty, pos := pos, after := after, guard := guard }).run P w =
                  (do pure (Next.value (← Builtin.append_ #[t1, t1] ty #[a.eval x, a.eval y])) : Sem Next).run P w := by
                simp [execOp, resolve, invoke, builtin]
              unfold Eff
              rw [hrun]
              cases xa with
              | nil => exact app_ok (P := P) (ty := ty) (x := .nil) (y := ya) hR hel hzl hx1 hy1 d h4
              | own s off len => exact app_ok (P := P) (ty := ty) (x := .own s off len) (y := ya) hR hel hzl hx1 hy1 d h4
              | _ => cases h4
            split at hev
            · rename_i d y0 h2 h3
              exact fin rfl h2 h3 hev
            · rename_i d s off len y0 h2 h3
              exact fin rfl h2 h3 hev
            · cases hev
          · cases hcc
        · cases hcc
      | len =>
        have hnc : ∀ f as, op ≠ .call f as := by
          intro f as hh; subst hh
          simp only [ccO] at hcc
          split at hcc
          · obtain ⟨x', hx, hcc⟩ := bindO hcc
            split at hcc <;> simp at hcc
          · cases hcc
        cases op with
        | len str x => exact rd' hev hnc
        | _ =>
          simp only [ccO] at hcc
          split at hcc
          · obtain ⟨x', hx, hcc⟩ := bindO hcc
            split at hcc <;> simp at hcc
          · cases hcc
      | max =>
        cases op with
        | mx x y => exact rd' hev (by simp)
        | _ =>
          simp only [ccO] at hcc
          split at hcc
          · obtain ⟨x', hx, hcc⟩ := bindO hcc
            obtain ⟨y', hy, hcc⟩ := bindO hcc
            simp at hcc
          · cases hcc
      | min =>
        cases op with
        | mn x y => exact rd' hev (by simp)
        | _ =>
          simp only [ccO] at hcc
          split at hcc
          · obtain ⟨x', hx, hcc⟩ := bindO hcc
            obtain ⟨y', hy, hcc⟩ := bindO hcc
            simp at hcc
          · cases hcc
      | _ => simp [ccO] at hcc
    | invoke r nm => simp [ccO] at hcc
    | value f =>
      simp only [ccO] at hcc
      obtain ⟨f', hf, hcc⟩ := bindO hcc
      obtain ⟨as, has, hcc⟩ := bindO hcc
      simp only [Option.some.injEq] at hcc; subst hcc
      have hf1 := ev_ok hE hf
      have has1 := mapO_X hE has
      simp only [evO] at hev
      split at hev
      · rename_i g caps hg
        rw [hg] at hf1
        obtain ⟨cv, hfv, hcv⟩ := hf1
        have hrun : ∀ {g' : FuncId}, Ent P g' → g' = g → (execOp a.eval { dst := dst, op := .call { callee := .value f, args := args, argTypes := argTypes }, type := ty, pos := pos, after := after, guard := guard }).run P w =
            .ok (.enter g (args.toList.map a.eval ++ cv).toArray) w := by
          intro g' hen hgg
          subst hgg
          simp only [execOp, resolve, hfv, Sem.run_bind, Deferred.ofValue, Sem.run_pure, Result.andThen_ok, invoke]
          rw [callFunc_run hen]
          congr 1
          simp
        have sp_case : ∀ {r : TV} , cs (.f g) (as.map (ev e) ++ caps.map fun s => .a (.ptr s 0 0)) σ = some (r, σ') → r = t → Oper.wpIn (FW rr) n P { dst := dst, op := .call { callee := .value f, args := args, argTypes := argTypes }, type := ty, pos := pos, after := after, guard := guard } a w K Q := by
          intro r h1 h2
          subst h2
          obtain ⟨hen, hc⟩ := hs _ _ _ _ _ h1
          exact wpIn_of_enter hd (hrun hen rfl) (hc m w _ hR (has1.append (caps_rt hcv)) rr (n - 1)) hK
        split at hev
        · exact sp_case hev rfl
        · split at hev
          · rename_i ps hps
            obtain ⟨r, h1, hev⟩ := bindO hev
            simp only [Option.some.injEq, Prod.mk.injEq] at hev
            obtain ⟨rfl, rfl⟩ := hev
            obtain ⟨hen, hc⟩ := hp _ _ _ h1
            cases hcv
            refine wpIn_of_enter hd (hrun hen rfl) ?_ hK
            rw [List.append_nil]
            exact pure_call hR hc has1 hps rfl rr (n - 1)
          · exact sp_case hev rfl
      · rename_i l hl
        rw [hl] at hf1
        obtain ⟨hll, hfv⟩ := hf1
        obtain ⟨lo, hlo, _⟩ := hR.lrs l _ (List.getElem?_eq_getElem hll)
        obtain ⟨hsz, hc⟩ := hs _ _ _ _ _ hev m w _ hR has1 lo hlo
        refine wpIn_of_round hd ?_ (hc rr (n - 1)) hK
        simp only [execOp, resolve, hfv, Sem.run_bind, Deferred.ofValue, Sem.run_pure, Result.andThen_ok, invoke]
        have hmap : args.map a.eval = (args.toList.map a.eval).toArray := by apply Array.ext'; simp
        rw [hmap, Array.empty_append, run_yield hlo (by simpa using hsz)]
      · cases hev
  | move x => simp only [ccO] at hcc; obtain ⟨_, _, hcc⟩ := bindO hcc; simp only [Option.some.injEq] at hcc; subst hcc; exact rd' hev (by simp)
  | assign x => simp only [ccO] at hcc; obtain ⟨_, _, hcc⟩ := bindO hcc; simp only [Option.some.injEq] at hcc; subst hcc; exact rd' hev (by simp)
  | pick c x y => simp only [ccO] at hcc; obtain ⟨_, _, hcc⟩ := bindO hcc; obtain ⟨_, _, hcc⟩ := bindO hcc; obtain ⟨_, _, hcc⟩ := bindO hcc; simp only [Option.some.injEq] at hcc; subst hcc; exact rd' hev (by simp)
  | build t0 ps =>
    cases op with
    | build z qs => exact rd' hev (by simp)
    | _ =>
      simp only [ccO] at hcc
      obtain ⟨_, _, hcc⟩ := bindO hcc
      split at hcc
      · split at hcc
        · obtain ⟨_, _, hcc⟩ := bindO hcc; simp at hcc
        · cases hcc
      · obtain ⟨_, _, hcc⟩ := bindO hcc; obtain ⟨_, _, hcc⟩ := bindO hcc; simp at hcc
      · cases hcc
  | load t0 x =>
    simp only [ccO] at hcc
    obtain ⟨_, _, hcc⟩ := bindO hcc; obtain ⟨_, _, hcc⟩ := bindO hcc; obtain ⟨_, _, hcc⟩ := bindO hcc
    split at hcc
    · cases hcc
    · simp only [Option.some.injEq] at hcc; subst hcc; exact rd' hev (by simp)
  | nilCheck x => simp only [ccO] at hcc; obtain ⟨_, _, hcc⟩ := bindO hcc; simp only [Option.some.injEq] at hcc; subst hcc; exact rd' hev (by simp)
  | binOp bop t0 x y ty' =>
    simp only [ccO] at hcc
    obtain ⟨_, _, hcc⟩ := bindO hcc; obtain ⟨_, _, hcc⟩ := bindO hcc
    cases op with
    | bin b x y => exact rd' hev (by simp)
    | eqb g x y => exact rd' hev (by simp)
    | eqg g s x y => exact rd' hev (by simp)
    | nq g x => exact rd' hev (by simp)
    | _ =>
      split at hcc
      all_goals first
        | (split at hcc
           all_goals first
            | (obtain ⟨_, _, hcc⟩ := bindO hcc; simp at hcc; done)
            | (simp at hcc; done))
        | (simp at hcc; done)
  | unOp uop t0 x =>
    cases uop with
    | not => simp only [ccO] at hcc; obtain ⟨_, _, hcc⟩ := bindO hcc; simp only [Option.some.injEq] at hcc; subst hcc; exact rd' hev (by simp)
    | neg => simp only [ccO] at hcc; obtain ⟨_, _, hcc⟩ := bindO hcc; simp only [Option.some.injEq] at hcc; subst hcc; exact rd' hev (by simp)
    | _ => simp [ccO] at hcc
  | convert src dst' x =>
    simp only [ccO] at hcc
    obtain ⟨_, _, hcc⟩ := bindO hcc
    cases op with
    | cvi k x => exact rd' hev (by simp)
    | cvs x => exact rd' hev (by simp)
    | _ =>
      split at hcc
      · simp at hcc
      · split at hcc <;> simp at hcc
      · cases hcc
  | makeFunc fn first caps =>
    cases op with
    | fn f cs' => exact rd' hev (by simp)
    | _ =>
      cases fn with
      | func f =>
        simp only [ccO] at hcc
        split at hcc
        · obtain ⟨_, _, hcc⟩ := bindO hcc; simp at hcc
        · cases hcc
      | _ => simp [ccO] at hcc
  | fieldAddr t0 x f =>
    simp only [ccO] at hcc
    obtain ⟨_, _, hcc⟩ := bindO hcc; obtain ⟨_, _, hcc⟩ := bindO hcc; obtain ⟨_, _, hcc⟩ := bindO hcc
    split at hcc
    · cases hcc
    · simp only [Option.some.injEq] at hcc; subst hcc; exact rd' hev (by simp)
  | field t0 x f =>
    simp only [ccO] at hcc
    obtain ⟨_, _, hcc⟩ := bindO hcc; obtain ⟨_, _, hcc⟩ := bindO hcc; obtain ⟨_, _, hcc⟩ := bindO hcc; obtain ⟨_, _, hcc⟩ := bindO hcc
    split at hcc
    · cases hcc
    · simp only [Option.some.injEq] at hcc; subst hcc; exact rd' hev (by simp)
  | indexAddr t0 x ix =>
    simp only [ccO] at hcc
    obtain ⟨_, _, hcc⟩ := bindO hcc; obtain ⟨_, _, hcc⟩ := bindO hcc
    split at hcc
    · obtain ⟨_, _, hcc⟩ := bindO hcc; simp only [Option.some.injEq] at hcc; subst hcc; exact rd' hev (by simp)
    · obtain ⟨_, _, hcc⟩ := bindO hcc; simp only [Option.some.injEq] at hcc; subst hcc; exact rd' hev (by simp)
    · cases hcc
  | index t0 x ix =>
    simp only [ccO] at hcc
    obtain ⟨_, _, hcc⟩ := bindO hcc; obtain ⟨_, _, hcc⟩ := bindO hcc
    split at hcc
    · simp only [Option.some.injEq] at hcc; subst hcc; exact rd' hev (by simp)
    · obtain ⟨_, _, hcc⟩ := bindO hcc; obtain ⟨_, _, hcc⟩ := bindO hcc
      split at hcc
      · cases hcc
      · simp only [Option.some.injEq] at hcc; subst hcc; exact rd' hev (by simp)
    · cases hcc
  | extract x i => simp only [ccO] at hcc; obtain ⟨_, _, hcc⟩ := bindO hcc; simp only [Option.some.injEq] at hcc; subst hcc; exact rd' hev (by simp)
  | _ => simp [ccO] at hcc
end

end Go.Fx
