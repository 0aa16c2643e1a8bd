import Derived.Test.YtkpfjolcmkikeaaFx11
set_option linter.unusedSimpArgs false
set_option linter.unusedVariables false
/-
  Appends, put together; slices cut to nothing.
-/
namespace Go.Fx
open Go.RowKit

section
variable {P : Program} {eqs : List (TypeId × List Nat)} {CR : Nat → Code → C → Prop} {m m' : Mt} {σ σ' : St} {w w' : World} {e : Env} {a : Act}

/-- a new row of cells behind an append -/
theorem grow_run {t ty : TypeId} {el : Nat × Nat × Nat} (hel : telem P t = some el) (hzl : zeroLen P el.1 = some el.2.1) (b : Option Addr) (len cap : Nat) (olds : List Value) (hlo : olds.length = len * el.2.1)
    (hb : len ≤ cap) (holds : (b = none ∧ len = 0 ∧ cap = 0) ∨ ∃ ad, b = some ad ∧ ∀ j v, olds[j]? = some v → w.cell? (ad.add j) = some v)
    (ad : Addr) (n c : Nat) (news : List Value) (hl : news.length = n * el.2.1) (hnews : ∀ j v, news[j]? = some v → w.cell? (ad.add j) = some v) (hg : cap < len + n) (hbytes : (len + n) * el.2.2 ≤ 140737488355328) :
    ∃ (cap' : Nat) (rest : List Value), (Builtin.append_ #[t, t] ty #[.slice b len cap, .slice (some ad) n c]).run P w = .ok (.slice (some ⟨w.heap.size, 0, none⟩) (len + n) cap') (w.drew.alloc (.cells (olds ++ news ++ rest).toArray el.1)) ∧
      len + n ≤ cap' ∧ cap' ≤ maxLen ∧ (olds ++ news ++ rest).length = cap' * el.2.1 := by
  obtain ⟨hu, ii, hii, hsz, hby, hpos, hbp⟩ := telem_spec hel
  obtain ⟨ii', zv, hii', hzv, hzs⟩ := zeroLen_spec hzl
  rw [hii] at hii'; cases hii'
  have hsmall : len + n ≤ 140737488355328 := by
    have : (len + n) * 1 ≤ (len + n) * el.2.2 := Nat.mul_le_mul_left _ (by omega)
    omega
  have hge := grownCap_ge w (len + n) cap el.1
  have hcm := grownCap_le_maxLen w (len + n) cap el.1 (by simp only [maxLen]; omega)
  refine ⟨grownCap w (len + n) cap el.1, (Builtin.zeroCells zv.cells (grownCap w (len + n) cap el.1 - (len + n))).toList, ?_, hge, hcm, ?_⟩
  · rcases holds with ⟨rfl, rfl, rfl⟩ | ⟨ad0, rfl, holds⟩
    · have : olds = [] := List.eq_nil_of_length_eq_zero (by simpa using hlo)
      subst this
      have hr := run_append_nil (P := P) w t ty el.1 ii zv hu hii hzv ad n c news (by rw [hsz]; exact hl) hnews (by omega) (by omega) (by rw [hby]; simp at hbytes; omega)
      simp only [Nat.zero_add, List.nil_append] at hr ⊢
      rw [hr]
      congr 3
      apply Array.ext'; simp
    · have hr := run_append_grow (P := P) w t ty el.1 ii zv hu hii hzv ad0 len cap olds (by rw [hsz]; exact hlo) holds ad n c news (by rw [hsz]; exact hl) hnews hg (by omega) (by rw [hby]; exact growslice_fits hg hbytes)
      rw [hr]
      congr 3
      apply Array.ext'; simp
  · simp only [List.length_append, hlo, hl, Array.length_toList, size_zeroCells, hzs, ← Nat.add_mul]
    congr 1
    omega

/-- a new block behind an append -/
theorem grow_eff (h : SR CR m σ w) {t ty : TypeId} {el : Nat × Nat × Nat} (hel : telem P t = some el) {vx vy : Value} {cap' n : Nat} {cells : List Value} {rows : List (List PV)} (d : Nat)
    (hr : (Builtin.append_ #[t, t] ty #[vx, vy]).run P w = .ok (.slice (some ⟨w.heap.size, 0, none⟩) n cap') (w.drew.alloc (.cells cells.toArray el.1))) (hn : rows.length = n) (hc : n ≤ cap') (hm : cap' ≤ maxLen)
    (hl : cells.length = cap' * el.2.1) (hkl : ∀ r : List PV, r ∈ rows → r.length = el.2.1) (hf : Flat w m.D el.2.1 rows cells.toArray) :
    Eff P CR m σ w (do pure (Next.value (← Builtin.append_ #[t, t] ty #[vx, vy]))) (.a (.own (d, σ.clk) 0 n)) (σ.add d (.row el.2.1 el.1 rows)) := by
  obtain ⟨hu, ii, hii, hsz, hby, hpos, hbp⟩ := telem_spec hel
  obtain ⟨h1, x1⟩ := drew_ok h
  let o : Obj := .cells cells.toArray el.1
  let blk : Blk := .row el.2.1 el.1 rows
  have x2 := add_xt h1 d blk o cap'
  have hB : BR (m.add (d, σ.clk) (some (w.drew.heap.size, cap'))) (σ.add d blk) (w.drew.alloc o) (d, σ.clk) blk := by
    refine ⟨by omega, hkl, .inr ⟨w.heap.size, cap', _, by simp [Mt.add], World.alloc_heap_new w.drew o, by simpa using hl, by omega, hm, ?_⟩⟩
    exact (Flat.mono (w := w) (D' := m.D) (w' := w.drew) (fun b hb => ⟨hb, rfl⟩) hf).mono (fun b hb => ⟨x2.D b hb, x2.kept b (h1.dlt b hb) (fun hi => h1.dj b hi hb)⟩)
  exact Eff.val hr (add_sr h1 d blk o cap' hB) (new_own h1 d _ _ _ o cap' n hc) (x1.trans x2)

theorem zero_eff (h : SR CR m σ w) {t ty : TypeId} {el : Nat × Nat × Nat} (hel : telem P t = some el) (b b' : Option Addr) (cap' : Nat) (d : Nat) :
    Eff P CR m σ w (do pure (Next.value (← Builtin.append_ #[t, t] ty #[.slice b 0 0, .slice b' 0 cap']))) (.a (.own (d, σ.clk) 0 0)) (σ.add d (.row el.2.1 el.1 [])) := by
  obtain ⟨hu, ii, hii, hsz, hby, hpos, hbp⟩ := telem_spec hel
  obtain ⟨h1, x1⟩ := add0_ok h d el.2.1 el.1 (by omega)
  exact Eff.val (run_append_zero hel b 0 0 (Nat.le_refl _) b' cap') h1 (own0 h d _ _ b) x1

theorem app_ok (h : SR CR m σ w) {t ty : TypeId} {el : Nat × Nat × Nat} (hel : telem P t = some el) (hzl : zeroLen P el.1 = some el.2.1) {x y : AV} {vx vy : Value} (hx : RA m σ w x vx) (hy : RA m σ w y vy) (d : Nat) {tv : TV}
    (hev : (match x with
      | .nil => (rowsA σ y).bind fun ns =>
          if ns.length * el.2.2 ≤ 140737488355328 ∧ ns.all (fun r => r.length = el.2.1) then some (TV.a (.own (d, σ.clk) 0 ns.length), σ.add d (.row el.2.1 el.1 ns)) else none
      | .own s off len => match σ.bs s, rowsA σ y with
        | some (.row k' el' rows), some ns =>
          if off = 0 ∧ k' = el.2.1 ∧ el' = el.1 ∧ len ≤ rows.length ∧ (len + ns.length) * el.2.2 ≤ 140737488355328 ∧ ns.all (fun r => r.length = el.2.1) then
            some (TV.a (.own (d, σ.clk) 0 (len + ns.length)), (σ.kill s).add d (.row el.2.1 el.1 (rows.take len ++ ns)))
          else none
        | _, _ => none
      | _ => none) = some (tv, σ')) :
    Eff P CR m σ w (do pure (Next.value (← Builtin.append_ #[t, t] ty #[vx, vy]))) tv σ' := by
  have hel' := hel
  obtain ⟨hu, ii, hii, hsz, hby, hpos, hbp⟩ := telem_spec hel'
  have hk : 0 < el.2.1 := by omega
  have allk : ∀ {ns : List (List PV)}, ns.all (fun r => r.length = el.2.1) = true → ∀ r : List PV, r ∈ ns → r.length = el.2.1 := by
    intro ns hn r hr
    rw [List.all_eq_true] at hn
    simpa using hn r hr
  cases x with
  | nil =>
    cases hx
    simp only at hev
    obtain ⟨ns, hns, hev⟩ := bindO hev
    split at hev
    · rename_i hc
      obtain ⟨hc1, hc2⟩ := hc
      simp only [Option.some.injEq, Prod.mk.injEq] at hev
      obtain ⟨rfl, rfl⟩ := hev
      obtain ⟨b, cap, rfl, hsrc⟩ := src_ok h hy hns hk (allk hc2)
      by_cases hne : ns = []
      · subst hne; exact zero_eff h hel none b cap d
      · obtain ⟨ad, news, rfl, n1, n2, n3, n4⟩ := hsrc hne
        have hpl : 0 < ns.length := List.length_pos_iff.2 hne
        obtain ⟨cap', rest, hr, g1, g2, g3⟩ := grow_run (P := P) (ty := ty) hel hzl none 0 0 [] (by simp) (Nat.le_refl _) (.inl ⟨rfl, rfl, rfl⟩) ad ns.length cap news n1 n2 (by omega) (by simpa using hc1)
        simp only [Nat.zero_add, List.nil_append] at hr g1 g3
        refine grow_eff h hel d hr rfl g1 g2 g3 (allk hc2) ?_
        have := flat_append (w := w) (D := m.D) (k := el.2.1) (rows := []) (cells := []) (rest := rest) (fun i r j p hi => by simp at hi) (by simp) n4
        simpa using this
    · cases hev
  | own s off len =>
    simp only at hev
    cases hb : σ.bs s with
    | none => simp [hb] at hev
    | some blk =>
      cases blk with
      | var cs => simp [hb] at hev
      | row k' el' rows =>
        cases hns : rowsA σ y with
        | none => simp [hb, hns] at hev
        | some ns =>
          simp only [hb, hns] at hev
          split at hev
          · rename_i hc
            obtain ⟨rfl, rfl, rfl, hc4, hc5, hc6⟩ := hc
            simp only [Option.some.injEq, Prod.mk.injEq] at hev
            obtain ⟨rfl, rfl⟩ := hev
            obtain ⟨b, cap, rfl, hsrc⟩ := src_ok h hy hns hk (allk hc6)
            obtain ⟨hlt, _, hal⟩ := hx
            obtain ⟨hk1, x1⟩ := kill_ok h s
            rcases hal _ _ _ hb with ⟨rfl, b', rfl⟩ | ⟨B, c, hm, rfl, hle⟩
            · -- no capacity
              by_cases hne : ns = []
              · subst hne
                obtain ⟨v, w1, m1, hr, h1, h2, h3⟩ := zero_eff (P := P) (ty := ty) hk1 hel b' b cap d
                simp only [List.take_zero, List.append_nil, Nat.zero_add, List.length_nil]
                exact ⟨v, w1, m1, hr, h1, h2, x1.trans h3⟩
              · obtain ⟨ad, news, rfl, n1, n2, n3, n4⟩ := hsrc hne
                have hpl : 0 < ns.length := List.length_pos_iff.2 hne
                obtain ⟨cap', rest, hr, g1, g2, g3⟩ := grow_run (P := P) (ty := ty) hel hzl b' 0 0 [] (by simp) (Nat.le_refl _)
                  (by cases b' with
                    | none => exact .inl ⟨rfl, rfl, rfl⟩
                    | some q => exact .inr ⟨q, rfl, by simp⟩) ad ns.length cap news n1 n2 (by omega) (by simpa using hc5)
                simp only [Nat.zero_add, List.nil_append] at hr g1 g3
                simp only [List.take_zero, Nat.zero_add, List.nil_append]
                have hf : Flat w m.D el.2.1 ns (news ++ rest).toArray := by
                  have := flat_append (w := w) (D := m.D) (k := el.2.1) (rows := []) (cells := []) (rest := rest) (fun i r j p hi => by simp at hi) (by simp) n4
                  simpa using this
                obtain ⟨v, w1, m1, hr', h1, h2, h3⟩ := grow_eff (P := P) hk1 hel d hr rfl g1 g2 g3 (allk hc6) (hf.mono fun b hb => ⟨x1.D b hb, rfl⟩)
                exact ⟨v, w1, m1, hr', h1, h2, x1.trans h3⟩
            · -- its own row of cells
              obtain ⟨_, hkl, hbr⟩ := h.blk s _ hb
              rcases hbr with ⟨h1, _⟩ | ⟨B', c', cur, h1, h2, h3, h4, h5, h6⟩
              · rw [hm] at h1; cases h1
              · rw [hm] at h1; simp only [Option.some.injEq, Prod.mk.injEq] at h1
                obtain ⟨rfl, rfl⟩ := h1
                have hlk : len * el.2.1 ≤ cur.size := by rw [h3]; exact Nat.mul_le_mul_right _ (by omega)
                have htl : (cur.toList.take (len * el.2.1)).length = len * el.2.1 := by simp; omega
                have hft := flat_take h6 hkl len
                have hrl : (rows.take len).length = len := by simp; omega
                have hkl' : ∀ r : List PV, r ∈ rows.take len ++ ns → r.length = el.2.1 := by
                  intro r hr
                  rcases List.mem_append.1 hr with hr | hr
                  · exact hkl r (List.mem_of_mem_take hr)
                  · exact allk hc6 r hr
                simp only [Nat.zero_mul, Nat.sub_zero]
                by_cases hne : ns = []
                · subst hne
                  have hr := run_append_zero (P := P) (w := w) (ty := ty) hel (some ⟨B, 0, none⟩) len c (by omega) b cap
                  simp only [List.append_nil, List.length_nil, Nat.add_zero] at hkl' ⊢
                  have hf : Flat w m.D el.2.1 (rows.take len) cur := by
                    intro i r j p hi hj
                    rw [List.getElem?_take] at hi
                    split at hi
                    · exact h6 i r j p hi hj
                    · cases hi
                  obtain ⟨k1, k2⟩ := rekey_ok h hb hm h2 d hk hkl' h3 (by omega) h5 hf
                  rw [setRow_self w B cur el.1 (0, 0) h2] at k1 k2
                  refine Eff.val hr k1 ⟨by simp [St.add, St.kill], ⟨_, _, rfl, by omega⟩, fun _ _ _ _ => .inr ⟨B, c, by simp [Mt.add], by simp, by omega⟩⟩ k2
                · obtain ⟨ad, news, rfl, n1, n2, n3, n4⟩ := hsrc hne
                  have hpl : 0 < ns.length := List.length_pos_iff.2 hne
                  by_cases hroom : len + ns.length ≤ c
                  · -- in place
                    have hfit : len * ii.size + news.length ≤ cur.size := by rw [hsz, n1, h3, ← Nat.add_mul]; exact Nat.mul_le_mul_right _ hroom
                    have hr := run_append_room (P := P) w t ty el.1 ii hu hii B len c cur h2 ad ns.length cap news (by rw [hsz]; exact n1) n2 n3 hroom hfit
                    rw [hsz] at hr hfit
                    have hf := flat_append (rest := cur.toList.drop (len * el.2.1 + news.length)) hft (by rw [htl, hrl]) n4
                    obtain ⟨k1, k2⟩ := rekey_ok h hb hm h2 d hk hkl' (cur' := (cur.toList.take (len * el.2.1) ++ news ++ cur.toList.drop (len * el.2.1 + news.length)).toArray)
                      (by simp; omega) (by simp; omega) h5 hf
                    refine Eff.val hr k1 ⟨by simp [St.add, St.kill], ⟨_, _, rfl, hroom⟩, fun _ _ _ _ => .inr ⟨B, c, by simp [Mt.add], by simp, by omega⟩⟩ k2
                  · -- a new one
                    obtain ⟨cap', rest, hr, g1, g2, g3⟩ := grow_run (P := P) (ty := ty) hel hzl (some ⟨B, 0, none⟩) len c (cur.toList.take (len * el.2.1)) htl (by omega)
                      (.inr ⟨_, rfl, fun j v hj => by
                        rw [List.getElem?_take] at hj
                        split at hj
                        · rw [addr_add, Nat.zero_add]
                          simp only [World.cell?, h2, Option.isSome_none, Bool.false_eq_true, if_false]
                          simpa using hj
                        · cases hj⟩) ad ns.length cap news n1 n2 (by omega) hc5
                    have hf := flat_append (rest := rest) hft (by rw [htl, hrl]) n4
                    obtain ⟨v, w1, m1, hr', h1', h2', h3'⟩ := grow_eff (P := P) hk1 hel d hr (rows := rows.take len ++ ns) (by simp; omega) g1 g2 g3 hkl' (hf.mono fun b hb => ⟨x1.D b hb, rfl⟩)
                    exact ⟨v, w1, m1, hr', h1', h2', x1.trans h3'⟩
          · cases hev
  | _ => simp at hev

theorem slc0_ok (h : SR CR m σ w) (hE : RE m σ w e a.tmps) {t : TypeId} {el : Nat × Nat × Nat} (hel : telem P t = some el) {lo hi mx : Option Operand} {lo' hi' : Option X} {mx' : X} (hlo : optX lo = some lo') (hhi : optX hi = some hi') (hmx : optX mx = some (some mx'))
    (h1 : optInt e lo' 0 = some 0) (h2 : (hi'.map (ev e)).bind intT = some 0) (h3 : intT (ev e mx') = some 0) {v : Value} (hv : ∃ b n c, v = .slice b n c) (d : Nat) :
    Eff P CR m σ w (do pure (Next.value (← Instr.sliceAt t v (lo.map a.eval) (hi.map a.eval) (mx.map a.eval)))) (.a (.own (d, σ.clk) 0 0)) (σ.add d (.row el.2.1 el.1 [])) := by
  obtain ⟨hu, ii, hii, hsz, hby, hpos, hbp⟩ := telem_spec hel
  obtain ⟨b, n, c, rfl⟩ := hv
  cases mx with
  | none => simp [optX] at hmx
  | some mo =>
    simp only [optX] at hmx
    obtain ⟨z, hz, hmx⟩ := bindO hmx
    simp only [Option.some.injEq] at hmx; subst hmx
    obtain ⟨k, hk⟩ := intT_ok (ev_ok hE hz) h3
    cases hi with
    | none => simp only [optX, Option.some.injEq] at hhi; subst hhi; simp at h2
    | some ho =>
      simp only [optX] at hhi
      obtain ⟨z2, hz2, hhi⟩ := bindO hhi
      simp only [Option.some.injEq] at hhi; subst hhi
      simp only [Option.map_some, Option.bind_some] at h2
      obtain ⟨k2, hk2⟩ := intT_ok (ev_ok hE hz2) h2
      have hb : (Instr.sliceBounds true n c (lo.map a.eval) (some (.int k2 0)) (some (.int k 0))).run P w = .ok (0, 0, 0) w := by
        rcases optInt_ok hE hlo h1 with ⟨rfl, _⟩ | ⟨o', k', rfl, ho'⟩
        · simp [Instr.sliceBounds, Instr.sliceBound, asIntOf]
        · simp [Instr.sliceBounds, Instr.sliceBound, asIntOf, ho']
      have hs : (Instr.sliceAt t (.slice b n c) (lo.map a.eval) ((some ho).map a.eval) ((some mo).map a.eval)).run P w = .ok (.slice b 0 0) w := by
        have hsr : (sizeOf el.1).run P w = .ok el.2.1 w := by simp [sizeOf, typeInfo, hii, hsz]
        simp only [Option.map_some, hk, hk2, Instr.sliceAt, Instr.slice, Sem.run_bind, run_underlying hu, Result.andThen_ok, hb, hsr, if_true, Sem.run_pure]
      obtain ⟨g1, g2⟩ := add0_ok h d el.2.1 el.1 (by omega)
      exact Eff.val hs g1 (own0 h d _ _ b) g2
end

end Go.Fx
