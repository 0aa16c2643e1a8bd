import Derived.Test.YtkpfjolcmkikeaaFx15
import Derived.OrdersIn
set_option linter.unusedSimpArgs false
set_option linter.unusedVariables false
/-
  Regions: in the order of the text, and in every order that a region may draw.
-/
namespace Go.Fx

/-! ### which come ahead -/
section
variable {α β : Type}
theorem pushfold (g : Array β → α → β) : ∀ (l : List α) (acc0 : Array β), (∀ j, j < acc0.size → (l.foldl (fun acc x => acc.push (g acc x)) acc0)[j]? = acc0[j]?) ∧
    ∀ (i : Nat) (x : α), l[i]? = some x → ∃ acc, (l.foldl (fun acc x => acc.push (g acc x)) acc0)[acc0.size + i]? = some (g acc x) ∧ ∀ j, j < acc0.size + i → acc[j]? = (l.foldl (fun acc x => acc.push (g acc x)) acc0)[j]?
  | [], acc0 => ⟨fun _ _ => rfl, fun i x h => by simp at h⟩
  | y :: r, acc0 => by
    obtain ⟨h1, h2⟩ := pushfold g r (acc0.push (g acc0 y))
    simp only [List.foldl_cons]
    have h1' : ∀ j, j < acc0.size → (r.foldl (fun acc x => acc.push (g acc x)) (acc0.push (g acc0 y)))[j]? = acc0[j]? := by
      intro j hj
      rw [h1 j (by simp; omega), Array.getElem?_push_lt hj, Array.getElem?_eq_getElem hj]
    refine ⟨h1', fun i x hx => ?_⟩
    cases i with
    | zero =>
      simp only [List.getElem?_cons_zero, Option.some.injEq] at hx; subst hx
      refine ⟨acc0, ?_, fun j hj => (h1' j (by omega)).symm⟩
      rw [Nat.add_zero, h1 acc0.size (by simp)]; simp
    | succ i =>
      simp only [List.getElem?_cons_succ] at hx
      obtain ⟨acc, h3, h4⟩ := h2 i x hx
      simp only [Array.size_push] at h3 h4
      exact ⟨acc, by rw [← h3]; congr 1; omega, fun j hj => h4 j (by omega)⟩
end

theorem bits_foldl (acc : Array Nat) (k : Nat) : ∀ (es : List Edge) (s : Nat), (es.foldl (fun s e => if Region.binds .any e then s ||| 2 ^ e.on ||| acc.getD e.on 0 else s) s).testBit k = true →
    s.testBit k = true ∨ ∃ e, e ∈ es ∧ Region.binds .any e = true ∧ (e.on = k ∨ (acc.getD e.on 0).testBit k = true)
  | [], s, h => .inl h
  | e :: r, s, h => by
    simp only [List.foldl_cons] at h
    rcases bits_foldl acc k r _ h with h1 | ⟨e', he, hb⟩
    · split at h1
      · rename_i hb
        simp only [Nat.testBit_or, Bool.or_eq_true] at h1
        rcases h1 with (h1 | h1) | h1
        · exact .inl h1
        · rw [Nat.testBit_two_pow] at h1
          exact .inr ⟨e, by simp, hb, .inl (by simpa using h1)⟩
        · exact .inr ⟨e, by simp, hb, .inr h1⟩
      · exact .inl h1
    · exact .inr ⟨e', by simp [he], hb⟩

/-- all whose coming up ahead is sure have come up -/
theorem before_listed {ops : Array Oper} {L : Nat → Prop} (back : ∀ i o, ops[i]? = some o → ∀ e, e ∈ o.after → Region.binds .any e = true → e.on < i)
    (closed : ∀ i o, ops[i]? = some o → L i → ∀ e, e ∈ o.after → Region.binds .any e = true → L e.on) : ∀ (i : Nat) (o : Oper), ops[i]? = some o → (∀ e, e ∈ o.after → Region.binds .any e = true → L e.on) →
    ∀ k, ((befores ops).getD i 0).testBit k = true → L k := by
  intro i
  induction i using Nat.strongRecOn with
  | _ i ih =>
    intro o ho hE k hk
    have hp := pushfold (fun acc (o : Oper) => o.after.toList.foldl (fun s e => if Region.binds .any e then s ||| 2 ^ e.on ||| acc.getD e.on 0 else s) 0) ops.toList #[]
    have hB : befores ops = ops.toList.foldl (fun acc (o : Oper) => acc.push (o.after.toList.foldl (fun s e => if Region.binds .any e then s ||| 2 ^ e.on ||| acc.getD e.on 0 else s) 0)) #[] := by
      unfold befores Region.before
      rw [← Array.foldl_toList]
      congr 1
      funext acc o
      rw [← Array.foldl_toList]
    rw [← hB] at hp
    obtain ⟨acc, h3, h4⟩ := hp.2 i o (by simpa using ho)
    simp only [Array.size_empty, Nat.zero_add] at h3 h4
    rw [Array.getD_eq_getD_getElem?, h3] at hk
    simp only [Option.getD_some] at hk
    rcases bits_foldl acc k _ _ hk with h5 | ⟨e, he, hb, h6⟩
    · simp at h5
    · have he' : e ∈ o.after := by simpa using he
      have hlt := back i o ho e he' hb
      rcases h6 with rfl | h6
      · exact hE e he' hb
      · rw [Array.getD_eq_getD_getElem?, h4 e.on hlt, ← Array.getD_eq_getD_getElem?] at h6
        have hi : i < ops.size := (Array.getElem?_eq_some_iff.1 ho).1
        obtain ⟨o', ho'⟩ : ∃ o', ops[e.on]? = some o' := ⟨_, Array.getElem?_eq_getElem (by omega)⟩
        exact ih e.on hlt o' ho' (closed e.on o' ho' (hE e he' hb)) k h6

/-! ### one instruction, as the walk meets it -/
section
variable {P : Program} {eqs : List (TypeId × List Nat)} {CR : Nat → Code → C → Prop} {m m' : Mt} {σ σ' : St} {w w' : World} {e e' : Env} {a : Act}
variable {cp : FuncId → List PT → Option PT} {cs : Cal → List TV → St → Option (TV × St)} {sp : FuncId → Bool}

def InsOk (P : Program) (eqs : List (TypeId × List Nat)) (nt : Nat) (ops : Array Oper) (o : Oper) (i : Ins) : Prop :=
  ccO P eqs o.op = some i.op ∧ ccG ops o.guard = some i.gd ∧ i.dst = o.dst ∧ dstOk nt o.dst = true

theorem ccI_ok {nt : Nat} {ops : Array Oper} {cl : Cls} {o : Oper} {i : Ins} (h : ccI P eqs nt ops cl o = some i) : InsOk P eqs nt ops o i ∧ i.cl = cl := by
  unfold ccI at h
  obtain ⟨op, h1, h⟩ := bindO h
  obtain ⟨g, h2, h⟩ := bindO h
  split at h
  · rename_i hd
    simp only [Option.some.injEq] at h; subst h
    exact ⟨⟨h1, h2, rfl, hd⟩, rfl⟩
  · cases h

theorem yielded_ok (hE : RE m σ w e a.tmps) {ops : Array Oper} {g : Option (Nat × Bool)} {o : Oper} (h : ccG ops o.guard = some g) :
    (g = none → Region.wanted o (yielded ops a.tmps) = true) ∧
    (∀ t q x, g = some (t, q) → e t = .a (.p (.b x)) → Region.wanted o (yielded ops a.tmps) = decide (x = q)) ∧
    (∀ t q, g = some (t, q) → e t = .u → Region.wanted o (yielded ops a.tmps) = false) := by
  cases hg : o.guard with
  | none =>
    rw [hg] at h
    simp only [ccG, Option.some.injEq] at h; subst h
    refine ⟨fun _ => by simp [Region.wanted, hg], by simp, by simp⟩
  | some g' =>
    obtain ⟨j, q⟩ := g'
    rw [hg] at h
    simp only [ccG] at h
    obtain ⟨t, h1, h⟩ := bindO h
    simp only [Option.some.injEq] at h; subst h
    have hy : yielded ops a.tmps j = match a.tmps[t]? with | some (.bool b) => some b | _ => none := by
      simp only [yielded, h1, Option.bind_some]
      rfl
    refine ⟨by simp, ?_, ?_⟩
    · intro t' q' x ht hx
      simp only [Option.some.injEq, Prod.mk.injEq] at ht
      obtain ⟨rfl, rfl⟩ := ht
      have h2 := hE t
      rw [hx] at h2
      have h2 := h2.b
      have h3 : a.tmps[t]? = some (.bool x) := by
        rw [Array.getD_eq_getD_getElem?] at h2
        cases h4 : a.tmps[t]? with
        | none => rw [h4] at h2; simp [undef] at h2
        | some v => rw [h4] at h2; simp at h2; rw [h2]
      simp only [Region.wanted, hg, hy, h3]
      cases x <;> cases q <;> rfl
    · intro t' q' ht hx
      simp only [Option.some.injEq, Prod.mk.injEq] at ht
      obtain ⟨rfl, rfl⟩ := ht
      have h2 := hE t
      rw [hx] at h2
      have h2 : a.tmps.getD t undef = undef := h2
      simp only [Region.wanted, hg, hy]
      rw [Array.getD_eq_getD_getElem?] at h2
      cases h4 : a.tmps[t]? with
      | none => simp
      | some v => rw [h4] at h2; simp at h2; rw [h2]; simp [undef]

/-- the marks that ranges over functions leave among the deferred calls: the rounds have deferred nothing -/
def markOf (r : Nat) : Deferred := { target := .collected r, args := #[] }
def Marks (base : Nat) (m : Mt) (σ : St) (w : World) (ds : List Deferred) : Prop :=
  ∃ rs : List Nat, ds = rs.map markOf ∧ rs.Nodup ∧ ∀ r, r ∈ rs → base ≤ r ∧ w.heap[r]? = some (.deferred (some [])) ∧ ¬ InS m σ r ∧ ¬ m.D r

theorem Marks.nil (base : Nat) (m : Mt) (σ : St) (w : World) : Marks base m σ w [] := ⟨[], rfl, List.nodup_nil, fun r hr => by simp at hr⟩
theorem Marks.xt {base : Nat} {ds : List Deferred} (h : Marks base m σ w ds) (x : Xt m σ w m' σ' w') : Marks base m' σ' w' ds := by
  obtain ⟨rs, h1, h2, h3⟩ := h
  refine ⟨rs, h1, h2, fun r hr => ?_⟩
  obtain ⟨k1, k2, k3, k4⟩ := h3 r hr
  have hlt : r < w.heap.size := (Array.getElem?_eq_some_iff.1 k2).1
  refine ⟨k1, by rw [x.kept r hlt k3]; exact k2, fun hi => ?_, fun hD => ?_⟩
  · rcases x.img r hi with h | h
    · exact k3 h
    · omega
  · rcases x.new r hD with h | h | h
    · exact k4 h
    · omega
    · exact k3 h

/-- where the walk stands: the relations, and what a step leaves -/
structure At (CR : Nat → Code → C → Prop) (m0 : Mt) (σ0 : St) (w0 : World) (a0 : Act) (m : Mt) (e : Env) (σ : St) (a : Act) (w : World) : Prop where
  sr : SR CR m σ w
  re : RE m σ w e a.tmps
  xt : Xt m0 σ0 w0 m σ w
  sz : a.tmps.size = a0.tmps.size
  df : Marks w0.heap.size m σ w a.defers

/-- ONE INSTRUCTION. -/
theorem ins_ok {m0 : Mt} {σ0 : St} {w0 : World} {a0 : Act} (hA : At CR m0 σ0 w0 a0 m e σ a w) (hEq : EqOk P eqs) (hp : SndP P cp) (hs : SndS P CR cs)
    {ops : Array Oper} {o : Oper} {i : Ins} (hi : InsOk P eqs a0.tmps.size ops o i) {v : TV} (hev : evV cp cs sp i e σ = some (v, σ')) {rr : Option Nat} {n : Nat} {K : Act → World → Prop} {Q : Exit → Act → World → Prop}
    (hK : ∀ m' a' w', At CR m0 σ0 w0 a0 m' (e.putD i.dst v) σ' a' w' → Xt m σ w m' σ' w' → K a' w') :
    if Region.wanted o (yielded ops a.tmps) then o.wpIn (FW rr) n P a w K Q else (∀ f, o.about P w a.eval = some f → (FW rr).fn f) ∧ K (a.put o.dst undef) w := by
  obtain ⟨h1, h2, h3, h4⟩ := hi
  obtain ⟨y1, y2, y3⟩ := yielded_ok (o := o) hA.re h2
  have run : evO cp cs sp o.dst e σ i.op = some (v, σ') → o.wpIn (FW rr) n P a w K Q := by
    intro hr
    refine op_ok hA.sr hA.re hEq hp hs h1 hr ?_
    intro u w' m' k1 k2 k3
    refine hK m' _ w' ⟨k1, ?_, hA.xt.trans k3, by rw [put_size]; exact hA.sz, by rw [put_defers]; exact hA.df.xt k3⟩ k3
    rw [h3]
    exact (k3.re hA.sr hA.re).putD (by rw [hA.sz]; exact h4) k2
  have run' : (match i.cl with
    | .rd => (evR cp sp e σ i.op).bind fun v => some (v, σ)
    | .any => evO cp cs sp i.dst e σ i.op
    | .ad => if i.op.adds e then evO cp cs sp i.dst e σ i.op else none
    | .wr ts => if wrOk e σ i.op ts then evO cp cs sp i.dst e σ i.op else none) = some (v, σ') → o.wpIn (FW rr) n P a w K Q := by
    intro hr
    refine run ?_
    rw [h3] at hr
    split at hr
    · obtain ⟨t, k1, hr⟩ := bindO hr
      simp only [Option.some.injEq, Prod.mk.injEq] at hr
      obtain ⟨rfl, rfl⟩ := hr
      exact evR_evO k1 _
    · exact hr
    · split at hr
      · exact hr
      · cases hr
    · split at hr
      · exact hr
      · cases hr
  have skip : v = .u → σ' = σ → K (a.put o.dst undef) w := by
    rintro rfl rfl
    refine hK m _ w ⟨hA.sr, ?_, hA.xt, by rw [put_size]; exact hA.sz, by rw [put_defers]; exact hA.df⟩ (Xt.refl _ _ _)
    rw [h3]
    exact hA.re.putD (by rw [hA.sz]; exact h4) rfl
  unfold evV at hev
  cases hg : i.gd with
  | none =>
    rw [hg] at hev
    rw [if_pos (y1 hg)]
    exact run' hev
  | some g =>
    obtain ⟨t, q⟩ := g
    rw [hg] at hev
    simp only [] at hev
    split at hev
    · rename_i x hx
      have := y2 t q x hg hx
      split at hev
      · rename_i hxq
        rw [if_pos (by rw [this]; simpa using hxq)]
        exact run' hev
      · rename_i hxq
        rw [if_neg (by rw [this]; simpa using hxq)]
        simp only [Option.some.injEq, Prod.mk.injEq] at hev
        exact ⟨fun _ _ => trivial, skip hev.1.symm hev.2.symm⟩
    · rename_i hx
      rw [if_neg (by rw [y3 t q hg hx]; simp)]
      simp only [Option.some.injEq, Prod.mk.injEq] at hev
      exact ⟨fun _ _ => trivial, skip hev.1.symm hev.2.symm⟩
    · cases hev

/-! ### a variable that is in the store ahead of its place -/
theorem add_none_xt (d : Nat) (z : List AV) : Xt m σ w (m.add (d, σ.clk) none) (σ.add d (.var z)) w where
  mu s hs := by simp only [Mt.add]; rw [if_neg]; intro e; subst e; simp at hs
  la l hl := rfl
  clk := by simp [St.add]
  len := Nat.le_refl _
  bs s b' hs hc := by
    simp only [St.add, St.put] at hs
    rw [if_neg (by intro e; subst e; simp at hc)] at hs
    exact ⟨b', hs, sameShape.refl _⟩
  D b hb := hb
  new b hb := .inl hb
  img b hb := by
    rcases hb with ⟨s, bl, c', hs, hm⟩ | ⟨l, hl, e⟩
    · simp only [St.add, St.put] at hs
      simp only [Mt.add] at hm
      by_cases e : s = (d, σ.clk)
      · rw [if_pos e] at hm; cases hm
      · rw [if_neg e] at hs hm; exact .inl (.inl ⟨s, bl, c', hs, hm⟩)
    · exact .inl (.inr ⟨l, hl, e⟩)
  kept b hb hn := rfl
  os := rfl
  tape := rfl
  output := rfl
  size := Nat.le_refl _

theorem add_none_sr (h : SR CR m σ w) (d : Nat) (z : List AV) : SR CR (m.add (d, σ.clk) none) (σ.add d (.var z)) w := by
  have x := add_none_xt (m := m) (σ := σ) (w := w) d z
  have old : ∀ s b, (σ.add d (.var z)).bs s = some b → s ≠ (d, σ.clk) → σ.bs s = some b ∧ (m.add (d, σ.clk) none).mu s = m.mu s := by
    intro s b hs e
    simp only [St.add, St.put] at hs
    rw [if_neg e] at hs
    exact ⟨hs, by simp [Mt.add, e]⟩
  refine SR.step h x ?_ ?_ ?_ ?_ ?_ rfl ?_
  · intro s b hs
    by_cases e : s = (d, σ.clk)
    · subst e
      simp only [St.add, St.put, if_true, Option.some.injEq] at hs
      subst hs; exact .inl (.inl (by simp [Mt.add]))
    · obtain ⟨h1, h2⟩ := old s b hs e
      exact .inr ⟨h1, h2, fun B c' hm => rfl⟩
  · intro s b hs
    by_cases e : s = (d, σ.clk)
    · subst e; simp [St.add]
    · have := h.gen s b (old s b hs e).1; simp [St.add]; omega
  · intro s s' b b' B c1 c2 hs hs' hm hm'
    by_cases e : s = (d, σ.clk)
    · simp only [Mt.add, e, if_true, reduceCtorEq] at hm
    · by_cases e' : s' = (d, σ.clk)
      · simp only [Mt.add, e', if_true, reduceCtorEq] at hm'
      · obtain ⟨h1, h2⟩ := old s b hs e
        obtain ⟨h3, h4⟩ := old s' b' hs' e'
        rw [h2] at hm; rw [h4] at hm'
        exact h.inj s s' b b' B c1 c2 h1 h3 hm hm'
  · intro b hb hD
    rcases x.img b hb with h1 | h1
    · exact h.dj b h1 hD
    · have := h.dlt b hD; omega
  · intro b hb
    exact h.dlt b hb
  · intro l hl
    rfl

/-- The store has it ahead: nothing turns in the world. -/
theorem At.virt {m0 : Mt} {σ0 : St} {w0 : World} {a0 : Act} (hA : At CR m0 σ0 w0 a0 m e σ a w) (d : Nat) (z : List AV) : At CR m0 σ0 w0 a0 (m.add (d, σ.clk) none) e (σ.add d (.var z)) a w :=
  have x := add_none_xt (m := m) (σ := σ) (w := w) d z
  ⟨add_none_sr hA.sr d z, x.re hA.sr hA.re, hA.xt.trans x, hA.sz, hA.df.xt x⟩

section
variable {s : Key} {z : List AV}
theorem real_pv (hm : m.mu s = none) {c : Option (Nat × Nat)} {s' : Key} {i j : Nat} {v : Value} (hp : ptrV m σ s' i j v) : ptrV (m.add s c) σ s' i j v := by
  refine ⟨hp.1, fun b hb => ?_⟩
  obtain ⟨B, c', h1, h2⟩ := hp.2 b hb
  refine ⟨B, c', ?_, h2⟩
  have : s' ≠ s := by rintro rfl; rw [hm] at h1; cases h1
  simp only [Mt.add]; rw [if_neg this]; exact h1

theorem real_rp (h : SR CR m σ w) {c : Option (Nat × Nat)} (o : Obj) {p : PV} {v : Value} (hp : RP w m.D p v) : RP (w.alloc o) (m.add s c).D p v :=
  hp.mono fun b hb => ⟨hb, RowKit.Below.heap_alloc w o b (h.dlt b hb)⟩

theorem real_ra (h : SR CR m σ w) (hm : m.mu s = none) (hb : σ.bs s = some (.var z)) {c : Option (Nat × Nat)} (o : Obj) {x : AV} {v : Value} (hp : RA m σ w x v) : RA (m.add s c) σ (w.alloc o) x v := by
  cases x with
  | p y => exact real_rp h o hp
  | nil => exact hp
  | ptr s' i j => exact ⟨real_pv hm hp.1, hp.2⟩
  | cptr r j =>
    obtain ⟨B, off, vals, hD, hv, hr⟩ := hp
    have hk := RowKit.Below.heap_alloc w o B (h.dlt B hD)
    exact ⟨B, off, vals, hD, hv, fun i c hc => ⟨(World.cell?_of_block (w := w) (a := ⟨B, _, none⟩) hk).trans (hr i c hc).1, real_rp h o (hr i c hc).2⟩⟩
  | own s' off len =>
    refine ⟨hp.1, hp.2.1, fun k e rows hbs => ?_⟩
    rcases hp.2.2 k e rows hbs with h1 | ⟨B, c', hm', hv, hl⟩
    · exact .inl h1
    · refine .inr ⟨B, c', ?_, hv, hl⟩
      have : s' ≠ s := by rintro rfl; rw [hm] at hm'; cases hm'
      simp only [Mt.add]; rw [if_neg this]; exact hm'
  | fn f caps =>
    obtain ⟨vs, hv, h2⟩ := hp
    exact ⟨vs, hv, h2.imp fun _ _ hx => ⟨real_pv hm hx.1, hx.2⟩⟩
  | yl l => exact hp
  | raw c => exact hp

theorem real_sr (h : SR CR m σ w) (hm : m.mu s = none) (hb : σ.bs s = some (.var z)) {t : TypeId} {vs : List Value} (hz : ∀ m σ w, F2 (RA m σ w) z vs) :
    SR CR (m.add s (some (w.heap.size, 0))) σ (w.alloc (.cells vs.toArray t)) where
  blk s' b hs := by
    by_cases e : s' = s
    · subst e
      rw [hb] at hs; simp only [Option.some.injEq] at hs; subst hs
      exact .inr ⟨w.heap.size, t, vs, by simp [Mt.add], World.alloc_heap_new w _, hz _ _ _⟩
    · have hb' := h.blk s' b hs
      have hmu : (m.add s (some (w.heap.size, 0))).mu s' = m.mu s' := by simp only [Mt.add]; rw [if_neg e]
      cases b with
      | var cs =>
        rcases hb' with h1 | ⟨B, T, us, h1, h2, h3⟩
        · exact .inl (hmu.trans h1)
        · exact .inr ⟨B, T, us, hmu.trans h1, (RowKit.Below.heap_alloc w _ B (Array.getElem?_eq_some_iff.1 h2).1).trans h2, h3.imp fun _ _ hx => real_ra h hm hb _ hx⟩
      | row k el rows =>
        obtain ⟨h0, h1, h2⟩ := hb'
        refine ⟨h0, h1, ?_⟩
        rcases h2 with ⟨h3, h4⟩ | ⟨B, c, cur, h3, h4, h5, h6, h7, h8⟩
        · exact .inl ⟨hmu.trans h3, h4⟩
        · exact .inr ⟨B, c, cur, hmu.trans h3, (RowKit.Below.heap_alloc w _ B (Array.getElem?_eq_some_iff.1 h4).1).trans h4, h5, h6, h7, fun i r j p hr hp => let ⟨v, hv, hp'⟩ := h8 i r j p hr hp; ⟨v, hv, real_rp h _ hp'⟩⟩
  gen := h.gen
  inj s1 s2 b b' B c c' hs hs' h1 h2 := by
    simp only [Mt.add] at h1 h2
    by_cases e : s1 = s <;> by_cases e' : s2 = s
    · rw [e, e']
    · rw [if_pos e] at h1; rw [if_neg e'] at h2
      simp only [Option.some.injEq, Prod.mk.injEq] at h1
      have := h.inS_lt (.inl ⟨s2, b', c', hs', h2⟩); omega
    · rw [if_neg e] at h1; rw [if_pos e'] at h2
      simp only [Option.some.injEq, Prod.mk.injEq] at h2
      have := h.inS_lt (.inl ⟨s1, b, c, hs, h1⟩); omega
    · rw [if_neg e] at h1; rw [if_neg e'] at h2
      exact h.inj s1 s2 b b' B c c' hs hs' h1 h2
  dj b hbI hD := by
    rcases hbI with ⟨s', blk, c, hs, h1⟩ | ⟨l, hl, e⟩
    · simp only [Mt.add] at h1
      by_cases e : s' = s
      · rw [if_pos e] at h1
        simp only [Option.some.injEq, Prod.mk.injEq] at h1
        have := h.dlt b hD; omega
      · rw [if_neg e] at h1; exact h.dj b (.inl ⟨s', blk, c, hs, h1⟩) hD
    · exact h.dj b (.inr ⟨l, hl, e⟩) hD
  dlt b hbD := by have := h.dlt b hbD; simp; omega
  lrs l r hl := by
    obtain ⟨lo, h1, h2, h3⟩ := h.lrs l r hl
    exact ⟨lo, (RowKit.Below.heap_alloc w _ _ (Array.getElem?_eq_some_iff.1 h1).1).trans h1, fun n => (h2 n).imp fun _ _ hx => real_ra h hm hb _ hx, h3⟩
  linj := h.linj

/-- A new variable at its place, that the store had ahead. -/
theorem At.real {m0 : Mt} {σ0 : St} {w0 : World} {a0 : Act} (hA : At CR m0 σ0 w0 a0 m e σ a w) (hm : m.mu s = none) (hb : σ.bs s = some (.var z)) (h0 : σ0.clk ≤ s.2) (h1 : s.2 < σ.clk) {d : Nat} (hd : d < a0.tmps.size)
    {t : TypeId} {vs : List Value} (hz : ∀ m σ w, F2 (RA m σ w) z vs) :
    At CR m0 σ0 w0 a0 (m.add s (some (w.heap.size, 0))) (e.put d (.a (.ptr s 0 0))) σ (a.put (some d) (.pointer (some ⟨w.heap.size, 0, none⟩))) (w.alloc (.cells vs.toArray t)) := by
  have hsr := real_sr (t := t) hA.sr hm hb hz
  have img : ∀ b, InS (m.add s (some (w.heap.size, 0))) σ b → InS m σ b ∨ b = w.heap.size := by
    rintro b (⟨s', blk, c, hs, h1⟩ | ⟨l, hl, e⟩)
    · simp only [Mt.add] at h1
      by_cases e : s' = s
      · rw [if_pos e] at h1
        simp only [Option.some.injEq, Prod.mk.injEq] at h1
        exact .inr h1.1.symm
      · rw [if_neg e] at h1; exact .inl (.inl ⟨s', blk, c, hs, h1⟩)
    · exact .inl (.inr ⟨l, hl, e⟩)
  refine ⟨hsr, ?_, ?_, by rw [put_size]; exact hA.sz, ?_⟩
  · have hre : RE (m.add s (some (w.heap.size, 0))) σ (w.alloc (.cells vs.toArray t)) e a.tmps := fun n => (hA.re n).imp fun _ _ hx => real_ra hA.sr hm hb _ hx
    refine hre.put (by rw [hA.sz]; exact hd) ⟨⟨h1, fun b _ => ⟨w.heap.size, 0, by simp [Mt.add], by simp⟩⟩, _, rfl⟩
  · have x := hA.xt
    exact {
      mu := fun s' hs => by
        have : s' ≠ s := by rintro rfl; omega
        simp only [Mt.add]; rw [if_neg this]; exact x.mu s' hs
      la := x.la
      clk := x.clk
      len := x.len
      bs := x.bs
      D := x.D
      new := x.new
      img := fun b hb => by
        rcases img b hb with h | h
        · exact x.img b h
        · have := x.size; exact .inr (by omega)
      kept := fun b hb hn => (RowKit.Below.heap_alloc w _ b (Nat.lt_of_lt_of_le hb x.size)).trans (x.kept b hb hn)
      os := x.os
      tape := x.tape
      output := x.output
      size := by have := x.size; simp; omega }
  · rw [put_defers]
    obtain ⟨rs, g1, g2, g3⟩ := hA.df
    refine ⟨rs, g1, g2, fun r hr => ?_⟩
    obtain ⟨k1, k2, k3, k4⟩ := g3 r hr
    have hlt : r < w.heap.size := (Array.getElem?_eq_some_iff.1 k2).1
    refine ⟨k1, (RowKit.Below.heap_alloc w _ r hlt).trans k2, fun hi => ?_, k4⟩
    rcases img r hi with h | h
    · exact k3 h
    · omega

theorem ccO_new {op : Op} (h : ccO P eqs op = some (.new z)) : ∃ t, op = .alloc t ∧ tzero P t = some z := by
  cases op
  case alloc t =>
    simp only [ccO] at h
    obtain ⟨z', h0, h⟩ := bindO h
    simp only [Option.some.injEq, O.new.injEq] at h; subst h
    exact ⟨t, rfl, h0⟩
  all_goals
    exfalso
    simp only [ccO] at h
    repeat' (first
      | (simp only [Option.some.injEq, reduceCtorEq] at h; done)
      | (rw [Option.bind_eq_some_iff] at h; obtain ⟨_, _, h⟩ := h)
      | (split at h))
  all_goals
    rename_i hq _ _
    cases hq

theorem real_ok {m0 : Mt} {σ0 : St} {w0 : World} {a0 : Act} (hA : At CR m0 σ0 w0 a0 m e σ a w) (hm : m.mu s = none) (hb : σ.bs s = some (.var z)) (h0 : σ0.clk ≤ s.2) (h1 : s.2 < σ.clk) {d : Nat}
    {ops : Array Oper} {o : Oper} (hi : InsOk P eqs a0.tmps.size ops o ⟨some d, none, .new z, .ad⟩) {rr : Option Nat} {n : Nat} {K : Act → World → Prop} {Q : Exit → Act → World → Prop}
    (hK : ∀ m' a' w', At CR m0 σ0 w0 a0 m' (e.put d (.a (.ptr s 0 0))) σ a' w' → (∀ t, t ≠ s → m'.mu t = m.mu t) → K a' w') :
    if Region.wanted o (yielded ops a.tmps) then o.wpIn (FW rr) n P a w K Q else (∀ f, o.about P w a.eval = some f → (FW rr).fn f) ∧ K (a.put o.dst undef) w := by
  obtain ⟨g1, g2, g3, g4⟩ := hi
  rw [if_pos ((yielded_ok (o := o) hA.re g2).1 rfl)]
  obtain ⟨t, ho, hz⟩ := ccO_new g1
  obtain ⟨zv, hr, hf⟩ := tzero_run hz w
  have hs : (Instr.alloc t true (.tuple #[])).run P w = .ok (.pointer (some ⟨w.heap.size, 0, none⟩)) (w.alloc (.cells zv.cells t)) := by
    simp [Instr.alloc, hr, newVar, newRow]
  obtain ⟨dst, opc, ty, pos, after, guard⟩ := o
  simp only at g1 g2 g3 g4 ho
  subst ho; subst g3
  refine wpIn_of_run (by simp) ?_
  have he : (execOp a.eval ⟨some d, .alloc t, ty, pos, after, guard⟩).run P w = .ok (.value (.pointer (some ⟨w.heap.size, 0, none⟩))) (w.alloc (.cells zv.cells t)) := by
    simp [execOp, hs]
  rw [he]
  have := hA.real (t := t) hm hb h0 h1 (d := d) (by simpa [dstOk] using g4) (vs := zv.cells.toList) (fun m σ w => hf m σ w)
  exact hK _ _ _ (by simpa using this) (fun t' ht => by simp only [Mt.add]; rw [if_neg ht])
end

/-- A region in the order of its text. -/
theorem list_ok {m0 : Mt} {σ0 : St} {w0 : World} {a0 : Act} (hEq : EqOk P eqs) (hp : SndP P cp) (hs : SndS P CR cs) {ops : Array Oper} {rr : Option Nat} {n : Nat} {Q : Exit → Act → World → Prop} :
    ∀ {l : List Oper} {is : List Ins} {m : Mt} {e : Env} {σ : St} {a : Act} {w : World}, F2 (fun o i => InsOk P eqs a0.tmps.size ops o i) l is → At CR m0 σ0 w0 a0 m e σ a w →
      evIs cp cs sp is e σ = some (e', σ') → (∀ m' a' w', At CR m0 σ0 w0 a0 m' e' σ' a' w' → Q .normal a' w') → wpListIn (FW rr) n P ops Q l a w
  | [], _, m, e, σ, a, w, .nil, hA, hev, hQ => by
    simp only [evIs, Option.some.injEq, Prod.mk.injEq] at hev
    obtain ⟨rfl, rfl⟩ := hev
    exact hQ _ _ _ hA
  | o :: l, _, m, e, σ, a, w, .cons hi ht, hA, hev, hQ => by
    simp only [evIs] at hev
    obtain ⟨x, h1, hev⟩ := bindO hev
    rw [evI_evV] at h1
    obtain ⟨y, h2, h1⟩ := bindO h1
    simp only [Option.some.injEq] at h1; subst h1
    exact ins_ok hA hEq hp hs hi h2 fun m' a' w' hA' _ => list_ok hEq hp hs ht hA' hev hQ
end

end Go.Fx
