import Derived.Test.YtgdaanehmdgmeaaFx15
import Derived.OrdersIn
set_option linter.unusedSimpArgs false
set_option linter.unusedVariables false
/-
  Regions: in the order of the text, and in every order that a region may draw.
-/
namespace Go.Fx

/-! ### which come ahead -/
section
variable {α β : Type}
theorem pushfold (g : Array β → α → β) : ∀ (l : List α) (acc0 : Array β), (∀ j, j < acc0.size → (l.foldl (fun acc x => acc.push (g acc x)) acc0)[j]? = acc0[j]?) ∧
    ∀ (i : Nat) (x : α), l[i]? = some x → ∃ acc, (l.foldl (fun acc x => acc.push (g acc x)) acc0)[acc0.size + i]? = some (g acc x) ∧ ∀ j, j < acc0.size + i → acc[j]? = (l.foldl (fun acc x => acc.push (g acc x)) acc0)[j]?
  | [], acc0 => ⟨fun _ _ => rfl, fun i x h => by simp at h⟩
  | y :: r, acc0 => by
    obtain ⟨h1, h2⟩ := pushfold g r (acc0.push (g acc0 y))
    simp only [List.foldl_cons]
    have h1' : ∀ j, j < acc0.size → (r.foldl (fun acc x => acc.push (g acc x)) (acc0.push (g acc0 y)))[j]? = acc0[j]? := by
      intro j hj
      rw [h1 j (by simp; omega), Array.getElem?_push_lt hj, Array.getElem?_eq_getElem hj]
    refine ⟨h1', fun i x hx => ?_⟩
    cases i with
    | zero =>
      simp only [List.getElem?_cons_zero, Option.some.injEq] at hx; subst hx
      refine ⟨acc0, ?_, fun j hj => (h1' j (by omega)).symm⟩
      rw [Nat.add_zero, h1 acc0.size (by simp)]; simp
    | succ i =>
      simp only [List.getElem?_cons_succ] at hx
      obtain ⟨acc, h3, h4⟩ := h2 i x hx
      simp only [Array.size_push] at h3 h4
      exact ⟨acc, by rw [← h3]; congr 1; omega, fun j hj => h4 j (by omega)⟩
end

theorem bits_foldl (acc : Array Nat) (k : Nat) : ∀ (es : List Edge) (s : Nat), (es.foldl (fun s e => if Region.binds .any e then s ||| 2 ^ e.on ||| acc.getD e.on 0 else s) s).testBit k = true →
    s.testBit k = true ∨ ∃ e, e ∈ es ∧ Region.binds .any e = true ∧ (e.on = k ∨ (acc.getD e.on 0).testBit k = true)
  | [], s, h => .inl h
  | e :: r, s, h => by
    simp only [List.foldl_cons] at h
    rcases bits_foldl acc k r _ h with h1 | ⟨e', he, hb⟩
    · split at h1
      · rename_i hb
        simp only [Nat.testBit_or, Bool.or_eq_true] at h1
        rcases h1 with (h1 | h1) | h1
        · exact .inl h1
        · rw [Nat.testBit_two_pow] at h1
          exact .inr ⟨e, by simp, hb, .inl (by simpa using h1)⟩
        · exact .inr ⟨e, by simp, hb, .inr h1⟩
      · exact .inl h1
    · exact .inr ⟨e', by simp [he], hb⟩

/-- all whose coming up ahead is sure have come up -/
theorem before_listed {ops : Array Oper} {L : Nat → Prop} (back : ∀ i o, ops[i]? = some o → ∀ e, e ∈ o.after → Region.binds .any e = true → e.on < i)
    (closed : ∀ i o, ops[i]? = some o → L i → ∀ e, e ∈ o.after → Region.binds .any e = true → L e.on) : ∀ (i : Nat) (o : Oper), ops[i]? = some o → (∀ e, e ∈ o.after → Region.binds .any e = true → L e.on) →
    ∀ k, ((befores ops).getD i 0).testBit k = true → L k := by
  intro i
  induction i using Nat.strongRecOn with
  | _ i ih =>
    intro o ho hE k hk
    have hp := pushfold (fun acc (o : Oper) => o.after.toList.foldl (fun s e => if Region.binds .any e then s ||| 2 ^ e.on ||| acc.getD e.on 0 else s) 0) ops.toList #[]
    have hB : befores ops = ops.toList.foldl (fun acc (o : Oper) => acc.push (o.after.toList.foldl (fun s e => if Region.binds .any e then s ||| 2 ^ e.on ||| acc.getD e.on 0 else s) 0)) #[] := by
      unfold befores Region.before
      rw [← Array.foldl_toList]
      congr 1
      funext acc o
      rw [← Array.foldl_toList]
    rw [← hB] at hp
    obtain ⟨acc, h3, h4⟩ := hp.2 i o (by simpa using ho)
    simp only [Array.size_empty, Nat.zero_add] at h3 h4
    rw [Array.getD_eq_getD_getElem?, h3] at hk
    simp only [Option.getD_some] at hk
    rcases bits_foldl acc k _ _ hk with h5 | ⟨e, he, hb, h6⟩
    · simp at h5
    · have he' : e ∈ o.after := by simpa using he
      have hlt := back i o ho e he' hb
      rcases h6 with rfl | h6
      · exact hE e he' hb
      · rw [Array.getD_eq_getD_getElem?, h4 e.on hlt, ← Array.getD_eq_getD_getElem?] at h6
        have hi : i < ops.size := (Array.getElem?_eq_some_iff.1 ho).1
        obtain ⟨o', ho'⟩ : ∃ o', ops[e.on]? = some o' := ⟨_, Array.getElem?_eq_getElem (by omega)⟩
        exact ih e.on hlt o' ho' (closed e.on o' ho' (hE e he' hb)) k h6

/-! ### one instruction, as the walk meets it -/
section
variable {P : Program} {eqs : List (TypeId × List Nat)} {CR : Nat → Code → C → Prop} {m m' : Mt} {σ σ' : St} {w w' : World} {e e' : Env} {a : Act}
variable {cp : FuncId → List PT → Option PT} {cs : Cal → List TV → St → Option (TV × St)} {sp : FuncId → Bool}

def InsOk (P : Program) (eqs : List (TypeId × List Nat)) (nt : Nat) (ops : Array Oper) (o : Oper) (i : Ins) : Prop :=
  ccO P eqs o.op = some i.op ∧ ccG ops o.guard = some i.gd ∧ i.dst = o.dst ∧ dstOk nt o.dst = true

theorem ccI_ok {nt : Nat} {ops : Array Oper} {cl : Cls} {o : Oper} {i : Ins} (h : ccI P eqs nt ops cl o = some i) : InsOk P eqs nt ops o i ∧ i.cl = cl := by
  unfold ccI at h
  obtain ⟨op, h1, h⟩ := bindO h
  obtain ⟨g, h2, h⟩ := bindO h
  split at h
  · rename_i hd
    simp only [Option.some.injEq] at h; subst h
    exact ⟨⟨h1, h2, rfl, hd⟩, rfl⟩
  · cases h

theorem yielded_ok (hE : RE m σ w e a.tmps) {ops : Array Oper} {g : Option (Nat × Bool)} {o : Oper} (h : ccG ops o.guard = some g) :
    (g = none → Region.wanted o (yielded ops a.tmps) = true) ∧
    (∀ t q x, g = some (t, q) → e t = .a (.p (.b x)) → Region.wanted o (yielded ops a.tmps) = decide (x = q)) ∧
    (∀ t q, g = some (t, q) → e t = .u → Region.wanted o (yielded ops a.tmps) = false) := by
  cases hg : o.guard with
  | none =>
    rw [hg] at h
    simp only [ccG, Option.some.injEq] at h; subst h
    refine ⟨fun _ => by simp [Region.wanted, hg], by simp, by simp⟩
  | some g' =>
    obtain ⟨j, q⟩ := g'
    rw [hg] at h
    simp only [ccG] at h
    obtain ⟨t, h1, h⟩ := bindO h
    simp only [Option.some.injEq] at h; subst h
    have hy : yielded ops a.tmps j = match a.tmps[t]? with | some (.bool b) => some b | _ => none := by
      simp only [yielded, h1, Option.bind_some]
      rfl
    refine ⟨by simp, ?_, ?_⟩
    · intro t' q' x ht hx
      simp only [Option.some.injEq, Prod.mk.injEq] at ht
      obtain ⟨rfl, rfl⟩ := ht
      have h2 := hE t
      rw [hx] at h2
      have h2 := h2.b
      have h3 : a.tmps[t]? = some (.bool x) := by
        rw [Array.getD_eq_getD_getElem?] at h2
        cases h4 : a.tmps[t]? with
        | none => rw [h4] at h2; simp [undef] at h2
        | some v => rw [h4] at h2; simp at h2; rw [h2]
      simp only [Region.wanted, hg, hy, h3]
      cases x <;> cases q <;> rfl
    · intro t' q' ht hx
      simp only [Option.some.injEq, Prod.mk.injEq] at ht
      obtain ⟨rfl, rfl⟩ := ht
      have h2 := hE t
      rw [hx] at h2
      have h2 : a.tmps.getD t undef = undef := h2
      simp only [Region.wanted, hg, hy]
      rw [Array.getD_eq_getD_getElem?] at h2
      cases h4 : a.tmps[t]? with
      | none => simp
      | some v => rw [h4] at h2; simp at h2; rw [h2]; simp [undef]

/-- the marks that ranges over functions leave among the deferred calls: the rounds have deferred nothing -/
def markOf (r : Nat) : Deferred := { target := .collected r, args := #[] }
def Marks (base : Nat) (m : Mt) (σ : St) (w : World) (ds : List Deferred) : Prop :=
  ∃ rs : List Nat, ds = rs.map markOf ∧ rs.Nodup ∧ ∀ r, r ∈ rs → base ≤ r ∧ w.heap[r]? = some (.deferred (some [])) ∧ ¬ InS m σ r ∧ ¬ m.D r

theorem Marks.nil (base : Nat) (m : Mt) (σ : St) (w : World) : Marks base m σ w [] := ⟨[], rfl, List.nodup_nil, fun r hr => by simp at hr⟩
theorem Marks.xt {base : Nat} {ds : List Deferred} (h : Marks base m σ w ds) (x : Xt m σ w m' σ' w') : Marks base m' σ' w' ds := by
  obtain ⟨rs, h1, h2, h3⟩ := h
  refine ⟨rs, h1, h2, fun r hr => ?_⟩
  obtain ⟨k1, k2, k3, k4⟩ := h3 r hr
  have hlt : r < w.heap.size := (Array.getElem?_eq_some_iff.1 k2).1
  refine ⟨k1, by rw [x.kept r hlt k3]; exact k2, fun hi => ?_, fun hD => ?_⟩
  · rcases x.img r hi with h | h
    · exact k3 h
    · omega
  · rcases x.new r hD with h | h | h
    · exact k4 h
    · omega
    · exact k3 h

/-- where the walk stands: the relations, and what a step leaves -/
structure At (CR : Nat → Code → C → Prop) (m0 : Mt) (σ0 : St) (w0 : World) (a0 : Act) (m : Mt) (e : Env) (σ : St) (a : Act) (w : World) : Prop where
  sr : SR CR m σ w
  re : RE m σ w e a.tmps
  xt : Xt m0 σ0 w0 m σ w
  sz : a.tmps.size = a0.tmps.size
  df : Marks w0.heap.size m σ w a.defers

/-- ONE INSTRUCTION. -/
theorem ins_ok {m0 : Mt} {σ0 : St} {w0 : World} {a0 : Act} (hA : At CR m0 σ0 w0 a0 m e σ a w) (hEq : EqOk P eqs) (hp : SndP P cp) (hs : SndS P CR cs)
    {ops : Array Oper} {o : Oper} {i : Ins} (hi : InsOk P eqs a0.tmps.size ops o i) {v : TV} (hev : evV cp cs sp i e σ = some (v, σ')) {rr : Option Nat} {n : Nat} {K : Act → World → Prop} {Q : Exit → Act → World → Prop}
    (hK : ∀ m' a' w', At CR m0 σ0 w0 a0 m' (e.putD i.dst v) σ' a' w' → K a' w') :
    if Region.wanted o (yielded ops a.tmps) then o.wpIn (FW rr) n P a w K Q else (∀ f, o.about P w a.eval = some f → (FW rr).fn f) ∧ K (a.put o.dst undef) w := by
  obtain ⟨h1, h2, h3, h4⟩ := hi
  obtain ⟨y1, y2, y3⟩ := yielded_ok (o := o) hA.re h2
  have run : evO cp cs sp o.dst e σ i.op = some (v, σ') → o.wpIn (FW rr) n P a w K Q := by
    intro hr
    refine op_ok hA.sr hA.re hEq hp hs h1 hr ?_
    intro u w' m' k1 k2 k3
    refine hK m' _ w' ⟨k1, ?_, hA.xt.trans k3, by rw [put_size]; exact hA.sz, by rw [put_defers]; exact hA.df.xt k3⟩
    rw [h3]
    exact (k3.re hA.sr hA.re).putD (by rw [hA.sz]; exact h4) k2
  have run' : (match i.cl with
    | .rd => (evR cp sp e σ i.op).bind fun v => some (v, σ)
    | .any => evO cp cs sp i.dst e σ i.op
    | .ad => if i.op.adds e then evO cp cs sp i.dst e σ i.op else none
    | .wr ts => if wrOk e σ i.op ts then evO cp cs sp i.dst e σ i.op else none) = some (v, σ') → o.wpIn (FW rr) n P a w K Q := by
    intro hr
    refine run ?_
    rw [h3] at hr
    split at hr
    · obtain ⟨t, k1, hr⟩ := bindO hr
      simp only [Option.some.injEq, Prod.mk.injEq] at hr
      obtain ⟨rfl, rfl⟩ := hr
      exact evR_evO k1 _
    · exact hr
    · split at hr
      · exact hr
      · cases hr
    · split at hr
      · exact hr
      · cases hr
  have skip : v = .u → σ' = σ → K (a.put o.dst undef) w := by
    rintro rfl rfl
    refine hK m _ w ⟨hA.sr, ?_, hA.xt, by rw [put_size]; exact hA.sz, by rw [put_defers]; exact hA.df⟩
    rw [h3]
    exact hA.re.putD (by rw [hA.sz]; exact h4) rfl
  unfold evV at hev
  cases hg : i.gd with
  | none =>
    rw [hg] at hev
    rw [if_pos (y1 hg)]
    exact run' hev
  | some g =>
    obtain ⟨t, q⟩ := g
    rw [hg] at hev
    simp only [] at hev
    split at hev
    · rename_i x hx
      have := y2 t q x hg hx
      split at hev
      · rename_i hxq
        rw [if_pos (by rw [this]; simpa using hxq)]
        exact run' hev
      · rename_i hxq
        rw [if_neg (by rw [this]; simpa using hxq)]
        simp only [Option.some.injEq, Prod.mk.injEq] at hev
        exact ⟨fun _ _ => trivial, skip hev.1.symm hev.2.symm⟩
    · rename_i hx
      rw [if_neg (by rw [y3 t q hg hx]; simp)]
      simp only [Option.some.injEq, Prod.mk.injEq] at hev
      exact ⟨fun _ _ => trivial, skip hev.1.symm hev.2.symm⟩
    · cases hev

/-- A region in the order of its text. -/
theorem list_ok {m0 : Mt} {σ0 : St} {w0 : World} {a0 : Act} (hEq : EqOk P eqs) (hp : SndP P cp) (hs : SndS P CR cs) {ops : Array Oper} {rr : Option Nat} {n : Nat} {Q : Exit → Act → World → Prop} :
    ∀ {l : List Oper} {is : List Ins} {m : Mt} {e : Env} {σ : St} {a : Act} {w : World}, F2 (fun o i => InsOk P eqs a0.tmps.size ops o i) l is → At CR m0 σ0 w0 a0 m e σ a w →
      evIs cp cs sp is e σ = some (e', σ') → (∀ m' a' w', At CR m0 σ0 w0 a0 m' e' σ' a' w' → Q .normal a' w') → wpListIn (FW rr) n P ops Q l a w
  | [], _, m, e, σ, a, w, .nil, hA, hev, hQ => by
    simp only [evIs, Option.some.injEq, Prod.mk.injEq] at hev
    obtain ⟨rfl, rfl⟩ := hev
    exact hQ _ _ _ hA
  | o :: l, _, m, e, σ, a, w, .cons hi ht, hA, hev, hQ => by
    simp only [evIs] at hev
    obtain ⟨x, h1, hev⟩ := bindO hev
    rw [evI_evV] at h1
    obtain ⟨y, h2, h1⟩ := bindO h1
    simp only [Option.some.injEq] at h1; subst h1
    exact ins_ok hA hEq hp hs hi h2 fun m' a' w' hA' => list_ok hEq hp hs ht hA' hev hQ
end

end Go.Fx
