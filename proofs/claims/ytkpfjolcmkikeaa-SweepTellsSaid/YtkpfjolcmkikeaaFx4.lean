import Derived.Test.YtkpfjolcmkikeaaFx3
/-
  What a value without memory, and one with the call's own memory, stand for in a world; what a call may turn.
-/
namespace Go.Fx
open Go.RowKit

/-- Two lists, member by member. -/
inductive F2 {α β : Type} (R : α → β → Prop) : List α → List β → Prop
  | nil : F2 R [] []
  | cons {a : α} {b : β} {as : List α} {bs : List β} (h : R a b) (t : F2 R as bs) : F2 R (a :: as) (b :: bs)

namespace F2
variable {α β : Type} {R R' : α → β → Prop}
theorem imp (h : ∀ a b, R a b → R' a b) : ∀ {as : List α} {bs : List β}, F2 R as bs → F2 R' as bs
  | _, _, .nil => .nil
  | _, _, .cons x t => .cons (h _ _ x) (imp h t)
theorem imp' : ∀ {as : List α} {bs : List β}, (∀ a b, a ∈ as → R a b → R' a b) → F2 R as bs → F2 R' as bs
  | _, _, _, .nil => .nil
  | _, _, h, .cons x t => .cons (h _ _ (by simp) x) (imp' (fun a b ha => h a b (by simp [ha])) t)
theorem length : ∀ {as : List α} {bs : List β}, F2 R as bs → as.length = bs.length
  | _, _, .nil => rfl
  | _, _, .cons _ t => by simp [length t]
theorem get : ∀ {as : List α} {bs : List β}, F2 R as bs → ∀ {i : Nat} {a : α}, as[i]? = some a → ∃ b, bs[i]? = some b ∧ R a b
  | _, _, .nil, i, a, h => by simp at h
  | _, _, .cons x t, 0, a, h => by simp at h; subst h; exact ⟨_, by simp, x⟩
  | _, _, .cons x t, i + 1, a, h => by simp at h; obtain ⟨b, hb, hr⟩ := get t h; exact ⟨b, by simpa using hb, hr⟩
theorem of_get : ∀ {as : List α} {bs : List β}, as.length = bs.length → (∀ (i : Nat) (a : α) (b : β), as[i]? = some a → bs[i]? = some b → R a b) → F2 R as bs
  | [], [], _, _ => .nil
  | a :: as, b :: bs, hl, h => .cons (h 0 a b (by simp) (by simp)) (of_get (by simpa using hl) (fun i x y hx hy => h (i + 1) x y (by simpa using hx) (by simpa using hy)))
theorem append : ∀ {as : List α} {bs : List β} {as' : List α} {bs' : List β}, F2 R as bs → F2 R as' bs' → F2 R (as ++ as') (bs ++ bs')
  | _, _, _, _, .nil, h => h
  | _, _, _, _, .cons x t, h => .cons x (append t h)
theorem take : ∀ (n : Nat) {as : List α} {bs : List β}, F2 R as bs → F2 R (as.take n) (bs.take n)
  | 0, _, _, _ => by simpa using F2.nil
  | n + 1, _, _, .nil => by simpa using F2.nil
  | n + 1, _, _, .cons x t => by simpa using F2.cons x (take n t)
theorem drop : ∀ (n : Nat) {as : List α} {bs : List β}, F2 R as bs → F2 R (as.drop n) (bs.drop n)
  | 0, _, _, h => by simpa using h
  | n + 1, _, _, .nil => by simpa using F2.nil
  | n + 1, _, _, .cons x t => by simpa using drop n t
theorem over {as : List α} {bs : List β} {vs : List α} {ws : List β} (j : Nat) (h : F2 R as bs) (k : F2 R vs ws) : F2 R (Fx.over as j vs) (Fx.over bs j ws) := by
  unfold Fx.over
  rw [k.length]
  exact ((h.take j).append k).append (h.drop _)
end F2

/-! ### without memory of the call's own -/
/-- A value without memory stands for this value in this world; what it reads lies in blocks of D. -/
inductive RP (w : World) (D : Nat → Prop) : PV → Value → Prop
  | i (k : IntKind) (n : Int) : RP w D (.i k n) (.int k n)
  | b (x : Bool) : RP w D (.b x) (.bool x)
  | s (x : ByteArray) : RP w D (.s x.data.toList) (.string x)
  | e (a : Option Addr) (cap : Nat) : RP w D (.l []) (.slice a 0 cap)
  | l (rows : List (List PV)) (a : Addr) (k cap : Nat) (vals : Nat → Nat → Value) (hs : a.spot = none) (hD : D a.block) (hc : rows.length ≤ cap)
      (hk : ∀ (i : Nat) (r : List PV), rows[i]? = some r → r.length = k)
      (hv : ∀ (i : Nat) (r : List PV) (j : Nat) (c : PV), rows[i]? = some r → r[j]? = some c → w.cell? ⟨a.block, a.off + (i * k + j), none⟩ = some (vals i j))
      (hr : ∀ (i : Nat) (r : List PV) (j : Nat) (c : PV), rows[i]? = some r → r[j]? = some c → RP w D c (vals i j)) : RP w D (.l rows) (.slice (some a) rows.length cap)

theorem RP.mono {w w' : World} {D D' : Nat → Prop} (h : ∀ b, D b → D' b ∧ w'.heap[b]? = w.heap[b]?) {p : PV} {v : Value} (hp : RP w D p v) : RP w' D' p v := by
  induction hp with
  | i k n => exact .i k n
  | b x => exact .b x
  | s x => exact .s x
  | e a cap => exact .e a cap
  | l rows a k cap vals hs hD hc hk hv _ ih =>
    exact .l rows a k cap vals hs (h _ hD).1 hc hk (fun i r j c hi hj => (World.cell?_of_block (w := w) (a := ⟨a.block, _, none⟩) (h a.block hD).2).trans (hv i r j c hi hj)) (fun i r j c hi hj => ih i r j c hi hj)

theorem RP.one {w : World} {D : Nat → Prop} {p : PV} {v : Value} (h : RP w D p v) : v.oneCell' = true := by cases h <;> rfl

theorem RP.flat {w w' : World} {D D' : Nat → Prop} {p : PV} {v : Value} (h : RP w D p v) (hf : p.flat = true) : RP w' D' p v := by
  cases h with
  | i k n => exact .i k n
  | b x => exact .b x
  | s x => exact .s x
  | e a cap => simp [PV.flat] at hf
  | l => simp [PV.flat] at hf

/-- cells, as a value -/
def RG (R : PV → Value → Prop) (g : Bool) (cs : List PV) (v : Value) : Prop :=
  if g = true then ∃ vs, v = .agg vs.toArray ∧ F2 R cs vs else ∃ x, cs = [x] ∧ R x v

def RPT (w : World) (D : Nat → Prop) : PT → Value → Prop
  | .z, v => v = undef
  | .a x, v => RP w D x v
  | .g cs, v => ∃ vs, v = .agg vs.toArray ∧ F2 (RP w D) cs vs
  | .t ts, v => ∃ us, v = .tuple us.toArray ∧ F2 (fun x u => RG (RP w D) x.1 x.2 u) ts us

theorem RG.imp {R R' : PV → Value → Prop} {g : Bool} {cs : List PV} {v : Value} (h : ∀ x v, x ∈ cs → R x v → R' x v) (hg : RG R g cs v) : RG R' g cs v := by
  unfold RG at *
  split
  · rename_i e; rw [if_pos e] at hg; obtain ⟨vs, hv, h2⟩ := hg; exact ⟨vs, hv, F2.imp' h h2⟩
  · rename_i e; rw [if_neg e] at hg; obtain ⟨x, rfl, h2⟩ := hg; exact ⟨x, rfl, h _ _ (by simp) h2⟩

theorem RPT.mono {w w' : World} {D D' : Nat → Prop} (h : ∀ b, D b → D' b ∧ w'.heap[b]? = w.heap[b]?) {p : PT} {v : Value} (hp : RPT w D p v) : RPT w' D' p v := by
  cases p with
  | z => exact hp
  | a x => exact RP.mono h hp
  | g cs => obtain ⟨vs, hv, h2⟩ := hp; exact ⟨vs, hv, h2.imp fun _ _ => RP.mono h⟩
  | t ts => obtain ⟨vs, hv, h2⟩ := hp; exact ⟨vs, hv, h2.imp fun x u hx => RG.imp (fun _ _ _ => RP.mono h) hx⟩

theorem RPT.flat {w w' : World} {D D' : Nat → Prop} {p : PT} {v : Value} (hp : RPT w D p v) (hf : p.flat = true) : RPT w' D' p v := by
  cases p with
  | z => exact hp
  | a x => exact RP.flat hp hf
  | g cs =>
    obtain ⟨vs, hv, h2⟩ := hp
    simp only [PT.flat, List.all_eq_true] at hf
    exact ⟨vs, hv, F2.imp' (fun a b ha hr => RP.flat hr (hf a ha)) h2⟩
  | t ts =>
    obtain ⟨vs, hv, h2⟩ := hp
    simp only [PT.flat, List.all_eq_true] at hf
    exact ⟨vs, hv, F2.imp' (fun x u hx hg => RG.imp (fun y v hy hr => RP.flat hr (hf x hx y hy)) hg) h2⟩

/-! ### with memory of the call's own -/
/-- Where the call's own blocks and loops lie; D: the blocks that are read and never written again. -/
structure Mt where
  mu : Key → Option (Nat × Nat)
  la : Nat → Nat
  D : Nat → Prop

def Blk.k : Blk → Nat
  | .var _ => 0
  | .row k _ _ => k

def ptrV (m : Mt) (σ : St) (s : Key) (i j : Nat) (v : Value) : Prop :=
  s.2 < σ.clk ∧ ∀ b, σ.bs s = some b → ∃ B c, m.mu s = some (B, c) ∧ v = .pointer (some ⟨B, i * b.k + j, none⟩)

def RA (m : Mt) (σ : St) (w : World) : AV → Value → Prop
  | .p x, v => RP w m.D x v
  | .nil, v => v = .slice none 0 0
  | .ptr s i j, v => ptrV m σ s i j v ∧ ∃ A, v = .pointer (some A)
  | .cptr r j, v => ∃ (B o : Nat) (vals : Nat → Value), m.D B ∧ v = .pointer (some ⟨B, o + j, none⟩) ∧ ∀ (i : Nat) (c : PV), r[i]? = some c → w.cell? ⟨B, o + i, none⟩ = some (vals i) ∧ RP w m.D c (vals i)
  | .own s off len, v => s.2 < σ.clk ∧ (∃ a c, v = .slice a len c ∧ len ≤ c) ∧ ∀ k e rows, σ.bs s = some (.row k e rows) →
      (len = 0 ∧ ∃ a, v = .slice a 0 0) ∨ ∃ B c, m.mu s = some (B, c) ∧ v = .slice (some ⟨B, off * k, none⟩) len (c - off) ∧ off + len ≤ c
  | .fn f caps, v => ∃ vs : List Value, v = .func (.func f) #[] vs.toArray ∧ F2 (fun s u => ptrV m σ s 0 0 u ∧ ∃ A, u = .pointer (some A)) caps vs
  | .yl l, v => l < σ.ls.length ∧ v = .func (.yield (m.la l)) #[] #[]
  | .raw c, v => v = c ∧ c.oneCell' = true

theorem RA.one {m : Mt} {σ : St} {w : World} {x : AV} {v : Value} (h : RA m σ w x v) : v.oneCell' = true := by
  cases x with
  | p x => exact RP.one h
  | nil => cases h; rfl
  | ptr s i j => obtain ⟨_, A, rfl⟩ := h; rfl
  | cptr r j => obtain ⟨B, o, vals, _, rfl, _⟩ := h; rfl
  | own s off len => obtain ⟨_, ⟨a, c, rfl, _⟩, _⟩ := h; rfl
  | fn f caps => obtain ⟨vs, rfl, _⟩ := h; rfl
  | yl l => obtain ⟨_, rfl⟩ := h; rfl
  | raw c => obtain ⟨rfl, h⟩ := h; exact h

def RGA (R : AV → Value → Prop) (g : Bool) (cs : List AV) (v : Value) : Prop :=
  if g = true then ∃ vs, v = .agg vs.toArray ∧ F2 R cs vs else ∃ x, cs = [x] ∧ R x v

theorem RGA.imp {R R' : AV → Value → Prop} {g : Bool} {cs : List AV} {v : Value} (h : ∀ x v, R x v → R' x v) (hg : RGA R g cs v) : RGA R' g cs v := by
  unfold RGA at *
  split
  · rename_i e; rw [if_pos e] at hg; obtain ⟨vs, hv, h2⟩ := hg; exact ⟨vs, hv, F2.imp h h2⟩
  · rename_i e; rw [if_neg e] at hg; obtain ⟨x, rfl, h2⟩ := hg; exact ⟨x, rfl, h _ _ h2⟩

def RT (m : Mt) (σ : St) (w : World) : TV → Value → Prop
  | .u, v => v = undef
  | .a x, v => RA m σ w x v
  | .g cs, v => ∃ vs, v = .agg vs.toArray ∧ F2 (RA m σ w) cs vs
  | .t ts, v => ∃ us, v = .tuple us.toArray ∧ F2 (fun x u => RGA (RA m σ w) x.1 x.2 u) ts us

theorem RT.imp {m m' : Mt} {σ σ' : St} {w w' : World} (h : ∀ x v, RA m σ w x v → RA m' σ' w' x v) {t : TV} {v : Value} (ht : RT m σ w t v) : RT m' σ' w' t v := by
  cases t with
  | u => exact ht
  | a x => exact h _ _ ht
  | g cs => obtain ⟨vs, hv, h2⟩ := ht; exact ⟨vs, hv, h2.imp h⟩
  | t ts => obtain ⟨vs, hv, h2⟩ := ht; exact ⟨vs, hv, h2.imp fun x u hx => RGA.imp h hx⟩

/-- the temporaries -/
def RE (m : Mt) (σ : St) (w : World) (e : Env) (tmps : Array Value) : Prop := ∀ n, RT m σ w (e n) (tmps.getD n undef)

def BR (m : Mt) (σ : St) (w : World) (s : Key) : Blk → Prop
  | .var cs => m.mu s = none ∨ ∃ (B : Nat) (T : TypeId) (vs : List Value), m.mu s = some (B, 0) ∧ w.heap[B]? = some (.cells vs.toArray T (0, 0)) ∧ F2 (RA m σ w) cs vs
  | .row k e rows => 0 < k ∧ (∀ r : List PV, r ∈ rows → r.length = k) ∧
      ((m.mu s = none ∧ rows = []) ∨ ∃ (B c : Nat) (cur : Array Value), m.mu s = some (B, c) ∧ w.heap[B]? = some (.cells cur e (0, 0)) ∧ cur.size = c * k ∧ rows.length ≤ c ∧ c ≤ maxLen ∧
        ∀ (i : Nat) (r : List PV) (j : Nat) (p : PV), rows[i]? = some r → r[j]? = some p → ∃ v, cur[i * k + j]? = some v ∧ RP w m.D p v)

def exC : Ex → Code
  | .norm => .skip
  | .exit id => .exit id
  | .ret => .ret

def stR : LSt → LoopState
  | .ready => .ready
  | .busy => .busy
  | .done => .done
  | .gone => .exhausted

/-- the record of a range over a function; `CR`: code, and the instructions that it was turned into, for so many temporaries -/
def LR (CR : Nat → Code → C → Prop) (m : Mt) (σ : St) (w : World) (l : Nat) (r : LRec) : Prop :=
  ∃ lo : Loop, w.heap[m.la l]? = some (.loop lo) ∧ RE m σ w r.env lo.tmps ∧ lo.params = r.params.toArray ∧ (∀ p, p ∈ r.params → p < lo.tmps.size) ∧
    CR lo.tmps.size lo.assign r.assign ∧ CR lo.tmps.size lo.body r.body ∧ lo.state = stR r.st ∧ lo.pending = r.pend.map exC ∧ r.pend ≠ some .norm

/-- is it one of the blocks that may be written? -/
def InS (m : Mt) (σ : St) (b : Nat) : Prop := (∃ s blk c, σ.bs s = some blk ∧ m.mu s = some (b, c)) ∨ ∃ l, l < σ.ls.length ∧ m.la l = b

structure SR (CR : Nat → Code → C → Prop) (m : Mt) (σ : St) (w : World) : Prop where
  blk : ∀ s b, σ.bs s = some b → BR m σ w s b
  gen : ∀ s b, σ.bs s = some b → s.2 < σ.clk
  inj : ∀ s s' b b' B c c', σ.bs s = some b → σ.bs s' = some b' → m.mu s = some (B, c) → m.mu s' = some (B, c') → s = s'
  dj : ∀ b, InS m σ b → ¬ m.D b
  dlt : ∀ b, m.D b → b < w.heap.size
  lrs : ∀ l r, σ.ls[l]? = some r → LR CR m σ w l r
  linj : ∀ l l', l < σ.ls.length → l' < σ.ls.length → m.la l = m.la l' → l = l'

theorem SR.inS_lt {CR : Nat → Code → C → Prop} {m : Mt} {σ : St} {w : World} (h : SR CR m σ w) {b : Nat} (hb : InS m σ b) : b < w.heap.size := by
  rcases hb with ⟨s, blk, c, hs, hm⟩ | ⟨l, hl, rfl⟩
  · have := h.blk s blk hs
    cases blk with
    | var cs =>
      rcases this with h1 | ⟨B, T, vs, h1, h2, _⟩
      · rw [h1] at hm; cases hm
      · rw [h1] at hm; cases hm
        exact (Array.getElem?_eq_some_iff.1 h2).1
    | row k e rows =>
      obtain ⟨_, _, ⟨h1, _⟩ | ⟨B, c', cur, h1, h2, _⟩⟩ := this
      · rw [h1] at hm; cases hm
      · rw [h1] at hm; cases hm
        exact (Array.getElem?_eq_some_iff.1 h2).1
  · obtain ⟨r, hr⟩ : ∃ r, σ.ls[l]? = some r := ⟨_, List.getElem?_eq_getElem hl⟩
    obtain ⟨lo, h1, _⟩ := h.lrs l r hr
    exact (Array.getElem?_eq_some_iff.1 h1).1

/-- shape of a block: what a pointer into it leans on -/
def sameShape : Blk → Blk → Prop
  | .var cs, .var cs' => cs.length = cs'.length
  | .row k e _, .row k' e' _ => k = k' ∧ e = e'
  | _, _ => False
theorem sameShape.refl (b : Blk) : sameShape b b := by cases b <;> simp [sameShape]
theorem sameShape.trans {a b c : Blk} (h : sameShape a b) (k : sameShape b c) : sameShape a c := by
  cases a <;> cases b <;> cases c <;> simp_all [sameShape]
theorem sameShape.k {a b : Blk} (h : sameShape a b) : a.k = b.k := by
  cases a <;> cases b <;> simp_all [sameShape, Blk.k]

/-- What a step of the call's own may turn. -/
structure Xt (m : Mt) (σ : St) (w : World) (m' : Mt) (σ' : St) (w' : World) : Prop where
  mu : ∀ s, s.2 < σ.clk → m'.mu s = m.mu s
  la : ∀ l, l < σ.ls.length → m'.la l = m.la l
  clk : σ.clk ≤ σ'.clk
  len : σ.ls.length ≤ σ'.ls.length
  bs : ∀ s b', σ'.bs s = some b' → s.2 < σ.clk → ∃ b, σ.bs s = some b ∧ sameShape b b'
  D : ∀ b, m.D b → m'.D b
  new : ∀ b, m'.D b → m.D b ∨ w.heap.size ≤ b ∨ InS m σ b
  img : ∀ b, InS m' σ' b → InS m σ b ∨ w.heap.size ≤ b
  kept : ∀ b, b < w.heap.size → ¬ InS m σ b → w'.heap[b]? = w.heap[b]?
  os : w'.os = w.os
  tape : w'.tape = w.tape
  output : w'.output = w.output
  size : w.heap.size ≤ w'.heap.size

theorem Xt.refl (m : Mt) (σ : St) (w : World) : Xt m σ w m σ w :=
  ⟨fun _ _ => rfl, fun _ _ => rfl, Nat.le_refl _, Nat.le_refl _, fun _ b h _ => ⟨b, h, sameShape.refl b⟩, fun _ h => h, fun _ h => .inl h, fun _ h => .inl h, fun _ _ _ => rfl, rfl, rfl, rfl, Nat.le_refl _⟩

theorem Xt.trans {m m1 m2 : Mt} {σ σ1 σ2 : St} {w w1 w2 : World} (h : Xt m σ w m1 σ1 w1) (k : Xt m1 σ1 w1 m2 σ2 w2) : Xt m σ w m2 σ2 w2 where
  mu s hs := (k.mu s (Nat.lt_of_lt_of_le hs h.clk)).trans (h.mu s hs)
  la l hl := (k.la l (Nat.lt_of_lt_of_le hl h.len)).trans (h.la l hl)
  clk := Nat.le_trans h.clk k.clk
  len := Nat.le_trans h.len k.len
  bs s b' hs hc := by
    obtain ⟨b1, h1, e1⟩ := k.bs s b' hs (Nat.lt_of_lt_of_le hc h.clk)
    obtain ⟨b0, h0, e0⟩ := h.bs s b1 h1 hc
    exact ⟨b0, h0, e0.trans e1⟩
  D b hb := k.D b (h.D b hb)
  new b hb := by
    rcases k.new b hb with h1 | h1 | h1
    · exact h.new b h1
    · exact .inr (.inl (Nat.le_trans h.size h1))
    · rcases h.img b h1 with h2 | h2
      · exact .inr (.inr h2)
      · exact .inr (.inl h2)
  img b hb := by
    rcases k.img b hb with h1 | h1
    · exact h.img b h1
    · exact .inr (Nat.le_trans h.size h1)
  kept b hb hn := by
    rw [k.kept b (Nat.lt_of_lt_of_le hb h.size) (fun hi => by
      rcases h.img b hi with h2 | h2
      · exact hn h2
      · omega), h.kept b hb hn]
  os := k.os.trans h.os
  tape := k.tape.trans h.tape
  output := k.output.trans h.output
  size := Nat.le_trans h.size k.size

section
variable {CR : Nat → Code → C → Prop} {m m' : Mt} {σ σ' : St} {w w' : World}

theorem Xt.rp (h : SR CR m σ w) (x : Xt m σ w m' σ' w') {p : PV} {v : Value} (hp : RP w m.D p v) : RP w' m'.D p v :=
  hp.mono fun b hb => ⟨x.D b hb, x.kept b (h.dlt b hb) (fun hi => h.dj b hi hb)⟩

theorem Xt.pv (x : Xt m σ w m' σ' w') {s : Key} {i j : Nat} {v : Value} (hp : ptrV m σ s i j v) : ptrV m' σ' s i j v := by
  refine ⟨Nat.lt_of_lt_of_le hp.1 x.clk, fun b hb => ?_⟩
  obtain ⟨b0, h0, e0⟩ := x.bs s b hb hp.1
  obtain ⟨B, c, hm, hv⟩ := hp.2 b0 h0
  exact ⟨B, c, (x.mu s hp.1).trans hm, by rw [← e0.k]; exact hv⟩

theorem Xt.ra (h : SR CR m σ w) (x : Xt m σ w m' σ' w') {a : AV} {v : Value} (hp : RA m σ w a v) : RA m' σ' w' a v := by
  cases a with
  | p y => exact x.rp h hp
  | nil => exact hp
  | ptr s i j => exact ⟨x.pv hp.1, hp.2⟩
  | cptr r j =>
    obtain ⟨B, o, vals, hD, hv, hr⟩ := hp
    have hk := x.kept B (h.dlt B hD) (fun hi => h.dj B hi hD)
    exact ⟨B, o, vals, x.D B hD, hv, fun i c hc => ⟨(World.cell?_of_block (w := w) (a := ⟨B, _, none⟩) hk).trans (hr i c hc).1, x.rp h (hr i c hc).2⟩⟩
  | own s off len =>
    refine ⟨Nat.lt_of_lt_of_le hp.1 x.clk, hp.2.1, fun k e rows hb => ?_⟩
    obtain ⟨b0, h0, e0⟩ := x.bs s _ hb hp.1
    cases b0 with
    | var cs => simp [sameShape] at e0
    | row k0 e0' rows0 =>
      simp only [sameShape] at e0
      obtain ⟨rfl, rfl⟩ := e0
      rcases hp.2.2 k0 e0' rows0 h0 with h1 | ⟨B, c, hm, hv, hl⟩
      · exact .inl h1
      · exact .inr ⟨B, c, (x.mu s hp.1).trans hm, hv, hl⟩
  | fn f caps =>
    obtain ⟨vs, hv, h2⟩ := hp
    exact ⟨vs, hv, h2.imp fun _ _ hx => ⟨x.pv hx.1, hx.2⟩⟩
  | yl l =>
    obtain ⟨hl, hv⟩ := hp
    exact ⟨Nat.lt_of_lt_of_le hl x.len, by rw [x.la l hl]; exact hv⟩
  | raw c => exact hp

theorem Xt.rt (h : SR CR m σ w) (x : Xt m σ w m' σ' w') {t : TV} {v : Value} (hp : RT m σ w t v) : RT m' σ' w' t v := hp.imp fun _ _ hx => x.ra h hx
theorem Xt.re (h : SR CR m σ w) (x : Xt m σ w m' σ' w') {e : Env} {tmps : Array Value} (hp : RE m σ w e tmps) : RE m' σ' w' e tmps := fun n => x.rt h (hp n)
end

theorem RE.put {m : Mt} {σ : St} {w : World} {e : Env} {tmps : Array Value} (h : RE m σ w e tmps) {d : Nat} (hd : d < tmps.size) {t : TV} {v : Value} (ht : RT m σ w t v) :
    RE m σ w (e.put d t) (tmps.setIfInBounds d v) := by
  intro n
  unfold Env.put
  by_cases hn : n = d
  · subst hn; simp [Array.getD_eq_getD_getElem?, hd]; exact ht
  · have : (tmps.setIfInBounds d v).getD n undef = tmps.getD n undef := by
      simp [Array.getD_eq_getD_getElem?, Array.getElem?_setIfInBounds_ne (Ne.symm hn)]
    rw [if_neg hn, this]; exact h n

theorem RE.putD {m : Mt} {σ : St} {w : World} {e : Env} {a : Act} (h : RE m σ w e a.tmps) {d : Option Nat} (hd : dstOk a.tmps.size d = true) {t : TV} {v : Value} (ht : RT m σ w t v) :
    RE m σ w (e.putD d t) (a.put d v).tmps := by
  cases d with
  | none => exact h
  | some d => exact h.put (by simpa [dstOk] using hd) ht

theorem put_size (a : Act) (d : Option Nat) (v : Value) : (a.put d v).tmps.size = a.tmps.size := by
  cases d <;> simp [Act.put]
theorem put_defers (a : Act) (d : Option Nat) (v : Value) : (a.put d v).defers = a.defers := by
  cases d <;> simp [Act.put]

end Go.Fx
