import Derived.RangeFuncNested
import Derived.OrdersIn
import Derived.Below
import Derived.Laws.MakeOwn
import Derived.Laws.OwnMore
import Derived.KernelRfl
/-
  A small language of functional evaluation: values without memory, a store of the call's own, an evaluator with rounds (fuel), and its limit.
-/
namespace Go.Fx

/-- A value without memory: a slice is its rows, each row its cells. -/
inductive PV where
  | i (k : IntKind) (n : Int)
  | b (x : Bool)
  | s (x : List UInt8)
  | l (rows : List (List PV))

/-- What a temporary or a result holds, without memory. -/
inductive PT where
  | z
  | a (x : PV)
  | g (cs : List PV)
  | t (vs : List (Bool × List PV))

/-- A block of the call's own: the temporary that it was made for, and when. -/
abbrev Key := Nat × Nat

inductive AV where
  | p (v : PV)
  | nil
  | ptr (s : Key) (i j : Nat)
  | cptr (row : List PV) (j : Nat)
  | own (s : Key) (off len : Nat)
  | fn (f : FuncId) (caps : List Key)
  | yl (l : Nat)
  | raw (v : Value)

inductive TV where
  | u
  | a (x : AV)
  | g (cs : List AV)
  | t (vs : List (Bool × List AV))

inductive Blk where
  | var (cs : List AV)
  | row (k e : Nat) (rows : List (List PV))

inductive X where
  | t (n : Nat)
  | c (v : TV)
  | f (f : FuncId)

inductive O where
  | mv (x : X)
  | pick (c a b : X)
  | new (z : List AV)
  | box (n : Nat) (x : X)
  | build (z : List AV) (ps : List (Nat × Nat × X))
  | bsl (k e : Nat) (z : List AV) (len : Nat) (ps : List (Nat × X))
  | ld (n : Nat) (g : Bool) (a : X)
  | st (n : Nat) (a x : X)
  | nck (x : X)
  | bin (op : BinOp) (x y : X)
  | eqb (neg : Bool) (x y : X)
  | eqg (neg : Bool) (sh : List Nat) (x y : X)
  | nq (neg : Bool) (x : X)
  | not (x : X)
  | neg (x : X)
  | cvi (k : IntKind) (x : X)
  | cvs (x : X)
  | fn (f : FuncId) (caps : List X)
  | msl (k e bytes : Nat) (z : List AV) (len cap : X)
  | mslF (k e bytes : Nat) (z : List AV) (len cap : X)
  | slc (k e : Nat) (x : X) (lo hi mx : Option X)
  | sub (x : X) (lo hi : Option X)
  | fad (off : Nat) (x : X)
  | fld (off n : Nat) (g : Bool) (x : X)
  | ias (k : Nat) (x ix : X)
  | iaa (len k : Nat) (x ix : X)
  | ixs (x ix : X)
  | ixa (len k : Nat) (g : Bool) (x ix : X)
  | ext (x : X) (i : Nat)
  | len (str : Bool) (x : X)
  | app (k e bytes : Nat) (x y : X)
  | mx (x y : X)
  | mn (x y : X)
  | call (f : X) (args : List X)

/-- How an instruction may come up in a region that draws its order: `any`: alone in its place; `rd`: it reads alone; `ad`: it adds a block, in its order among those that add. -/
inductive Cls where
  | any | rd | ad
  | wr (ts : List Nat)

/-- One instruction. -/
structure Ins where
  dst : Option Nat
  gd : Option (Nat × Bool)
  op : O
  cl : Cls := .any

inductive Ex where
  | norm
  | exit (id : Nat)
  | ret
  deriving DecidableEq

inductive C where
  | skip
  | reg (ops : List Ins)
  | seq (a b : C)
  | cond (x : X) (a b : C)
  | block (id : Nat) (c : C)
  | loop (c : C)
  | exit (id : Nat)
  | ret
  | rng (f : X) (params : List Nat) (assign body : C)
  | fz (ts : List Nat) (c : C)

inductive Rs where
  | tmp (t : Nat)
  | cell (t n : Nat) (g : Bool)

structure FnC where
  np : Nat
  body : C
  res : List Rs

abbrev Env := Nat → TV
def Env.put (e : Env) (n : Nat) (v : TV) : Env := fun m => if m = n then v else e m
def Env.putD (e : Env) (d : Option Nat) (v : TV) : Env := match d with | some n => e.put n v | none => e
def Env.init (args : List TV) : Env := fun n => args.getD n .u

inductive LSt where
  | ready | busy | done | gone
  deriving DecidableEq

structure LRec where
  env : Env
  params : List Nat
  assign : C
  body : C
  st : LSt
  pend : Option Ex

structure St where
  bs : Key → Option Blk
  ls : List LRec
  clk : Nat

def St.empty : St := ⟨fun _ => none, [], 0⟩
def St.put (σ : St) (s : Key) (b : Blk) : St := { σ with bs := fun t => if t = s then some b else σ.bs t }
def St.kill (σ : St) (s : Key) : St := { σ with bs := fun t => if t = s then none else σ.bs t }
/-- A new block for the temporary d. -/
def St.add (σ : St) (d : Nat) (b : Blk) : St := { (σ.put (d, σ.clk) b) with clk := σ.clk + 1 }

def ev (e : Env) : X → TV
  | .t n => e n
  | .c v => v
  | .f f => .a (.fn f [])

/-! ### values with memory, frozen -/
def rawE : Value → Option PV
  | .slice _ 0 _ => some (.l [])
  | _ => none
def frA (σ : St) : AV → Option PV
  | .p v => some v
  | .nil => some (.l [])
  | .own s off len => match σ.bs s with
    | some (.row _ _ rows) => if off + len ≤ rows.length then some (.l ((rows.drop off).take len)) else none
    | _ => none
  | .raw v => rawE v
  | _ => none
def frL (σ : St) : List AV → Option (List PV)
  | [] => some []
  | x :: r => (frA σ x).bind fun v => (frL σ r).bind fun w => some (v :: w)
def frV (σ : St) : List (Bool × List AV) → Option (List (Bool × List PV))
  | [] => some []
  | x :: r => (frL σ x.2).bind fun v => (frV σ r).bind fun w => some ((x.1, v) :: w)
def frT (σ : St) : TV → Option PT
  | .u => some .z
  | .a x => (frA σ x).bind fun v => some (.a v)
  | .g cs => (frL σ cs).bind fun v => some (.g v)
  | .t vs => (frV σ vs).bind fun v => some (.t v)
def frTs (σ : St) : List TV → Option (List PT)
  | [] => some []
  | x :: r => (frT σ x).bind fun v => (frTs σ r).bind fun w => some (v :: w)
def klA (σ : St) : AV → St
  | .own s _ _ => σ.kill s
  | _ => σ
def klL (σ : St) : List AV → St
  | [] => σ
  | x :: r => klL (klA σ x) r
def klV (σ : St) : List (Bool × List AV) → St
  | [] => σ
  | x :: r => klV (klL σ x.2) r
def klT (σ : St) : TV → St
  | .u => σ
  | .a x => klA σ x
  | .g cs => klL σ cs
  | .t vs => klV σ vs
def klTs (σ : St) : List TV → St
  | [] => σ
  | x :: r => klTs (klT σ x) r
def ofPV (v : PV) : AV := .p v
def ofPT : PT → TV
  | .z => .u
  | .a v => .a (.p v)
  | .g cs => .g (cs.map .p)
  | .t vs => .t (vs.map fun x => (x.1, x.2.map .p))
/-- Are there no slices in it? -/
def PV.flat : PV → Bool
  | .l _ => false
  | _ => true
def PT.flat : PT → Bool
  | .z => true
  | .a v => v.flat
  | .g cs => cs.all PV.flat
  | .t vs => vs.all fun x => x.2.all PV.flat
def ownA : AV → Bool
  | .own _ _ _ => true
  | _ => false
def ownT : TV → Bool
  | .u => false
  | .a x => ownA x
  | .g cs => cs.any ownA
  | .t vs => vs.any fun x => x.2.any ownA

/-! ### operations that read alone -/
def binPV (op : BinOp) (x y : PV) : Option PV :=
  match x, y with
  | .i k a, .i k' c =>
    if k = k' then
      match op with
      | .add => some (.i k (k.wrap (a + c)))
      | .sub => some (.i k (k.wrap (a - c)))
      | .mul => some (.i k (k.wrap (a * c)))
      | .quo => if c = 0 then none else some (.i k (k.wrap (a.tdiv c)))
      | .rem => if c = 0 then none else some (.i k (a.tmod c))
      | .eql => some (.b (decide (a = c)))
      | .neq => some (.b (!decide (a = c)))
      | .lss => some (.b (decide (a < c)))
      | .leq => some (.b (decide (a ≤ c)))
      | .gtr => some (.b (decide (a > c)))
      | .geq => some (.b (decide (a ≥ c)))
      | _ => none
    else none
  | .s a, .s c =>
    match op with
    | .add => if a.length + c.length ≤ 9223372036854775807 then some (.s (a ++ c)) else none
    | .eql => some (.b (decide (a = c)))
    | .neq => some (.b (!decide (a = c)))
    | _ => none
  | _, _ => none

/-- Cells of two structs, one by one: whole numbers (0), texts (1), bools (2). -/
def eqCells : List Nat → List AV → List AV → Option Bool
  | [], [], [] => some true
  | 0 :: s, .p (.i k a) :: r, .p (.i k' c) :: r' => if k = k' then (eqCells s r r').bind fun x => some (decide (a = c) && x) else none
  | 1 :: s, .p (.s a) :: r, .p (.s c) :: r' => (eqCells s r r').bind fun x => some (decide (a = c) && x)
  | 2 :: s, .p (.b a) :: r, .p (.b c) :: r' => (eqCells s r r').bind fun x => some (decide (a = c) && x)
  | _, _, _ => none

def mkT (g : Bool) (cs : List AV) : Option TV :=
  if g then some (.g cs) else match cs with | [x] => some (.a x) | _ => none

def ldCells (σ : St) (n : Nat) : AV → Option (List AV)
  | .ptr s i j => match σ.bs s with
    | some (.var cs) => if i = 0 ∧ j + n ≤ cs.length then some ((cs.drop j).take n) else none
    | some (.row _ _ rows) => match rows[i]? with
      | some r => if j + n ≤ r.length then some (((r.drop j).take n).map .p) else none
      | none => none
    | none => none
  | .cptr r j => if j + n ≤ r.length then some (((r.drop j).take n).map .p) else none
  | _ => none

def cellsT : TV → Option (List AV)
  | .a x => some [x]
  | .g cs => some cs
  | _ => none

/-- cells written over others, from a place on -/
def over {α : Type} (cs : List α) (j : Nat) (vs : List α) : List α := cs.take j ++ vs ++ cs.drop (j + vs.length)

def fillA (e : Env) (z : List AV) : List (Nat × Nat × X) → Option (List AV)
  | [] => some z
  | (off, size, x) :: r => (cellsT (ev e x)).bind fun vs => if vs.length = size ∧ off + size ≤ z.length then fillA e (over z off vs) r else none

def lenA : Bool → AV → Option Nat
  | false, .p (.l rows) => some rows.length
  | true, .p (.s x) => some x.length
  | false, .nil => some 0
  | false, .own _ _ len => some len
  | _, _ => none

/-- the rows of a slice -/
def rowsA (σ : St) (x : AV) : Option (List (List PV)) :=
  match frA σ x with
  | some (.l rows) => some rows
  | _ => none

def intT : TV → Option Int
  | .a (.p (.i _ n)) => some n
  | _ => none

def subRows (rows : List (List PV)) (lo hi : Int) : Option (List (List PV)) :=
  if 0 ≤ lo ∧ lo ≤ hi ∧ hi ≤ rows.length then some ((rows.drop lo.toNat).take (hi.toNat - lo.toNat)) else none

def optInt (e : Env) (x : Option X) (d : Int) : Option Int :=
  match x with
  | none => some d
  | some x => intT (ev e x)

/-- the cells of a row of a block -/
def rowK (σ : St) (s : Key) : Option Nat :=
  match σ.bs s with
  | some (.row k _ _) => some k
  | _ => none
def capsOf (e : Env) : List X → Option (List Key)
  | [] => some []
  | x :: r => match ev e x with
    | .a (.ptr s 0 0) => (capsOf e r).bind fun ks => some (s :: ks)
    | _ => none
def bytesOf : List (List PV) → Option (List UInt8)
  | [] => some []
  | [.i .u8 n] :: r => (bytesOf r).bind fun bs => some (UInt8.ofNat n.toNat :: bs)
  | _ => none

/-- Is a slice nil? Of an empty one without memory it isn't known. -/
def nilA : AV → Option Bool
  | .nil => some true
  | .p (.l (_ :: _)) => some false
  | .raw (.slice a _ _) => some a.isNone
  | _ => none

/-- What reads alone. -/
def evR (cp : FuncId → List PT → Option PT) (sp : FuncId → Bool) (e : Env) (σ : St) : O → Option TV
  | .mv x => some (ev e x)
  | .pick c a b => match ev e c with
    | .a (.p (.b t)) => some (if t then ev e a else ev e b)
    | _ => none
  | .build z ps => (fillA e z ps).bind fun cs => some (.g cs)
  | .ld n g a => match ev e a with
    | .a x => (ldCells σ n x).bind (mkT g)
    | _ => none
  | .nck x => match ev e x with
    | .a (.ptr s i j) => some (.a (.ptr s i j))
    | .a (.cptr r j) => some (.a (.cptr r j))
    | _ => none
  | .bin op x y => match ev e x, ev e y with
    | .a (.p a), .a (.p c) => (binPV op a c).bind fun v => some (.a (.p v))
    | _, _ => none
  | .eqb neg x y => match ev e x, ev e y with
    | .a (.p (.b a)), .a (.p (.b c)) => some (.a (.p (.b (if neg then !decide (a = c) else decide (a = c)))))
    | _, _ => none
  | .eqg neg sh x y => match ev e x, ev e y with
    | .g a, .g c => (eqCells sh a c).bind fun v => some (.a (.p (.b (if neg then !v else v))))
    | _, _ => none
  | .nq neg x => match ev e x with
    | .a x => (nilA x).bind fun t => some (.a (.p (.b (if neg then !t else t))))
    | _ => none
  | .not x => match ev e x with
    | .a (.p (.b a)) => some (.a (.p (.b !a)))
    | _ => none
  | .neg x => match ev e x with
    | .a (.p (.i k a)) => some (.a (.p (.i k (k.wrap (0 - a)))))
    | _ => none
  | .cvi k x => match ev e x with
    | .a (.p (.i _ a)) => some (.a (.p (.i k (k.wrap a))))
    | _ => none
  | .fn f caps => (capsOf e caps).bind fun ks => some (.a (.fn f ks))
  | .cvs x => match ev e x with
    | .a y => (rowsA σ y).bind fun rows => (bytesOf rows).bind fun bs => some (.a (.p (.s bs)))
    | _ => none
  | .sub x lo hi => match ev e x with
    | .a (.p (.s b)) => (optInt e lo 0).bind fun l => (optInt e hi b.length).bind fun h =>
        if 0 ≤ l ∧ l ≤ h ∧ h ≤ b.length then some (.a (.p (.s ((b.drop l.toNat).take (h.toNat - l.toNat))))) else none
    | _ => none
  | .slc k _ x lo hi none => match ev e x with
    | .a (.own s off len) => (optInt e lo 0).bind fun l => (optInt e hi len).bind fun h =>
        if 0 ≤ l ∧ l ≤ h ∧ h ≤ len ∧ rowK σ s = some k then some (.a (.own s (off + l.toNat) (h.toNat - l.toNat))) else none
    | .a (.p (.l rows)) => (optInt e lo 0).bind fun l => (optInt e hi rows.length).bind fun h =>
        (subRows rows l h).bind fun r => if rows.all (fun r => r.length = k) then some (.a (.p (.l r))) else none
    | .a .nil => (optInt e lo 0).bind fun l => (optInt e hi 0).bind fun h => if l = 0 ∧ h = 0 then some (.a .nil) else none
    | _ => none
  | .fad off x => match ev e x with
    | .a (.ptr s i j) => some (.a (.ptr s i (j + off)))
    | .a (.cptr r j) => some (.a (.cptr r (j + off)))
    | _ => none
  | .fld off n g x => match ev e x with
    | .g cs => if off + n ≤ cs.length then mkT g ((cs.drop off).take n) else none
    | _ => none
  | .ias k x ix => match ev e x, intT (ev e ix) with
    | .a (.own s off len), some i => if 0 ≤ i ∧ i < len ∧ rowK σ s = some k then some (.a (.ptr s (off + i.toNat) 0)) else none
    | .a (.p (.l rows)), some i => if 0 ≤ i ∧ i < rows.length then
        match rows[i.toNat]? with
        | some r => if r.length = k ∧ rows.all (fun r => r.length = k) then some (.a (.cptr r 0)) else none
        | none => none
      else none
    | _, _ => none
  | .iaa len k x ix => match ev e x, intT (ev e ix) with
    | .a (.ptr s i j), some n => if 0 ≤ n ∧ n < len then some (.a (.ptr s i (j + n.toNat * k))) else none
    | .a (.cptr r j), some n => if 0 ≤ n ∧ n < len then some (.a (.cptr r (j + n.toNat * k))) else none
    | _, _ => none
  | .ixs x ix => match ev e x, intT (ev e ix) with
    | .a (.p (.s b)), some i => if 0 ≤ i then match b[i.toNat]? with
        | some c => some (.a (.p (.i .u8 c.toNat)))
        | none => none
      else none
    | _, _ => none
  | .ixa len k g x ix => match ev e x, intT (ev e ix) with
    | .g cs, some i => if 0 ≤ i ∧ i < len ∧ i.toNat * k + k ≤ cs.length then mkT g ((cs.drop (i.toNat * k)).take k) else none
    | _, _ => none
  | .ext x i => match ev e x with
    | .t vs => match vs[i]? with
      | some (g, cs) => mkT g cs
      | none => none
    | _ => none
  | .len str x => match ev e x with
    | .a y => (lenA str y).bind fun n => some (.a (.p (.i .i64 n)))
    | _ => none
  | .mx x y => match ev e x, ev e y with
    | .a (.p (.i k a)), .a (.p (.i k' c)) => if k = k' then some (.a (.p (.i k (if c > a then c else a)))) else none
    | _, _ => none
  | .mn x y => match ev e x, ev e y with
    | .a (.p (.i k a)), .a (.p (.i k' c)) => if k = k' then some (.a (.p (.i k (if c < a then c else a)))) else none
    | _, _ => none
  | .call f args => match ev e f with
    | .a (.fn g []) => if sp g then none else (frTs σ (args.map (ev e))).bind fun ps => (cp g ps).bind fun r =>
        if r.flat || !(args.map (ev e)).any ownT then some (ofPT r) else none
    | _ => none
  | _ => none

inductive Cal where
  | f (f : FuncId)
  | y (l : Nat)

/-- Whatever an operation does; `d`: the temporary that it fills. -/
def evO (cp : FuncId → List PT → Option PT) (cs : Cal → List TV → St → Option (TV × St)) (sp : FuncId → Bool) (d : Option Nat) (e : Env) (σ : St) : O → Option (TV × St)
  | .new z => match d with
    | some d => some (.a (.ptr (d, σ.clk) 0 0), σ.add d (.var z))
    | none => none
  | .box n x => match d, cellsT (ev e x) with
    | some d, some vs => if vs.length = n then some (.a (.ptr (d, σ.clk) 0 0), σ.add d (.var vs)) else none
    | _, _ => none
  | .bsl k el z len ps => match d with
    | some d => (frL σ z).bind fun z => (bslRows e σ k (List.replicate len z) ps).bind fun x =>
        some (.a (.own (d, x.2.clk) 0 len), x.2.add d (.row k el x.1))
    | none => none
  | .msl k el bytes z len cap => match d, intT (ev e len), intT (ev e cap) with
    | some d, some l, some c => if 0 ≤ l ∧ l ≤ c ∧ c * bytes ≤ 140737488355328 then
        (frL σ z).bind fun z => some (.a (.own (d, σ.clk) 0 l.toNat), σ.add d (.row k el (List.replicate l.toNat z)))
      else none
    | _, _, _ => none
  | .mslF k el bytes z len cap => match d, intT (ev e len), intT (ev e cap) with
    | some d, some l, some c => if 0 ≤ l ∧ l ≤ c ∧ c * bytes ≤ 140737488355328 then
        (frL σ z).bind fun z => some (.a (.p (.l (List.replicate l.toNat z))), (σ.add d (.row k el (List.replicate l.toNat z))).kill (d, σ.clk))
      else none
    | _, _, _ => none
  | .st n a x => match ev e a, cellsT (ev e x) with
    | .a (.ptr s i j), some vs => if vs.length = n then
        match σ.bs s with
        | some (.var cs) => if i = 0 ∧ j + n ≤ cs.length then some (.u, σ.put s (.var (over cs j vs))) else none
        | some (.row k el rows) => match rows[i]?, frL σ vs with
          | some r, some ws => if j + n ≤ r.length ∧ vs.all (fun v => match v with | .own t _ _ => t ≠ s | _ => true) then
              some (.u, (klL σ vs).put s (.row k el (rows.set i (over r j ws)))) else none
          | _, _ => none
        | none => none
      else none
    | _, _ => none
  | .slc k el x lo hi (some mx) => match d, optInt e lo 0, (hi.map (ev e)).bind intT, intT (ev e mx), ev e x with
    | some d, some 0, some 0, some 0, .a (.p (.l _)) => some (.a (.own (d, σ.clk) 0 0), σ.add d (.row k el []))
    | some d, some 0, some 0, some 0, .a (.own _ _ _) => some (.a (.own (d, σ.clk) 0 0), σ.add d (.row k el []))
    | some d, some 0, some 0, some 0, .a .nil => some (.a (.own (d, σ.clk) 0 0), σ.add d (.row k el []))
    | _, _, _, _, _ => none
  | .app k el bytes x y => match d, ev e x, ev e y with
    | some d, .a .nil, .a y => (rowsA σ y).bind fun ns =>
        if ns.length * bytes ≤ 140737488355328 ∧ ns.all (fun r => r.length = k) then some (.a (.own (d, σ.clk) 0 ns.length), σ.add d (.row k el ns)) else none
    | some d, .a (.own s off len), .a y => match σ.bs s, rowsA σ y with
      | some (.row k' el' rows), some ns =>
        if off = 0 ∧ k' = k ∧ el' = el ∧ len ≤ rows.length ∧ (len + ns.length) * bytes ≤ 140737488355328 ∧ ns.all (fun r => r.length = k) then
          some (.a (.own (d, σ.clk) 0 (len + ns.length)), (σ.kill s).add d (.row k el (rows.take len ++ ns)))
        else none
      | _, _ => none
    | _, _, _ => none
  | .call f args => match ev e f with
    | .a (.fn g caps) =>
      let vs := args.map (ev e)
      if sp g then cs (.f g) (vs ++ caps.map fun s => .a (.ptr s 0 0)) σ
      else match caps, frTs σ vs with
        | [], some ps => (cp g ps).bind fun r => some (ofPT r, if r.flat then σ else klTs σ vs)
        | _, _ => cs (.f g) (vs ++ caps.map fun s => .a (.ptr s 0 0)) σ
    | .a (.yl l) => cs (.y l) (args.map (ev e)) σ
    | _ => none
  | o => (evR cp sp e σ o).bind fun v => some (v, σ)
where
  bslRows (e : Env) (σ : St) (k : Nat) (rows : List (List PV)) : List (Nat × X) → Option (List (List PV) × St)
    | [] => some (rows, σ)
    | (i, x) :: r => (cellsT (ev e x)).bind fun vs => (frL σ vs).bind fun ws =>
        if ws.length = k ∧ i < rows.length then bslRows e (klL σ vs) k (rows.set i ws) r else none

/-- May it come up in whatever order among what reads alone? New blocks may, if nothing is handed into them for good. -/
def O.adds (e : Env) : O → Bool
  | .new _ | .box _ _ | .msl .. | .mslF .. => true
  | .bsl _ _ _ _ ps => ps.all fun x => !ownT (ev e x.2)
  | _ => false

def keysA : AV → List Key
  | .ptr s _ _ => [s]
  | .own s _ _ => [s]
  | _ => []
def keysT : TV → List Key
  | .u => []
  | .a x => keysA x
  | .g cs => cs.flatMap keysA
  | .t vs => vs.flatMap fun x => x.2.flatMap keysA
/-- A store into a variable, that nothing else of the region looks at through these temporaries. -/
def wrOk (e : Env) (σ : St) (o : O) (ts : List Nat) : Bool :=
  match o with
  | .st _ a _ => match ev e a with
    | .a (.ptr s _ _) => match σ.bs s with
      | some (.var _) => ts.all fun t => (keysT (e t)).all fun k => decide (k ≠ s)
      | _ => false
    | _ => false
  | _ => false

def evI (cp : FuncId → List PT → Option PT) (cs : Cal → List TV → St → Option (TV × St)) (sp : FuncId → Bool) (i : Ins) (e : Env) (σ : St) : Option (Env × St) :=
  let run : Option (Env × St) :=
    match i.cl with
    | .rd => (evR cp sp e σ i.op).bind fun v => some (e.putD i.dst v, σ)
    | .any => (evO cp cs sp i.dst e σ i.op).bind fun x => some (e.putD i.dst x.1, x.2)
    | .ad => if i.op.adds e then (evO cp cs sp i.dst e σ i.op).bind fun x => some (e.putD i.dst x.1, x.2) else none
    | .wr ts => if wrOk e σ i.op ts then (evO cp cs sp i.dst e σ i.op).bind fun x => some (e.putD i.dst x.1, x.2) else none
  match i.gd with
  | none => run
  | some (t, w) => match e t with
    | .a (.p (.b x)) => if x = w then run else some (e.putD i.dst .u, σ)
    | .u => some (e.putD i.dst .u, σ)
    | _ => none

def evIs (cp : FuncId → List PT → Option PT) (cs : Cal → List TV → St → Option (TV × St)) (sp : FuncId → Bool) : List Ins → Env → St → Option (Env × St)
  | [], e, σ => some (e, σ)
  | i :: r, e, σ => (evI cp cs sp i e σ).bind fun x => evIs cp cs sp r x.1 x.2

def iter (f : Env → St → Option (Ex × Env × St)) : Nat → Env → St → Option (Ex × Env × St)
  | 0, _, _ => none
  | n + 1, e, σ => (f e σ).bind fun x => match x.1 with
    | .norm => iter f n x.2.1 x.2.2
    | _ => some x

def setL (σ : St) (l : Nat) (r : LRec) : St := { σ with ls := σ.ls.set l r }

/-- What a variable holds of the call's own memory is never written again. -/
def fz1 (σ : St) : TV → Option St
  | .a (.ptr s 0 0) => match σ.bs s with
    | some (.var cs) => if cs.all (fun x => match x with | .own t _ _ => decide (t ≠ s) | _ => true) then (frL σ cs).bind fun ps => some ((klL σ cs).put s (.var (ps.map .p))) else none
    | _ => none
  | _ => none
def fzS (e : Env) : List Nat → St → Option St
  | [], σ => some σ
  | t :: ts, σ => (fz1 σ (e t)).bind fun σ' => fzS e ts σ'
/-- without that -/
def strip : C → C
  | .fz _ c => strip c
  | .seq a b => .seq (strip a) (strip b)
  | .cond x a b => .cond x (strip a) (strip b)
  | .block id c => .block id (strip c)
  | .loop c => .loop (strip c)
  | .rng f ps a b => .rng f ps (strip a) (strip b)
  | .skip => .skip
  | .reg ops => .reg ops
  | .exit id => .exit id
  | .ret => .ret
def stripF (f : FnC) : FnC := { f with body := strip f.body }

/-- `rd`: in a round of a range over a function. -/
def evC (cp : FuncId → List PT → Option PT) (cs : Cal → List TV → St → Option (TV × St)) (sp : FuncId → Bool) (n : Nat) (rd : Bool) : C → Env → St → Option (Ex × Env × St)
  | .skip, e, σ => some (.norm, e, σ)
  | .reg ops, e, σ => (evIs cp cs sp ops e σ).bind fun x => some (.norm, x.1, x.2)
  | .seq a b, e, σ => (evC cp cs sp n rd a e σ).bind fun x => match x.1 with
    | .norm => evC cp cs sp n rd b x.2.1 x.2.2
    | _ => some x
  | .cond x a b, e, σ => match ev e x with
    | .a (.p (.b t)) => if t then evC cp cs sp n rd a e σ else evC cp cs sp n rd b e σ
    | _ => none
  | .block id c, e, σ => (evC cp cs sp n rd c e σ).bind fun x => some (if x.1 = .exit id then .norm else x.1, x.2.1, x.2.2)
  | .loop c, e, σ => iter (evC cp cs sp n rd c) n e σ
  | .exit id, e, σ => some (.exit id, e, σ)
  | .ret, e, σ => some (.ret, e, σ)
  | .fz ts c, e, σ => (fzS e ts σ).bind fun σ' => evC cp cs sp n rd c e σ'
  | .rng f params assign body, e, σ =>
    if rd then none else match ev e f with
    | .a (.fn g caps) =>
      (cs (.f g) (.a (.yl σ.ls.length) :: caps.map fun s => .a (.ptr s 0 0)) { σ with ls := σ.ls ++ [{ env := e, params, assign, body, st := .ready, pend := none }] }).bind fun x =>
        match x.2.ls[σ.ls.length]? with
        | some r => if r.st = .busy then none else some (r.pend.getD .norm, e, setL x.2 σ.ls.length { r with st := .gone })
        | none => none
    | _ => none

def putAll (e : Env) : List Nat → List TV → Env
  | p :: ps, v :: vs => putAll (e.put p v) ps vs
  | _, _ => e

/-- One round of a range over a function. -/
def evY (cp : FuncId → List PT → Option PT) (cs : Cal → List TV → St → Option (TV × St)) (sp : FuncId → Bool) (n : Nat) (l : Nat) (args : List TV) (σ : St) : Option (TV × St) :=
  match σ.ls[l]? with
  | some r => if args.length = r.params.length then
      (evC cp cs sp n true r.assign (putAll r.env r.params args) σ).bind fun x => if x.1 = .norm then
        match x.2.2.ls[l]? with
        | some r1 => if r1.st = .ready then
            (evC cp cs sp n true r.body x.2.1 (setL x.2.2 l { r1 with st := .busy })).bind fun y =>
              match y.2.2.ls[l]? with
              | some r2 => if y.1 = .norm then some (.a (.p (.b true)), setL y.2.2 l { r2 with st := .ready, pend := none })
                else some (.a (.p (.b false)), setL y.2.2 l { r2 with st := .done, pend := some y.1 })
              | none => none
          else none
        | none => none
      else none
    else none
  | none => none

def resV (e : Env) (σ : St) : Rs → Option (Bool × List AV)
  | .tmp t => match e t with
    | .a x => some (false, [x])
    | .g cs => some (true, cs)
    | _ => none
  | .cell t n g => match e t with
    | .a x => (ldCells σ n x).bind fun cs => (mkT g cs).bind fun _ => some (g, cs)
    | _ => none
def resVs (e : Env) (σ : St) : List Rs → Option (List (Bool × List AV))
  | [] => some []
  | r :: rs => (resV e σ r).bind fun v => (resVs e σ rs).bind fun w => some (v :: w)
def resT (vs : List (Bool × List AV)) : Option TV :=
  match vs with
  | [] => some .u
  | [(g, cs)] => mkT g cs
  | vs => some (.t vs)

/-- What is given of a program: its functions, those that are carried out over the caller's memory, those that are told otherwise. -/
structure Seat where
  fb : FuncId → Option FnC
  sp : FuncId → Bool
  orc : FuncId → List PT → Option PT

variable (S : Seat)

mutual
def evS : Nat → Cal → List TV → St → Option (TV × St)
  | 0, _, _, _ => none
  | k + 1, .f g, args, σ => match S.fb g with
    | some fc => if args.length = fc.np then
        (evC (evP k) (evS k) S.sp k false fc.body (Env.init args) σ).bind fun x =>
          if x.1 = .norm ∨ x.1 = .ret then (resVs x.2.1 x.2.2 fc.res).bind fun vs => (resT vs).bind fun v => some (v, x.2.2) else none
      else none
    | none => none
  | k + 1, .y l, args, σ => evY (evP k) (evS k) S.sp k l args σ
def evP : Nat → FuncId → List PT → Option PT
  | 0, _, _ => none
  | k + 1, f, ps => match S.orc f ps with
    | some r => some r
    | none => (evS k (.f f) (ps.map ofPT) .empty).bind fun x => frT x.2 x.1
end

end Go.Fx
