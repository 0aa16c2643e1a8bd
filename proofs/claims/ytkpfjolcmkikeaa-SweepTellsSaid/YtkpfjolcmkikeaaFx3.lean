import Derived.Test.YtkpfjolcmkikeaaFx2
/-
  The model's code, turned into instructions: what types say (sizes, offsets, zero values) is read off the program once, here.
-/
namespace Go.Fx
variable (P : Program)

def cAV : Value → Option AV
  | .bool b => some (.p (.b b))
  | .int k n => some (.p (.i k n))
  | .string s => some (.p (.s s.data.toList))
  | .slice none 0 0 => some .nil
  | .nilFunc => some (.raw .nilFunc)
  | .pointer none => some (.raw (.pointer none))
  | _ => none
def cTV : Value → Option TV
  | .tuple vs => if vs.size = 0 then some .u else none
  | v => (cAV v).bind fun x => some (.a x)
def ccX : Operand → Option X
  | .tmp t => some (.t t)
  | .const v => (cTV v).bind fun x => some (.c x)
  | .func f => some (.f f)
  | .global _ => none
def mapO {α β : Type} (f : α → Option β) : List α → Option (List β)
  | [] => some []
  | x :: r => (f x).bind fun y => (mapO f r).bind fun ys => some (y :: ys)

def tsz (t : TypeId) : Option Nat := (P.info? t).bind fun i => some i.size
def tag (t : TypeId) : Option Bool := (P.underlying t).bind fun d => some (match d with | .struct _ | .array _ _ => true | _ => false)
def tzero (t : TypeId) : Option (List AV) := (P.info? t).bind fun i => i.zero.bind fun v => mapO cAV v.cells.toList
/-- A slice type's element: its type, its cells, its bytes. -/
def telem (t : TypeId) : Option (Nat × Nat × Nat) :=
  match P.underlying t with
  | some (.slice e) => (P.info? e).bind fun i => if 0 < i.size ∧ 0 < i.bytes then some (e, i.size, i.bytes) else none
  | _ => none
def tfield (t : TypeId) (f : Nat) : Option (Nat × TypeId) :=
  match P.underlying t with
  | some (.struct fs) => (fs[f]?).bind fun x => some (x.offset, x.type)
  | _ => none
def tarr (t : TypeId) : Option (Nat × TypeId) :=
  match P.underlying t with
  | some (.array n e) => some (n, e)
  | _ => none

/-- how many cells a type's zero value has -/
def zeroLen (t : TypeId) : Option Nat := (P.info? t).bind fun i => i.zero.bind fun v => some v.cells.size

def optX : Option Operand → Option (Option X)
  | none => some none
  | some x => (ccX x).bind fun y => some (some y)

def isNilX : X → Bool
  | .c (.a .nil) => true
  | _ => false

/-- `eqs`: the types of structs and arrays whose values are held against each other cell by cell, and what their cells are. -/
def ccO (eqs : List (TypeId × List Nat)) : Op → Option O
  | .move x | .assign x => (ccX x).bind fun x => some (.mv x)
  | .pick c a b => (ccX c).bind fun c => (ccX a).bind fun a => (ccX b).bind fun b => some (.pick c a b)
  | .alloc t => (tzero P t).bind fun z => some (.new z)
  | .box t x => (ccX x).bind fun x => (tsz P t).bind fun n => some (.box n x)
  | .build t ps => (tzero P t).bind fun z =>
      match P.underlying t with
      | some (.struct fs) => if fs.toList.all (fun f => (tsz P f.type).isSome) then (mapO (fun p => (tfield P t p.1).bind fun f => (tsz P f.2).bind fun n => (ccX p.2).bind fun x => some (f.1, n, x)) ps.toList).bind fun ps => some (.build z ps) else none
      | some (.array _ e) => (tsz P e).bind fun n => (mapO (fun p => (ccX p.2).bind fun x => some (p.1 * n, n, x)) ps.toList).bind fun ps => some (.build z ps)
      | _ => none
  | .buildSlice t len ps => (telem P t).bind fun e => (tzero P e.1).bind fun z =>
      if len * e.2.1 ≤ 16777216 ∧ zeroLen P e.1 = some e.2.1 then (mapO (fun p => (ccX p.2).bind fun x => some (p.1, x)) ps.toList).bind fun ps => some (.bsl e.2.1 e.1 z len ps) else none
  | .load t a => (ccX a).bind fun a => (tsz P t).bind fun n => (tag P t).bind fun g => if g = false ∧ n ≠ 1 then none else some (.ld n g a)
  | .store t a x => (ccX a).bind fun a => (ccX x).bind fun x => (tsz P t).bind fun n => some (.st n a x)
  | .nilCheck x => (ccX x).bind fun x => some (.nck x)
  | .binOp op t x y _ => (ccX x).bind fun x => (ccX y).bind fun y =>
      match op with
      | .add | .sub | .mul | .quo | .rem | .lss | .leq | .gtr | .geq => some (.bin op x y)
      | .eql | .neq =>
        match P.underlying t with
        | some (.int _) | some .string => some (.bin op x y)
        | some .bool => some (.eqb (match op with | .neq => true | _ => false) x y)
        | some (.slice _) => if isNilX y then some (.nq (match op with | .neq => true | _ => false) x) else none
        | some (.struct _) | some (.array _ _) => (eqs.find? (·.1 == t)).bind fun s => some (.eqg (match op with | .neq => true | _ => false) s.2 x y)
        | _ => none
      | _ => none
  | .unOp .not _ x => (ccX x).bind fun x => some (.not x)
  | .unOp .neg _ x => (ccX x).bind fun x => some (.neg x)
  | .convert src dst x => (ccX x).bind fun x =>
      match P.underlying src, P.underlying dst with
      | some (.int _), some (.int k) => some (.cvi k x)
      | some (.slice e), some .string => match P.underlying e with
        | some (.int .u8) => some (.cvs x)
        | _ => none
      | _, _ => none
  | .makeFunc (.func f) first caps => if first.size = 0 then (mapO ccX caps.toList).bind fun cs => some (.fn f cs) else none
  | .makeSlice t l c => (ccX l).bind fun l => (ccX c).bind fun c => (telem P t).bind fun e => (tzero P e.1).bind fun z => if zeroLen P e.1 = some e.2.1 then some (if eqs.any (fun q => decide (q = (e.1, [9]))) then .mslF e.2.1 e.1 e.2.2 z l c else .msl e.2.1 e.1 e.2.2 z l c) else none
  | .slice t x lo hi mx => (ccX x).bind fun x => (optX lo).bind fun lo => (optX hi).bind fun hi => (optX mx).bind fun mx =>
      match P.underlying t with
      | some (.slice _) => (telem P t).bind fun e => some (.slc e.2.1 e.1 x lo hi mx)
      | some .string => if mx.isSome then none else some (.sub x lo hi)
      | _ => none
  | .fieldAddr t x f => (ccX x).bind fun x => (tfield P t f).bind fun p => (tsz P p.2).bind fun n => if n = 0 then none else some (.fad p.1 x)
  | .field t x f => (ccX x).bind fun x => (tfield P t f).bind fun p => (tsz P p.2).bind fun n => (tag P p.2).bind fun g => if g = false ∧ n ≠ 1 then none else some (.fld p.1 n g x)
  | .indexAddr t x ix => (ccX x).bind fun x => (ccX ix).bind fun ix =>
      match P.underlying t with
      | some (.slice _) => (telem P t).bind fun e => some (.ias e.2.1 x ix)
      | some (.array n e) => (tsz P e).bind fun k => some (.iaa n k x ix)
      | _ => none
  | .index t x ix => (ccX x).bind fun x => (ccX ix).bind fun ix =>
      match P.underlying t with
      | some .string => some (.ixs x ix)
      | some (.array n e) => (tsz P e).bind fun k => (tag P e).bind fun g => if g = false ∧ k ≠ 1 then none else some (.ixa n k g x ix)
      | _ => none
  | .extract x i => (ccX x).bind fun x => some (.ext x i)
  | .call c =>
    match c.callee with
    | .builtin .len => match c.args.toList, c.argTypes.toList with
      | [x], [t] => (ccX x).bind fun x => match P.underlying t with
        | some (.slice _) => some (.len false x)
        | some .string => some (.len true x)
        | _ => none
      | _, _ => none
    | .builtin .append => match c.args.toList, c.argTypes.toList with
      | [x, y], [t, u] => (ccX x).bind fun x => (ccX y).bind fun y => (telem P t).bind fun e =>
          if t = u ∧ zeroLen P e.1 = some e.2.1 then some (.app e.2.1 e.1 e.2.2 x y) else none
      | _, _ => none
    | .builtin .max => match c.args.toList with
      | [x, y] => (ccX x).bind fun x => (ccX y).bind fun y => some (.mx x y)
      | _ => none
    | .builtin .min => match c.args.toList with
      | [x, y] => (ccX x).bind fun x => (ccX y).bind fun y => some (.mn x y)
      | _ => none
    | .value f => (ccX f).bind fun f => (mapO ccX c.args.toList).bind fun as => some (.call f as)
    | _ => none
  | _ => none

/-- What an operation's temporaries are: those that it looks at. -/
def xT : X → List Nat
  | .t n => [n]
  | _ => []

def dstOk (nt : Nat) : Option Nat → Bool
  | none => true
  | some d => d < nt

def ccG (ops : Array Oper) : Option (Nat × Bool) → Option (Option (Nat × Bool))
  | none => some none
  | some (j, w) => ((ops[j]?).bind (·.dst)).bind fun t => some (some (t, w))

def ccI (eqs : List (TypeId × List Nat)) (nt : Nat) (ops : Array Oper) (cl : Cls) (o : Oper) : Option Ins :=
  (ccO P eqs o.op).bind fun op => (ccG ops o.guard).bind fun g => if dstOk nt o.dst then some { dst := o.dst, gd := g, op := op, cl := cl } else none

/-! ### regions that draw their order -/
/-- which operations must have come up ahead of one, as bits -/
def befores (ops : Array Oper) : Array Nat := Region.before ops
def sure (b : Array Nat) (i j : Nat) : Bool := (b.getD (max i j) 0).testBit (min i j)
def isAdd : Op → Bool
  | .alloc _ | .box _ _ | .buildSlice .. | .makeSlice .. => true
  | _ => false
/-- its class: alone in its place where its order against all others is fixed -/
def clsOf (ops : Array Oper) (b : Array Nat) (i : Nat) (o : Oper) : Cls :=
  if (List.range ops.size).all (fun j => j == i || sure b i j) then .any else if isAdd o.op then .ad else .rd
/-- the operands -/
def O.xs : O → List X
  | .mv x => [x]
  | .pick c a b => [c, a, b]
  | .new _ => []
  | .box _ x => [x]
  | .build _ ps => ps.map (·.2.2)
  | .bsl _ _ _ _ ps => ps.map (·.2)
  | .ld _ _ a => [a]
  | .st _ a x => [a, x]
  | .nck x => [x]
  | .bin _ x y => [x, y]
  | .eqb _ x y => [x, y]
  | .eqg _ _ x y => [x, y]
  | .nq _ x => [x]
  | .not x => [x]
  | .neg x => [x]
  | .cvi _ x => [x]
  | .cvs x => [x]
  | .fn _ caps => caps
  | .msl _ _ _ _ l c => [l, c]
  | .mslF _ _ _ _ l c => [l, c]
  | .slc _ _ x lo hi most => x :: (lo.toList ++ hi.toList ++ most.toList)
  | .sub x lo hi => x :: (lo.toList ++ hi.toList)
  | .fad _ x => [x]
  | .fld _ _ _ x => [x]
  | .ias _ x ix => [x, ix]
  | .iaa _ _ x ix => [x, ix]
  | .ixs x ix => [x, ix]
  | .ixa _ _ _ x ix => [x, ix]
  | .ext x _ => [x]
  | .len _ x => [x]
  | .app _ _ _ x y => [x, y]
  | .mx x y => [x, y]
  | .mn x y => [x, y]
  | .call f args => f :: args

/-- the temporaries that an instruction looks at -/
def Ins.looks (i : Ins) : List Nat := (match i.gd with | some (t, _) => [t] | none => []) ++ i.op.xs.flatMap xT
/-- no constant names a block -/
def X.plain : X → Bool
  | .c v => (keysT v).isEmpty
  | _ => true
def Cls.eff : Cls → Bool
  | .rd => false
  | _ => true
def Cls.alone : Cls → Bool
  | .any => true
  | _ => false
def Cls.wrs : Cls → Option (List Nat)
  | .wr ts => some ts
  | _ => none
/-- what looks at no memory -/
def O.pure : O → Bool
  | .mv _ | .pick .. | .build .. | .nck _ | .bin .. | .eqb .. | .eqg .. | .nq .. | .not _ | .neg _ | .cvi .. | .fn .. | .sub .. | .fad .. | .fld .. | .iaa .. | .ixs .. | .ixa .. | .ext .. | .len .. | .mx .. | .mn .. => true
  | _ => false
def O.isSt : O → Bool
  | .st .. => true
  | _ => false

/-- a new variable, whose order among its like is free -/
def Ins.nw (i : Ins) : Bool :=
  match i.dst, i.gd, i.op, i.cl with
  | some _, none, .new _, .ad => true
  | _, _, _, _ => false

/-- what must hold of a region that draws: edges lead back; one writer a temporary, whose order against each that looks at it is fixed; what adds or is alone is in a fixed order among its like, and what is alone against all -/
def drawOk (ops : Array Oper) (b : Array Nat) (is : List Ins) : Bool :=
  let l := is.zipIdx
  ops.toList.zipIdx.all (fun x => x.1.after.all fun e => !Region.binds .any e || e.on < x.2) &&
  is.all (fun i => i.op.xs.all X.plain) &&
  l.all (fun x => l.all fun y => x.2 == y.2 ||
    ((match x.1.dst with
     | some d => y.1.dst != some d && (!(y.1.looks).contains d || sure b x.2 y.2)
     | none => true) &&
    (!x.1.cl.eff || !y.1.cl.eff || sure b x.2 y.2 || (x.1.nw && y.1.nw)) && (!x.1.cl.alone || sure b x.2 y.2) &&
    (match x.1.cl.wrs with
     | some ts => sure b x.2 y.2 || y.1.op.pure || (y.2 < x.2 && y.1.looks.all fun t => ts.contains t && l.all fun z => !(decide (y.2 ≤ z.2) && decide (z.2 < x.2)) || z.1.dst != some t)
     | none => true)))

/-- stores whose order isn't fixed against all others -/
def fixW (b : Array Nat) (is : List Ins) : List Ins :=
  is.zipIdx.map fun x => if x.1.cl.eff = false ∧ x.1.op.isSt = true then { x.1 with cl := .wr ((is.zipIdx.filter fun y => decide (y.2 < x.2) && !sure b x.2 y.2 && !y.1.op.pure).flatMap fun y => y.1.looks) } else x.1

def zipO {α β : Type} (f : Nat → α → Option β) : Nat → List α → Option (List β)
  | _, [] => some []
  | i, x :: r => (f i x).bind fun y => (zipO f (i + 1) r).bind fun ys => some (y :: ys)

def ccC (eqs : List (TypeId × List Nat)) (nt : Nat) : Code → Option C
  | .skip => some .skip
  | .region _ ops draw =>
    if draw then
      let b := befores ops
      (zipO (fun i o => ccI P eqs nt ops (clsOf ops b i o) o) 0 ops.toList).bind fun is => if drawOk ops b (fixW b is) then some (.reg (fixW b is)) else none
    else (mapO (ccI P eqs nt ops .any) ops.toList).bind fun is => some (.reg is)
  | .seq a b => (ccC eqs nt a).bind fun a => (ccC eqs nt b).bind fun b => some (.seq a b)
  | .cond c a b => (ccX c).bind fun c => (ccC eqs nt a).bind fun a => (ccC eqs nt b).bind fun b => some (.cond c a b)
  | .block id c => (ccC eqs nt c).bind fun c => some (.block id c)
  | .loop c => (ccC eqs nt c).bind fun c => some (.loop c)
  | .exit id => some (.exit id)
  | .ret => some .ret
  | .rangeFunc f ps assign body => (ccX f).bind fun f => (ccC eqs nt assign).bind fun a => (ccC eqs nt body).bind fun b => if ps.all (· < nt) then some (.rng f ps.toList a b) else none
  | _ => none

def ccR : ResultVar → Option Rs
  | .tmp t => some (.tmp t)
  | .cell a t => (tsz P t).bind fun n => (tag P t).bind fun g => if g = false ∧ n ≠ 1 then none else some (.cell a n g)

def ccF (eqs : List (TypeId × List Nat)) (fn : Func) : Option FnC :=
  fn.body.bind fun c => (ccC P eqs fn.ntmps c).bind fun c => (mapO (ccR P) fn.results.toList).bind fun rs =>
    if fn.params.size + fn.nfree ≤ fn.ntmps ∧ fn.name ≠ "runtime.NumGoroutine" then some { np := fn.params.size + fn.nfree, body := c, res := rs } else none

end Go.Fx
