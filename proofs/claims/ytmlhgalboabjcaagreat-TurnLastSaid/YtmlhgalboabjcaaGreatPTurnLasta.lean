/- Part 1 of what is proved for the law TurnLast: it returns true, whatever the input. No condition. -/
import Derived.RangeFuncNested
import Derived.OrdersIn
import Derived.Below
import Derived.Laws.MakeOwn
import Derived.Laws.OwnMore
import Derived.KernelRfl
import Derived.Maps.Own
import Derived.Laws.Tables
import Derived.Laws.Rows
import Derived.Laws.StructEq
import Derived.Laws.Strings
import Derived.Laws.CopyRow
import Derived.Laws.BytesString
set_option maxHeartbeats 8000000
set_option maxRecDepth 100000
set_option linter.unusedSimpArgs false
set_option linter.unusedVariables false
set_option linter.defProp false
namespace Go.Fx
def ZT:= @Array.all_eq_true'
def wD:= @Array.eq_empty_of_size_eq_zero
def SV:= @Array.ext'
def eD:= @Array.foldl_toList
def wF:= @Array.getD_eq_getD_getElem?
def zp:= @Array.getElem?_eq_getElem
def ei:= @Array.getElem?_eq_some_iff
def I1:= @Array.getElem?_replicate
def L1:= @Array.getElem?_setIfInBounds_ne
def R4:= @Array.getElem?_setIfInBounds_self_of_lt
def mX:= @Array.mem_of_getElem?
def bN:= @Array.toArray_toList
def Cd:= @Bool.and_eq_true
def Gy:= @Bool.eq_iff_iff
def iS:= @Bool.false_and
def SY:= @Bool.false_eq_true
def fF:= @Bool.false_or
def J2:= @Bool.not_eq_false'
def qp:= @Bool.not_eq_true'
def J6:= @Bool.not_false
def WQ:= @Bool.not_true
def gS:= @Bool.or_eq_true
def Pn:= @Bool.true_and
def U8:= @Bool.true_eq_false
def Gb:= @Classical.choose_spec
def aE:= @Int.add_zero
def Mz:= @Int.cast_ofNat_Int
def kS:= @Int.le_refl
def gG:= @Int.lt_irrefl
def ct:= @Int.natCast_inj
def ft:= @Int.tmod_lt_of_pos
def KA:= @Int.toNat_natCast
def rV:= @Int.toNat_zero
def SB:= @List.Pairwise.map
def PE:= @List.all_append
def KF:= @List.all_cons
def Gc:= @List.all_eq_true
def GL:= @List.any_eq_false
def qB:= @List.any_eq_true
def qg:= @List.append_assoc
def Qg:= @List.append_nil
def KB:= @List.cons.injEq
def Hh:= @List.cons_append
def SO:= @List.cons_ne_nil
def yI:= @List.contains_eq_mem
def UN:= @List.countP_append
def Mp:= @List.countP_cons
def gC:= @List.count_append
def J7:= @List.count_cons
def Di:= @List.count_nil
def dJ:= @List.drop_drop
def iM:= @List.drop_eq_getElem_cons
def nZ:= @List.drop_eq_nil_of_le
def Bn:= @List.drop_length
def Bg:= @List.drop_succ_cons
def yA:= @List.drop_zero
def GN:= @List.eq_nil_iff_forall_not_mem
def eL:= @List.eq_nil_of_length_eq_zero
def Fa:= @List.eq_of_mem_replicate
def Lx:= @List.eraseIdx_eq_take_drop_succ
def wj:= @List.filter_append
def Ey:= @List.filter_cons_of_neg
def pz:= @List.filter_eq_self
def oT:= @List.filter_sublist
def iU:= @List.findIdx?_eq_none_iff
def oO:= @List.findIdx?_eq_some_iff_getElem
def aC:= @List.flatMap_cons
def SN:= @List.flatMap_nil
def cR:= @List.foldl_append
def VP:= @List.foldl_cons
def Kh:= @List.getD_eq_getElem?_getD
def GV:= @List.getElem?_append_left
def bO:= @List.getElem?_append_right
def cw:= @List.getElem?_cons_succ
def aT:= @List.getElem?_cons_zero
def L9:= @List.getElem?_drop
def Xb:= @List.getElem?_eq_getElem
def eF:= @List.getElem?_eq_none
def QU:= @List.getElem?_eq_some_iff
def Qy:= @List.getElem?_map
def IL:= @List.getElem?_of_mem
def CY:= @List.getElem?_range
def Be:= @List.getElem?_replicate
def KC:= @List.getElem?_set
def xM:= @List.getElem?_set_ne
def XL:= @List.getElem?_take
def Dp:= @List.getElem?_take_of_lt
def F4:= @List.getElem?_toArray
def xA:= @List.getElem_mem
def GM:= @List.length_append
def Ce:= @List.length_cons
def z5:= @List.length_drop
def ZA:= @List.length_eq_one_iff
def zF:= @List.length_filter_le
def mB:= @List.length_map
def sI:= @List.length_nil
def bD:= @List.length_pos_iff
def Eh:= @List.length_replicate
def rm:= @List.length_set
def WX:= @List.length_singleton
def Q4:= @List.length_take
def TU:= @List.map_append
def GO:= @List.map_congr_left
def zx:= @List.map_cons
def qL:= @List.map_eq_nil_iff
def sT:= @List.map_map
def XM:= @List.map_nil
def JV:= @List.map_set
def Sw:= @List.mem_append
def uJ:= @List.mem_append_left
def Uc:= @List.mem_append_right
def qY:= @List.mem_cons
def tT:= @List.mem_cons_of_mem
def Bo:= @List.mem_filter
def cP:= @List.mem_flatMap
def Om:= @List.mem_map
def On:= @List.mem_map_of_mem
def yu:= @List.mem_of_getElem?
def IY:= @List.mem_of_mem_take
def MH:= @List.mem_or_eq_of_mem_set
def MD:= @List.mem_range
def bE:= @List.mem_range'_1
def bK:= @List.mem_singleton
def ET:= @List.mem_zipIdx_iff_getElem?
def Es:= @List.nil_append
def kE:= @List.nodup_append
def TL:= @List.nodup_cons
def tj:= @List.nodup_nil
def Ow:= @List.nodup_range'
def oZ:= @List.not_mem_nil
def PB:= @List.perm_iff_count
def rT:= @List.perm_middle
def vY:= @List.range'_concat
def Yk:= @List.range'_succ
def cj:= @List.replicate_succ
def DV:= @List.set_cons_succ
def lV:= @List.set_eq_take_append_cons_drop
def xQ:= @List.sum_cons
def Oq:= @List.take_add_one
def QL:= @List.take_length
def Ea:= @List.take_of_length_le
def Rw:= @List.take_succ_cons
def om:= @List.take_zero
def Qp:= @Nat.add_assoc
def rX:= @Nat.add_mul
def Ln:= @Nat.add_zero
def UL:= @Nat.le_max_left
def YK:= @Nat.le_max_right
def nh:= @Nat.le_refl
def ZY:= @Nat.le_succ
def fm:= @Nat.le_trans
def TZ:= @Nat.lt_irrefl
def yz:= @Nat.lt_of_lt_of_le
def N2:= @Nat.lt_or_ge
def Wc:= @Nat.max_eq_left
def KS:= @Nat.max_eq_right
def Vi:= @Nat.min_eq_left
def Li:= @Nat.mul_comm
def DX:= @Nat.mul_le_mul_left
def rB:= @Nat.mul_le_mul_right
def SZ:= @Nat.one_mul
def IZ:= @Nat.sub_self
def kR:= @Nat.sub_zero
def Vb:= @Nat.succ_mul
def Fy:= @Nat.zero_add
def ji:= @Nat.zero_le
def PJ:= @Nat.zero_lt_one
def Mu:= @Ne.symm
def X4:= @Option.bind_eq_some_iff
def wA:= @Option.bind_some
def EO:= @Option.getD_none
def M0:= @Option.getD_some
def wT:= @Option.isSome_iff_exists
def S8:= @Option.isSome_none
def zf:= @Option.map_eq_some_iff
def zC:= @Option.map_none
def lT:= @Option.map_some
def BQ:= @Option.some.inj
def Lo:= @Option.some.injEq
def Mg:= @Option.toList_none
def ZP:= @Prod.mk.injEq
end Go.Fx
section
namespace Go.Fx
inductive PV where
 |i (k:IntKind) (n:Int)
 |b (x:Bool)
 |s (x:List UInt8)
 |l (rows:List (List PV))
inductive PT where
 |z
 |a (x:PV)
 |g (cs:List PV)
 |t (vs:List (Bool×List PV))
abbrev Key:=Nat×Nat
inductive AV where
 |p (v:PV)
 |nil
 |ptr (s:Key) (i j:Nat)
 |cptr (row:List PV) (j:Nat)
 |own (s:Key) (off len:Nat)
 |fn (f:FuncId) (caps:List Key)
 |yl (l:Nat)
 |raw (v:Value)
 |mp (s:Key)
inductive TV where
 |u
 |a (x:AV)
 |g (cs:List AV)
 |t (vs:List (Bool×List AV))
inductive Blk where
 |var (cs:List AV)
 |row (k e:Nat) (rows:List (List PV))
 |map (k:Nat) (ks:List Int)
inductive X where
 |t (n:Nat)
 |c (v:TV)
 |f (f:FuncId)
inductive O where
 |mv (x:X)
 |pick (c a b:X)
 |new (z:List AV)
 |box (n:Nat) (x:X)
 |build (z:List AV) (ps:List (Nat×Nat×X))
 |bsl (k e:Nat) (z:List AV) (len:Nat) (ps:List (Nat×X))
 |ld (n:Nat) (g:Bool) (a:X)
 |st (n:Nat) (a x:X)
 |nck (x:X)
 |bin (op:BinOp) (x y:X)
 |eqb (neg:Bool) (x y:X)
 |eqg (neg:Bool) (sh:List Nat) (x y:X)
 |nq (neg:Bool) (x:X)
 |not (x:X)
 |neg (x:X)
 |cvi (k:IntKind) (x:X)
 |cvs (x:X)
 |fn (f:FuncId) (caps:List X)
 |msl (k e bytes:Nat) (z:List AV) (len cap:X)
 |mslF (k e bytes:Nat) (z:List AV) (len cap:X)
 |slc (k e:Nat) (x:X) (lo hi mx:Option X)
 |sub (x:X) (lo hi:Option X)
 |fad (off:Nat) (x:X)
 |fld (off n:Nat) (g:Bool) (x:X)
 |ias (k:Nat) (x ix:X)
 |iaa (len k:Nat) (x ix:X)
 |ixs (x ix:X)
 |ixa (len k:Nat) (g:Bool) (x ix:X)
 |ext (x:X) (i:Nat)
 |len (str:Bool) (x:X)
 |app (k e bytes:Nat) (x y:X)
 |mx (x y:X)
 |mn (x y:X)
 |call (f:X) (args:List X)
 |mpt (k:Nat) (m x v:X)
inductive Cls where
 |any|rd|ad
 |wr (ts:List Nat)
 |cl (ys:List (Nat×Nat)) (ns:List Nat)
structure Ins where
 dst:Option Nat
 gd:Option (Nat×Bool)
 op:O
 cl:Cls:=.any
inductive Ex where
 |norm
 |exit (id:Nat)
 |ret
 deriving DecidableEq
inductive C where
 |skip
 |reg (ops:List Ins)
 |seq (a b:C)
 |cond (x:X) (a b:C)
 |block (id:Nat) (c:C)
 |loop (c:C)
 |exit (id:Nat)
 |ret
 |rng (f:X) (params:List Nat) (assign body:C)
 |fz (ts:List Nat) (c:C)
inductive Rs where
 |tmp (t:Nat)
 |cell (t n:Nat) (g:Bool)
structure FnC where
 np:Nat
 body:C
 res:List Rs
abbrev Env:=Nat→TV
def Env.put(e:Env)(n:Nat)(v:TV):Env:=fun m=>if m=n then v else e m
def Env.putD(e:Env)(d:Option Nat)(v:TV):Env:=match d with|some n=>e.put n v|none=>e
def Env.init(args:List TV):Env:=fun n=>args.getD n .u
inductive LSt where
 |ready|busy|done|gone
 deriving DecidableEq
structure LRec where
 env:Env
 params:List Nat
 assign:C
 body:C
 st:LSt
 pend:Option Ex
structure St where
 bs:Key→Option Blk
 ls:List LRec
 clk:Nat
def St.empty:St:=⟨fun _=>none,[],0⟩
def St.put(σ:St)(s:Key)(b:Blk):St:={σ with bs:=fun t=>if t=s then some b else σ.bs t}
def St.kill(σ:St)(s:Key):St:={σ with bs:=fun t=>if t=s then none else σ.bs t}
def St.add(σ:St)(d:Nat)(b:Blk):St:={(σ.put (d,σ.clk) b)with clk:=σ.clk+1}
def ev(e:Env):X→TV
 | .t n=>e n
 | .c v=>v
 | .f f=>.a (.fn f [])
def zd:Value→Option PV
 | .slice _ 0 _=>some (.l [])
 |_=>none
def frA(σ:St):AV→Option PV
 | .p v=>some v
 | .nil=>some (.l [])
 | .own s off len=>match σ.bs s with
   |some (.row _ _ rows)=>if off+len≤rows.length then some (.l ((rows.drop off).take len))else none
   |_=>none
 | .raw v=>zd v
 |_=>none
def frL(σ:St):List AV→Option (List PV)
 |[]=>some []
 |x::r=>(frA σ x).bind fun v=>(frL σ r).bind fun w=>some (v::w)
def frV(σ:St):List (Bool×List AV)→Option (List (Bool×List PV))
 |[]=>some []
 |x::r=>(frL σ x.2).bind fun v=>(frV σ r).bind fun w=>some ((x.1,v)::w)
def frT(σ:St):TV→Option PT
 | .u=>some .z
 | .a x=>(frA σ x).bind fun v=>some (.a v)
 | .g cs=>(frL σ cs).bind fun v=>some (.g v)
 | .t vs=>(frV σ vs).bind fun v=>some (.t v)
def Kt(σ:St):List TV→Option (List PT)
 |[]=>some []
 |x::r=>(frT σ x).bind fun v=>(Kt σ r).bind fun w=>some (v::w)
def klA(σ:St):AV→St
 | .own s _ _=>σ.kill s
 |_=>σ
def klL(σ:St):List AV→St
 |[]=>σ
 |x::r=>klL (klA σ x) r
def klV(σ:St):List (Bool×List AV)→St
 |[]=>σ
 |x::r=>klV (klL σ x.2) r
def klT(σ:St):TV→St
 | .u=>σ
 | .a x=>klA σ x
 | .g cs=>klL σ cs
 | .t vs=>klV σ vs
def KW(σ:St):List TV→St
 |[]=>σ
 |x::r=>KW (klT σ x) r
def cV:PT→TV
 | .z=>.u
 | .a v=>.a (.p v)
 | .g cs=>.g (cs.map .p)
 | .t vs=>.t (vs.map fun x=>(x.1,x.2.map .p))
def PV.flat:PV→Bool
 | .l _=>false
 |_=>true
def PT.flat:PT→Bool
 | .z=>true
 | .a v=>v.flat
 | .g cs=>cs.all PV.flat
 | .t vs=>vs.all fun x=>x.2.all PV.flat
def MQ:AV→Bool
 | .own _ _ _=>true
 |_=>false
def PZ:TV→Bool
 | .u=>false
 | .a x=>MQ x
 | .g cs=>cs.any MQ
 | .t vs=>vs.any fun x=>x.2.any MQ
def mE(op:BinOp)(x y:PV):Option PV:=
 match x,y with
 | .i k a,.i k' c=>
   if k=k' then
    match op with
    | .add=>some (.i k (k.wrap (a+c)))
    | .sub=>some (.i k (k.wrap (a-c)))
    | .mul=>some (.i k (k.wrap (a*c)))
    | .quo=>if c=0 then none else some (.i k (k.wrap (a.tdiv c)))
    | .rem=>if c=0 then none else some (.i k (a.tmod c))
    | .eql=>some (.b (decide (a=c)))
    | .neq=>some (.b (!decide (a=c)))
    | .lss=>some (.b (decide (a<c)))
    | .leq=>some (.b (decide (a≤c)))
    | .gtr=>some (.b (decide (a>c)))
    | .geq=>some (.b (decide (a≥c)))
    |_=>none
   else none
 | .s a,.s c=>
   match op with
   | .add=>if a.length+c.length≤9223372036854775807 then some (.s (a++c))else none
   | .eql=>some (.b (decide (a=c)))
   | .neq=>some (.b (!decide (a=c)))
   |_=>none
 |_,_=>none
def oz:List Nat→List AV→List AV→Option Bool
 |[],[],[]=>some true
 |0::s,.p (.i k a)::r,.p (.i k' c)::r'=>if k=k' then(oz s r r').bind fun x=>some (decide (a=c)&&x)else none
 |1::s,.p (.s a)::r,.p (.s c)::r'=>(oz s r r').bind fun x=>some (decide (a=c)&&x)
 |2::s,.p (.b a)::r,.p (.b c)::r'=>(oz s r r').bind fun x=>some (decide (a=c)&&x)
 |_,_,_=>none
def mkT(g:Bool)(cs:List AV):Option TV:=
 if g then some (.g cs)else match cs with|[x]=>some (.a x)|_=>none
def cM(σ:St)(n:Nat):AV→Option (List AV)
 | .ptr s i j=>match σ.bs s with
   |some (.var cs)=>if i=0∧j+n≤cs.length then some ((cs.drop j).take n)else none
   |some (.row _ _ rows)=>match rows[i]? with
    |some r=>if j+n≤r.length then some (((r.drop j).take n).map .p)else none
    |none=>none
   |_=>none
 | .cptr r j=>if j+n≤r.length then some (((r.drop j).take n).map .p)else none
 |_=>none
def dV:TV→Option (List AV)
 | .a x=>some [x]
 | .g cs=>some cs
 |_=>none
def over{α:Type}(cs:List α)(j:Nat)(vs:List α):List α:=cs.take j++vs++cs.drop (j+vs.length)
def I2(e:Env)(z:List AV):List (Nat×Nat×X)→Option (List AV)
 |[]=>some z
 |(off,size,x)::r=>(dV (ev e x)).bind fun vs=>if vs.length=size∧off+size≤z.length then I2 e (over z off vs) r else none
def lenA:Bool→AV→Option Nat
 |false,.p (.l rows)=>some rows.length
 |true,.p (.s x)=>some x.length
 |false,.nil=>some 0
 |false,.own _ _ len=>some len
 |_,_=>none
def B2(σ:St)(x:AV):Option (List (List PV)):=
 match frA σ x with
 |some (.l rows)=>some rows
 |_=>none
def mO:TV→Option Int
 | .a (.p (.i _ n))=>some n
 |_=>none
def bz(rows:List (List PV))(lo hi:Int):Option (List (List PV)):=
 if 0≤lo∧lo≤hi∧hi≤rows.length then some ((rows.drop lo.toNat).take (hi.toNat-lo.toNat))else none
def Bp(e:Env)(x:Option X)(d:Int):Option Int:=
 match x with
 |none=>some d
 |some x=>mO (ev e x)
def Ci(σ:St)(s:Key):Option Nat:=
 match σ.bs s with
 |some (.row k _ _)=>some k
 |_=>none
def Wk(e:Env):List X→Option (List Key)
 |[]=>some []
 |x::r=>match ev e x with
  | .a (.ptr s 0 0)=>(Wk e r).bind fun ks=>some (s::ks)
  |_=>none
def bytesOf:List (List PV)→Option (List UInt8)
 |[]=>some []
 |[.i .u8 n]::r=>(bytesOf r).bind fun bs=>some (UInt8.ofNat n.toNat::bs)
 |_=>none
def xY:AV→Option Bool
 | .nil=>some true
 | .p (.l (_::_))=>some false
 | .raw (.slice a _ _)=>some a.isNone
 |_=>none
def evR(cp:FuncId→List PT→Option PT)(sp:FuncId→Bool)(e:Env)(σ:St):O→Option TV
 | .mv x=>some (ev e x)
 | .pick c a b=>match ev e c with
   | .a (.p (.b t))=>some (if t then ev e a else ev e b)
   |_=>none
 | .build z ps=>(I2 e z ps).bind fun cs=>some (.g cs)
 | .ld n g a=>match ev e a with
   | .a x=>(cM σ n x).bind (mkT g)
   |_=>none
 | .nck x=>match ev e x with
   | .a (.ptr s i j)=>some (.a (.ptr s i j))
   | .a (.cptr r j)=>some (.a (.cptr r j))
   |_=>none
 | .bin op x y=>match ev e x,ev e y with
   | .a (.p a),.a (.p c)=>(mE op a c).bind fun v=>some (.a (.p v))
   |_,_=>none
 | .eqb neg x y=>match ev e x,ev e y with
   | .a (.p (.b a)),.a (.p (.b c))=>some (.a (.p (.b (if neg then !decide (a=c)else decide (a=c)))))
   |_,_=>none
 | .eqg neg sh x y=>match ev e x,ev e y with
   | .g a,.g c=>(oz sh a c).bind fun v=>some (.a (.p (.b (if neg then !v else v))))
   |_,_=>none
 | .nq neg x=>match ev e x with
   | .a x=>(xY x).bind fun t=>some (.a (.p (.b (if neg then !t else t))))
   |_=>none
 | .not x=>match ev e x with
   | .a (.p (.b a))=>some (.a (.p (.b !a)))
   |_=>none
 | .neg x=>match ev e x with
   | .a (.p (.i k a))=>some (.a (.p (.i k (k.wrap (0-a)))))
   |_=>none
 | .cvi k x=>match ev e x with
   | .a (.p (.i _ a))=>some (.a (.p (.i k (k.wrap a))))
   |_=>none
 | .fn f caps=>(Wk e caps).bind fun ks=>some (.a (.fn f ks))
 | .cvs x=>match ev e x with
   | .a y=>(B2 σ y).bind fun rows=>(bytesOf rows).bind fun bs=>some (.a (.p (.s bs)))
   |_=>none
 | .sub x lo hi=>match ev e x with
   | .a (.p (.s b))=>(Bp e lo 0).bind fun l=>(Bp e hi b.length).bind fun h=>
     if 0≤l∧l≤h∧h≤b.length then some (.a (.p (.s ((b.drop l.toNat).take (h.toNat-l.toNat)))))else none
   |_=>none
 | .slc k _ x lo hi none=>match ev e x with
   | .a (.own s off len)=>(Bp e lo 0).bind fun l=>(Bp e hi len).bind fun h=>
     if 0≤l∧l≤h∧h≤len∧Ci σ s=some k then some (.a (.own s (off+l.toNat) (h.toNat-l.toNat)))else none
   | .a (.p (.l rows))=>(Bp e lo 0).bind fun l=>(Bp e hi rows.length).bind fun h=>
     (bz rows l h).bind fun r=>if rows.all (fun r=>r.length=k)then some (.a (.p (.l r)))else none
   | .a .nil=>(Bp e lo 0).bind fun l=>(Bp e hi 0).bind fun h=>if l=0∧h=0 then some (.a .nil)else none
   |_=>none
 | .fad off x=>match ev e x with
   | .a (.ptr s i j)=>some (.a (.ptr s i (j+off)))
   | .a (.cptr r j)=>some (.a (.cptr r (j+off)))
   |_=>none
 | .fld off n g x=>match ev e x with
   | .g cs=>if off+n≤cs.length then mkT g ((cs.drop off).take n)else none
   |_=>none
 | .ias k x ix=>match ev e x,mO (ev e ix)with
   | .a (.own s off len),some i=>if 0≤i∧i<len∧Ci σ s=some k then some (.a (.ptr s (off+i.toNat) 0))else none
   | .a (.p (.l rows)),some i=>if 0≤i∧i<rows.length then
     match rows[i.toNat]? with
     |some r=>if r.length=k∧rows.all (fun r=>r.length=k)then some (.a (.cptr r 0))else none
     |none=>none
     else none
   |_,_=>none
 | .iaa len k x ix=>match ev e x,mO (ev e ix)with
   | .a (.ptr s i j),some n=>if 0≤n∧n<len then some (.a (.ptr s i (j+n.toNat*k)))else none
   | .a (.cptr r j),some n=>if 0≤n∧n<len then some (.a (.cptr r (j+n.toNat*k)))else none
   |_,_=>none
 | .ixs x ix=>match ev e x,mO (ev e ix)with
   | .a (.p (.s b)),some i=>if 0≤i then match b[i.toNat]? with
     |some c=>some (.a (.p (.i .u8 c.toNat)))
     |none=>none
     else none
   |_,_=>none
 | .ixa len k g x ix=>match ev e x,mO (ev e ix)with
   | .g cs,some i=>if 0≤i∧i<len∧i.toNat*k+k≤cs.length then mkT g ((cs.drop (i.toNat*k)).take k)else none
   |_,_=>none
 | .ext x i=>match ev e x with
   | .t vs=>match vs[i]? with
     |some (g,cs)=>mkT g cs
     |none=>none
   |_=>none
 | .len str x=>match ev e x with
   | .a y=>(lenA str y).bind fun n=>some (.a (.p (.i .i64 n)))
   |_=>none
 | .mx x y=>match ev e x,ev e y with
   | .a (.p (.i k a)),.a (.p (.i k' c))=>if k=k' then some (.a (.p (.i k (if c>a then c else a))))else none
   |_,_=>none
 | .mn x y=>match ev e x,ev e y with
   | .a (.p (.i k a)),.a (.p (.i k' c))=>if k=k' then some (.a (.p (.i k (if c<a then c else a))))else none
   |_,_=>none
 | .call f args=>match ev e f with
   | .a (.fn g [])=>if sp g then none else(Kt σ (args.map (ev e))).bind fun ps=>(cp g ps).bind fun r=>
     if r.flat|| !(args.map (ev e)).any PZ then some (cV r)else none
   |_=>none
 |_=>none
inductive Cal where
 |f (f:FuncId)
 |y (l:Nat)
def evO(cp:FuncId→List PT→Option PT)(cs:Cal→List TV→St→Option (TV×St))(sp:FuncId→Bool)(d:Option Nat)(e:Env)(σ:St):O→Option (TV×St)
 | .new z=>match d with
   |some d=>some (.a (.ptr (d,σ.clk) 0 0),σ.add d (.var z))
   |none=>none
 | .box n x=>match d,dV (ev e x)with
   |some d,some vs=>if vs.length=n then some (.a (.ptr (d,σ.clk) 0 0),σ.add d (.var vs))else none
   |_,_=>none
 | .bsl k el z len ps=>match d with
   |some d=>(frL σ z).bind fun z=>(bslRows e σ k (List.replicate len z) ps).bind fun x=>
     some (.a (.own (d,x.2.clk) 0 len),x.2.add d (.row k el x.1))
   |none=>none
 | .msl k el bytes z len cap=>match d,mO (ev e len),mO (ev e cap)with
   |some d,some l,some c=>if 0≤l∧l≤c∧c*bytes≤140737488355328 then
     (frL σ z).bind fun z=>some (.a (.own (d,σ.clk) 0 l.toNat),σ.add d (.row k el (List.replicate l.toNat z)))
    else none
   |_,_,_=>none
 | .mslF k el bytes z len cap=>match d,mO (ev e len),mO (ev e cap)with
   |some d,some l,some c=>if 0≤l∧l≤c∧c*bytes≤140737488355328 then
     (frL σ z).bind fun z=>some (.a (.p (.l (List.replicate l.toNat z))),(σ.add d (.row k el (List.replicate l.toNat z))).kill (d,σ.clk))
    else none
   |_,_,_=>none
 | .st n a x=>match ev e a,dV (ev e x)with
   | .a (.ptr s i j),some vs=>if vs.length=n then
     match σ.bs s with
     |some (.var cs)=>if i=0∧j+n≤cs.length then some (.u,σ.put s (.var (over cs j vs)))else none
     |some (.row k el rows)=>match rows[i]?,frL σ vs with
      |some r,some ws=>if j+n≤r.length∧vs.all (fun v=>match v with| .own t _ _=>t≠s|_=>true)then
        some (.u,(klL σ vs).put s (.row k el (rows.set i (over r j ws))))else none
      |_,_=>none
     |_=>none
     else none
   |_,_=>none
 | .slc k el x lo hi (some mx)=>match d,Bp e lo 0,(hi.map (ev e)).bind mO,mO (ev e mx),ev e x with
   |some d,some 0,some 0,some 0,.a (.p (.l _))=>some (.a (.own (d,σ.clk) 0 0),σ.add d (.row k el []))
   |some d,some 0,some 0,some 0,.a (.own _ _ _)=>some (.a (.own (d,σ.clk) 0 0),σ.add d (.row k el []))
   |some d,some 0,some 0,some 0,.a .nil=>some (.a (.own (d,σ.clk) 0 0),σ.add d (.row k el []))
   |_,_,_,_,_=>none
 | .app k el bytes x y=>match d,ev e x,ev e y with
   |some d,.a .nil,.a y=>(B2 σ y).bind fun ns=>
     if ns.length*bytes≤140737488355328∧ns.all (fun r=>r.length=k)then some (.a (.own (d,σ.clk) 0 ns.length),σ.add d (.row k el ns))else none
   |some d,.a (.own s off len),.a y=>match σ.bs s,B2 σ y with
    |some (.row k' el' rows),some ns=>
     if off=0∧k'=k∧el'=el∧len≤rows.length∧(len+ns.length)*bytes≤140737488355328∧ns.all (fun r=>r.length=k)then
      some (.a (.own (d,σ.clk) 0 (len+ns.length)),(σ.kill s).add d (.row k el (rows.take len++ns)))
     else none
    |_,_=>none
   |_,_,_=>none
 | .call f args=>match ev e f with
   | .a (.fn g caps)=>
     let vs:=args.map (ev e)
     if sp g then cs (.f g) (vs++caps.map fun s=>.a (.ptr s 0 0)) σ
     else match caps,Kt σ vs with
      |[],some ps=>(cp g ps).bind fun r=>some (cV r,if r.flat then σ else KW σ vs)
      |_,_=>cs (.f g) (vs++caps.map fun s=>.a (.ptr s 0 0)) σ
   | .a (.yl l)=>cs (.y l) (args.map (ev e)) σ
   |_=>none
 | .mpt k m x v=>match ev e m,ev e x,ev e v with
   | .a (.mp s),.a (.p (.i .i64 n)),.g []=>match σ.bs s with
     |some (.map k' ks)=>if k'=k∧ks.length<140737488355328∧-9223372036854775808≤n∧n≤9223372036854775807 then some (.u,σ.put s (.map k (n::ks)))else none
     |_=>none
   |_,_,_=>none
 |o=>(evR cp sp e σ o).bind fun v=>some (v,σ)
where
 bslRows (e:Env) (σ:St) (k:Nat) (rows:List (List PV)):List (Nat×X)→Option (List (List PV)×St)
  |[]=>some (rows,σ)
  |(i,x)::r=>(dV (ev e x)).bind fun vs=>(frL σ vs).bind fun ws=>
     if ws.length=k∧i<rows.length then bslRows e (klL σ vs) k (rows.set i ws) r else none
def O.adds(e:Env):O→Bool
 | .new _| .box _ _| .msl .. | .mslF .. =>true
 | .bsl _ _ _ _ ps=>ps.all fun x=> !PZ (ev e x.2)
 |_=>false
def J8:AV→List Key
 | .ptr s _ _=>[s]
 | .own s _ _=>[s]
 | .mp s=>[s]
 |_=>[]
def yQ:TV→List Key
 | .u=>[]
 | .a x=>J8 x
 | .g cs=>cs.flatMap J8
 | .t vs=>vs.flatMap fun x=>x.2.flatMap J8
def eh(e:Env)(σ:St)(o:O)(ts:List Nat):Bool:=
 match o with
 | .st _ a _=>match ev e a with
   | .a (.ptr s _ _)=>match σ.bs s with
     |some (.var _)=>ts.all fun t=>(yQ (e t)).all fun k=>decide (k≠s)
     |_=>false
   |_=>false
 |_=>false
mutual
def sameP:PV→PV→Bool
 | .i k n,.i k' n'=>decide (k=k')&&decide (n=n')
 | .b x,.b y=>decide (x=y)
 | .s x,.s y=>decide (x=y)
 | .l x,.l y=>sameRR x y
 |_,_=>false
def sameR:List PV→List PV→Bool
 |[],[]=>true
 |x::xs,y::ys=>sameP x y&&sameR xs ys
 |_,_=>false
def sameRR:List (List PV)→List (List PV)→Bool
 |[],[]=>true
 |x::xs,y::ys=>sameR x y&&sameRR xs ys
 |_,_=>false
end
mutual
theorem sameP_rfl:∀a:PV,sameP a a=true
 | .i k n=>by simp[sameP]
 | .b x=>by simp[sameP]
 | .s x=>by simp[sameP]
 | .l x=>by rw[sameP];exact sameRR_rfl x
theorem sameR_rfl:∀a:List PV,sameR a a=true
 |[]=>by simp[sameR]
 |x::xs=>by rw[sameR,sameP_rfl x,sameR_rfl xs];rfl
theorem sameRR_rfl:∀a:List (List PV),sameRR a a=true
 |[]=>by simp[sameRR]
 |x::xs=>by rw[sameRR,sameR_rfl x,sameRR_rfl xs];rfl
end
mutual
theorem sameP_eq:∀{a b:PV},sameP a b=true→a=b
 | .i k n,.i k' n',h=>by simp only[sameP,Cd,decide_eq_true_eq]at h;rw[h.1,h.2]
 | .b x,.b y,h=>by simp only[sameP,decide_eq_true_eq]at h;rw[h]
 | .s x,.s y,h=>by simp only[sameP,decide_eq_true_eq]at h;rw[h]
 | .l x,.l y,h=>by rw[sameP]at h;rw[sameRR_eq h]
 | .i ..,.b ..,h| .i ..,.s ..,h| .i ..,.l ..,h| .b ..,.i ..,h| .b ..,.s ..,h| .b ..,.l ..,h| .s ..,.i ..,h| .s ..,.b ..,h| .s ..,.l ..,h| .l ..,.i ..,h| .l ..,.b ..,h| .l ..,.s ..,h=>by simp[sameP]at h
theorem sameR_eq:∀{a b:List PV},sameR a b=true→a=b
 |[],[],_=>rfl
 |x::xs,y::ys,h=>by
  rw[sameR,Cd]at h
  rw[sameP_eq h.1,sameR_eq h.2]
 |[],_::_,h=>by simp[sameR]at h
 |_::_,[],h=>by simp[sameR]at h
theorem sameRR_eq:∀{a b:List (List PV)},sameRR a b=true→a=b
 |[],[],_=>rfl
 |x::xs,y::ys,h=>by
  rw[sameRR,Cd]at h
  rw[sameR_eq h.1,sameRR_eq h.2]
 |[],_::_,h=>by simp[sameRR]at h
 |_::_,[],h=>by simp[sameRR]at h
end
def Vr:AV→AV→Bool
 | .p v,.p w=>sameP v w
 | .nil,.nil=>true
 | .ptr s i j,.ptr s' i' j'=>decide (s=s')&&decide (i=i')&&decide (j=j')
 | .own s o l,.own s' o' l'=>decide (s=s')&&decide (o=o')&&decide (l=l')
 |_,_=>false
def zD:List AV→List AV→Bool
 |[],[]=>true
 |x::xs,y::ys=>Vr x y&&zD xs ys
 |_,_=>false
def Dv:Option (List AV)→Option (List AV)→Bool
 |none,none=>true
 |some x,some y=>zD x y
 |_,_=>false
def jP(σ σ':St):TV→Bool
 | .a (.own s _ _)=>decide (Ci σ s=Ci σ' s)
 |_=>true
def Nl(σ σ':St)(n:Nat):TV→Bool
 | .a x=>Dv (cM σ n x) (cM σ' n x)
 |_=>true
def aV(e:Env)(σ σ':St)(y:Nat×Nat):Bool:=if y.1=0 then jP σ σ' (e y.2)else Nl σ σ' y.1 (e y.2)
def pV(e:Env)(σ σ':St)(d:Nat):Bool:=
 match e d with
 | .a (.ptr s 0 0)=>match σ.bs s,σ'.bs s with
   |some (.var z),some (.var z')=>zD z z'
   |_,_=>false
 |_=>false
def Of(e:Env)(σ σ':St)(ys:List (Nat×Nat))(ns:List Nat):Bool:=ys.all (aV e σ σ')&&ns.all (pV e σ σ')
def evI(cp:FuncId→List PT→Option PT)(cs:Cal→List TV→St→Option (TV×St))(sp:FuncId→Bool)(i:Ins)(e:Env)(σ:St):Option (Env×St):=
 let run:Option (Env×St):=
  match i.cl with
  | .rd=>(evR cp sp e σ i.op).bind fun v=>some (e.putD i.dst v,σ)
  | .any=>(evO cp cs sp i.dst e σ i.op).bind fun x=>some (e.putD i.dst x.1,x.2)
  | .ad=>if i.op.adds e then(evO cp cs sp i.dst e σ i.op).bind fun x=>some (e.putD i.dst x.1,x.2)else none
  | .wr ts=>if eh e σ i.op ts then(evO cp cs sp i.dst e σ i.op).bind fun x=>some (e.putD i.dst x.1,x.2)else none
  | .cl ys ns=>(evO cp cs sp i.dst e σ i.op).bind fun x=>if Of e σ x.2 ys ns then some (e.putD i.dst x.1,x.2)else none
 match i.gd with
 |none=>run
 |some (t,w)=>match e t with
  | .a (.p (.b x))=>if x=w then run else some (e.putD i.dst .u,σ)
  | .u=>some (e.putD i.dst .u,σ)
  |_=>none
def wz(cp:FuncId→List PT→Option PT)(cs:Cal→List TV→St→Option (TV×St))(sp:FuncId→Bool):List Ins→Env→St→Option (Env×St)
 |[],e,σ=>some (e,σ)
 |i::r,e,σ=>(evI cp cs sp i e σ).bind fun x=>wz cp cs sp r x.1 x.2
def rE(f:Env→St→Option (Ex×Env×St)):Nat→Env→St→Option (Ex×Env×St)
 |0,_,_=>none
 |n+1,e,σ=>(f e σ).bind fun x=>match x.1 with
  | .norm=>rE f n x.2.1 x.2.2
  |_=>some x
def ud(σ:St)(l:Nat)(r:LRec):St:={σ with ls:=σ.ls.set l r}
def fz1(σ:St):TV→Option St
 | .a (.ptr s 0 0)=>match σ.bs s with
   |some (.var cs)=>if cs.all (fun x=>match x with| .own t _ _=>decide (t≠s)|_=>true)then(frL σ cs).bind fun ps=>some ((klL σ cs).put s (.var (ps.map .p)))else none
   |_=>none
 |_=>none
def fzS(e:Env):List Nat→St→Option St
 |[],σ=>some σ
 |t::ts,σ=>(fz1 σ (e t)).bind fun σ'=>fzS e ts σ'
def MA:C→C
 | .fz _ c=>MA c
 | .seq a b=>.seq (MA a) (MA b)
 | .cond x a b=>.cond x (MA a) (MA b)
 | .block id c=>.block id (MA c)
 | .loop c=>.loop (MA c)
 | .rng f ps a b=>.rng f ps (MA a) (MA b)
 | .skip=>.skip
 | .reg ops=>.reg ops
 | .exit id=>.exit id
 | .ret=>.ret
def lH(f:FnC):FnC:={f with body:=MA f.body}
def evC(cp:FuncId→List PT→Option PT)(cs:Cal→List TV→St→Option (TV×St))(sp:FuncId→Bool)(n:Nat)(rd:Bool):C→Env→St→Option (Ex×Env×St)
 | .skip,e,σ=>some (.norm,e,σ)
 | .reg ops,e,σ=>(wz cp cs sp ops e σ).bind fun x=>some (.norm,x.1,x.2)
 | .seq a b,e,σ=>(evC cp cs sp n rd a e σ).bind fun x=>match x.1 with
   | .norm=>evC cp cs sp n rd b x.2.1 x.2.2
   |_=>some x
 | .cond x a b,e,σ=>match ev e x with
   | .a (.p (.b t))=>if t then evC cp cs sp n rd a e σ else evC cp cs sp n rd b e σ
   |_=>none
 | .block id c,e,σ=>(evC cp cs sp n rd c e σ).bind fun x=>some (if x.1= .exit id then .norm else x.1,x.2.1,x.2.2)
 | .loop c,e,σ=>rE (evC cp cs sp n rd c) n e σ
 | .exit id,e,σ=>some (.exit id,e,σ)
 | .ret,e,σ=>some (.ret,e,σ)
 | .fz ts c,e,σ=>(fzS e ts σ).bind fun σ'=>evC cp cs sp n rd c e σ'
 | .rng f params assign body,e,σ=>
   if rd then none else match ev e f with
   | .a (.fn g caps)=>
     (cs (.f g) (.a (.yl σ.ls.length)::caps.map fun s=>.a (.ptr s 0 0)) {σ with ls:=σ.ls++[{env:=e,params,assign,body,st:=.ready,pend:=none}]}).bind fun x=>
      match x.2.ls[σ.ls.length]? with
      |some r=>if r.st= .busy then none else some (r.pend.getD .norm,e,ud x.2 σ.ls.length {r with st:=.gone})
      |none=>none
   |_=>none
def J9(e:Env):List Nat→List TV→Env
 |p::ps,v::vs=>J9 (e.put p v) ps vs
 |_,_=>e
def evY(cp:FuncId→List PT→Option PT)(cs:Cal→List TV→St→Option (TV×St))(sp:FuncId→Bool)(n:Nat)(l:Nat)(args:List TV)(σ:St):Option (TV×St):=
 match σ.ls[l]? with
 |some r=>if args.length=r.params.length then
   (evC cp cs sp n true r.assign (J9 r.env r.params args) σ).bind fun x=>if x.1= .norm then
    match x.2.2.ls[l]? with
    |some r1=>if r1.st= .ready then
      (evC cp cs sp n true r.body x.2.1 (ud x.2.2 l {r1 with st:=.busy})).bind fun y=>
       match y.2.2.ls[l]? with
       |some r2=>if y.1= .norm then some (.a (.p (.b true)),ud y.2.2 l {r2 with st:=.ready,pend:=none})
        else some (.a (.p (.b false)),ud y.2.2 l {r2 with st:=.done,pend:=some y.1})
       |none=>none
     else none
    |none=>none
   else none
  else none
 |none=>none
def JC(e:Env)(σ:St):Rs→Option (Bool×List AV)
 | .tmp t=>match e t with
   | .a x=>some (false,[x])
   | .g cs=>some (true,cs)
   |_=>none
 | .cell t n g=>match e t with
   | .a x=>(cM σ n x).bind fun cs=>(mkT g cs).bind fun _=>some (g,cs)
   |_=>none
def EP(e:Env)(σ:St):List Rs→Option (List (Bool×List AV))
 |[]=>some []
 |r::rs=>(JC e σ r).bind fun v=>(EP e σ rs).bind fun w=>some (v::w)
def O2(vs:List (Bool×List AV)):Option TV:=
 match vs with
 |[]=>some .u
 |[(g,cs)]=>mkT g cs
 |vs=>some (.t vs)
structure Seat where
 fb:FuncId→Option FnC
 sp:FuncId→Bool
 orc:FuncId→List PT→Option PT
variable(S:Seat)
mutual
def evS:Nat→Cal→List TV→St→Option (TV×St)
 |0,_,_,_=>none
 |k+1,.f g,args,σ=>match S.fb g with
  |some fc=>if args.length=fc.np then
    (evC (evP k) (evS k) S.sp k false fc.body (Env.init args) σ).bind fun x=>
     if x.1= .norm∨x.1= .ret then(EP x.2.1 x.2.2 fc.res).bind fun vs=>(O2 vs).bind fun v=>some (v,x.2.2)else none
   else none
  |none=>none
 |k+1,.y l,args,σ=>evY (evP k) (evS k) S.sp k l args σ
def evP:Nat→FuncId→List PT→Option PT
 |0,_,_=>none
 |k+1,f,ps=>match S.orc f ps with
  |some r=>some r
  |none=>(evS k (.f f) (ps.map cV) .empty).bind fun x=>frT x.2 x.1
end
end Go.Fx
namespace Go.Fx
def Le{α:Type}(a b:Option α):Prop:=∀x,a=some x→b=some x
theorem Le.refl{α:Type}(a:Option α):Le a a:=fun _ h=>h
theorem Le.trans{α:Type}{a b c:Option α}(h:Le a b)(k:Le b c):Le a c:=fun x hx=>k x (h x hx)
theorem Le.bind{α β:Type}{a b:Option α}{f g:α→Option β}(h:Le a b)(hf:∀x,Le (f x) (g x)):Le (a.bind f) (b.bind g):=by
 intro x hx
 cases ha:a with
 |none=>rw[ha]at hx;simp at hx
 |some y=>
  rw[ha]at hx;simp only[wA]at hx
  rw[h y ha];simp only[wA];exact hf y x hx
structure Lim{α:Type}(a:Option α)(s:Nat→Option α):Prop where
 up:∀k,Le (s k) (s (k+1))
 ex:∀x,a=some x→∃k,s k=some x
theorem Lim.mono{α:Type}{a:Option α}{s:Nat→Option α}(h:Lim a s){j k:Nat}(hjk:j≤k):Le (s j) (s k):=by
 induction hjk with
 |refl=>exact Le.refl _
 |step _ ih=>exact ih.trans (h.up _)
theorem Lim.const{α:Type}(a:Option α):Lim a (fun _=>a):=⟨fun _=>Le.refl _,fun _ h=>⟨0,h⟩⟩
theorem Lim.bind{α β:Type}{a:Option α}{s:Nat→Option α}{f:α→Option β}{g:Nat→α→Option β}(h:Lim a s)(hf:∀x,Lim (f x) (fun k=>g k x)):
  Lim (a.bind f) (fun k=>(s k).bind (g k)):=by
 refine⟨fun k=>Le.bind (h.up k) (fun x=>(hf x).up k),fun y hy=>?_⟩
 cases ha:a with
 |none=>rw[ha]at hy;simp at hy
 |some x=>
  rw[ha]at hy;simp only[wA]at hy
  obtain⟨k1,h1⟩:=h.ex x ha
  obtain⟨k2,h2⟩:=(hf x).ex y hy
  refine⟨max k1 k2,?_⟩
  rw[h.mono (UL k1 k2) x h1];simp only[wA]
  exact(hf x).mono (YK k1 k2) y h2
section
variable{cp:FuncId→List PT→Option PT}{cs:Cal→List TV→St→Option (TV×St)}{cpk:Nat→FuncId→List PT→Option PT}{csk:Nat→Cal→List TV→St→Option (TV×St)}{sp:FuncId→Bool}
theorem tJ(hp:∀f ps,Lim (cp f ps) (fun k=>cpk k f ps))(e:Env)(σ:St)(o:O):Lim (evR cp sp e σ o) (fun k=>evR (cpk k) sp e σ o):=by
 cases o with
 |call f args=>
  simp only[evR]
  split
  ·split
   ·exact Lim.const _
   ·exact Lim.bind (Lim.const _) fun ps=>Lim.bind (hp _ _) fun r=>Lim.const _
  ·exact Lim.const _
 |slc k el x lo hi mx=>cases mx<;>exact Lim.const _
 |_=>exact Lim.const _
theorem Gg(hp:∀f ps,Lim (cp f ps) (fun k=>cpk k f ps))(hs:∀f vs σ,Lim (cs f vs σ) (fun k=>csk k f vs σ))(d:Option Nat)(e:Env)(σ:St)(o:O):
  Lim (evO cp cs sp d e σ o) (fun k=>evO (cpk k) (csk k) sp d e σ o):=by
 cases o with
 |call f args=>
  simp only[evO]
  split
  ·split
   ·exact hs _ _ _
   ·split
    ·exact Lim.bind (hp _ _) fun r=>Lim.const _
    ·exact hs _ _ _
  ·exact hs _ _ _
  ·exact Lim.const _
 |slc k el x lo hi mx=>
  cases mx with
  |none=>exact Lim.bind (tJ hp e σ _) fun v=>Lim.const _
  |some mx=>exact Lim.const _
 |new z=>exact Lim.const _
 |box n x=>exact Lim.const _
 |bsl k el z len ps=>exact Lim.const _
 |msl k el bytes z len cap=>exact Lim.const _
 |mslF k el bytes z len cap=>exact Lim.const _
 |st n a x=>exact Lim.const _
 |app k el bytes x y=>exact Lim.const _
 |mpt k x y z=>exact Lim.const _
 |_=>simp only[evO];exact Lim.bind (tJ hp e σ _) fun v=>Lim.const _
theorem ZR(hp:∀f ps,Lim (cp f ps) (fun k=>cpk k f ps))(hs:∀f vs σ,Lim (cs f vs σ) (fun k=>csk k f vs σ))(i:Ins)(e:Env)(σ:St):
  Lim (evI cp cs sp i e σ) (fun k=>evI (cpk k) (csk k) sp i e σ):=by
 obtain⟨d,gd,op,cl⟩:=i
 have run:Lim (match cl with
  | .rd=>(evR cp sp e σ op).bind fun v=>some (e.putD d v,σ)
  | .any=>(evO cp cs sp d e σ op).bind fun x=>some (e.putD d x.1,x.2)
  | .ad=>if op.adds e then(evO cp cs sp d e σ op).bind fun x=>some (e.putD d x.1,x.2)else none
  | .wr ts=>if eh e σ op ts then(evO cp cs sp d e σ op).bind fun x=>some (e.putD d x.1,x.2)else none
  | .cl ys ns=>(evO cp cs sp d e σ op).bind fun x=>if Of e σ x.2 ys ns then some (e.putD d x.1,x.2)else none) (fun k=>match cl with
  | .rd=>(evR (cpk k) sp e σ op).bind fun v=>some (e.putD d v,σ)
  | .any=>(evO (cpk k) (csk k) sp d e σ op).bind fun x=>some (e.putD d x.1,x.2)
  | .ad=>if op.adds e then(evO (cpk k) (csk k) sp d e σ op).bind fun x=>some (e.putD d x.1,x.2)else none
  | .wr ts=>if eh e σ op ts then(evO (cpk k) (csk k) sp d e σ op).bind fun x=>some (e.putD d x.1,x.2)else none
  | .cl ys ns=>(evO (cpk k) (csk k) sp d e σ op).bind fun x=>if Of e σ x.2 ys ns then some (e.putD d x.1,x.2)else none):=by
  cases cl with
  |cl ys ns=>exact Lim.bind (Gg hp hs d e σ op) fun v=>Lim.const _
  |wr ts=>
   simp only[]
   split
   ·exact Lim.bind (Gg hp hs d e σ op) fun v=>Lim.const _
   ·exact Lim.const _
  |rd=>exact Lim.bind (tJ hp e σ op) fun v=>Lim.const _
  |any=>exact Lim.bind (Gg hp hs d e σ op) fun v=>Lim.const _
  |ad=>
   simp only[]
   split
   ·exact Lim.bind (Gg hp hs d e σ op) fun v=>Lim.const _
   ·exact Lim.const _
 simp only[evI]
 cases gd with
 |none=>exact run
 |some g=>
  obtain⟨t,w⟩:=g
  simp only[]
  split
  ·split
   ·exact run
   ·exact Lim.const _
  ·exact Lim.const _
  ·exact Lim.const _
theorem RY(hp:∀f ps,Lim (cp f ps) (fun k=>cpk k f ps))(hs:∀f vs σ,Lim (cs f vs σ) (fun k=>csk k f vs σ)):∀(is:List Ins) (e:Env) (σ:St),
  Lim (wz cp cs sp is e σ) (fun k=>wz (cpk k) (csk k) sp is e σ)
 |[],_,_=>Lim.const _
 |i::r,e,σ=>Lim.bind (ZR hp hs i e σ) fun x=>RY hp hs r x.1 x.2
theorem F0{f:Env→St→Option (Ex×Env×St)}{g:Nat→Env→St→Option (Ex×Env×St)}(h:∀e σ,Lim (f e σ) (fun k=>g k e σ)):∀(n:Nat) (e:Env) (σ:St),
  Lim (rE f n e σ) (fun k=>rE (g k) n e σ)
 |0,_,_=>Lim.const _
 |n+1,e,σ=>by
  refine Lim.bind (h e σ) fun x=>?_
  obtain⟨ex,e',σ'⟩:=x
  cases ex with
  |norm=>exact F0 h n e' σ'
  |exit id=>exact Lim.const _
  |ret=>exact Lim.const _
theorem Vo(hp:∀f ps,Lim (cp f ps) (fun k=>cpk k f ps))(hs:∀f vs σ,Lim (cs f vs σ) (fun k=>csk k f vs σ))(n:Nat)(rd:Bool):∀(c:C) (e:Env) (σ:St),
  Lim (evC cp cs sp n rd c e σ) (fun k=>evC (cpk k) (csk k) sp n rd c e σ)
 | .skip,_,_=>Lim.const _
 | .reg ops,e,σ=>Lim.bind (RY hp hs ops e σ) fun x=>Lim.const _
 | .seq a b,e,σ=>by
   refine Lim.bind (Vo hp hs n rd a e σ) fun x=>?_
   obtain⟨ex,e',σ'⟩:=x
   cases ex with
   |norm=>exact Vo hp hs n rd b e' σ'
   |exit id=>exact Lim.const _
   |ret=>exact Lim.const _
 | .cond x a b,e,σ=>by
   simp only[evC]
   split
   ·split
    ·exact Vo hp hs n rd a e σ
    ·exact Vo hp hs n rd b e σ
   ·exact Lim.const _
 | .block id c,e,σ=>Lim.bind (Vo hp hs n rd c e σ) fun x=>Lim.const _
 | .loop c,e,σ=>F0 (fun e σ=>Vo hp hs n rd c e σ) n e σ
 | .exit id,_,_=>Lim.const _
 | .ret,_,_=>Lim.const _
 | .rng f params assign body,e,σ=>by
   simp only[evC]
   split
   ·exact Lim.const _
   ·split
    ·exact Lim.bind (hs _ _ _) fun x=>Lim.const _
    ·exact Lim.const _
 | .fz ts c,e,σ=>Lim.bind (Lim.const _) fun x=>Vo hp hs n rd c e x
theorem ki{f:Env→St→Option (Ex×Env×St)}{g:Env→St→Option (Ex×Env×St)}(h:∀e σ,Le (f e σ) (g e σ)):∀(n:Nat) (e:Env) (σ:St),Le (rE f n e σ) (rE g (n+1) e σ)
 |0,_,_=>fun _ hx=>by simp[rE]at hx
 |n+1,e,σ=>by
  refine Le.bind (h e σ) fun x=>?_
  obtain⟨ex,e',σ'⟩:=x
  cases ex with
  |norm=>exact ki h n e' σ'
  |exit id=>exact Le.refl _
  |ret=>exact Le.refl _
theorem U0(n:Nat)(rd:Bool):∀(c:C) (e:Env) (σ:St),Le (evC cp cs sp n rd c e σ) (evC cp cs sp (n+1) rd c e σ)
 | .skip,_,_=>Le.refl _
 | .reg ops,e,σ=>Le.refl _
 | .seq a b,e,σ=>by
   refine Le.bind (U0 n rd a e σ) fun x=>?_
   obtain⟨ex,e',σ'⟩:=x
   cases ex with
   |norm=>exact U0 n rd b e' σ'
   |exit id=>exact Le.refl _
   |ret=>exact Le.refl _
 | .cond x a b,e,σ=>by
   simp only[evC]
   split
   ·split
    ·exact U0 n rd a e σ
    ·exact U0 n rd b e σ
   ·exact Le.refl _
 | .block id c,e,σ=>Le.bind (U0 n rd c e σ) fun x=>Le.refl _
 | .loop c,e,σ=>ki (fun e σ=>U0 n rd c e σ) n e σ
 | .exit id,_,_=>Le.refl _
 | .ret,_,_=>Le.refl _
 | .rng f params assign body,e,σ=>Le.refl _
 | .fz ts c,e,σ=>Le.bind (Le.refl _) fun x=>U0 n rd c e x
theorem VX{cp':FuncId→List PT→Option PT}{cs':Cal→List TV→St→Option (TV×St)}(hp:∀f ps,Le (cp f ps) (cp' f ps))(hs:∀f vs σ,Le (cs f vs σ) (cs' f vs σ))(n:Nat)(rd:Bool)(c:C)(e:Env)(σ:St):
  Le (evC cp cs sp n rd c e σ) (evC cp' cs' sp (n+1) rd c e σ):=by
 have h:=(Vo (cp:=cp') (cs:=cs') (cpk:=fun k=>if k=0 then cp else cp') (csk:=fun k=>if k=0 then cs else cs') (sp:=sp)
  (fun f ps=>⟨fun k=>by cases k with
   |zero=>simpa using hp f ps
   |succ k=>exact Le.refl _,fun x hx=>⟨1,by simpa using hx⟩⟩)
  (fun f vs σ=>⟨fun k=>by cases k with
   |zero=>simpa using hs f vs σ
   |succ k=>exact Le.refl _,fun x hx=>⟨1,by simpa using hx⟩⟩) n rd c e σ).up 0
 simp only[if_true]at h
 exact Le.trans (by simpa using h) (U0 n rd c e σ)
theorem eC(hp:∀f ps,Lim (cp f ps) (fun k=>cpk k f ps))(hs:∀f vs σ,Lim (cs f vs σ) (fun k=>csk k f vs σ))(n l:Nat)(args:List TV)(σ:St):
  Lim (evY cp cs sp n l args σ) (fun k=>evY (cpk k) (csk k) sp n l args σ):=by
 simp only[evY]
 split
 ·split
  ·refine Lim.bind (Vo hp hs n true _ _ _) fun x=>?_
   split
   ·split
    ·split
     ·exact Lim.bind (Vo hp hs n true _ _ _) fun y=>Lim.const _
     ·exact Lim.const _
    ·exact Lim.const _
   ·exact Lim.const _
  ·exact Lim.const _
 ·exact Lim.const _
theorem qO{cp':FuncId→List PT→Option PT}{cs':Cal→List TV→St→Option (TV×St)}(hp:∀f ps,Le (cp f ps) (cp' f ps))(hs:∀f vs σ,Le (cs f vs σ) (cs' f vs σ))(n l:Nat)(args:List TV)(σ:St):
  Le (evY cp cs sp n l args σ) (evY cp' cs' sp (n+1) l args σ):=by
 simp only[evY]
 split
 ·split
  ·refine Le.bind (VX hp hs n true _ _ _) fun x=>?_
   split
   ·split
    ·split
     ·exact Le.bind (VX hp hs n true _ _ _) fun y=>Le.refl _
     ·exact Le.refl _
    ·exact Le.refl _
   ·exact Le.refl _
  ·exact Le.refl _
 ·exact Le.refl _
end
variable(S:Seat)
theorem WA:∀k,(∀c vs σ,Le (evS S k c vs σ) (evS S (k+1) c vs σ))∧(∀f ps,Le (evP S k f ps) (evP S (k+1) f ps))
 |0=>⟨fun _ _ _ x h=>by simp[evS]at h,fun _ _ x h=>by simp[evP]at h⟩
 |k+1=>by
  obtain⟨h1,h2⟩:=WA k
  refine⟨fun c vs σ=>?_,fun f ps=>?_⟩
  ·cases c with
   |f g=>
    rw[evS,evS]
    split
    ·split
     ·exact Le.bind (VX h2 h1 k false _ _ _) fun x=>Le.refl _
     ·exact Le.refl _
    ·exact Le.refl _
   |y l=>
    rw[evS,evS]
    exact qO h2 h1 k l vs σ
  ·rw[evP,evP]
   split
   ·exact Le.refl _
   ·exact Le.bind (h1 _ _ _) fun x=>Le.refl _
noncomputable def lim{α:Type}(s:Nat→Option α):Option α:=
 open Classical in if h:∃k,(s k).isSome=true then s (Classical.choose h)else none
theorem Bt{α:Type}{s:Nat→Option α}(up:∀k,Le (s k) (s (k+1))){x:α}:lim s=some x↔∃k,s k=some x:=by
 have hm:∀{j k:Nat},j≤k→Le (s j) (s k):=by
  intro j k h
  induction h with
  |refl=>exact Le.refl _
  |step _ ih=>exact ih.trans (up _)
 constructor
 ·intro h
  unfold lim at h
  split at h
  ·exact⟨_,h⟩
  ·cases h
 ·rintro⟨k,hk⟩
  unfold lim
  have hex:∃k,(s k).isSome=true:=⟨k,by rw[hk];rfl⟩
  rw[dif_pos hex]
  obtain⟨y,hy⟩:=wT.1 (Gb hex)
  rw[hy]
  have a:=hm (UL k (Classical.choose hex)) x hk
  have b:=hm (YK k (Classical.choose hex)) y hy
  rw[a]at b
  exact b.symm
noncomputable def eS(c:Cal)(vs:List TV)(σ:St):Option (TV×St):=lim fun k=>evS S k c vs σ
noncomputable def eP(f:FuncId)(ps:List PT):Option PT:=lim fun k=>evP S k f ps
theorem jk{c:Cal}{vs:List TV}{σ:St}{x:TV×St}:eS S c vs σ=some x↔∃k,evS S k c vs σ=some x:=Bt fun k=>(WA S k).1 c vs σ
theorem oW{f:FuncId}{ps:List PT}{x:PT}:eP S f ps=some x↔∃k,evP S k f ps=some x:=Bt fun k=>(WA S k).2 f ps
theorem Bh(c:Cal)(vs:List TV)(σ:St):Lim (eS S c vs σ) (fun k=>evS S k c vs σ):=⟨fun k=>(WA S k).1 c vs σ,fun _ h=>(jk S).1 h⟩
theorem FE(f:FuncId)(ps:List PT):Lim (eP S f ps) (fun k=>evP S k f ps):=⟨fun k=>(WA S k).2 f ps,fun _ h=>(oW S).1 h⟩
noncomputable abbrev evW(n:Nat)(rd:Bool)(c:C)(e:Env)(σ:St):Option (Ex×Env×St):=evC (eP S) (eS S) S.sp n rd c e σ
theorem xc{S:Seat}{j k:Nat}(h:j≤k)(rd:Bool)(c:C)(e:Env)(σ:St):Le (evW S j rd c e σ) (evW S k rd c e σ):=by
 induction h with
 |refl=>exact Le.refl _
 |step _ ih=>exact ih.trans (U0 _ rd c e σ)
def wp(rd:Bool)(c:C)(e:Env)(σ:St)(Q:Ex→Env→St→Prop):Prop:=∃n x,evW S n rd c e σ=some x∧Q x.1 x.2.1 x.2.2
def wpI(is:List Ins)(e:Env)(σ:St)(Q:Env→St→Prop):Prop:=∃x,wz (eP S) (eS S) S.sp is e σ=some x∧Q x.1 x.2
theorem wp_mono{S:Seat}{rd:Bool}{c:C}{e:Env}{σ:St}{Q Q':Ex→Env→St→Prop}(h:wp S rd c e σ Q)(hq:∀x e σ,Q x e σ→Q' x e σ):wp S rd c e σ Q':=
 let⟨n,x,h1,h2⟩:=h
 ⟨n,x,h1,hq _ _ _ h2⟩
theorem BN(rd:Bool)(e:Env)(σ:St)(Q:Ex→Env→St→Prop):wp S rd .skip e σ Q↔Q .norm e σ:=
 ⟨fun⟨_,_,h,q⟩=>by cases h;exact q,fun q=>⟨0,_,rfl,q⟩⟩
theorem WH(rd:Bool)(id:Nat)(e:Env)(σ:St)(Q:Ex→Env→St→Prop):wp S rd (.exit id) e σ Q↔Q (.exit id) e σ:=
 ⟨fun⟨_,_,h,q⟩=>by cases h;exact q,fun q=>⟨0,_,rfl,q⟩⟩
theorem Rg(rd:Bool)(e:Env)(σ:St)(Q:Ex→Env→St→Prop):wp S rd .ret e σ Q↔Q .ret e σ:=
 ⟨fun⟨_,_,h,q⟩=>by cases h;exact q,fun q=>⟨0,_,rfl,q⟩⟩
theorem bV(rd:Bool)(is:List Ins)(e:Env)(σ:St)(Q:Ex→Env→St→Prop):wp S rd (.reg is) e σ Q↔wpI S is e σ (Q .norm):=by
 constructor
 ·rintro⟨n,x,h,q⟩
  simp only[evW,evC]at h
  cases hh:wz (eP S) (eS S) S.sp is e σ with
  |none=>rw[hh]at h;cases h
  |some y=>rw[hh]at h;cases h;exact⟨y,hh,q⟩
 ·rintro⟨y,h,q⟩
  exact⟨0,(.norm,y.1,y.2),by simp only[evW,evC,h,wA],q⟩
def Q5(S:Seat)(rd:Bool)(b:C)(Q:Ex→Env→St→Prop):Ex→Env→St→Prop
 | .norm,e,σ=>wp S rd b e σ Q
 |x,e,σ=>Q x e σ
@[simp] theorem ZH(rd:Bool)(b:C)(Q:Ex→Env→St→Prop)(e:Env)(σ:St):Q5 S rd b Q .norm e σ=wp S rd b e σ Q:=rfl
@[simp] theorem S6(rd:Bool)(b:C)(Q:Ex→Env→St→Prop)(id:Nat)(e:Env)(σ:St):Q5 S rd b Q (.exit id) e σ=Q (.exit id) e σ:=rfl
@[simp] theorem Ja(rd:Bool)(b:C)(Q:Ex→Env→St→Prop)(e:Env)(σ:St):Q5 S rd b Q .ret e σ=Q .ret e σ:=rfl
theorem kp(rd:Bool)(a b:C)(e:Env)(σ:St)(Q:Ex→Env→St→Prop):wp S rd (.seq a b) e σ Q↔wp S rd a e σ (Q5 S rd b Q):=by
 constructor
 ·rintro⟨n,x,h,q⟩
  simp only[evW,evC]at h
  cases hh:evC (eP S) (eS S) S.sp n rd a e σ with
  |none=>rw[hh]at h;cases h
  |some y=>
   obtain⟨ex,e',σ'⟩:=y
   rw[hh]at h
   simp only[wA]at h
   cases ex with
   |norm=>exact⟨n,_,hh,n,x,h,q⟩
   |exit id=>cases h;exact⟨n,_,hh,q⟩
   |ret=>cases h;exact⟨n,_,hh,q⟩
 ·rintro⟨n,⟨ex,e',σ'⟩,h,q⟩
  cases ex with
  |norm=>
   obtain⟨m,y,h2,q2⟩:=q
   refine⟨max n m,y,?_,q2⟩
   have h':=xc (UL n m) rd a e σ _ h
   have h2':=xc (YK n m) rd b e' σ' _ h2
   simp only[evW,evC]at h' h2'⊢
   rw[h'];simp only[wA];exact h2'
  |exit id=>exact⟨n,_,by simp only[evW,evC]at h⊢;rw[h];rfl,q⟩
  |ret=>exact⟨n,_,by simp only[evW,evC]at h⊢;rw[h];rfl,q⟩
theorem kG(rd:Bool)(x:X)(a b:C)(e:Env)(σ:St)(Q:Ex→Env→St→Prop){t:Bool}(h:ev e x= .a (.p (.b t))):
  wp S rd (.cond x a b) e σ Q↔(if t=true then wp S rd a e σ Q else wp S rd b e σ Q):=by
 unfold wp
 simp only[evW,evC,h]
 cases t<;>simp
def tM(id:Nat)(Q:Ex→Env→St→Prop):Ex→Env→St→Prop
 | .exit j,e,σ=>if j=id then Q .norm e σ else Q (.exit j) e σ
 |x,e,σ=>Q x e σ
@[simp] theorem eW(id:Nat)(Q:Ex→Env→St→Prop)(e:Env)(σ:St):tM id Q .norm e σ=Q .norm e σ:=rfl
@[simp] theorem YA(id j:Nat)(Q:Ex→Env→St→Prop)(e:Env)(σ:St):tM id Q (.exit j) e σ=if j=id then Q .norm e σ else Q (.exit j) e σ:=rfl
@[simp] theorem Sr(id:Nat)(Q:Ex→Env→St→Prop)(e:Env)(σ:St):tM id Q .ret e σ=Q .ret e σ:=rfl
theorem tO(id:Nat)(Q:Ex→Env→St→Prop)(x:Ex)(e:Env)(σ:St):tM id Q x e σ=Q (if x= .exit id then .norm else x) e σ:=by
 cases x with
 |norm=>simp
 |ret=>simp
 |exit j=>
  by_cases h:j=id
  ·simp[h]
  ·simp[h]
theorem LB(rd:Bool)(id:Nat)(c:C)(e:Env)(σ:St)(Q:Ex→Env→St→Prop):wp S rd (.block id c) e σ Q↔wp S rd c e σ (tM id Q):=by
 constructor
 ·rintro⟨n,x,h,q⟩
  simp only[evW,evC]at h
  cases hh:evC (eP S) (eS S) S.sp n rd c e σ with
  |none=>rw[hh]at h;cases h
  |some y=>
   rw[hh]at h;simp only[wA,Lo]at h
   subst h
   exact⟨n,y,hh,by rw[tO];exact q⟩
 ·rintro⟨n,y,h,q⟩
  refine⟨n,_,by simp only[evW,evC]at h⊢;rw[h];rfl,?_⟩
  rw[tO]at q
  exact q
def UD(S:Seat)(rd:Bool)(c:C)(Q:Ex→Env→St→Prop):Ex→Env→St→Prop
 | .norm,e,σ=>wp S rd (.loop c) e σ Q
 |x,e,σ=>Q x e σ
@[simp] theorem zL(rd:Bool)(c:C)(Q:Ex→Env→St→Prop)(e:Env)(σ:St):UD S rd c Q .norm e σ=wp S rd (.loop c) e σ Q:=rfl
@[simp] theorem qD(rd:Bool)(c:C)(Q:Ex→Env→St→Prop)(id:Nat)(e:Env)(σ:St):UD S rd c Q (.exit id) e σ=Q (.exit id) e σ:=rfl
@[simp] theorem cZ(rd:Bool)(c:C)(Q:Ex→Env→St→Prop)(e:Env)(σ:St):UD S rd c Q .ret e σ=Q .ret e σ:=rfl
theorem tQ{f g:Env→St→Option (Ex×Env×St)}(h:∀e σ,Le (f e σ) (g e σ)){n m:Nat}(hnm:n≤m)(e:Env)(σ:St):Le (rE f n e σ) (rE g m e σ):=by
 induction n generalizing m e σ with
 |zero=>intro x hx;simp[rE]at hx
 |succ n ih=>
  obtain⟨m,rfl⟩:∃j,m=j+1:=⟨m-1,by omega⟩
  refine Le.bind (h e σ) fun x=>?_
  obtain⟨ex,e',σ'⟩:=x
  cases ex with
  |norm=>exact ih (by omega) e' σ'
  |exit id=>exact Le.refl _
  |ret=>exact Le.refl _
theorem oi(rd:Bool)(c:C)(e:Env)(σ:St)(Q:Ex→Env→St→Prop):wp S rd (.loop c) e σ Q↔wp S rd c e σ (UD S rd c Q):=by
 constructor
 ·rintro⟨n,x,h,q⟩
  simp only[evW,evC]at h
  cases n with
  |zero=>simp[rE]at h
  |succ n=>
   simp only[rE]at h
   cases hh:evC (eP S) (eS S) S.sp (n+1) rd c e σ with
   |none=>rw[hh]at h;cases h
   |some y=>
    obtain⟨ex,e',σ'⟩:=y
    rw[hh]at h
    simp only[wA]at h
    cases ex with
    |norm=>exact⟨n+1,_,hh,n+1,x,tQ (fun _ _=>Le.refl _) (by omega) _ _ _ h,q⟩
    |exit id=>cases h;exact⟨n+1,_,hh,q⟩
    |ret=>cases h;exact⟨n+1,_,hh,q⟩
 ·rintro⟨n,⟨ex,e',σ'⟩,h,q⟩
  cases ex with
  |norm=>
   obtain⟨m,y,h2,q2⟩:=q
   refine⟨max n m+1,y,?_,q2⟩
   have h':=xc (fm (UL n m) (ZY _)) rd c e σ _ h
   simp only[evW,evC]at h' h2⊢
   simp only[rE]
   rw[h'];simp only[wA]
   exact tQ (fun e σ=>xc (S:=S) (fm (YK n m) (ZY _)) rd c e σ) (YK n m) _ _ _ h2
  |exit id=>
   refine⟨n+1,_,?_,q⟩
   have h':=xc (ZY n) rd c e σ _ h
   simp only[evW,evC]at h'⊢
   simp only[rE]
   rw[h'];rfl
  |ret=>
   refine⟨n+1,_,?_,q⟩
   have h':=xc (ZY n) rd c e σ _ h
   simp only[evW,evC]at h'⊢
   simp only[rE]
   rw[h'];rfl
theorem jc{g:FuncId}{fc:FnC}(hf:S.fb g=some fc){args:List TV}(hn:args.length=fc.np){σ:St}{r:TV×St}
  (h:wp S false fc.body (Env.init args) σ fun x e σ'=>(x= .norm∨x= .ret)∧∃vs,EP e σ' fc.res=some vs∧O2 vs=some r.1∧σ'=r.2):eS S (.f g) args σ=some r:=by
 obtain⟨n,⟨ex,e',σ'⟩,h1,hx,vs,h2,h3,h4⟩:=h
 simp only at hx h2 h3 h4
 obtain⟨k,hk⟩:=(Vo (cp:=eP S) (cs:=eS S) (sp:=S.sp) (fun f ps=>FE S f ps) (fun f vs σ=>Bh S f vs σ) n false fc.body (Env.init args) σ).ex _ h1
 refine(jk S).2 ⟨max k n+1,?_⟩
 have hk':evC (evP S (max k n)) (evS S (max k n)) S.sp (max k n) false fc.body (Env.init args) σ=some (ex,e',σ'):=by
  have a:evC (evP S (max k n)) (evS S (max k n)) S.sp n false fc.body (Env.init args) σ=some (ex,e',σ'):=
   (Vo (cp:=eP S) (cs:=eS S) (sp:=S.sp) (fun f ps=>FE S f ps) (fun f vs σ=>Bh S f vs σ) n false fc.body (Env.init args) σ).mono (UL k n) _ hk
  have b:∀{j m:Nat},j≤m→Le (evC (evP S (max k n)) (evS S (max k n)) S.sp j false fc.body (Env.init args) σ) (evC (evP S (max k n)) (evS S (max k n)) S.sp m false fc.body (Env.init args) σ):=by
   intro j m h
   induction h with
   |refl=>exact Le.refl _
   |step _ ih=>exact ih.trans (U0 _ _ _ _ _)
  exact b (YK k n) _ a
 rw[evS,hf]
 subst h4
 simp only[hn,if_true,hk',wA,hx,h2,h3]
theorem nU{g:FuncId}(ho:∀ps,S.orc g ps=none){fc:FnC}(hf:S.fb g=some fc){ps:List PT}(hn:ps.length=fc.np){r:PT}
  (h:wp S false fc.body (Env.init (ps.map cV)) .empty fun x e σ'=>(x= .norm∨x= .ret)∧∃vs v,EP e σ' fc.res=some vs∧O2 vs=some v∧frT σ' v=some r):eP S g ps=some r:=by
 obtain⟨n,⟨ex,e',σ'⟩,h1,hx,vs,v,h2,h3,h4⟩:=h
 have hs:eS S (.f g) (ps.map cV) .empty=some (v,σ'):=
  jc S hf (by simpa using hn) ⟨n,_,h1,hx,vs,h2,h3,rfl⟩
 obtain⟨k,hk⟩:=(jk S).1 hs
 refine(oW S).2 ⟨k+1,?_⟩
 rw[evP,ho]
 simp only[hk,wA,h4]
end Go.Fx
namespace Go.Fx
variable(P:Program)
def cAV:Value→Option AV
 | .bool b=>some (.p (.b b))
 | .int k n=>some (.p (.i k n))
 | .string s=>some (.p (.s s.data.toList))
 | .slice none 0 0=>some .nil
 | .nilFunc=>some (.raw .nilFunc)
 | .pointer none=>some (.raw (.pointer none))
 |_=>none
def cTV:Value→Option TV
 | .tuple vs=>if vs.size=0 then some .u else none
 |v=>(cAV v).bind fun x=>some (.a x)
def ccX:Operand→Option X
 | .tmp t=>some (.t t)
 | .const v=>(cTV v).bind fun x=>some (.c x)
 | .func f=>some (.f f)
 | .global _=>none
def Fq{α β:Type}(f:α→Option β):List α→Option (List β)
 |[]=>some []
 |x::r=>(f x).bind fun y=>(Fq f r).bind fun ys=>some (y::ys)
def tsz(t:TypeId):Option Nat:=(P.info? t).bind fun i=>some i.size
def tag(t:TypeId):Option Bool:=(P.underlying t).bind fun d=>some (match d with| .struct _| .array _ _=>true|_=>false)
def NU(t:TypeId):Option (List AV):=(P.info? t).bind fun i=>i.zero.bind fun v=>Fq cAV v.cells.toList
def VU(t:TypeId):Option (Nat×Nat×Nat):=
 match P.underlying t with
 |some (.slice e)=>(P.info? e).bind fun i=>if 0<i.size∧0<i.bytes then some (e,i.size,i.bytes)else none
 |_=>none
def Qc(t:TypeId)(f:Nat):Option (Nat×TypeId):=
 match P.underlying t with
 |some (.struct fs)=>(fs[f]?).bind fun x=>some (x.offset,x.type)
 |_=>none
def iC(t:TypeId):Option Nat:=(P.info? t).bind fun i=>i.zero.bind fun v=>some v.cells.size
def Iu:Option Operand→Option (Option X)
 |none=>some none
 |some x=>(ccX x).bind fun y=>some (some y)
def Dl:X→Bool
 | .c (.a .nil)=>true
 |_=>false
def ccO(eqs:List (TypeId×List Nat)):Op→Option O
 | .move x| .assign x=>(ccX x).bind fun x=>some (.mv x)
 | .pick c a b=>(ccX c).bind fun c=>(ccX a).bind fun a=>(ccX b).bind fun b=>some (.pick c a b)
 | .alloc t=>(NU P t).bind fun z=>some (.new z)
 | .box t x=>(ccX x).bind fun x=>(tsz P t).bind fun n=>some (.box n x)
 | .build t ps=>(NU P t).bind fun z=>
   match P.underlying t with
   |some (.struct fs)=>if fs.toList.all (fun f=>(tsz P f.type).isSome)then(Fq (fun p=>(Qc P t p.1).bind fun f=>(tsz P f.2).bind fun n=>(ccX p.2).bind fun x=>some (f.1,n,x)) ps.toList).bind fun ps=>some (.build z ps)else none
   |some (.array _ e)=>(tsz P e).bind fun n=>(Fq (fun p=>(ccX p.2).bind fun x=>some (p.1*n,n,x)) ps.toList).bind fun ps=>some (.build z ps)
   |_=>none
 | .buildSlice t len ps=>(VU P t).bind fun e=>(NU P e.1).bind fun z=>
   if len*e.2.1≤16777216∧iC P e.1=some e.2.1 then(Fq (fun p=>(ccX p.2).bind fun x=>some (p.1,x)) ps.toList).bind fun ps=>some (.bsl e.2.1 e.1 z len ps)else none
 | .load t a=>(ccX a).bind fun a=>(tsz P t).bind fun n=>(tag P t).bind fun g=>if g=false∧n≠1 then none else some (.ld n g a)
 | .store t a x=>(ccX a).bind fun a=>(ccX x).bind fun x=>(tsz P t).bind fun n=>some (.st n a x)
 | .nilCheck x=>(ccX x).bind fun x=>some (.nck x)
 | .binOp op t x y _=>(ccX x).bind fun x=>(ccX y).bind fun y=>
   match op with
   | .add| .sub| .mul| .quo| .rem| .lss| .leq| .gtr| .geq=>some (.bin op x y)
   | .eql| .neq=>
     match P.underlying t with
     |some (.int _)|some .string=>some (.bin op x y)
     |some .bool=>some (.eqb (match op with| .neq=>true|_=>false) x y)
     |some (.slice _)=>if Dl y then some (.nq (match op with| .neq=>true|_=>false) x)else none
     |some (.struct _)|some (.array _ _)=>(eqs.find? (·.1==t)).bind fun s=>some (.eqg (match op with| .neq=>true|_=>false) s.2 x y)
     |_=>none
   |_=>none
 | .unOp .not _ x=>(ccX x).bind fun x=>some (.not x)
 | .unOp .neg _ x=>(ccX x).bind fun x=>some (.neg x)
 | .convert src dst x=>(ccX x).bind fun x=>
   match P.underlying src,P.underlying dst with
   |some (.int _),some (.int k)=>some (.cvi k x)
   |_,_=>none
 | .makeFunc (.func f) first caps=>if first.size=0 then(Fq ccX caps.toList).bind fun cs=>some (.fn f cs)else none
 | .makeSlice t l c=>(ccX l).bind fun l=>(ccX c).bind fun c=>(VU P t).bind fun e=>(NU P e.1).bind fun z=>if iC P e.1=some e.2.1 then some (if eqs.any (fun q=>decide (q=(e.1,[9])))then .mslF e.2.1 e.1 e.2.2 z l c else .msl e.2.1 e.1 e.2.2 z l c)else none
 | .slice t x lo hi mx=>(ccX x).bind fun x=>(Iu lo).bind fun lo=>(Iu hi).bind fun hi=>(Iu mx).bind fun mx=>
   match P.underlying t with
   |some (.slice _)=>(VU P t).bind fun e=>some (.slc e.2.1 e.1 x lo hi mx)
   |some .string=>if mx.isSome then none else some (.sub x lo hi)
   |_=>none
 | .fieldAddr t x f=>(ccX x).bind fun x=>(Qc P t f).bind fun p=>(tsz P p.2).bind fun n=>if n=0 then none else some (.fad p.1 x)
 | .field t x f=>(ccX x).bind fun x=>(Qc P t f).bind fun p=>(tsz P p.2).bind fun n=>(tag P p.2).bind fun g=>if g=false∧n≠1 then none else some (.fld p.1 n g x)
 | .indexAddr t x ix=>(ccX x).bind fun x=>(ccX ix).bind fun ix=>
   match P.underlying t with
   |some (.slice _)=>(VU P t).bind fun e=>some (.ias e.2.1 x ix)
   |some (.array n e)=>(tsz P e).bind fun k=>some (.iaa n k x ix)
   |_=>none
 | .index t x ix=>(ccX x).bind fun x=>(ccX ix).bind fun ix=>
   match P.underlying t with
   |some .string=>some (.ixs x ix)
   |some (.array n e)=>(tsz P e).bind fun k=>(tag P e).bind fun g=>if g=false∧k≠1 then none else some (.ixa n k g x ix)
   |_=>none
 | .extract x i=>(ccX x).bind fun x=>some (.ext x i)
 | .call c=>
   match c.callee with
   | .builtin .len=>match c.args.toList,c.argTypes.toList with
     |[x],[t]=>(ccX x).bind fun x=>match P.underlying t with
      |some (.slice _)=>some (.len false x)
      |some .string=>some (.len true x)
      |_=>none
     |_,_=>none
   | .builtin .append=>match c.args.toList,c.argTypes.toList with
     |[x,y],[t,u]=>(ccX x).bind fun x=>(ccX y).bind fun y=>(VU P t).bind fun e=>
        if t=u∧iC P e.1=some e.2.1 then some (.app e.2.1 e.1 e.2.2 x y)else none
     |_,_=>none
   | .builtin .max=>match c.args.toList with
     |[x,y]=>(ccX x).bind fun x=>(ccX y).bind fun y=>some (.mx x y)
     |_=>none
   | .builtin .min=>match c.args.toList with
     |[x,y]=>(ccX x).bind fun x=>(ccX y).bind fun y=>some (.mn x y)
     |_=>none
   | .value f=>(ccX f).bind fun f=>(Fq ccX c.args.toList).bind fun as=>some (.call f as)
   |_=>none
 |_=>none
def xT:X→List Nat
 | .t n=>[n]
 |_=>[]
def M4(nt:Nat):Option Nat→Bool
 |none=>true
 |some d=>d<nt
def ccG(ops:Array Oper):Option (Nat×Bool)→Option (Option (Nat×Bool))
 |none=>some none
 |some (j,w)=>((ops[j]?).bind (·.dst)).bind fun t=>some (some (t,w))
def ccI(eqs:List (TypeId×List Nat))(nt:Nat)(ops:Array Oper)(cl:Cls)(o:Oper):Option Ins:=
 (ccO P eqs o.op).bind fun op=>(ccG ops o.guard).bind fun g=>if M4 nt o.dst then some {dst:=o.dst,gd:=g,op:=op,cl:=cl}else none
def ub(ops:Array Oper):Array Nat:=Region.before ops
def pK(b:Array Nat)(i j:Nat):Bool:=(b.getD (max i j) 0).testBit (min i j)
def isAdd:Op→Bool
 | .alloc _| .box _ _| .buildSlice .. | .makeSlice .. =>true
 |_=>false
def O.xs:O→List X
 | .mv x=>[x]
 | .pick c a b=>[c,a,b]
 | .new _=>[]
 | .box _ x=>[x]
 | .build _ ps=>ps.map (·.2.2)
 | .bsl _ _ _ _ ps=>ps.map (·.2)
 | .ld _ _ a=>[a]
 | .st _ a x=>[a,x]
 | .nck x=>[x]
 | .bin _ x y=>[x,y]
 | .eqb _ x y=>[x,y]
 | .eqg _ _ x y=>[x,y]
 | .nq _ x=>[x]
 | .not x=>[x]
 | .neg x=>[x]
 | .cvi _ x=>[x]
 | .cvs x=>[x]
 | .fn _ caps=>caps
 | .msl _ _ _ _ l c=>[l,c]
 | .mslF _ _ _ _ l c=>[l,c]
 | .slc _ _ x lo hi most=>x::(lo.toList++hi.toList++most.toList)
 | .sub x lo hi=>x::(lo.toList++hi.toList)
 | .fad _ x=>[x]
 | .fld _ _ _ x=>[x]
 | .ias _ x ix=>[x,ix]
 | .iaa _ _ x ix=>[x,ix]
 | .ixs x ix=>[x,ix]
 | .ixa _ _ _ x ix=>[x,ix]
 | .ext x _=>[x]
 | .len _ x=>[x]
 | .app _ _ _ x y=>[x,y]
 | .mx x y=>[x,y]
 | .mn x y=>[x,y]
 | .call f args=>f::args
 | .mpt _ m x v=>[m,x,v]
def Ins.looks(i:Ins):List Nat:=(match i.gd with|some (t,_)=>[t]|none=>[])++i.op.xs.flatMap xT
def X.plain:X→Bool
 | .c v=>(yQ v).isEmpty
 |_=>true
def Cls.eff:Cls→Bool
 | .rd=>false
 |_=>true
def Cls.alone:Cls→Bool
 | .any=>true
 |_=>false
def Cls.wrs:Cls→Option (List Nat)
 | .wr ts=>some ts
 |_=>none
def Cls.cls:Cls→Option (List (Nat×Nat)×List Nat)
 | .cl ys ns=>some (ys,ns)
 |_=>none
def Cls.chk:Cls→Bool
 | .wr _=>true
 | .cl _ _=>true
 |_=>false
def O.pure:O→Bool
 | .mv _| .pick .. | .build .. | .nck _| .bin .. | .eqb .. | .eqg .. | .nq .. | .not _| .neg _| .cvi .. | .fn .. | .sub .. | .fad .. | .fld .. | .iaa .. | .ixs .. | .ixa .. | .ext .. | .len .. | .mx .. | .mn .. =>true
 |_=>false
def O.isSt:O→Bool
 | .st .. =>true
 |_=>false
def Ins.nw(i:Ins):Bool:=
 match i.dst,i.gd,i.op,i.cl with
 |some _,none,.new _,.ad=>true
 |_,_,_,_=>false
def oY(x y:Ins×Nat):Bool:=
 match x.1.cl.cls,y.1.dst with
 |some c,some d=>y.1.nw&&decide (y.2<x.2)&&c.2.contains d
 |_,_=>false
def ldO:O→Option (Nat×Nat)
 | .ld n _ (.t m)=>if n=0 then none else some (n,m)
 | .ias _ (.t m) _=>some (0,m)
 |_=>none
def lJ(x:Ins)(o:O):Bool:=
 match x.cl.cls,ldO o with
 |some c,some p=>c.1.contains p
 |_,_=>false
def JQ(ops:Array Oper)(b:Array Nat)(is:List Ins):Bool:=
 let l:=is.zipIdx
 ops.toList.zipIdx.all (fun x=>x.1.after.all fun e=> !Region.binds .any e||e.on<x.2)&&
 is.all (fun i=>i.op.xs.all X.plain)&&
 l.all (fun x=>l.all fun y=>x.2==y.2||
  ((match x.1.dst with
   |some d=>y.1.dst !=some d&&(!(y.1.looks).contains d||pK b x.2 y.2)
   |none=>true)&&
  (!x.1.cl.eff|| !y.1.cl.eff||pK b x.2 y.2||(x.1.nw&&y.1.nw)||oY x y||oY y x)&&(!x.1.cl.alone||pK b x.2 y.2)&&
  (match x.1.cl.wrs with
   |some ts=>pK b x.2 y.2||y.1.op.pure||(y.2<x.2&&y.1.looks.all fun t=>ts.contains t&&l.all fun z=> !(decide (y.2≤z.2)&&decide (z.2<x.2))||z.1.dst !=some t)
   |none=>true)&&
  (!x.1.cl.cls.isSome||pK b x.2 y.2||y.1.op.pure||y.1.nw||(decide (y.2<x.2)&& !y.1.cl.eff&&lJ x.1 y.1.op&&y.1.looks.all fun t=>l.all fun z=> !(decide (y.2≤z.2)&&decide (z.2<x.2))||z.1.dst !=some t))))
def md{α:Type}(n:Nat)(k:Nat→α):α:=
 match n with
 |0=>k 0
 |m+1=>k (m+1)
def qk{α:Type}:List Nat→(List Nat→α)→α
 |[],k=>k []
 |x::r,k=>md x fun x=>qk r fun r=>k (x::r)
def yH{α:Type}(b:Array Nat)(k:Array Nat→α):α:=qk b.toList fun l=>k l.toArray
def ng{α:Type}(b:Bool)(k:Bool→α):α:=
 match b with
 |true=>k true
 |false=>k false
def nP{α:Type}(o:Option Nat)(k:Option Nat→α):α:=
 match o with
 |none=>k none
 |some x=>md x fun x=>k (some x)
def nW(b:Array Nat)(i:Nat)(o:Oper):Cls:=
 match md (b.getD i 0) (fun bi=>b.toList.zipIdx.all fun y=>y.2==i||(match Nat.ble y.2 i with|true=>bi.testBit y.2|false=>y.1.testBit i))with
 |true=>.any
 |false=>if isAdd o.op then .ad else .rd
def ZO(b:Array Nat)(i:Nat)(o:Oper):Cls:=
 match o.op with
 | .buildSlice .. =>match nW b i o with
   | .any=>.any
   |_=>.rd
 |_=>nW b i o
structure Sm where
 i:Nat
 b:Nat
 d:Option Nat
 lk:List Nat
 eff:Bool
 alone:Bool
 nw:Bool
 pure:Bool
 wrs:Option (List Nat)
 cls:Option (List (Nat×Nat)×List Nat)
 ld:Option (Nat×Nat)
def Sm.of(b:Array Nat)(x:Ins×Nat):Sm:=⟨x.2,b.getD x.2 0,x.1.dst,x.1.looks,x.1.cl.eff,x.1.cl.alone,x.1.nw,x.1.op.pure,x.1.cl.wrs,x.1.cl.cls,ldO x.1.op⟩
def S0{α:Type}(s:Sm)(k:Sm→α):α:=
 md s.i fun i=>md s.b fun b=>nP s.d fun d=>qk s.lk fun lk=>ng s.eff fun eff=>ng s.alone fun alone=>ng s.nw fun nw=>ng s.pure fun pure=>
  match s.wrs,s.cls,s.ld with
  |none,none,none=>k ⟨i,b,d,lk,eff,alone,nw,pure,none,none,none⟩
  |w,c,l=>k ⟨i,b,d,lk,eff,alone,nw,pure,w,c,l⟩
def o6{α:Type}:List Sm→(List Sm→α)→α
 |[],k=>k []
 |x::r,k=>S0 x fun x=>o6 r fun r=>k (x::r)
def Lr(x y:Sm):Bool:=
 match Nat.ble x.i y.i with
 |true=>y.b.testBit x.i
 |false=>x.b.testBit y.i
def nwS(x y:Sm):Bool:=
 match x.cls,y.d with
 |some c,some d=>y.nw&&decide (y.i<x.i)&&c.2.contains d
 |_,_=>false
def ldS(x y:Sm):Bool:=
 match x.cls,y.ld with
 |some c,some p=>c.1.contains p
 |_,_=>false
def vR(ss:List Sm)(x y:Sm)(t:Nat):Bool:=ss.all fun z=> !(decide (y.i≤z.i)&&decide (z.i<x.i))||z.d !=some t
def Nw(ss:List Sm)(x y:Sm):Bool:=x.i==y.i||
    ((match x.d with
     |some d=>y.d !=some d&&(!(y.lk).contains d||Lr x y)
     |none=>true)&&
    (!x.eff|| !y.eff||Lr x y||(x.nw&&y.nw)||nwS x y||nwS y x)&&(!x.alone||Lr x y)&&
    (match x.wrs with
     |some ts=>Lr x y||y.pure||(decide (y.i<x.i)&&y.lk.all fun t=>ts.contains t&&vR ss x y t)
     |none=>true)&&
    (!x.cls.isSome||Lr x y||y.pure||y.nw||(decide (y.i<x.i)&& !y.eff&&ldS x y&&y.lk.all fun t=>vR ss x y t)))
def Cj(ops:Array Oper)(b:Array Nat)(is:List Ins):Bool:=
 ops.toList.zipIdx.all (fun x=>x.1.after.all fun e=> !Region.binds .any e||e.on<x.2)&&
 is.all (fun i=>i.op.xs.all X.plain)&&
 o6 (is.zipIdx.map (Sm.of b)) fun ss=>ss.all fun x=>ss.all fun y=>Nw ss x y
theorem Zb{α:Type}(n:Nat)(k:Nat→α):md n k=k n:=by cases n<;>rfl
theorem ja{α:Type}:∀(l:List Nat) (k:List Nat→α),qk l k=k l
 |[],_=>rfl
 |x::r,k=>by rw[qk,Zb,ja r]
theorem Sh{α:Type}(b:Array Nat)(k:Array Nat→α):yH b k=k b:=by unfold yH;rw[ja]
theorem aI{α:Type}(b:Bool)(k:Bool→α):ng b k=k b:=by cases b<;>rfl
theorem yJ{α:Type}(o:Option Nat)(k:Option Nat→α):nP o k=k o:=by
 cases o with
 |none=>rfl
 |some x=>show md x (fun x=>k (some x))=k (some x);rw[Zb]
theorem iE{α:Type}(s:Sm)(k:Sm→α):S0 s k=k s:=by
 unfold S0
 simp only[Zb,yJ,ja,aI]
 split
 ·rename_i h1 h2 h3;rw[←h1,←h2,←h3]
 ·rfl
theorem ED{α:Type}:∀(l:List Sm) (k:List Sm→α),o6 l k=k l
 |[],_=>rfl
 |x::r,k=>by rw[o6,iE,ED r]
theorem LC(b:Array Nat)(x y:Ins×Nat):Lr (Sm.of b x) (Sm.of b y)=pK b x.2 y.2:=by
 unfold Lr pK Sm.of
 simp only
 cases h:Nat.ble x.2 y.2 with
 |true=>
  have h:=Nat.le_of_ble_eq_true h
  rw[KS h,Vi h]
 |false=>
  have h:¬x.2≤y.2:=fun h2=>by rw[Nat.ble_eq_true_of_le h2]at h;cases h
  rw[Wc (by omega),Nat.min_eq_right (by omega)]
theorem I3(b:Array Nat)(x y:Ins×Nat):nwS (Sm.of b x) (Sm.of b y)=oY x y:=rfl
theorem Q0(b:Array Nat)(x y:Ins×Nat):ldS (Sm.of b x) (Sm.of b y)=lJ x.1 y.1.op:=rfl
theorem R3{ops:Array Oper}{b:Array Nat}{is:List Ins}(h:Cj ops b is=true):JQ ops b is=true:=by
 have e:Cj ops b is=JQ ops b is:=by
  unfold Cj JQ
  rw[ED]
  congr 1
  simp only[List.all_map]
  refine congrArg _ (funext fun x=>?_)
  simp only[Function.comp_apply,List.all_map]
  refine congrArg _ (funext fun y=>?_)
  simp only[Function.comp_apply]
  unfold Nw vR
  simp only[LC,I3,Q0,List.all_map]
  rfl
 rw[←e];exact h
def ui(b:Array Nat)(is:List Ins):List Ins:=
 is.zipIdx.map fun x=>if x.1.cl.eff=false∧x.1.op.isSt=true then {x.1 with cl:=.wr ((is.zipIdx.filter fun y=>decide (y.2<x.2)&& !pK b x.2 y.2&& !y.1.op.pure).flatMap fun y=>y.1.looks)}else x.1
def O.marked(eqs:List (TypeId×List Nat)):O→Bool
 | .call (.f g) _=>eqs.contains (g,[8])
 | .app .. =>true
 |_=>false
def ldOf(i:Ins):Option (Nat×Nat):=ldO i.op
def ysOf(b:Array Nat)(is:List Ins)(k:Nat):List (Nat×Nat):=
 (is.zipIdx.filter fun y=>decide (y.2<k)&& !pK b k y.2&& !y.1.cl.eff&& !y.1.op.pure).filterMap fun y=>ldOf y.1
def nsOf(b:Array Nat)(is:List Ins)(k:Nat):List Nat:=
 (is.zipIdx.filter fun y=>decide (y.2<k)&& !pK b k y.2&&y.1.nw).filterMap fun y=>y.1.dst
def O.marked2(eqs:List (TypeId×List Nat)):O→Bool
 | .bsl .. =>true
 | .call .. =>true
 |o=>o.marked eqs
def Fi(mk:O→Bool)(b:Array Nat)(is:List Ins):List Ins:=
 is.zipIdx.map fun x=>if x.1.cl.eff=false∧mk x.1.op=true then {x.1 with cl:=.cl (ysOf b is x.2) (nsOf b is x.2)}else x.1
def OC(f:Nat→Nat)(o:Oper):Oper:={o with after:=o.after.map fun e=>{e with on:=f e.on},guard:=o.guard.map fun g=>(f g.1,g.2)}
def Je(late:Nat→Bool)(b:Array Nat):Nat→List Nat→List Nat
 |0,rem=>rem
 |n+1,rem=>
  let free:=fun i=>rem.all fun j=>j==i|| !(decide (j<i)&&pK b i j)
  match rem.find? (fun i=> !late i&&free i)with
  |some i=>i::Je late b n (rem.filter (·!=i))
  |none=>match rem.find? free with
   |some i=>i::Je late b n (rem.filter (·!=i))
   |none=>rem
def EV(π:List Nat)(ops:Array Oper):Array Oper:=((List.range ops.size).map fun p=>OC (fun j=>π.idxOf j) (ops.getD (π.getD p ops.size) default)).toArray
def fX(π:List Nat)(ops:Array Oper):Bool:=
 (EV π ops).size==ops.size&&(List.range ops.size).all (fun i=>decide (π.idxOf i<ops.size)&&decide (π.getD i ops.size<ops.size)&&(π.idxOf (π.getD i ops.size)==i)&&(π.getD (π.idxOf i) ops.size==i))&&
 ops.toList.all fun o=>o.after.all (fun e=>decide (e.on<ops.size))&&(match o.guard with|some g=>decide (g.1<ops.size)|none=>true)
def fO{α β:Type}(f:Nat→α→Option β):Nat→List α→Option (List β)
 |_,[]=>some []
 |i,x::r=>(f i x).bind fun y=>(fO f (i+1) r).bind fun ys=>some (y::ys)
def DQ(eqs:List (TypeId×List Nat))(nt:Nat)(ops:Array Oper)(b:Array Nat)(cf:Array Nat→Nat→Oper→Cls)(mk:O→Bool)(is:List Ins):Option C:=
 let π:=Je (fun i=>match is[i]? with|some x=> !x.cl.eff&&mk x.op|none=>false) b ops.size (List.range ops.size)
 let ops':=EV π ops
 yH (ub ops') fun b'=>
 (fO (fun i o=>ccI P eqs nt ops' (cf b' i o) o) 0 ops'.toList).bind fun is'=>
  if fX π ops&&Cj ops' b' (Fi mk b' (ui b' is'))then some (.reg (Fi mk b' (ui b' is')))else none
def ccC(eqs:List (TypeId×List Nat))(nt:Nat):Code→Option C
 | .skip=>some .skip
 | .region _ ops draw=>
   if draw then
    yH (ub ops) fun b=>
    (fO (fun i o=>ccI P eqs nt ops (nW b i o) o) 0 ops.toList).bind fun is=>
     if is.any (fun i=> !i.cl.eff&&i.op.marked eqs)then DQ P eqs nt ops b nW (O.marked eqs) is
     else if Cj ops b (ui b is)then some (.reg (ui b is))
     else(fO (fun i o=>ccI P eqs nt ops (ZO b i o) o) 0 ops.toList).bind fun is2=>DQ P eqs nt ops b ZO (O.marked2 eqs) is2
   else(Fq (ccI P eqs nt ops .any) ops.toList).bind fun is=>some (.reg is)
 | .seq a b=>(ccC eqs nt a).bind fun a=>(ccC eqs nt b).bind fun b=>some (.seq a b)
 | .cond c a b=>(ccX c).bind fun c=>(ccC eqs nt a).bind fun a=>(ccC eqs nt b).bind fun b=>some (.cond c a b)
 | .block id c=>(ccC eqs nt c).bind fun c=>some (.block id c)
 | .loop c=>(ccC eqs nt c).bind fun c=>some (.loop c)
 | .exit id=>some (.exit id)
 | .ret=>some .ret
 | .rangeFunc f ps assign body=>(ccX f).bind fun f=>(ccC eqs nt assign).bind fun a=>(ccC eqs nt body).bind fun b=>if ps.all (·<nt)then some (.rng f ps.toList a b)else none
 |_=>none
def ccR:ResultVar→Option Rs
 | .tmp t=>some (.tmp t)
 | .cell a t=>(tsz P t).bind fun n=>(tag P t).bind fun g=>if g=false∧n≠1 then none else some (.cell a n g)
def ccF(eqs:List (TypeId×List Nat))(fn:Func):Option FnC:=
 fn.body.bind fun c=>(ccC P eqs fn.ntmps c).bind fun c=>(Fq (ccR P) fn.results.toList).bind fun rs=>
  if fn.params.size+fn.nfree≤fn.ntmps∧fn.name≠ "runtime.NumGoroutine" then some {np:=fn.params.size+fn.nfree,body:=c,res:=rs}else none
end Go.Fx
namespace Go.Fx
open Go.RowKit
inductive F2{α β:Type}(R:α→β→Prop):List α→List β→Prop
 |nil:F2 R [] []
 |cons {a:α} {b:β} {as:List α} {bs:List β} (h:R a b) (t:F2 R as bs):F2 R (a::as) (b::bs)
namespace F2
variable{α β:Type}{R R':α→β→Prop}
theorem imp(h:∀a b,R a b→R' a b):∀{as:List α} {bs:List β},F2 R as bs→F2 R' as bs
 |_,_,.nil=>.nil
 |_,_,.cons x t=>.cons (h _ _ x) (imp h t)
theorem imp':∀{as:List α} {bs:List β},(∀a b,a∈as→R a b→R' a b)→F2 R as bs→F2 R' as bs
 |_,_,_,.nil=>.nil
 |_,_,h,.cons x t=>.cons (h _ _ (by simp) x) (imp' (fun a b ha=>h a b (by simp[ha])) t)
theorem length:∀{as:List α} {bs:List β},F2 R as bs→as.length=bs.length
 |_,_,.nil=>rfl
 |_,_,.cons _ t=>by simp[length t]
theorem get:∀{as:List α} {bs:List β},F2 R as bs→∀{i:Nat} {a:α},as[i]? =some a→∃b,bs[i]? =some b∧R a b
 |_,_,.nil,i,a,h=>by simp at h
 |_,_,.cons x t,0,a,h=>by simp at h;subst h;exact⟨_,by simp,x⟩
 |_,_,.cons x t,i+1,a,h=>by simp at h;obtain⟨b,hb,hr⟩:=get t h;exact⟨b,by simpa using hb,hr⟩
theorem append:∀{as:List α} {bs:List β} {as':List α} {bs':List β},F2 R as bs→F2 R as' bs'→F2 R (as++as') (bs++bs')
 |_,_,_,_,.nil,h=>h
 |_,_,_,_,.cons x t,h=>.cons x (append t h)
theorem take:∀(n:Nat) {as:List α} {bs:List β},F2 R as bs→F2 R (as.take n) (bs.take n)
 |0,_,_,_=>by simpa using F2.nil
 |n+1,_,_,.nil=>by simpa using F2.nil
 |n+1,_,_,.cons x t=>by simpa using F2.cons x (take n t)
theorem drop:∀(n:Nat) {as:List α} {bs:List β},F2 R as bs→F2 R (as.drop n) (bs.drop n)
 |0,_,_,h=>by simpa using h
 |n+1,_,_,.nil=>by simpa using F2.nil
 |n+1,_,_,.cons x t=>by simpa using drop n t
theorem over{as:List α}{bs:List β}{vs:List α}{ws:List β}(j:Nat)(h:F2 R as bs)(k:F2 R vs ws):F2 R (Fx.over as j vs) (Fx.over bs j ws):=by
 unfold Fx.over
 rw[k.length]
 exact((h.take j).append k).append (h.drop _)
end F2
inductive RP(w:World)(D:Nat→Prop):PV→Value→Prop
 |i (k:IntKind) (n:Int):RP w D (.i k n) (.int k n)
 |b (x:Bool):RP w D (.b x) (.bool x)
 |s (x:ByteArray):RP w D (.s x.data.toList) (.string x)
 |e (a:Option Addr) (cap:Nat):RP w D (.l []) (.slice a 0 cap)
 |l (rows:List (List PV)) (a:Addr) (k cap:Nat) (vals:Nat→Nat→Value) (hs:a.spot=none) (hD:D a.block) (hc:rows.length≤cap)
    (hk:∀(i:Nat) (r:List PV),rows[i]? =some r→r.length=k)
    (hv:∀(i:Nat) (r:List PV) (j:Nat) (c:PV),rows[i]? =some r→r[j]? =some c→w.cell? ⟨a.block,a.off+(i*k+j),none⟩=some (vals i j))
    (hr:∀(i:Nat) (r:List PV) (j:Nat) (c:PV),rows[i]? =some r→r[j]? =some c→RP w D c (vals i j)):RP w D (.l rows) (.slice (some a) rows.length cap)
theorem RP.mono{w w':World}{D D':Nat→Prop}(h:∀b,D b→D' b∧w'.heap[b]? =w.heap[b]?){p:PV}{v:Value}(hp:RP w D p v):RP w' D' p v:=by
 induction hp with
 |i k n=>exact .i k n
 |b x=>exact .b x
 |s x=>exact .s x
 |e a cap=>exact .e a cap
 |l rows a k cap vals hs hD hc hk hv _ ih=>
  exact .l rows a k cap vals hs (h _ hD).1 hc hk (fun i r j c hi hj=>(World.cell?_of_block (w:=w) (a:=⟨a.block,_,none⟩) (h a.block hD).2).trans (hv i r j c hi hj)) (fun i r j c hi hj=>ih i r j c hi hj)
theorem RP.one{w:World}{D:Nat→Prop}{p:PV}{v:Value}(h:RP w D p v):v.oneCell'=true:=by cases h<;>rfl
theorem RP.flat{w w':World}{D D':Nat→Prop}{p:PV}{v:Value}(h:RP w D p v)(hf:p.flat=true):RP w' D' p v:=by
 cases h with
 |i k n=>exact .i k n
 |b x=>exact .b x
 |s x=>exact .s x
 |e a cap=>simp[PV.flat]at hf
 |l=>simp[PV.flat]at hf
def RG(R:PV→Value→Prop)(g:Bool)(cs:List PV)(v:Value):Prop:=
 if g=true then∃vs,v= .agg vs.toArray∧F2 R cs vs else∃x,cs=[x]∧R x v
def RPT(w:World)(D:Nat→Prop):PT→Value→Prop
 | .z,v=>v=undef
 | .a x,v=>RP w D x v
 | .g cs,v=>∃vs,v= .agg vs.toArray∧F2 (RP w D) cs vs
 | .t ts,v=>∃us,v= .tuple us.toArray∧F2 (fun x u=>RG (RP w D) x.1 x.2 u) ts us
theorem RG.imp{R R':PV→Value→Prop}{g:Bool}{cs:List PV}{v:Value}(h:∀x v,x∈cs→R x v→R' x v)(hg:RG R g cs v):RG R' g cs v:=by
 unfold RG at*
 split
 ·rename_i e;rw[if_pos e]at hg;obtain⟨vs,hv,h2⟩:=hg;exact⟨vs,hv,F2.imp' h h2⟩
 ·rename_i e;rw[if_neg e]at hg;obtain⟨x,rfl,h2⟩:=hg;exact⟨x,rfl,h _ _ (by simp) h2⟩
theorem RPT.mono{w w':World}{D D':Nat→Prop}(h:∀b,D b→D' b∧w'.heap[b]? =w.heap[b]?){p:PT}{v:Value}(hp:RPT w D p v):RPT w' D' p v:=by
 cases p with
 |z=>exact hp
 |a x=>exact RP.mono h hp
 |g cs=>obtain⟨vs,hv,h2⟩:=hp;exact⟨vs,hv,h2.imp fun _ _=>RP.mono h⟩
 |t ts=>obtain⟨vs,hv,h2⟩:=hp;exact⟨vs,hv,h2.imp fun x u hx=>RG.imp (fun _ _ _=>RP.mono h) hx⟩
theorem RPT.flat{w w':World}{D D':Nat→Prop}{p:PT}{v:Value}(hp:RPT w D p v)(hf:p.flat=true):RPT w' D' p v:=by
 cases p with
 |z=>exact hp
 |a x=>exact RP.flat hp hf
 |g cs=>
  obtain⟨vs,hv,h2⟩:=hp
  simp only[PT.flat,Gc]at hf
  exact⟨vs,hv,F2.imp' (fun a b ha hr=>RP.flat hr (hf a ha)) h2⟩
 |t ts=>
  obtain⟨vs,hv,h2⟩:=hp
  simp only[PT.flat,Gc]at hf
  exact⟨vs,hv,F2.imp' (fun x u hx hg=>RG.imp (fun y v hy hr=>RP.flat hr (hf x hx y hy)) hg) h2⟩
structure Mt where
 mu:Key→Option (Nat×Nat)
 la:Nat→Nat
 D:Nat→Prop
def Blk.k:Blk→Nat
 | .var _=>0
 | .row k _ _=>k
 | .map _ _=>0
def C9(m:Mt)(σ:St)(s:Key)(i j:Nat)(v:Value):Prop:=
 s.2<σ.clk∧∀b,σ.bs s=some b→∃B c,m.mu s=some (B,c)∧v= .pointer (some ⟨B,i*b.k+j,none⟩)
def RA(m:Mt)(σ:St)(w:World):AV→Value→Prop
 | .p x,v=>RP w m.D x v
 | .nil,v=>v= .slice none 0 0
 | .ptr s i j,v=>C9 m σ s i j v∧∃A,v= .pointer (some A)
 | .cptr r j,v=>∃(B o:Nat) (vals:Nat→Value),m.D B∧v= .pointer (some ⟨B,o+j,none⟩)∧∀(i:Nat) (c:PV),r[i]? =some c→w.cell? ⟨B,o+i,none⟩=some (vals i)∧RP w m.D c (vals i)
 | .own s off len,v=>s.2<σ.clk∧(∃a c,v= .slice a len c∧len≤c)∧∀k e rows,σ.bs s=some (.row k e rows)→
   (len=0∧∃a,v= .slice a 0 0)∨∃B c,m.mu s=some (B,c)∧v= .slice (some ⟨B,off*k,none⟩) len (c-off)∧off+len≤c
 | .fn f caps,v=>∃vs:List Value,v= .func (.func f) #[] vs.toArray∧F2 (fun s u=>C9 m σ s 0 0 u∧∃A,u= .pointer (some A)) caps vs
 | .yl l,v=>l<σ.ls.length∧v= .func (.yield (m.la l)) #[] #[]
 | .raw c,v=>v=c∧c.oneCell'=true
 | .mp s,v=>(s.2<σ.clk∧∀b,σ.bs s=some b→∃B c,m.mu s=some (B,c)∧v= .map (some B))∧∃A,v= .map A
theorem RA.one{m:Mt}{σ:St}{w:World}{x:AV}{v:Value}(h:RA m σ w x v):v.oneCell'=true:=by
 cases x with
 |p x=>exact RP.one h
 |nil=>cases h;rfl
 |ptr s i j=>obtain⟨_,A,rfl⟩:=h;rfl
 |cptr r j=>obtain⟨B,o,vals,_,rfl,_⟩:=h;rfl
 |own s off len=>obtain⟨_,⟨a,c,rfl,_⟩,_⟩:=h;rfl
 |fn f caps=>obtain⟨vs,rfl,_⟩:=h;rfl
 |yl l=>obtain⟨_,rfl⟩:=h;rfl
 |raw c=>obtain⟨rfl,h⟩:=h;exact h
 |mp s=>obtain⟨_,A,rfl⟩:=h;rfl
def RGA(R:AV→Value→Prop)(g:Bool)(cs:List AV)(v:Value):Prop:=
 if g=true then∃vs,v= .agg vs.toArray∧F2 R cs vs else∃x,cs=[x]∧R x v
theorem RGA.imp{R R':AV→Value→Prop}{g:Bool}{cs:List AV}{v:Value}(h:∀x v,R x v→R' x v)(hg:RGA R g cs v):RGA R' g cs v:=by
 unfold RGA at*
 split
 ·rename_i e;rw[if_pos e]at hg;obtain⟨vs,hv,h2⟩:=hg;exact⟨vs,hv,F2.imp h h2⟩
 ·rename_i e;rw[if_neg e]at hg;obtain⟨x,rfl,h2⟩:=hg;exact⟨x,rfl,h _ _ h2⟩
def RT(m:Mt)(σ:St)(w:World):TV→Value→Prop
 | .u,v=>v=undef
 | .a x,v=>RA m σ w x v
 | .g cs,v=>∃vs,v= .agg vs.toArray∧F2 (RA m σ w) cs vs
 | .t ts,v=>∃us,v= .tuple us.toArray∧F2 (fun x u=>RGA (RA m σ w) x.1 x.2 u) ts us
theorem RT.imp{m m':Mt}{σ σ':St}{w w':World}(h:∀x v,RA m σ w x v→RA m' σ' w' x v){t:TV}{v:Value}(ht:RT m σ w t v):RT m' σ' w' t v:=by
 cases t with
 |u=>exact ht
 |a x=>exact h _ _ ht
 |g cs=>obtain⟨vs,hv,h2⟩:=ht;exact⟨vs,hv,h2.imp h⟩
 |t ts=>obtain⟨vs,hv,h2⟩:=ht;exact⟨vs,hv,h2.imp fun x u hx=>RGA.imp h hx⟩
def RE(m:Mt)(σ:St)(w:World)(e:Env)(tmps:Array Value):Prop:=∀n,RT m σ w (e n) (tmps.getD n undef)
structure IM(es:Array MapEntry)(clock:Nat)(ks:List Int):Prop where
 size:es.size≤ks.length
 len:ks.length≤140737488355328
 stamped:Go.MapKept.Stamped es clock
 reads:∀x∈es.toList,∃n:Int,(Lit.int .i64 n).wf=true∧x.key= .int .i64 n∧x.val= .agg #[]∧n∈ks
 all:∀n∈ks,∃x∈es.toList,x.key= .int .i64 n
def BR(m:Mt)(σ:St)(w:World)(s:Key):Blk→Prop
 | .var cs=>m.mu s=none∨∃(B:Nat) (T:TypeId) (vs:List Value),m.mu s=some (B,0)∧w.heap[B]? =some (.cells vs.toArray T (0,0))∧F2 (RA m σ w) cs vs
 | .row k e rows=>0<k∧(∀r:List PV,r∈rows→r.length=k)∧
   ((m.mu s=none∧rows=[])∨∃(B c:Nat) (cur:Array Value),m.mu s=some (B,c)∧w.heap[B]? =some (.cells cur e (0,0))∧cur.size=c*k∧rows.length≤c∧c≤maxLen∧
     ∀(i:Nat) (r:List PV) (j:Nat) (p:PV),rows[i]? =some r→r[j]? =some p→∃v,cur[i*k+j]? =some v∧RP w m.D p v)
 | .map _ ks=>∃(B:Nat) (es:Array MapEntry) (clock:Nat),m.mu s=some (B,0)∧w.heap[B]? =some (.map es clock)∧IM es clock ks
def exC:Ex→Code
 | .norm=>.skip
 | .exit id=>.exit id
 | .ret=>.ret
def stR:LSt→LoopState
 | .ready=>.ready
 | .busy=>.busy
 | .done=>.done
 | .gone=>.exhausted
def LR(CR:Nat→Code→C→Prop)(m:Mt)(σ:St)(w:World)(l:Nat)(r:LRec):Prop:=
 ∃lo:Loop,w.heap[m.la l]? =some (.loop lo)∧RE m σ w r.env lo.tmps∧lo.params=r.params.toArray∧(∀p,p∈r.params→p<lo.tmps.size)∧
  CR lo.tmps.size lo.assign r.assign∧CR lo.tmps.size lo.body r.body∧lo.state=stR r.st∧lo.pending=r.pend.map exC∧r.pend≠some .norm
def InS(m:Mt)(σ:St)(b:Nat):Prop:=(∃s blk c,σ.bs s=some blk∧m.mu s=some (b,c))∨∃l,l<σ.ls.length∧m.la l=b
structure SR(CR:Nat→Code→C→Prop)(m:Mt)(σ:St)(w:World):Prop where
 blk:∀s b,σ.bs s=some b→BR m σ w s b
 gen:∀s b,σ.bs s=some b→s.2<σ.clk
 inj:∀s s' b b' B c c',σ.bs s=some b→σ.bs s'=some b'→m.mu s=some (B,c)→m.mu s'=some (B,c')→s=s'
 dj:∀b,InS m σ b→¬m.D b
 dlt:∀b,m.D b→b<w.heap.size
 lrs:∀l r,σ.ls[l]? =some r→LR CR m σ w l r
 linj:∀l l',l<σ.ls.length→l'<σ.ls.length→m.la l=m.la l'→l=l'
theorem SR.inS_lt{CR:Nat→Code→C→Prop}{m:Mt}{σ:St}{w:World}(h:SR CR m σ w){b:Nat}(hb:InS m σ b):b<w.heap.size:=by
 rcases hb with⟨s,blk,c,hs,hm⟩|⟨l,hl,rfl⟩
 ·have:=h.blk s blk hs
  cases blk with
  |var cs=>
   rcases this with h1|⟨B,T,vs,h1,h2,_⟩
   ·rw[h1]at hm;cases hm
   ·rw[h1]at hm;cases hm
    exact(ei.1 h2).1
  |row k e rows=>
   obtain⟨_,_,⟨h1,_⟩|⟨B,c',cur,h1,h2,_⟩⟩:=this
   ·rw[h1]at hm;cases hm
   ·rw[h1]at hm;cases hm
    exact(ei.1 h2).1
  |map k ks=>
   obtain⟨B,es,clock,h1,h2,_⟩:=this
   rw[h1]at hm;cases hm
   exact(ei.1 h2).1
 ·obtain⟨r,hr⟩:∃r,σ.ls[l]? =some r:=⟨_,Xb hl⟩
  obtain⟨lo,h1,_⟩:=h.lrs l r hr
  exact(ei.1 h1).1
def Yu:Blk→Blk→Prop
 | .var cs,.var cs'=>cs.length=cs'.length
 | .row k e _,.row k' e' _=>k=k'∧e=e'
 | .map k _,.map k' _=>k=k'
 |_,_=>False
theorem Yu.refl(b:Blk):Yu b b:=by cases b<;>simp[Yu]
theorem Yu.trans{a b c:Blk}(h:Yu a b)(k:Yu b c):Yu a c:=by
 cases a<;>cases b<;>cases c<;>simp_all [Yu]
theorem Yu.k{a b:Blk}(h:Yu a b):a.k=b.k:=by
 cases a<;>cases b<;>simp_all [Yu,Blk.k]
structure Xt(m:Mt)(σ:St)(w:World)(m':Mt)(σ':St)(w':World):Prop where
 mu:∀s,s.2<σ.clk→m'.mu s=m.mu s
 la:∀l,l<σ.ls.length→m'.la l=m.la l
 clk:σ.clk≤σ'.clk
 len:σ.ls.length≤σ'.ls.length
 bs:∀s b',σ'.bs s=some b'→s.2<σ.clk→∃b,σ.bs s=some b∧Yu b b'
 D:∀b,m.D b→m'.D b
 new:∀b,m'.D b→m.D b∨w.heap.size≤b∨InS m σ b
 img:∀b,InS m' σ' b→InS m σ b∨w.heap.size≤b
 kept:∀b,b<w.heap.size→¬InS m σ b→w'.heap[b]? =w.heap[b]?
 os:w'.os=w.os
 tape:w'.tape=w.tape
 output:w'.output=w.output
 size:w.heap.size≤w'.heap.size
theorem Xt.refl(m:Mt)(σ:St)(w:World):Xt m σ w m σ w:=
 ⟨fun _ _=>rfl,fun _ _=>rfl,nh _,nh _,fun _ b h _=>⟨b,h,Yu.refl b⟩,fun _ h=>h,fun _ h=>.inl h,fun _ h=>.inl h,fun _ _ _=>rfl,rfl,rfl,rfl,nh _⟩
theorem Xt.trans{m m1 m2:Mt}{σ σ1 σ2:St}{w w1 w2:World}(h:Xt m σ w m1 σ1 w1)(k:Xt m1 σ1 w1 m2 σ2 w2):Xt m σ w m2 σ2 w2 where
 mu s hs:=(k.mu s (yz hs h.clk)).trans (h.mu s hs)
 la l hl:=(k.la l (yz hl h.len)).trans (h.la l hl)
 clk:=fm h.clk k.clk
 len:=fm h.len k.len
 bs s b' hs hc:=by
  obtain⟨b1,h1,e1⟩:=k.bs s b' hs (yz hc h.clk)
  obtain⟨b0,h0,e0⟩:=h.bs s b1 h1 hc
  exact⟨b0,h0,e0.trans e1⟩
 D b hb:=k.D b (h.D b hb)
 new b hb:=by
  rcases k.new b hb with h1|h1|h1
  ·exact h.new b h1
  ·exact .inr (.inl (fm h.size h1))
  ·rcases h.img b h1 with h2|h2
   ·exact .inr (.inr h2)
   ·exact .inr (.inl h2)
 img b hb:=by
  rcases k.img b hb with h1|h1
  ·exact h.img b h1
  ·exact .inr (fm h.size h1)
 kept b hb hn:=by
  rw[k.kept b (yz hb h.size) (fun hi=>by
   rcases h.img b hi with h2|h2
   ·exact hn h2
   ·omega),h.kept b hb hn]
 os:=k.os.trans h.os
 tape:=k.tape.trans h.tape
 output:=k.output.trans h.output
 size:=fm h.size k.size
section
variable{CR:Nat→Code→C→Prop}{m m':Mt}{σ σ':St}{w w':World}
theorem Xt.rp(h:SR CR m σ w)(x:Xt m σ w m' σ' w'){p:PV}{v:Value}(hp:RP w m.D p v):RP w' m'.D p v:=
 hp.mono fun b hb=>⟨x.D b hb,x.kept b (h.dlt b hb) (fun hi=>h.dj b hi hb)⟩
theorem Xt.pv(x:Xt m σ w m' σ' w'){s:Key}{i j:Nat}{v:Value}(hp:C9 m σ s i j v):C9 m' σ' s i j v:=by
 refine⟨yz hp.1 x.clk,fun b hb=>?_⟩
 obtain⟨b0,h0,e0⟩:=x.bs s b hb hp.1
 obtain⟨B,c,hm,hv⟩:=hp.2 b0 h0
 exact⟨B,c,(x.mu s hp.1).trans hm,by rw[←e0.k];exact hv⟩
theorem Xt.ra(h:SR CR m σ w)(x:Xt m σ w m' σ' w'){a:AV}{v:Value}(hp:RA m σ w a v):RA m' σ' w' a v:=by
 cases a with
 |p y=>exact x.rp h hp
 |nil=>exact hp
 |ptr s i j=>exact⟨x.pv hp.1,hp.2⟩
 |cptr r j=>
  obtain⟨B,o,vals,hD,hv,hr⟩:=hp
  have hk:=x.kept B (h.dlt B hD) (fun hi=>h.dj B hi hD)
  exact⟨B,o,vals,x.D B hD,hv,fun i c hc=>⟨(World.cell?_of_block (w:=w) (a:=⟨B,_,none⟩) hk).trans (hr i c hc).1,x.rp h (hr i c hc).2⟩⟩
 |own s off len=>
  refine⟨yz hp.1 x.clk,hp.2.1,fun k e rows hb=>?_⟩
  obtain⟨b0,h0,e0⟩:=x.bs s _ hb hp.1
  cases b0 with
  |var cs=>simp[Yu]at e0
  |map k ks=>simp[Yu]at e0
  |row k0 e0' rows0=>
   simp only[Yu]at e0
   obtain⟨rfl,rfl⟩:=e0
   rcases hp.2.2 k0 e0' rows0 h0 with h1|⟨B,c,hm,hv,hl⟩
   ·exact .inl h1
   ·exact .inr ⟨B,c,(x.mu s hp.1).trans hm,hv,hl⟩
 |fn f caps=>
  obtain⟨vs,hv,h2⟩:=hp
  exact⟨vs,hv,h2.imp fun _ _ hx=>⟨x.pv hx.1,hx.2⟩⟩
 |yl l=>
  obtain⟨hl,hv⟩:=hp
  exact⟨yz hl x.len,by rw[x.la l hl];exact hv⟩
 |raw c=>exact hp
 |mp s=>
  refine⟨⟨yz hp.1.1 x.clk,fun b hb=>?_⟩,hp.2⟩
  obtain⟨b0,h0,e0⟩:=x.bs s b hb hp.1.1
  obtain⟨B,c,hm,hv⟩:=hp.1.2 b0 h0
  exact⟨B,c,(x.mu s hp.1.1).trans hm,hv⟩
theorem Xt.rt(h:SR CR m σ w)(x:Xt m σ w m' σ' w'){t:TV}{v:Value}(hp:RT m σ w t v):RT m' σ' w' t v:=hp.imp fun _ _ hx=>x.ra h hx
theorem Xt.re(h:SR CR m σ w)(x:Xt m σ w m' σ' w'){e:Env}{tmps:Array Value}(hp:RE m σ w e tmps):RE m' σ' w' e tmps:=fun n=>x.rt h (hp n)
end
theorem RE.put{m:Mt}{σ:St}{w:World}{e:Env}{tmps:Array Value}(h:RE m σ w e tmps){d:Nat}(hd:d<tmps.size){t:TV}{v:Value}(ht:RT m σ w t v):
  RE m σ w (e.put d t) (tmps.setIfInBounds d v):=by
 intro n
 unfold Env.put
 by_cases hn:n=d
 ·subst hn;simp[wF,hd];exact ht
 ·have:(tmps.setIfInBounds d v).getD n undef=tmps.getD n undef:=by
   simp[wF,L1 (Mu hn)]
  rw[if_neg hn,this];exact h n
theorem RE.putD{m:Mt}{σ:St}{w:World}{e:Env}{a:Act}(h:RE m σ w e a.tmps){d:Option Nat}(hd:M4 a.tmps.size d=true){t:TV}{v:Value}(ht:RT m σ w t v):
  RE m σ w (e.putD d t) (a.put d v).tmps:=by
 cases d with
 |none=>exact h
 |some d=>exact h.put (by simpa [M4]using hd) ht
theorem uL(a:Act)(d:Option Nat)(v:Value):(a.put d v).tmps.size=a.tmps.size:=by
 cases d<;>simp[Act.put]
theorem Ds(a:Act)(d:Option Nat)(v:Value):(a.put d v).defers=a.defers:=by
 cases d<;>simp[Act.put]
end Go.Fx
namespace Go.Fx
open Go.RowKit
theorem T2(B o n:Nat):(⟨B,o,none⟩:Addr).add n=⟨B,o+n,none⟩:=by
 unfold Addr.add;split<;>simp_all
theorem Y9(a:Addr)(h:a.spot=none)(n:Nat):a.add n=⟨a.block,a.off+n,none⟩:=by
 cases a;simp only at h;subst h;exact T2 _ _ _
theorem CE{α β γ:Type}{f:α→Option β}{R:β→γ→Prop}{g:α→γ}(h:∀x y,f x=some y→R y (g x)):∀{l:List α} {l':List β},Fq f l=some l'→F2 R l' (l.map g)
 |[],l',e=>by simp[Fq]at e;subst e;exact .nil
 |x::r,l',e=>by
  simp only[Fq]at e
  obtain⟨y,h1,e⟩:=X4.1 e
  obtain⟨ys,h2,e⟩:=X4.1 e
  simp only[Lo]at e;subst e
  exact .cons (h x y h1) (CE h h2)
section
variable{m:Mt}{σ:St}{w:World}
theorem fo{v:Value}{x:AV}(h:cAV v=some x):RA m σ w x v:=by
 unfold cAV at h
 split at h<;>first|(simp only[Lo]at h;subst h)|(cases h)
 ·exact .b _
 ·exact .i _ _
 ·exact .s _
 ·rfl
 ·exact⟨rfl,rfl⟩
 ·exact⟨rfl,rfl⟩
theorem bI{v:Value}{x:TV}(h:cTV v=some x):RT m σ w x v:=by
 unfold cTV at h
 split at h
 ·rename_i vs
  split at h
  ·rename_i hs
   simp only[Lo]at h;subst h
   show Value.tuple vs=Value.tuple #[]
   rw[wD hs]
  ·cases h
 ·obtain⟨y,h1,h⟩:=X4.1 h
  simp only[Lo]at h;subst h
  exact fo h1
theorem VV{e:Env}{a:Act}(hE:RE m σ w e a.tmps){x:Operand}{y:X}(h:ccX x=some y):RT m σ w (ev e y) (a.eval x):=by
 cases x with
 |tmp t=>simp only[ccX,Lo]at h;subst h;exact hE t
 |const v=>
  simp only[ccX]at h
  obtain⟨t,h1,h⟩:=X4.1 h
  simp only[Lo]at h;subst h
  exact bI h1
 |func f=>simp only[ccX,Lo]at h;subst h;exact⟨[],rfl,.nil⟩
 |global g=>simp[ccX]at h
theorem oD{t:TV}{v:Value}{cs:List AV}(h:RT m σ w t v)(hc:dV t=some cs):F2 (RA m σ w) cs v.cells.toList:=by
 cases t with
 |u=>simp[dV]at hc
 |a x=>
  simp only[dV,Lo]at hc;subst hc
  have h1:RA m σ w x v:=h
  have:v.cells= #[v]:=by have:=h1.one;cases v<;>simp_all [Value.cells,Value.oneCell']
  rw[this];exact .cons h1 .nil
 |g cs'=>
  simp only[dV,Lo]at hc;subst hc
  obtain⟨vs,rfl,h2⟩:=h
  simpa [Value.cells]using h2
 |t vs=>simp[dV]at hc
theorem F2.one{cs:List AV}{vs:List Value}(h:F2 (RA m σ w) cs vs):∀v∈vs,v.oneCell'=true:=by
 induction h with
 |nil=>simp
 |cons x _ ih=>intro v hv;simp at hv;rcases hv with rfl|hv;exact x.one;exact ih v hv
theorem zG{t:TV}{v:Value}{n:Int}(h:RT m σ w t v)(hn:mO t=some n):∃k,v= .int k n:=by
 unfold mO at hn
 split at hn
 ·simp only[Lo]at hn;subst hn
  rename_i k n
  have h:RP w m.D (.i k n) v:=h
  cases h;exact⟨k,rfl⟩
 ·cases hn
theorem JD{g:Bool}{cs:List AV}{vs:List Value}{t:TV}(h:F2 (RA m σ w) cs vs)(ht:mkT g cs=some t):
  if g=true then RT m σ w t (.agg vs.toArray)else∃v,vs=[v]∧RT m σ w t v:=by
 cases g with
 |true=>simp only[mkT,if_true,Lo]at ht;subst ht;simpa using⟨vs,rfl,h⟩
 |false=>
  simp only[mkT,SY,if_false]at ht⊢
  cases h with
  |nil=>simp at ht
  |cons x t'=>
   cases t' with
   |nil=>simp only[Lo]at ht;subst ht;exact⟨_,rfl,x⟩
   |cons y t''=>simp at ht
theorem RP.rows{D:Nat→Prop}{rows:List (List PV)}{v:Value}(h:RP w D (.l rows) v):∃a cap,v= .slice a rows.length cap∧rows.length≤cap∨∃a cap,v= .slice a rows.length cap:=by
 cases h with
 |e a cap=>exact⟨a,cap,.inr ⟨a,cap,rfl⟩⟩
 |l rows a k cap vals hs hD hc hk hv hr=>exact⟨some a,cap,.inl ⟨rfl,hc⟩⟩
theorem RP.slice{D:Nat→Prop}{rows:List (List PV)}{v:Value}(h:RP w D (.l rows) v):∃a cap,v= .slice a rows.length cap:=by
 cases h with
 |e a cap=>exact⟨a,cap,rfl⟩
 |l rows a k cap vals hs hD hc hk hv hr=>exact⟨some a,cap,rfl⟩
theorem RP.cells{D:Nat→Prop}{rows:List (List PV)}{v:Value}(h:RP w D (.l rows) v)(hne:rows≠[]):
  ∃(a:Addr) (k cap:Nat) (vals:Nat→Nat→Value),v= .slice (some a) rows.length cap∧a.spot=none∧D a.block∧rows.length≤cap∧(∀(i:Nat) (r:List PV),rows[i]? =some r→r.length=k)∧
   (∀(i:Nat) (r:List PV) (j:Nat) (c:PV),rows[i]? =some r→r[j]? =some c→w.cell? ⟨a.block,a.off+(i*k+j),none⟩=some (vals i j))∧
   (∀(i:Nat) (r:List PV) (j:Nat) (c:PV),rows[i]? =some r→r[j]? =some c→RP w D c (vals i j)):=by
 cases h with
 |e a cap=>exact absurd rfl hne
 |l rows a k cap vals hs hD hc hk hv hr=>exact⟨a,k,cap,vals,rfl,hs,hD,hc,hk,hv,hr⟩
theorem F2_of_fun{R:PV→Value→Prop}(f:Nat→Value):∀{r:List PV} (o:Nat),(∀(i:Nat) c,r[i]? =some c→R c (f (o+i)))→F2 R r ((List.range r.length).map fun i=>f (o+i))
 |[],_,_=>.nil
 |c::r,o,h=>by
  rw[Ce,List.range_succ_eq_map,zx,sT]
  refine .cons (h 0 c (by simp)) ?_
  have:=F2_of_fun f (r:=r) (o+1) (fun i c hc=>by have:=h (i+1) c (by simpa using hc);rwa [show o+(i+1)=o+1+i by omega]at this)
  have e:(fun i=>f (o+1+i))=((fun i=>f (o+i))∘Nat.succ):=by funext i;simp;congr 1;omega
  rw[e]at this;exact this
theorem F2_p{D:Nat→Prop}{cs:List PV}{vs:List Value}(hD:m.D=D)(h:F2 (RP w D) cs vs):F2 (RA m σ w) (cs.map .p) vs:=by
 induction h with
 |nil=>exact .nil
 |cons x _ ih=>exact .cons (by subst hD;exact x) ih
theorem Ly{CR:Nat→Code→C→Prop}(hR:SR CR m σ w){x:AV}{v:Value}(hx:RA m σ w x v){n:Nat}{cs:List AV}(h:cM σ n x=some cs):
  ∃(B o:Nat) (vs:List Value),v= .pointer (some ⟨B,o,none⟩)∧vs.length=n∧(∀j u,vs[j]? =some u→w.cell? ⟨B,o+j,none⟩=some u)∧F2 (RA m σ w) cs vs:=by
 cases x with
 |ptr s i j=>
  obtain⟨⟨hlt,hp⟩,_⟩:=hx
  simp only[cM]at h
  cases hb:σ.bs s with
  |none=>simp[hb]at h
  |some b=>
   obtain⟨B,c,hm,rfl⟩:=hp b hb
   have hbr:=hR.blk s b hb
   cases b with
   |var cells=>
    simp only[hb]at h
    obtain⟨B',T,vs,h1,h2,h3⟩:=hbr.resolve_left (by rw[hm];simp)
    rw[hm]at h1;simp only[Lo,ZP]at h1
    obtain⟨rfl,_⟩:=h1
    split at h
    ·rename_i hc
     obtain⟨rfl,hl⟩:=hc
     simp only[Lo]at h;subst h
     refine⟨B,j,(vs.drop j).take n,by simp[Blk.k],?_,?_,(h3.drop j).take n⟩
     ·have:=h3.length;simp;omega
     ·intro i u hu
      have:vs[j+i]? =some u:=by
       rw[XL]at hu
       split at hu
       ·simpa [L9]using hu
       ·cases hu
      simp only[World.cell?,h2]
      simpa using this
    ·cases h
   |map k ks=>simp[hb]at h
   |row k e rows=>
    simp only[hb]at h
    obtain⟨hk,hkl,hbr⟩:=hbr
    cases hr:rows[i]? with
    |none=>simp[hr]at h
    |some r=>
     simp only[hr]at h
     split at h
     ·rename_i hl
      simp only[Lo]at h;subst h
      rcases hbr with⟨h1,_⟩|⟨B',c',cur,h1,h2,h3,h4,h5,h6⟩
      ·rw[hm]at h1;cases h1
      ·rw[hm]at h1;simp only[Lo,ZP]at h1
       obtain⟨rfl,rfl⟩:=h1
       have hf:∀(q:Nat) p,r[q]? =some p→∃u,cur[i*k+q]? =some u∧RP w m.D p u:=fun q p hq=>h6 i r q p hr hq
       refine⟨B,i*k+j,(List.range ((r.drop j).take n).length).map fun q=>(cur[i*k+(j+q)]?).getD undef,rfl,?_,?_,?_⟩
       ·simp;omega
       ·intro q u hu
        simp only[Qy]at hu
        have hql:q<((r.drop j).take n).length:=by
         rcases N2 q ((r.drop j).take n).length with h'|h'
         ·exact h'
         ·rw[eF (by simpa using h')]at hu;cases hu
        rw[CY hql]at hu
        simp only[lT,Lo]at hu
        have hjq:j+q<r.length:=by simp at hql;omega
        obtain⟨u',hu',_⟩:=hf (j+q) _ (Xb hjq)
        rw[hu']at hu;simp only[M0]at hu;subst hu
        simp only[World.cell?,h2]
        simp only[S8,SY,if_false]
        rw[show i*k+j+q=i*k+(j+q) by omega];exact hu'
       ·refine F2_p rfl (F2_of_fun (fun q=>(cur[i*k+q]?).getD undef) j ?_)
        intro q c hc
        have:r[j+q]? =some c:=by
         rw[XL]at hc
         split at hc
         ·simpa [L9]using hc
         ·cases hc
        obtain⟨u',hu',hr'⟩:=hf (j+q) c this
        simp only[hu',M0];exact hr'
     ·cases h
 |cptr r j=>
  obtain⟨B,o,vals,hD,rfl,hr⟩:=hx
  simp only[cM]at h
  split at h
  ·rename_i hl
   simp only[Lo]at h;subst h
   refine⟨B,o+j,(List.range ((r.drop j).take n).length).map fun q=>vals (j+q),rfl,by simp;omega,?_,?_⟩
   ·intro q u hu
    simp only[Qy]at hu
    have hql:q<((r.drop j).take n).length:=by
     rcases N2 q ((r.drop j).take n).length with h'|h'
     ·exact h'
     ·rw[eF (by simpa using h')]at hu;cases hu
    rw[CY hql]at hu
    simp only[lT,Lo]at hu
    have hjq:j+q<r.length:=by simp at hql;omega
    have:=(hr (j+q) _ (Xb hjq)).1
    rw[hu,←Qp]at this;exact this
   ·refine F2_p rfl (F2_of_fun vals j ?_)
    intro q c hc
    have:r[j+q]? =some c:=by
     rw[XL]at hc
     split at hc
     ·simpa [L9]using hc
     ·cases hc
    exact(hr (j+q) c this).2
  ·cases h
 |p y=>simp[cM]at h
 |nil=>simp[cM]at h
 |own s off len=>simp[cM]at h
 |fn f caps=>simp[cM]at h
 |yl l=>simp[cM]at h
 |raw c=>simp[cM]at h
 |mp s=>simp[cM]at h
end
theorem Jb{P:Program}{t:TypeId}{n:Nat}(h:tsz P t=some n)(w:World):(sizeOf t).run P w= .ok n w:=by
 unfold tsz at h
 obtain⟨i,hi,h⟩:=X4.1 h
 simp only[Lo]at h;subst h
 simp[sizeOf,typeInfo,hi]
theorem EW{P:Program}{t:TypeId}{g:Bool}(h:tag P t=some g)(w:World):(isAgg t).run P w= .ok g w:=by
 unfold tag at h
 obtain⟨d,hd,h⟩:=X4.1 h
 simp only[Lo]at h;subst h
 simp only[isAgg,Sem.run_bind,run_underlying hd,Result.andThen_ok]
 cases d<;>rfl
theorem yF{P:Program}{t:TypeId}{z:List AV}(h:NU P t=some z)(w:World):∃v,(zeroValue t).run P w= .ok v w∧∀m σ w,F2 (RA m σ w) z v.cells.toList:=by
 unfold NU at h
 obtain⟨i,hi,h⟩:=X4.1 h
 obtain⟨v,hv,h⟩:=X4.1 h
 refine⟨v,by simp[zeroValue,typeInfo,hi,hv],fun m σ w=>?_⟩
 have:=CE (R:=RA m σ w) (g:=fun v:Value=>v) (fun _ _=>fo) h
 simpa using this
theorem EL{P:Program}{t:TypeId}{e:Nat×Nat×Nat}(h:VU P t=some e):P.underlying t=some (.slice e.1)∧∃i,P.info? e.1=some i∧i.size=e.2.1∧i.bytes=e.2.2∧0<i.size∧0<i.bytes:=by
 unfold VU at h
 split at h
 ·rename_i el hu
  obtain⟨i,hi,h⟩:=X4.1 h
  split at h
  ·simp only[Lo]at h;subst h
   exact⟨hu,i,hi,rfl,rfl,by assumption⟩
  ·cases h
 ·cases h
theorem WU{P:Program}{t:TypeId}{f:Nat}{p:Nat×TypeId}(h:Qc P t f=some p):∃fs fd,P.underlying t=some (.struct fs)∧fs[f]? =some fd∧fd.offset=p.1∧fd.type=p.2:=by
 unfold Qc at h
 split at h
 ·rename_i fs hu
  obtain⟨fd,hf,h⟩:=X4.1 h
  simp only[Lo]at h;subst h
  exact⟨fs,fd,hu,hf,rfl,rfl⟩
 ·cases h
theorem ay{P:Program}{op:BinOp}{t:TypeId}{w:World}{D:Nat→Prop}{a c r:PV}{x y:Value}(hop:op≠ .shl∧op≠ .shr∧op≠ .and∧op≠ .or∧op≠ .xor∧op≠ .andNot)
  (hx:RP w D a x) (hy:RP w D c y) (h:mE op a c=some r) (ox oy:Operand):
  ∃v,((do eqGuard op t ox oy x y;binOp op t x y:Sem Value)).run P w= .ok v w∧RP w D r v:=by
 unfold mE at h
 split at h
 ·rename_i k p k' q
  cases hx;cases hy
  split at h
  ·rename_i hk
   subst hk
   have hg:(eqGuard op t ox oy (.int k p) (.int k q)).run P w= .ok () w:=by
    unfold eqGuard;split<;>simp
   cases op<;>simp only[Lo,reduceCtorEq]at h<;>(try subst h)<;>(try (simp only[Sem.run_bind,hg,Result.andThen_ok];refine⟨_,by simp only[binOp,ne_eq,not_true_eq_false,if_false,Op.intArith,Op.intCmp];rfl,?_⟩))
   ·exact .i _ _
   ·exact .i _ _
   ·exact .i _ _
   ·split at h
    ·cases h
    ·rename_i hq
     simp only[Lo]at h;subst h
     refine⟨_,?_,.i _ _⟩
     simp only[Sem.run_bind,hg,Result.andThen_ok]
     simp[binOp,Op.intDiv,hq]
   ·split at h
    ·cases h
    ·rename_i hq
     simp only[Lo]at h;subst h
     refine⟨_,?_,.i _ _⟩
     simp only[Sem.run_bind,hg,Result.andThen_ok]
     simp[binOp,Op.intDiv,hq]
   all_goals first|exact .b _|skip
  ·cases h
 ·rename_i p q
  generalize hp:(PV.s p)=pp at hx
  generalize hq:(PV.s q)=qq at hy
  cases hx<;>simp only[PV.s.injEq,reduceCtorEq]at hp
  cases hy<;>simp only[PV.s.injEq,reduceCtorEq]at hq
  rename_i x y
  subst hp;subst hq
  have hg:(eqGuard op t ox oy (.string x) (.string y)).run P w= .ok () w:=by
   unfold eqGuard;split<;>simp
  simp only[Sem.run_bind,hg,Result.andThen_ok]
  cases op<;>simp only[Lo,reduceCtorEq]at h
  ·split at h
   ·rename_i hl
    simp only[Lo]at h;subst h
    refine⟨.string (x++y),?_,?_⟩
    ·simp only[binOp,Op.stringOp]
     simp only[Array.length_toList,ByteArray.size_data]at hl
     simp
     omega
    ·have:=RP.s (w:=w) (D:=D) (x++y)
     simpa using this
   ·cases h
  ·subst h
   refine⟨_,by simp only[binOp,Op.stringOp];rfl,?_⟩
   have:(x.toList==y.toList)=decide (x.data.toList=y.data.toList):=by rw[ByteArray.toList_eq,ByteArray.toList_eq,Gy];simp
   rw[this];exact .b _
  ·subst h
   refine⟨_,by simp only[binOp,Op.stringOp];rfl,?_⟩
   have:(x.toList==y.toList)=decide (x.data.toList=y.data.toList):=by rw[ByteArray.toList_eq,ByteArray.toList_eq,Gy];simp
   rw[this];exact .b _
 ·cases h
end Go.Fx
namespace Go.Fx
open Go.RowKit
def Oi(P:Program)(eqs:List (TypeId×List Nat)):Prop:=
 ∀t sh,(t,sh)∈eqs→∀(as cs:List AV) (r:Bool),oz sh as cs=some r→∀(m:Mt) (σ:St) (w:World) (xs ys:List Value),F2 (RA m σ w) as xs→F2 (RA m σ w) cs ys→
  ∀(w':World),(Op.equal t (.agg xs.toArray) (.agg ys.toArray)).run P w'= .ok r w'∧∀op ox oy,(eqGuard op t ox oy (.agg xs.toArray) (.agg ys.toArray)).run P w'= .ok () w'
section
variable{P:Program}{eqs:List (TypeId×List Nat)}{CR:Nat→Code→C→Prop}{m:Mt}{σ:St}{w:World}{e:Env}{a:Act}
theorem pT{α β:Type}{x:Option α}{f:α→Option β}{y:β}(h:x.bind f=some y):∃z,x=some z∧f z=some y:=X4.1 h
theorem RI(hR:SR CR m σ w){x:AV}{v:Value}(hx:RA m σ w x v){t:TypeId}{n:Nat}{g:Bool}(hn:tsz P t=some n)(hg:tag P t=some g)(hg1:¬(g=false∧n≠1)){r:TV}
  (h:(cM σ n x).bind (mkT g)=some r):∃u,(Instr.loadAt t v).run P w= .ok u w∧RT m σ w r u:=by
 obtain⟨cs,h1,h2⟩:=pT h
 obtain⟨B,o,vs,rfl,hl,hc,hf⟩:=Ly hR hx h1
 have hm:=JD hf h2
 simp only[Instr.loadAt,Instr.sureAddr,Sem.run_bind,Sem.run_pure,Result.andThen_ok,loadVar,EW hg]
 cases g with
 |true=>
  simp only[if_true]at hm⊢
  have hl':=run_loadCells_list (P:=P) w ⟨B,o,none⟩ vs (fun j u hu=>by rw[T2];exact hc j u hu)
  rw[hl]at hl'
  refine⟨.agg vs.toArray,?_,hm⟩
  simp[Jb hn,hl']
 |false=>
  simp only[SY,if_false]at hm⊢
  obtain⟨u,rfl,hu⟩:=hm
  refine⟨u,?_,hu⟩
  have:=hc 0 u (by simp)
  simp only[Ln]at this
  simp[this]
theorem ZI{cs:List AV}{vs:List Value}(hf:F2 (RA m σ w) cs vs){t:TypeId}{n off:Nat}{g:Bool}(hn:tsz P t=some n)(hg:tag P t=some g)(hg1:¬(g=false∧n≠1)){r:TV}
  (h:mkT g ((cs.drop off).take n)=some r):∃u,(part t vs.toArray off).run P w= .ok u w∧RT m σ w r u:=by
 have hm:=JD ((hf.drop off).take n) h
 simp only[part,Sem.run_bind,EW hg,Result.andThen_ok]
 cases g with
 |true=>
  simp only[if_true]at hm⊢
  refine⟨_,?_,hm⟩
  simp only[Sem.run_bind,Jb hn,Result.andThen_ok,Sem.run_pure]
  congr 2
  apply SV
  simp[List.extract_eq_take_drop]
 |false=>
  simp only[SY,if_false]at hm⊢
  obtain⟨u,hu,hr⟩:=hm
  refine⟨u,?_,hr⟩
  have hn1:n=1:=by simp at hg1;exact hg1
  have:vs[off]? =some u:=by
   have h0:((vs.drop off).take n)[0]? =some u:=by rw[hu];simp
   rw[XL,if_pos (by omega),L9]at h0
   simpa using h0
  simp[this]
theorem cn(hE:RE m σ w e a.tmps){x:Option Operand}{y:Option X}(h:Iu x=some y){d n:Int}(hn:Bp e y d=some n):
  (x=none∧n=d)∨∃o k,x=some o∧a.eval o= .int k n:=by
 cases x with
 |none=>simp only[Iu,Lo]at h;subst h;simp only[Bp,Lo]at hn;exact .inl ⟨rfl,hn.symm⟩
 |some o=>
  simp only[Iu]at h
  obtain⟨z,hz,h⟩:=pT h
  simp only[Lo]at h;subst h
  simp only[Bp]at hn
  obtain⟨k,hk⟩:=zG (VV hE hz) hn
  exact .inr ⟨o,k,rfl,hk⟩
theorem bb{k:IntKind}{i:Int}{y:Nat}{c:BoundsCode}(h0:0≤i)(h1:i≤y):(Instr.sliceBound (.int k i) y c).run P w= .ok i.toNat w:=by
 simp[Instr.sliceBound,asIntOf,h0,h1]
theorem Ry(hE:RE m σ w e a.tmps){lo hi:Option Operand}{lo' hi':Option X}(hlo:Iu lo=some lo')(hhi:Iu hi=some hi'){l h:Int}{len cap:Nat}{b:Bool}
  (hl:Bp e lo' 0=some l) (hh:Bp e hi' len=some h) (h0:0≤l) (h1:l≤h) (h2:h≤len) (hc:len≤cap):
  (Instr.sliceBounds b len cap (lo.map a.eval) (hi.map a.eval) none).run P w= .ok (l.toNat,h.toNat,cap) w:=by
 rcases cn hE hhi hh with⟨rfl,rfl⟩|⟨o,k,rfl,ho⟩<;>rcases cn hE hlo hl with⟨rfl,rfl⟩|⟨o',k',rfl,ho'⟩
 ·simp[Instr.sliceBounds]
 ·simp only[Instr.sliceBounds,zC,lT,ho',Sem.run_bind,Sem.run_pure,Result.andThen_ok]
  rw[bb h0 (by omega)];simp
 ·simp only[Instr.sliceBounds,zC,lT,ho,Sem.run_bind,Sem.run_pure,Result.andThen_ok]
  rw[bb (by omega) (by omega)];simp
 ·simp only[Instr.sliceBounds,lT,ho,ho',Sem.run_bind,Sem.run_pure,Result.andThen_ok]
  rw[bb (by omega) (by omega)];simp only[Result.andThen_ok]
  rw[bb h0 (by omega)];simp
theorem bx{place:Nat→Option (Nat×Nat)}{cells:Array Value}{i off size:Nat}{v:Value}{rest:List (Nat×Value)}(hp:place i=some (off,size))(hs:v.cells.size=size)(ho:off+size≤cells.size):
  Instr.fill place cells ((i,v)::rest)=Instr.fill place (over cells.toList off v.cells.toList).toArray rest:=by
 have key:∀(vs:List Value) (k:Nat) (cs:Array Value),off+k+vs.length≤cs.size→
   (vs.zipIdx k).foldl (fun cs (x:Value×Nat)=>cs.setIfInBounds (off+x.2) x.1) cs=(over cs.toList (off+k) vs).toArray:=by
  intro vs
  induction vs with
  |nil=>intro k cs _;simp[over]
  |cons x vs ih=>
   intro k cs hl
   simp only[List.zipIdx_cons,VP]
   rw[ih (k+1) _ (by simp at hl⊢;omega)]
   congr 1
   simp only[over,Array.toList_setIfInBounds]
   have e:=list_seg_step cs.toList (off+k) x vs (by simp at hl⊢;omega)
   simpa [Qp]using e
 simp only[Instr.fill,hp]
 rw[if_neg (by simp[hs];omega)]
 congr 1
 have:=key v.cells.toList 0 cells (by simp[hs];omega)
 simp only[Ln]at this
 rw[←this]
 rw[←eD,Array.toList_zipIdx]
theorem VW(hE:RE m σ w e a.tmps){place:Nat→Option (Nat×Nat)}:∀{ps:List (Nat×Operand)} {ps':List (Nat×Nat×X)} {z r:List AV} {cells:List Value},
  F2 (fun(y:Nat×Nat×X) (p:Nat×Operand)=>place p.1=some (y.1,y.2.1)∧ccX p.2=some y.2.2) ps' ps→F2 (RA m σ w) z cells→I2 e z ps'=some r→
  ∃vs,Instr.fill place cells.toArray (ps.map fun p=>(p.1,a.eval p.2))=some vs.toArray∧F2 (RA m σ w) r vs
 |_,_,z,r,cells,.nil,hz,h=>by
  simp only[I2,Lo]at h;subst h
  exact⟨cells,rfl,hz⟩
 |_,_,z,r,cells,.cons (a:=y) (b:=p) hp t,hz,h=>by
  obtain⟨off,size,x⟩:=y
  obtain⟨i,q⟩:=p
  simp only[I2]at h
  obtain⟨vs,hv,h⟩:=pT h
  split at h
  ·rename_i hc
   obtain⟨hc1,hc2⟩:=hc
   have hcl:=oD (VV hE hp.2) hv
   have hlen:=hcl.length
   have hzl:=hz.length
   have hz':=F2.over off hz hcl
   obtain⟨us,hu1,hu2⟩:=VW hE t hz' h
   refine⟨us,?_,hu2⟩
   simp only[zx]
   rw[bx (off:=off) (size:=size) hp.1 (by simp at hlen;omega) (by simp;omega)]
   exact hu1
  ·cases h
theorem EU{fs:Array Field}(h:fs.toList.all (fun f=>(tsz P f.type).isSome)=true):
  ∃places:List (Nat×Nat),fs.toList.mapM (fun f=>(P.info? f.type).map fun i=>(f.offset,i.size))=some places∧∀(i:Nat) (f:Field) (n:Nat),fs[i]? =some f→tsz P f.type=some n→places[i]? =some (f.offset,n):=by
 have:∀(l:List Field),l.all (fun f=>(tsz P f.type).isSome)=true→∃places:List (Nat×Nat),l.mapM (fun f=>(P.info? f.type).map fun i=>(f.offset,i.size))=some places∧∀(i:Nat) (f:Field) (n:Nat),l[i]? =some f→tsz P f.type=some n→places[i]? =some (f.offset,n):=by
  intro l
  induction l with
  |nil=>intro _;exact⟨[],by simp,by simp⟩
  |cons f l ih=>
   intro hl
   simp only[KF,Cd]at hl
   obtain⟨ps,h1,h2⟩:=ih hl.2
   obtain⟨n,hn⟩:=wT.1 hl.1
   have hn':=hn
   unfold tsz at hn
   obtain⟨i,hi,hn⟩:=pT hn
   simp only[Lo]at hn
   refine⟨(f.offset,n)::ps,by simp[List.mapM_cons,hi,h1,hn],fun j g k hj hk=>?_⟩
   cases j with
   |zero=>simp at hj;subst hj;rw[hn']at hk;simp only[Lo]at hk;simp[hk]
   |succ j=>simpa using h2 j g k (by simpa using hj) hk
 obtain⟨ps,h1,h2⟩:=this fs.toList h
 exact⟨ps,h1,fun i f n hi hn=>h2 i f n (by simpa using hi) hn⟩
theorem TP{α β:Type}{f:α→Option β}{R:β→α→Prop}(h:∀x y,f x=some y→R y x):∀{l:List α} {l':List β},Fq f l=some l'→F2 R l' l
 |[],l',e=>by simp[Fq]at e;subst e;exact .nil
 |x::r,l',e=>by
  simp only[Fq]at e
  obtain⟨y,h1,e⟩:=pT e
  obtain⟨ys,h2,e⟩:=pT e
  simp only[Lo]at e;subst e
  exact .cons (h x y h1) (TP h h2)
theorem EK(hE:RE m σ w e a.tmps){t:TypeId}{ps:Array (Nat×Operand)}{op:O}(h:ccO P eqs (.build t ps)=some op){cp:FuncId→List PT→Option PT}{sp:FuncId→Bool}{r:TV}
  (hev:evR cp sp e σ op=some r):∃v,(Instr.build t (ps.map fun(i,x)=>(i,a.eval x))).run P w= .ok v w∧RT m σ w r v:=by
 simp only[ccO]at h
 obtain⟨z,hz,h⟩:=pT h
 unfold NU at hz
 obtain⟨it,hit,hz⟩:=pT hz
 obtain⟨zv,hzv,hz⟩:=pT hz
 have hz2:F2 (RA m σ w) z zv.cells.toList:=by
  have:=CE (R:=RA m σ w) (g:=fun v:Value=>v) (fun _ _=>fo) hz
  simpa using this
 cases hu:P.underlying t with
 |none=>simp[hu]at h
 |some d=>
  cases d with
  |struct fs=>
   simp only[hu]at h
   split at h
   ·rename_i hall
    obtain⟨ps',hps,h⟩:=pT h
    simp only[Lo]at h;subst h
    simp only[evR]at hev
    obtain⟨cs,hcs,hev⟩:=pT hev
    simp only[Lo]at hev;subst hev
    obtain⟨places,hp1,hp2⟩:=EU hall
    have hF:=TP (R:=fun(y:Nat×Nat×X) (p:Nat×Operand)=>(places.toArray[p.1]?)=some (y.1,y.2.1)∧ccX p.2=some y.2.2) (fun p y hy=>by
     obtain⟨f,hf,hy⟩:=pT hy
     obtain⟨n,hn,hy⟩:=pT hy
     obtain⟨x,hx,hy⟩:=pT hy
     simp only[Lo]at hy;subst hy
     unfold Qc at hf
     simp only[hu]at hf
     obtain⟨fd,hfd,hf⟩:=pT hf
     simp only[Lo]at hf;subst hf
     exact⟨by simpa using hp2 p.1 fd n hfd hn,hx⟩) hps
    obtain⟨vs,hv1,hv2⟩:=VW hE (place:=fun i=>places.toArray[i]?) hF hz2 hcs
    rw[bN]at hv1
    refine⟨.agg vs.toArray,run_build w t _ _ ?_,vs,rfl,hv2⟩
    simp only[Program.built,hit,hu,hzv,hp1]
    rw[show(ps.map fun(x:Nat×Operand)=>(x.1,a.eval x.2)).toList=ps.toList.map fun p=>(p.1,a.eval p.2) by simp]
    exact hv1
   ·cases h
  |array n el=>
   simp only[hu]at h
   obtain⟨k,hk,h⟩:=pT h
   obtain⟨ps',hps,h⟩:=pT h
   simp only[Lo]at h;subst h
   simp only[evR]at hev
   obtain⟨cs,hcs,hev⟩:=pT hev
   simp only[Lo]at hev;subst hev
   unfold tsz at hk
   obtain⟨ie,hie,hk⟩:=pT hk
   simp only[Lo]at hk;subst hk
   have hF:=TP (R:=fun(y:Nat×Nat×X) (p:Nat×Operand)=>(fun i=>some (i*ie.size,ie.size)) p.1=some (y.1,y.2.1)∧ccX p.2=some y.2.2) (fun p y hy=>by
     obtain⟨x,hx,hy⟩:=pT hy
     simp only[Lo]at hy;subst hy
     exact⟨rfl,hx⟩) hps
   obtain⟨vs,hv1,hv2⟩:=VW hE (place:=fun i=>some (i*ie.size,ie.size)) hF hz2 hcs
   rw[bN]at hv1
   refine⟨.agg vs.toArray,run_build w t _ _ ?_,vs,rfl,hv2⟩
   simp only[Program.built,hit,hu,hzv,hie]
   rw[show(ps.map fun(x:Nat×Operand)=>(x.1,a.eval x.2)).toList=ps.toList.map fun p=>(p.1,a.eval p.2) by simp]
   exact hv1
  |_=>simp[hu]at h
end
end Go.Fx
namespace Go.Fx
open Go.RowKit
section
variable{P:Program}{eqs:List (TypeId×List Nat)}{CR:Nat→Code→C→Prop}{m:Mt}{σ:St}{w:World}{e:Env}{a:Act}
theorem RT.i{k:IntKind}{n:Int}{v:Value}(h:RT m σ w (.a (.p (.i k n))) v):v= .int k n:=by
 have h:RP w m.D (.i k n) v:=h
 cases h;rfl
theorem RT.b{x:Bool}{v:Value}(h:RT m σ w (.a (.p (.b x))) v):v= .bool x:=by
 have h:RP w m.D (.b x) v:=h
 cases h;rfl
theorem RT.s{x:List UInt8}{v:Value}(h:RT m σ w (.a (.p (.s x))) v):∃b:ByteArray,v= .string b∧b.data.toList=x:=by
 have h:RP w m.D (.s x) v:=h
 generalize hq:(PV.s x)=q at h
 cases h<;>simp only[PV.s.injEq,reduceCtorEq]at hq
 exact⟨_,rfl,hq.symm⟩
theorem Tc(hE:RE m σ w e a.tmps):∀{l:List Operand} {l':List X} {ks:List Key},Fq ccX l=some l'→Wk e l'=some ks→F2 (fun s u=>C9 m σ s 0 0 u∧∃A,u= .pointer (some A)) ks (l.map a.eval)
 |[],l',ks,h,h2=>by simp[Fq]at h;subst h;simp[Wk]at h2;subst h2;exact .nil
 |x::r,l',ks,h,h2=>by
  simp only[Fq]at h
  obtain⟨y,h1,h⟩:=pT h
  obtain⟨ys,h3,h⟩:=pT h
  simp only[Lo]at h;subst h
  simp only[Wk]at h2
  have hy:=VV hE h1
  split at h2
  ·rename_i s hs
   rw[hs]at hy
   obtain⟨ks',h4,h2⟩:=pT h2
   simp only[Lo]at h2;subst h2
   exact .cons hy (Tc hE h3 h4)
  ·cases h2
theorem xo{x:AV}{v:Value}(hx:RA m σ w x v){t:TypeId}{n:Nat}{str:Bool}(hl:lenA str x=some n)
  (ht:if str=true then P.underlying t=some .string else∃el,P.underlying t=some (.slice el)) (ty:TypeId):(Builtin.len_ #[t] ty #[v]).run P w= .ok (.int .i64 n) w:=by
 cases str with
 |true=>
  simp only[if_true]at ht
  unfold lenA at hl
  split at hl<;>simp only[Lo,reduceCtorEq,U8,SY]at hl<;>(try (rename_i h0;cases h0;done))
  rename_i y
  obtain⟨b,rfl,hb⟩:=RT.s (m:=m) (σ:=σ) (w:=w) hx
  subst hl
  simp[Builtin.len_,run_underlying ht,goInt,←hb]
 |false=>
  simp only[SY,if_false]at ht
  obtain⟨el,hk⟩:=ht
  have:∃b c,v= .slice b n c:=by
   unfold lenA at hl
   split at hl<;>simp only[Lo,reduceCtorEq,U8,SY]at hl<;>(try (rename_i h0;cases h0;done))
   ·subst hl;obtain⟨b,cap,rfl⟩:=RP.slice hx;exact⟨b,cap,rfl⟩
   ·subst hl;cases hx;exact⟨none,0,rfl⟩
   ·subst hl;obtain⟨_,⟨b,c,rfl,_⟩,_⟩:=hx;exact⟨b,c,rfl⟩
  obtain⟨b,c,rfl⟩:=this
  simp[Builtin.len_,run_underlying hk,goInt]
def DS(m:Mt)(σ:St)(b:Nat):Prop:=m.D b∨InS m σ b
def DK(m:Mt)(σ:St)(s:Key)(b:Nat):Prop:=m.D b∨∃blk c,σ.bs s=some blk∧m.mu s=some (b,c)
def DA(m:Mt)(σ:St):AV→Nat→Prop
 | .own s _ _=>DK m σ s
 |_=>m.D
theorem I8(hR:SR CR m σ w){x:AV}{v:Value}(hx:RA m σ w x v){p:PV}(h:frA σ x=some p):RP w (DA m σ x) p v:=by
 cases x with
 |p y=>simp only[frA,Lo]at h;subst h;exact hx
 |nil=>simp only[frA,Lo]at h;subst h;cases hx;exact .e _ _
 |own s off len=>
  simp only[frA]at h
  cases hb:σ.bs s with
  |none=>simp[hb]at h
  |some b=>
   cases b with
   |var cs=>simp[hb]at h
   |map k ks=>simp[hb]at h
   |row k el rows=>
    simp only[hb]at h
    split at h
    ·rename_i hl
     simp only[Lo]at h;subst h
     rcases hx.2.2 k el rows hb with⟨rfl,a,rfl⟩|⟨B,c,hm,rfl,hle⟩
     ·simp only[om];exact .e _ _
     ·obtain⟨hk,hkl,hbr⟩:=hR.blk s _ hb
      rcases hbr with⟨h1,_⟩|⟨B',c',cur,h1,h2,h3,h4,h5,h6⟩
      ·rw[hm]at h1;cases h1
      ·rw[hm]at h1;simp only[Lo,ZP]at h1
       obtain⟨rfl,rfl⟩:=h1
       have hlen:((rows.drop off).take len).length=len:=by simp;omega
       have hget:∀(i:Nat) (r:List PV),((rows.drop off).take len)[i]? =some r→rows[off+i]? =some r:=by
        intro i r hr
        rw[XL]at hr
        split at hr
        ·simpa [L9]using hr
        ·cases hr
       have key:=RP.l (w:=w) (D:=DK m σ s) ((rows.drop off).take len) ⟨B,off*k,none⟩ k (c-off) (fun i j=>(cur[(off+i)*k+j]?).getD undef) rfl (.inr ⟨_,c,hb,hm⟩) (by omega)
        (fun i r hr=>hkl r (yu (hget i r hr)))
        (fun i r j q hr hq=>by
         obtain⟨u,hu,_⟩:=h6 (off+i) r j q (hget i r hr) hq
         simp only[World.cell?,h2,S8,SY,if_false]
         rw[show off*k+(i*k+j)=(off+i)*k+j by rw[rX];omega,hu];rfl)
        (fun i r j q hr hq=>by
         obtain⟨u,hu,hp⟩:=h6 (off+i) r j q (hget i r hr) hq
         simp only[hu,M0]
         exact RP.mono (fun b hb=>⟨.inl hb,rfl⟩) hp)
       rw[hlen]at key
       exact key
    ·cases h
 |ptr s i j=>simp[frA]at h
 |cptr r j=>simp[frA]at h
 |fn f caps=>simp[frA]at h
 |yl l=>simp[frA]at h
 |mp s=>simp[frA]at h
 |raw c=>
  obtain⟨rfl,_⟩:=hx
  cases v with
  |slice a n cap=>
   cases n with
   |zero=>simp only[frA,zd,Lo]at h;subst h;exact .e _ _
   |succ n=>simp[frA,zd]at h
  |_=>simp[frA,zd]at h
theorem pW(hR:SR CR m σ w){x:AV}{v:Value}(hx:RA m σ w x v){p:PV}(h:frA σ x=some p):RP w (DS m σ) p v:=by
 refine RP.mono (fun b hb=>⟨?_,rfl⟩) (I8 hR hx h)
 cases x with
 |own s off len=>
  rcases hb with hb|⟨blk,c,h1,h2⟩
  ·exact .inl hb
  ·exact .inr (.inl ⟨s,blk,c,h1,h2⟩)
 |_=>exact .inl hb
theorem NQ{t:TypeId}{f:Nat}{p:Nat×TypeId}{n:Nat}(h1:Qc P t f=some p)(h2:tsz P p.2=some n)(h3:n≠0)(A:Addr):
  (Instr.fieldAt t (.pointer (some A)) f).run P w= .ok (.pointer (some (A.add p.1))) w:=by
 obtain⟨fs,fd,hu,hf,hp1,hp2⟩:=WU h1
 rw[←hp2]at h2
 have hsz:=Jb h2 w
 simp only[Instr.fieldAt,Sem.run_bind,run_underlying hu,Result.andThen_ok,hf,Instr.sureAddr,Sem.run_pure,fieldPlace,hsz,Sem.run_ite]
 rw[if_neg h3]
 simp[hp1]
theorem js(hR:SR CR m σ w)(hE:RE m σ w e a.tmps)(hEq:Oi P eqs){cp:FuncId→List PT→Option PT}{sp:FuncId→Bool}{o:Oper}{op:O}{t_:TV}(hcc:ccO P eqs o.op=some op)
  (hev:evR cp sp e σ op=some t_) (hnc:∀f args,op≠ .call f args):∃v,(execOp a.eval o).run P w= .ok (.value v) w∧RT m σ w t_ v:=by
 obtain⟨dst,opc,ty,pos,after,guard⟩:=o
 simp only at hcc
 have fin:∀{s:Sem Value} {v:Value},s.run P w= .ok v w→(do pure (Next.value (←s)):Sem Next).run P w= .ok (.value v) w:=by
  intro s v hs;simp[hs]
 cases opc with
 |move x=>
  simp only[ccO]at hcc
  obtain⟨y,hy,hcc⟩:=pT hcc
  simp only[Lo]at hcc;subst hcc
  simp only[evR,Lo]at hev;subst hev
  exact⟨a.eval x,rfl,VV hE hy⟩
 |assign x=>
  simp only[ccO]at hcc
  obtain⟨y,hy,hcc⟩:=pT hcc
  simp only[Lo]at hcc;subst hcc
  simp only[evR,Lo]at hev;subst hev
  exact⟨a.eval x,rfl,VV hE hy⟩
 |pick c x y=>
  simp only[ccO]at hcc
  obtain⟨c',hc,hcc⟩:=pT hcc
  obtain⟨x',hx,hcc⟩:=pT hcc
  obtain⟨y',hy,hcc⟩:=pT hcc
  simp only[Lo]at hcc;subst hcc
  simp only[evR]at hev
  split at hev
  ·rename_i q hq
   simp only[Lo]at hev;subst hev
   have h1:=VV hE hc
   rw[hq]at h1
   have h1:=h1.b
   refine⟨if q then a.eval x else a.eval y,?_,?_⟩
   ·simp only[execOp,h1,asBool,Sem.run_bind,Sem.run_pure,Result.andThen_ok]
   ·cases q
    ·exact VV hE hy
    ·exact VV hE hx
  ·cases hev
 |alloc t=>simp only[ccO]at hcc;obtain⟨z,_,hcc⟩:=pT hcc;simp only[Lo]at hcc;subst hcc;simp[evR]at hev
 |box t x=>simp only[ccO]at hcc;obtain⟨y,_,hcc⟩:=pT hcc;obtain⟨n,_,hcc⟩:=pT hcc;simp only[Lo]at hcc;subst hcc;simp[evR]at hev
 |build t ps=>
  obtain⟨v,h1,h2⟩:=EK hE hcc hev
  exact⟨v,fin h1,h2⟩
 |buildSlice t len ps=>
  simp only[ccO]at hcc
  obtain⟨el,_,hcc⟩:=pT hcc
  obtain⟨z,_,hcc⟩:=pT hcc
  split at hcc
  ·obtain⟨ps',_,hcc⟩:=pT hcc
   simp only[Lo]at hcc;subst hcc;simp[evR]at hev
  ·cases hcc
 |load t x=>
  simp only[ccO]at hcc
  obtain⟨y,hy,hcc⟩:=pT hcc
  obtain⟨n,hn,hcc⟩:=pT hcc
  obtain⟨g,hg,hcc⟩:=pT hcc
  split at hcc
  ·cases hcc
  ·rename_i hg1
   simp only[Lo]at hcc;subst hcc
   simp only[evR]at hev
   split at hev
   ·rename_i q hq
    have h1:=VV hE hy
    rw[hq]at h1
    obtain⟨u,h2,h3⟩:=RI hR h1 hn hg hg1 hev
    exact⟨u,fin h2,h3⟩
   ·cases hev
 |store t x y=>simp only[ccO]at hcc;obtain⟨_,_,hcc⟩:=pT hcc;obtain⟨_,_,hcc⟩:=pT hcc;obtain⟨_,_,hcc⟩:=pT hcc;simp only[Lo]at hcc;subst hcc;simp[evR]at hev
 |nilCheck x=>
  simp only[ccO]at hcc
  obtain⟨y,hy,hcc⟩:=pT hcc
  simp only[Lo]at hcc;subst hcc
  have h1:=VV hE hy
  simp only[evR]at hev
  split at hev
  ·rename_i s i j hq
   rw[hq]at h1
   simp only[Lo]at hev;subst hev
   have h1':=h1
   obtain⟨hp,A,hv⟩:=h1'
   refine⟨a.eval x,?_,h1⟩
   simp[execOp,hv]
  ·rename_i r j hq
   rw[hq]at h1
   simp only[Lo]at hev;subst hev
   have h1':=h1
   obtain⟨B,o,vals,hD,hv,hr⟩:=h1'
   refine⟨a.eval x,?_,h1⟩
   simp[execOp,hv]
  ·cases hev
 |binOp bop t x y ty'=>
  simp only[ccO]at hcc
  obtain⟨x',hx,hcc⟩:=pT hcc
  obtain⟨y',hy,hcc⟩:=pT hcc
  have hx1:=VV hE hx
  have hy1:=VV hE hy
  have plain:(bop≠ .shl∧bop≠ .shr∧bop≠ .and∧bop≠ .or∧bop≠ .xor∧bop≠ .andNot)→∀r,evR cp sp e σ (.bin bop x' y')=some r→
    ∃v,(do eqGuard bop t x y (a.eval x) (a.eval y);binOp bop t (a.eval x) (a.eval y):Sem Value).run P w= .ok v w∧RT m σ w r v:=by
   intro hb r hr
   simp only[evR]at hr
   split at hr
   ·rename_i p q hp hq
    obtain⟨s,hs,hr⟩:=pT hr
    simp only[Lo]at hr;subst hr
    rw[hp]at hx1;rw[hq]at hy1
    obtain⟨v,h1,h2⟩:=ay (P:=P) (t:=t) hb hx1 hy1 hs x y
    exact⟨v,h1,h2⟩
   ·cases hr
  have eqs1:∀(neg:Bool),(bop= .eql∧neg=false∨bop= .neq∧neg=true)→P.underlying t=some .bool→∀r,evR cp sp e σ (.eqb neg x' y')=some r→
    ∃v,(do eqGuard bop t x y (a.eval x) (a.eval y);binOp bop t (a.eval x) (a.eval y):Sem Value).run P w= .ok v w∧RT m σ w r v:=by
   intro neg hb hu r hr
   simp only[evR]at hr
   split at hr
   ·rename_i p q hp hq
    simp only[Lo]at hr;subst hr
    rw[hp]at hx1;rw[hq]at hy1
    rw[hx1.b,hy1.b]
    have hg:(eqGuard bop t x y (.bool p) (.bool q)).run P w= .ok () w:=by unfold eqGuard;split<;>simp
    have he:(Op.equal t (.bool p) (.bool q)).run P w= .ok (p==q) w:=by
     exact run_equalIn_bool' w 9999 t p q hu
    have hd:(p==q)=decide (p=q):=by cases p<;>cases q<;>rfl
    simp only[Sem.run_bind,hg,Result.andThen_ok]
    rcases hb with⟨rfl,rfl⟩|⟨rfl,rfl⟩
    ·refine⟨_,by simp only[binOp,Sem.run_bind,he,Result.andThen_ok,Sem.run_pure];rfl,?_⟩
     rw[hd];exact RP.b _
    ·refine⟨_,by simp only[binOp,Sem.run_bind,he,Result.andThen_ok,Sem.run_pure];rfl,?_⟩
     rw[hd];exact RP.b _
   ·cases hr
  have eqs2:∀(neg:Bool) sh,(bop= .eql∧neg=false∨bop= .neq∧neg=true)→(t,sh)∈eqs→∀r,evR cp sp e σ (.eqg neg sh x' y')=some r→
    ∃v,(do eqGuard bop t x y (a.eval x) (a.eval y);binOp bop t (a.eval x) (a.eval y):Sem Value).run P w= .ok v w∧RT m σ w r v:=by
   intro neg sh hb hu r hr
   simp only[evR]at hr
   split at hr
   ·rename_i p q hp hq
    obtain⟨s,hs,hr⟩:=pT hr
    simp only[Lo]at hr;subst hr
    rw[hp]at hx1;rw[hq]at hy1
    obtain⟨xs,hxs,hx2⟩:=hx1
    obtain⟨ys,hys,hy2⟩:=hy1
    rw[hxs,hys]
    obtain⟨he,hg⟩:=hEq t sh hu p q s hs m σ w xs ys hx2 hy2 w
    simp only[Sem.run_bind,hg,Result.andThen_ok]
    rcases hb with⟨rfl,rfl⟩|⟨rfl,rfl⟩
    ·refine⟨_,by simp only[binOp,Sem.run_bind,he,Result.andThen_ok,Sem.run_pure];rfl,?_⟩
     exact RP.b _
    ·refine⟨_,by simp only[binOp,Sem.run_bind,he,Result.andThen_ok,Sem.run_pure];rfl,?_⟩
     exact RP.b _
   ·cases hr
  have eqs3:∀(neg:Bool) (el:TypeId),(bop= .eql∧neg=false∨bop= .neq∧neg=true)→P.underlying t=some (.slice el)→Dl y'=true→∀r,evR cp sp e σ (.nq neg x')=some r→
    ∃v,(do eqGuard bop t x y (a.eval x) (a.eval y);binOp bop t (a.eval x) (a.eval y):Sem Value).run P w= .ok v w∧RT m σ w r v:=by
   intro neg el hb hu hn r hr
   have hy2:a.eval y= .slice none 0 0:=by
    unfold Dl at hn
    split at hn
    ·exact hy1
    ·cases hn
   have hx2:∃ad n c s,a.eval x= .slice ad n c∧ad.isNone=s∧r= .a (.p (.b (if neg then !s else s))):=by
    simp only[evR]at hr
    split at hr
    ·rename_i q hq
     rw[hq]at hx1
     obtain⟨s,hs,hr⟩:=pT hr
     simp only[Lo]at hr;subst hr
     have hx1:RA m σ w q (a.eval x):=hx1
     cases q with
     |nil=>simp only[xY,Lo]at hs;subst hs;exact⟨none,0,0,true,hx1,rfl,rfl⟩
     |p q=>
      cases q with
      |l rows=>
       cases rows with
       |nil=>simp[xY]at hs
       |cons r rs=>
        simp only[xY,Lo]at hs;subst hs
        have hx1:RP w m.D (.l (r::rs)) (a.eval x):=hx1
        obtain⟨ad,k',cap',vals,hv,_⟩:=hx1.cells (by simp)
        exact⟨some ad,_,_,false,hv,rfl,rfl⟩
      |_=>simp[xY]at hs
     |raw c=>
      obtain⟨hv,_⟩:=hx1
      cases c with
      |slice ad n c=>simp only[xY,Lo]at hs;exact⟨ad,n,c,s,hv,hs,rfl⟩
      |_=>simp[xY]at hs
     |_=>simp[xY]at hs
    ·cases hr
   obtain⟨ad,n,c,s,hv,hs,rfl⟩:=hx2
   rw[hv,hy2]
   have hg:(eqGuard bop t x y (.slice ad n c) (.slice none 0 0)).run P w= .ok () w:=by unfold eqGuard;split<;>simp
   have he:(Op.equal t (.slice ad n c) (.slice none 0 0)).run P w= .ok ad.isNone w:=by
    have:∀d,(Op.equalIn (d+1) t (.slice ad n c) (.slice none 0 0)).run P w= .ok ad.isNone w:=by
     intro d
     cases ad<;>simp[Op.equalIn,run_underlying hu]
    exact this 9999
   simp only[Sem.run_bind,hg,Result.andThen_ok]
   rcases hb with⟨rfl,rfl⟩|⟨rfl,rfl⟩
   ·refine⟨_,by simp only[binOp,Sem.run_bind,he,Result.andThen_ok,Sem.run_pure];rfl,?_⟩
    rw[hs];exact RP.b _
   ·refine⟨_,by simp only[binOp,Sem.run_bind,he,Result.andThen_ok,Sem.run_pure];rfl,?_⟩
    rw[hs];exact RP.b _
  have done:∀{v},(do eqGuard bop t x y (a.eval x) (a.eval y);binOp bop t (a.eval x) (a.eval y):Sem Value).run P w= .ok v w→
    (execOp a.eval {dst:=dst,op:=.binOp bop t x y ty',type:=ty,pos:=pos,after:=after,guard:=guard}).run P w= .ok (.value v) w:=fun h=>fin h
  have find:∀{s:TypeId×List Nat},eqs.find? (·.1==t)=some s→(t,s.2)∈eqs:=by
   intro s hs
   have h1:=List.mem_of_find?_eq_some hs
   have h2:=List.find?_some hs
   simp only[beq_iff_eq]at h2
   rw[←h2];exact h1
  cases bop with
  |eql=>
   simp only at hcc
   cases hu:P.underlying t with
   |none=>simp[hu]at hcc
   |some d=>
    simp only[hu]at hcc
    cases d with
    |int k=>simp only[Lo]at hcc;subst hcc;obtain⟨v,h1,h2⟩:=plain (by simp) _ hev;exact⟨v,done h1,h2⟩
    |string=>simp only[Lo]at hcc;subst hcc;obtain⟨v,h1,h2⟩:=plain (by simp) _ hev;exact⟨v,done h1,h2⟩
    |bool=>simp only[Lo]at hcc;subst hcc;obtain⟨v,h1,h2⟩:=eqs1 false (.inl ⟨rfl,rfl⟩) hu _ hev;exact⟨v,done h1,h2⟩
    |slice el=>
     have hcc:(if Dl y'=true then some (O.nq false x')else none)=some op:=hcc
     split at hcc
     ·rename_i hn;simp only[Lo]at hcc;subst hcc;obtain⟨v,h1,h2⟩:=eqs3 false el (.inl ⟨rfl,rfl⟩) hu hn _ hev;exact⟨v,done h1,h2⟩
     ·cases hcc
    |struct fs=>obtain⟨s,hs,hcc⟩:=pT hcc;simp only[Lo]at hcc;subst hcc;obtain⟨v,h1,h2⟩:=eqs2 false _ (.inl ⟨rfl,rfl⟩) (find hs) _ hev;exact⟨v,done h1,h2⟩
    |array n el=>obtain⟨s,hs,hcc⟩:=pT hcc;simp only[Lo]at hcc;subst hcc;obtain⟨v,h1,h2⟩:=eqs2 false _ (.inl ⟨rfl,rfl⟩) (find hs) _ hev;exact⟨v,done h1,h2⟩
    |_=>simp at hcc
  |neq=>
   simp only at hcc
   cases hu:P.underlying t with
   |none=>simp[hu]at hcc
   |some d=>
    simp only[hu]at hcc
    cases d with
    |int k=>simp only[Lo]at hcc;subst hcc;obtain⟨v,h1,h2⟩:=plain (by simp) _ hev;exact⟨v,done h1,h2⟩
    |string=>simp only[Lo]at hcc;subst hcc;obtain⟨v,h1,h2⟩:=plain (by simp) _ hev;exact⟨v,done h1,h2⟩
    |bool=>simp only[Lo]at hcc;subst hcc;obtain⟨v,h1,h2⟩:=eqs1 true (.inr ⟨rfl,rfl⟩) hu _ hev;exact⟨v,done h1,h2⟩
    |slice el=>
     have hcc:(if Dl y'=true then some (O.nq true x')else none)=some op:=hcc
     split at hcc
     ·rename_i hn;simp only[Lo]at hcc;subst hcc;obtain⟨v,h1,h2⟩:=eqs3 true el (.inr ⟨rfl,rfl⟩) hu hn _ hev;exact⟨v,done h1,h2⟩
     ·cases hcc
    |struct fs=>obtain⟨s,hs,hcc⟩:=pT hcc;simp only[Lo]at hcc;subst hcc;obtain⟨v,h1,h2⟩:=eqs2 true _ (.inr ⟨rfl,rfl⟩) (find hs) _ hev;exact⟨v,done h1,h2⟩
    |array n el=>obtain⟨s,hs,hcc⟩:=pT hcc;simp only[Lo]at hcc;subst hcc;obtain⟨v,h1,h2⟩:=eqs2 true _ (.inr ⟨rfl,rfl⟩) (find hs) _ hev;exact⟨v,done h1,h2⟩
    |_=>simp at hcc
  |add=>simp only[Lo]at hcc;subst hcc;obtain⟨v,h1,h2⟩:=plain (by simp) _ hev;exact⟨v,done h1,h2⟩
  |sub=>simp only[Lo]at hcc;subst hcc;obtain⟨v,h1,h2⟩:=plain (by simp) _ hev;exact⟨v,done h1,h2⟩
  |mul=>simp only[Lo]at hcc;subst hcc;obtain⟨v,h1,h2⟩:=plain (by simp) _ hev;exact⟨v,done h1,h2⟩
  |quo=>simp only[Lo]at hcc;subst hcc;obtain⟨v,h1,h2⟩:=plain (by simp) _ hev;exact⟨v,done h1,h2⟩
  |rem=>simp only[Lo]at hcc;subst hcc;obtain⟨v,h1,h2⟩:=plain (by simp) _ hev;exact⟨v,done h1,h2⟩
  |lss=>simp only[Lo]at hcc;subst hcc;obtain⟨v,h1,h2⟩:=plain (by simp) _ hev;exact⟨v,done h1,h2⟩
  |leq=>simp only[Lo]at hcc;subst hcc;obtain⟨v,h1,h2⟩:=plain (by simp) _ hev;exact⟨v,done h1,h2⟩
  |gtr=>simp only[Lo]at hcc;subst hcc;obtain⟨v,h1,h2⟩:=plain (by simp) _ hev;exact⟨v,done h1,h2⟩
  |geq=>simp only[Lo]at hcc;subst hcc;obtain⟨v,h1,h2⟩:=plain (by simp) _ hev;exact⟨v,done h1,h2⟩
  |_=>simp at hcc
 |unOp u t x=>
  cases u with
  |not=>
   simp only[ccO]at hcc
   obtain⟨y,hy,hcc⟩:=pT hcc
   simp only[Lo]at hcc;subst hcc
   simp only[evR]at hev
   split at hev
   ·rename_i q hq
    simp only[Lo]at hev;subst hev
    have h1:=VV hE hy
    rw[hq]at h1
    refine⟨.bool !q,fin ?_,RP.b _⟩
    rw[h1.b];simp[Op.unary]
   ·cases hev
  |neg=>
   simp only[ccO]at hcc
   obtain⟨y,hy,hcc⟩:=pT hcc
   simp only[Lo]at hcc;subst hcc
   simp only[evR]at hev
   split at hev
   ·rename_i k q hq
    simp only[Lo]at hev;subst hev
    have h1:=VV hE hy
    rw[hq]at h1
    refine⟨.int k (k.wrap (0-q)),fin ?_,RP.i _ _⟩
    rw[h1.i];simp[Op.unary,Op.intArith]
   ·cases hev
  |_=>simp[ccO]at hcc
 |convert src t x=>
  simp only[ccO]at hcc
  obtain⟨y,hy,hcc⟩:=pT hcc
  have h1:=VV hE hy
  cases hu1:P.underlying src with
  |none=>simp[hu1]at hcc
  |some d1=>
   cases hu2:P.underlying t with
   |none=>simp[hu1,hu2]at hcc
   |some d2=>
    simp only[hu1,hu2]at hcc
    split at hcc
    ·rename_i k1 k2 e1 e2
     simp only[Lo]at e1 e2 hcc;subst e1;subst e2;subst hcc
     simp only[evR]at hev
     split at hev
     ·rename_i k q hq
      simp only[Lo]at hev;subst hev
      rw[hq]at h1
      refine⟨.int k2 (k2.wrap q),fin ?_,RP.i _ _⟩
      rw[h1.i];simp[convert,run_underlying hu1,run_underlying hu2,Conv.intToInt]
     ·cases hev
    ·cases hcc
 |makeFunc fn first caps=>
  cases fn with
  |func f=>
   simp only[ccO]at hcc
   split at hcc
   ·rename_i hfi
    obtain⟨cs,hcs,hcc⟩:=pT hcc
    simp only[Lo]at hcc;subst hcc
    simp only[evR]at hev
    obtain⟨ks,hks,hev⟩:=pT hev
    simp only[Lo]at hev;subst hev
    refine⟨.func (.func f) #[] (caps.toList.map a.eval).toArray,fin ?_,_,rfl,Tc hE hcs hks⟩
    have:first= #[]:=wD hfi
    subst this
    rw[show(caps.toList.map a.eval).toArray=caps.map a.eval by apply SV;simp]
    simp[Instr.makeFunc]
   ·cases hcc
  |_=>simp[ccO]at hcc
 |makeSlice t l c=>
  simp only[ccO]at hcc
  obtain⟨_,_,hcc⟩:=pT hcc;obtain⟨_,_,hcc⟩:=pT hcc;obtain⟨_,_,hcc⟩:=pT hcc;obtain⟨_,_,hcc⟩:=pT hcc
  split at hcc
  ·simp only[Lo]at hcc
   split at hcc<;>(subst hcc;simp[evR]at hev)
  ·cases hcc
 |fieldAddr t x f=>
  simp only[ccO]at hcc
  obtain⟨y,hy,hcc⟩:=pT hcc
  obtain⟨p,hp,hcc⟩:=pT hcc
  obtain⟨n,hn,hcc⟩:=pT hcc
  split at hcc
  ·cases hcc
  ·rename_i hn0
   simp only[Lo]at hcc;subst hcc
   have h1:=VV hE hy
   simp only[evR]at hev
   split at hev
   ·rename_i s i j hq
    simp only[Lo]at hev;subst hev
    rw[hq]at h1
    obtain⟨hpv,A,hv⟩:=h1
    refine⟨.pointer (some (A.add p.1)),fin ?_,⟨hpv.1,fun b hb=>?_⟩,_,rfl⟩
    ·rw[hv];exact NQ hp hn hn0 A
    ·obtain⟨B,c,hm,hv2⟩:=hpv.2 b hb
     rw[hv2]at hv;simp only[Value.pointer.injEq,Lo]at hv
     subst hv
     exact⟨B,c,hm,by rw[T2,Qp]⟩
   ·rename_i r j hq
    simp only[Lo]at hev;subst hev
    rw[hq]at h1
    obtain⟨B,o,vals,hD,hv,hr⟩:=h1
    refine⟨.pointer (some ⟨B,o+(j+p.1),none⟩),fin ?_,B,o,vals,hD,rfl,hr⟩
    rw[hv,NQ hp hn hn0,T2,Qp]
   ·cases hev
 |field t x f=>
  simp only[ccO]at hcc
  obtain⟨y,hy,hcc⟩:=pT hcc
  obtain⟨p,hp,hcc⟩:=pT hcc
  obtain⟨n,hn,hcc⟩:=pT hcc
  obtain⟨g,hg,hcc⟩:=pT hcc
  split at hcc
  ·cases hcc
  ·rename_i hg1
   simp only[Lo]at hcc;subst hcc
   have h1:=VV hE hy
   simp only[evR]at hev
   split at hev
   ·rename_i cs hq
    split at hev
    ·rename_i hl
     rw[hq]at h1
     obtain⟨vs,hv,h2⟩:=h1
     obtain⟨fs,fd,hu,hf,hp1,hp2⟩:=WU hp
     rw[←hp2]at hn hg
     rw[←hp1]at hl hev
     obtain⟨u,h3,h4⟩:=ZI h2 hn hg hg1 hev
     refine⟨u,fin ?_,h4⟩
     rw[hv]
     simp[Instr.field,run_underlying hu,hf,asAgg,h3]
    ·cases hev
   ·cases hev
 |slice t x lo hi mx=>
  simp only[ccO]at hcc
  obtain⟨y,hy,hcc⟩:=pT hcc
  obtain⟨lo',hlo,hcc⟩:=pT hcc
  obtain⟨hi',hhi,hcc⟩:=pT hcc
  obtain⟨mx',hmx,hcc⟩:=pT hcc
  have h1:=VV hE hy
  cases hu:P.underlying t with
  |none=>simp[hu]at hcc
  |some d=>
   simp only[hu]at hcc
   cases d with
   |string=>
    simp only at hcc
    split at hcc
    ·cases hcc
    ·rename_i hm0
     simp only[Lo]at hcc;subst hcc
     have hmx0:mx=none:=by
      cases mx with
      |none=>rfl
      |some z=>simp only[Iu]at hmx;obtain⟨q,_,hmx⟩:=pT hmx;simp only[Lo]at hmx;subst hmx;simp at hm0
     subst hmx0
     simp only[evR]at hev
     split at hev
     ·rename_i b hq
      obtain⟨l,hl,hev⟩:=pT hev
      obtain⟨h,hh,hev⟩:=pT hev
      split at hev
      ·rename_i hc
       obtain⟨hc1,hc2,hc3⟩:=hc
       simp only[Lo]at hev;subst hev
       rw[hq]at h1
       obtain⟨s,hs,hsb⟩:=h1.s
       have hsz:b.length=s.size:=by rw[←hsb];simp
       rw[hsz]at hh hc3
       have hb:=Ry (P:=P) (b:=false) hE hlo hhi hl hh hc1 hc2 hc3 (nh _)
       refine⟨.string (s.extract l.toNat h.toNat),fin ?_,?_⟩
       ·rw[hs]
        simp only[Instr.sliceAt,Sem.run_bind,run_underlying hu,Result.andThen_ok,Instr.slice,zC,S8,SY,if_false,Sem.run_pure,hb]
       ·have:=RP.s (w:=w) (D:=m.D) (s.extract l.toNat h.toNat)
        have e1:(s.extract l.toNat h.toNat).data.toList=(b.drop l.toNat).take (h.toNat-l.toNat):=by
         rw[←hsb,ByteArray.data_extract,Array.toList_extract,List.extract_eq_take_drop]
        rw[e1]at this
        exact this
      ·cases hev
     ·cases hev
   |slice el0=>
    simp only at hcc
    obtain⟨el,hel,hcc⟩:=pT hcc
    simp only[Lo]at hcc;subst hcc
    cases mx' with
    |some z=>simp[evR]at hev
    |none=>
     have hmx0:mx=none:=by
      cases mx with
      |none=>rfl
      |some z=>simp only[Iu]at hmx;obtain⟨q,_,hmx⟩:=pT hmx;simp only[Lo,reduceCtorEq]at hmx
     subst hmx0
     obtain⟨hu2,ii,hii,hsz,_,hpos,_⟩:=EL hel
     have hsr:∀w:World,(sizeOf el.1).run P w= .ok el.2.1 w:=fun w=>by simp[sizeOf,typeInfo,hii,hsz]
     have go:∀(b:Option Addr) (len cap:Nat) (l h:Int),Bp e lo' 0=some l→Bp e hi' len=some h→0≤l→l≤h→h≤len→len≤cap→
       (Instr.sliceAt t (.slice b len cap) (lo.map a.eval) (hi.map a.eval) none).run P w= .ok (.slice (if cap=l.toNat then b else b.map (·.add (l.toNat*el.2.1))) (h.toNat-l.toNat) (cap-l.toNat)) w:=by
      intro b len cap l h e1 e2 e3 e4 e5 e6
      have hb:=Ry (P:=P) (b:=true) hE hlo hhi e1 e2 e3 e4 e5 e6
      simp only[Instr.sliceAt,Sem.run_bind,run_underlying hu2,Result.andThen_ok,Instr.slice,hb,hsr,Sem.run_pure]
     simp only[evR]at hev
     split at hev
     ·
      rename_i s off len hq
      obtain⟨l,hl,hev⟩:=pT hev
      obtain⟨h,hh,hev⟩:=pT hev
      split at hev
      ·rename_i hc
       obtain⟨hc1,hc2,hc3,hc4⟩:=hc
       simp only[Lo]at hev;subst hev
       rw[hq]at h1
       obtain⟨hlt,⟨b,cap,hv,hcap⟩,hal⟩:=h1
       have hgo:=go b len cap l h hl hh hc1 hc2 hc3 hcap
       refine⟨_,fin (by rw[hv];exact hgo),hlt,⟨_,_,rfl,by omega⟩,fun k e' rows hb=>?_⟩
       have hk:k=el.2.1:=by
        unfold Ci at hc4
        rw[hb]at hc4
        simpa using hc4
       subst hk
       rcases hal _ _ _ hb with⟨rfl,b',hv2⟩|⟨B,c,hm,hv2,hle⟩
       ·rw[hv]at hv2;simp only[Value.slice.injEq]at hv2
        obtain⟨rfl,_,rfl⟩:=hv2
        have:l.toNat=0:=by omega
        have h00:h.toNat=0:=by omega
        left
        refine⟨by omega,_,by rw[this,h00]⟩
       ·rw[hv]at hv2;simp only[Value.slice.injEq]at hv2
        obtain⟨rfl,_,rfl⟩:=hv2
        by_cases hcl:c-off=l.toNat
        ·left
         refine⟨by omega,_,by rw[if_pos hcl,show h.toNat-l.toNat=0 by omega,show c-off-l.toNat=0 by omega]⟩
        ·right
         refine⟨B,c,hm,?_,by omega⟩
         rw[if_neg hcl]
         simp only[lT,T2]
         rw[show c-off-l.toNat=c-(off+l.toNat) by omega,show off*el.2.1+l.toNat*el.2.1=(off+l.toNat)*el.2.1 by rw[rX]]
      ·cases hev
     ·
      rename_i rows hq
      obtain⟨l,hl,hev⟩:=pT hev
      obtain⟨h,hh,hev⟩:=pT hev
      obtain⟨r,hr,hev⟩:=pT hev
      split at hev
      ·rename_i hall
       simp only[Lo]at hev;subst hev
       unfold bz at hr
       split at hr
       ·rename_i hc
        obtain⟨hc1,hc2,hc3⟩:=hc
        simp only[Lo]at hr;subst hr
        rw[hq]at h1
        have h1:RP w m.D (.l rows) (a.eval x):=h1
        by_cases hne:(rows.drop l.toNat).take (h.toNat-l.toNat)=[]
        ·obtain⟨b,cap,hv⟩:=h1.slice
         have hcap:rows.length≤cap:=by
          by_cases h0:rows=[]
          ·subst h0;simp
          ·obtain⟨_,_,cap',_,hv',_,_,hc',_⟩:=h1.cells h0
           rw[hv]at hv';simp only[Value.slice.injEq]at hv'
           omega
         have hgo:=go b rows.length cap l h hl hh hc1 hc2 hc3 hcap
         refine⟨_,fin (by rw[hv];exact hgo),?_⟩
         show RP w m.D _ _
         rw[hne]
         have:h.toNat-l.toNat=0:=by
          have:=congrArg List.length hne
          simp at this;omega
         rw[this];exact .e _ _
        ·have h0:rows≠[]:=by intro h0;subst h0;simp at hne
         obtain⟨b,k,cap,vals,hv,hs,hD,hcap,hk,hvv,hrr⟩:=h1.cells h0
         have hkk:k=el.2.1:=by
          cases rows with
          |nil=>exact absurd rfl h0
          |cons r rs=>
           have h2:=hk 0 r (by simp)
           simp only[KF,Cd,decide_eq_true_eq]at hall
           omega
         subst hkk
         have hgo:=go (some b) rows.length cap l h hl hh hc1 hc2 hc3 hcap
         have hlen:((rows.drop l.toNat).take (h.toNat-l.toNat)).length=h.toNat-l.toNat:=by simp;omega
         have hpos2:0<h.toNat-l.toNat:=by
          rw[←hlen];exact bD.2 hne
         refine⟨_,fin (by rw[hv];exact hgo),?_⟩
         show RP w m.D _ _
         rw[if_neg (by omega)]
         simp only[lT]
         rw[Y9 b hs]
         have hget:∀(i:Nat) (r:List PV),((rows.drop l.toNat).take (h.toNat-l.toNat))[i]? =some r→rows[l.toNat+i]? =some r:=by
          intro i r hr
          rw[XL]at hr
          split at hr
          ·simpa [L9]using hr
          ·cases hr
         have key:=RP.l (w:=w) (D:=m.D) ((rows.drop l.toNat).take (h.toNat-l.toNat)) ⟨b.block,b.off+l.toNat*el.2.1,none⟩ el.2.1 (cap-l.toNat) (fun i j=>vals (l.toNat+i) j) rfl hD (by omega)
          (fun i r hr=>hk _ r (hget i r hr))
          (fun i r j q hr hq=>by
           have:=hvv (l.toNat+i) r j q (hget i r hr) hq
           rw[←this]
           congr 2
           show b.off+l.toNat*el.2.1+(i*el.2.1+j)=b.off+((l.toNat+i)*el.2.1+j)
           rw[rX];omega)
          (fun i r j q hr hq=>hrr (l.toNat+i) r j q (hget i r hr) hq)
         rw[hlen]at key
         exact key
       ·cases hr
      ·cases hev
     ·
      rename_i hq
      obtain⟨l,hl,hev⟩:=pT hev
      obtain⟨h,hh,hev⟩:=pT hev
      split at hev
      ·rename_i hc
       simp only[Lo]at hev;subst hev
       obtain⟨rfl,rfl⟩:=hc
       rw[hq]at h1
       have h1:a.eval x= .slice none 0 0:=h1
       have hgo:=go none 0 0 0 0 hl hh (by omega) (by omega) (by omega) (by omega)
       refine⟨_,fin (by rw[h1];exact hgo),?_⟩
       simp;rfl
      ·cases hev
     ·cases hev
   |_=>simp at hcc
 |indexAddr t x ix=>
  simp only[ccO]at hcc
  obtain⟨y,hy,hcc⟩:=pT hcc
  obtain⟨iy,hiy,hcc⟩:=pT hcc
  have h1:=VV hE hy
  have h2:=VV hE hiy
  cases hu:P.underlying t with
  |none=>simp[hu]at hcc
  |some d=>
   simp only[hu]at hcc
   cases d with
   |slice el0=>
    simp only at hcc
    obtain⟨el,hel,hcc⟩:=pT hcc
    simp only[Lo]at hcc;subst hcc
    obtain⟨hu2,ii,hii,hsz,_,hpos,_⟩:=EL hel
    have hsr:∀w:World,(sizeOf el.1).run P w= .ok el.2.1 w:=fun w=>by simp[sizeOf,typeInfo,hii,hsz]
    have go:∀(b:Addr) (len cap:Nat) (k:IntKind) (i:Int),0≤i→i<len→(Instr.indexAt t (.slice (some b) len cap) (.int k i)).run P w= .ok (.pointer (some (b.add (i.toNat*el.2.1)))) w:=by
     intro b len cap k i e1 e2
     simp[Instr.indexAt,run_underlying hu2,asIntOf,e1,e2,hsr]
    simp only[evR]at hev
    split at hev
    ·rename_i s off len i hq hi
     split at hev
     ·rename_i hc
      obtain⟨hc1,hc2,hc3⟩:=hc
      simp only[Lo]at hev;subst hev
      rw[hq]at h1
      obtain⟨k,hk⟩:=zG h2 hi
      obtain⟨hlt,⟨b,cap,hv,hcap⟩,hal⟩:=h1
      have hsome:∃b',b=some b':=by
       unfold Ci at hc3
       split at hc3
       ·rename_i k' e' rows hb
        rcases hal _ _ _ hb with⟨rfl,b',hv2⟩|⟨B,c,hm,hv2,hle⟩
        ·omega
        ·rw[hv]at hv2;simp only[Value.slice.injEq]at hv2;exact⟨_,hv2.1⟩
       ·cases hc3
      obtain⟨b',rfl⟩:=hsome
      refine⟨_,fin (by rw[hv,hk];exact go b' len cap k i hc1 hc2),⟨hlt,fun bl hb=>?_⟩,_,rfl⟩
      unfold Ci at hc3
      rw[hb]at hc3
      cases bl with
      |var cs=>simp at hc3
      |map k ks=>simp at hc3
      |row k' e' rows=>
       simp only[Lo]at hc3;subst hc3
       rcases hal _ _ _ hb with⟨rfl,b'',hv2⟩|⟨B,c,hm,hv2,hle⟩
       ·omega
       ·rw[hv]at hv2;simp only[Value.slice.injEq,Lo]at hv2
        obtain⟨rfl,_,rfl⟩:=hv2
        refine⟨B,c,hm,?_⟩
        rw[T2]
        simp only[Blk.k,Ln]
        rw[rX]
     ·cases hev
    ·rename_i rows i hq hi
     split at hev
     ·rename_i hc
      obtain⟨hc1,hc2⟩:=hc
      split at hev
      ·rename_i r hr
       split at hev
       ·rename_i hrk
        obtain⟨hrk,hall⟩:=hrk
        simp only[Lo]at hev;subst hev
        rw[hq]at h1
        have h1:RP w m.D (.l rows) (a.eval x):=h1
        obtain⟨k,hk⟩:=zG h2 hi
        have h0:rows≠[]:=by intro h0;subst h0;simp at hr
        obtain⟨b,k',cap,vals,hv,hs,hD,hcap,hkl,hvv,hrr⟩:=h1.cells h0
        have hkk:k'=el.2.1:=by rw[←hrk];exact(hkl _ r hr).symm
        subst hkk
        refine⟨_,fin (by rw[hv,hk];exact go b rows.length cap k i hc1 hc2),b.block,b.off+i.toNat*el.2.1,fun j=>vals i.toNat j,hD,?_,fun j c hj=>?_⟩
        ·rw[Y9 b hs];simp
        ·have:=hvv i.toNat r j c hr hj
         exact⟨by rw[←this];congr 2;show b.off+i.toNat*el.2.1+j=b.off+(i.toNat*el.2.1+j);omega,hrr i.toNat r j c hr hj⟩
       ·cases hev
      ·cases hev
     ·cases hev
    ·cases hev
   |array n el=>
    simp only at hcc
    obtain⟨k0,hk0,hcc⟩:=pT hcc
    simp only[Lo]at hcc;subst hcc
    have hsr:=Jb hk0
    have go:∀(b:Addr) (k:IntKind) (i:Int),0≤i→i<n→(Instr.indexAt t (.pointer (some b)) (.int k i)).run P w= .ok (.pointer (some (b.add (i.toNat*k0)))) w:=by
     intro b k i e1 e2
     simp[Instr.indexAt,run_underlying hu,asIntOf,Instr.sureAddr,e1,e2,hsr]
    simp only[evR]at hev
    split at hev
    ·rename_i s i j q hq hi
     split at hev
     ·rename_i hc
      obtain⟨hc1,hc2⟩:=hc
      simp only[Lo]at hev;subst hev
      rw[hq]at h1
      obtain⟨k,hk⟩:=zG h2 hi
      obtain⟨hpv,A,hv⟩:=h1
      refine⟨_,fin (by rw[hv,hk];exact go A k q hc1 hc2),⟨hpv.1,fun b hb=>?_⟩,_,rfl⟩
      obtain⟨B,c,hm,hv2⟩:=hpv.2 b hb
      rw[hv2]at hv;simp only[Value.pointer.injEq,Lo]at hv
      subst hv
      exact⟨B,c,hm,by rw[T2,Qp]⟩
     ·cases hev
    ·rename_i r j q hq hi
     split at hev
     ·rename_i hc
      obtain⟨hc1,hc2⟩:=hc
      simp only[Lo]at hev;subst hev
      rw[hq]at h1
      obtain⟨k,hk⟩:=zG h2 hi
      obtain⟨B,o,vals,hD,hv,hr⟩:=h1
      refine⟨_,fin (by rw[hv,hk];exact go _ k q hc1 hc2),B,o,vals,hD,?_,hr⟩
      rw[T2,Qp]
     ·cases hev
    ·cases hev
   |_=>simp at hcc
 |index t x ix=>
  simp only[ccO]at hcc
  obtain⟨y,hy,hcc⟩:=pT hcc
  obtain⟨iy,hiy,hcc⟩:=pT hcc
  have h1:=VV hE hy
  have h2:=VV hE hiy
  cases hu:P.underlying t with
  |none=>simp[hu]at hcc
  |some d=>
   simp only[hu]at hcc
   cases d with
   |string=>
    simp only[Lo]at hcc;subst hcc
    simp only[evR]at hev
    split at hev
    ·rename_i b i hq hi
     split at hev
     ·rename_i hc
      split at hev
      ·rename_i c hb
       simp only[Lo]at hev;subst hev
       rw[hq]at h1
       obtain⟨k,hk⟩:=zG h2 hi
       obtain⟨s,hs,hsb⟩:=h1.s
       refine⟨.int .u8 c.toNat,fin ?_,RP.i _ _⟩
       rw[hs,hk]
       have hg:s[i.toNat]? =some c:=by
        rw[←hsb]at hb
        obtain⟨hl,hg⟩:=QU.1 hb
        have hl':i.toNat<s.size:=by simpa using hl
        rw[getElem?_pos s i.toNat hl']
        congr 1
       simp[Instr.index,run_underlying hu,asIntOf,hc,hg]
      ·cases hev
     ·cases hev
    ·cases hev
   |array n el=>
    simp only at hcc
    obtain⟨k0,hk0,hcc⟩:=pT hcc
    obtain⟨g,hg,hcc⟩:=pT hcc
    split at hcc
    ·cases hcc
    ·rename_i hg1
     simp only[Lo]at hcc;subst hcc
     simp only[evR]at hev
     split at hev
     ·rename_i cs i hq hi
      split at hev
      ·rename_i hc
       obtain⟨hc1,hc2,hc3⟩:=hc
       rw[hq]at h1
       obtain⟨k,hk⟩:=zG h2 hi
       obtain⟨vs,hv,h3⟩:=h1
       obtain⟨u,h4,h5⟩:=ZI h3 hk0 hg hg1 hev
       refine⟨u,fin ?_,h5⟩
       rw[hv,hk]
       simp[Instr.index,run_underlying hu,asIntOf,hc1,hc2,Jb hk0,h4]
      ·cases hev
     ·cases hev
   |_=>simp at hcc
 |extract x i=>
  simp only[ccO]at hcc
  obtain⟨y,hy,hcc⟩:=pT hcc
  simp only[Lo]at hcc;subst hcc
  have h1:=VV hE hy
  simp only[evR]at hev
  split at hev
  ·rename_i vs hq
   rw[hq]at h1
   obtain⟨us,hv,h2⟩:=h1
   cases hvi:vs[i]? with
   |none=>simp[hvi]at hev
   |some z=>
    obtain⟨g,cs⟩:=z
    simp only[hvi]at hev
    obtain⟨u,hui,hru⟩:=h2.get hvi
    refine⟨u,fin ?_,?_⟩
    ·rw[hv];simp[Instr.extract,hui]
    ·unfold RGA at hru
     cases g with
     |true=>
      simp only[if_true]at hru
      simp only[mkT,if_true,Lo]at hev;subst hev
      exact hru
     |false=>
      simp only[SY,if_false]at hru
      obtain⟨q,rfl,hq2⟩:=hru
      simp only[mkT,SY,if_false,Lo]at hev;subst hev
      exact hq2
  ·cases hev
 |call c=>
  obtain⟨callee,args,argTypes⟩:=c
  simp only[ccO]at hcc
  cases callee with
  |value f=>
   simp only at hcc
   obtain⟨f',_,hcc⟩:=pT hcc
   obtain⟨as,_,hcc⟩:=pT hcc
   simp only[Lo]at hcc
   exact absurd hcc.symm (hnc _ _)
  |invoke r n=>simp at hcc
  |builtin b=>
   have bl:∀{s:Sem Value} {v:Value},(∀(cs:Array Bool),builtin b argTypes ty cs (args.map a.eval)=(do pure (Next.value (←s))))→s.run P w= .ok v w→
     (execOp a.eval {dst:=dst,op:=.call {callee:=.builtin b,args:=args,argTypes:=argTypes},type:=ty,pos:=pos,after:=after,guard:=guard}).run P w= .ok (.value v) w:=by
    intro s v hb hs
    simp only[execOp,resolve,Sem.run_bind,Sem.run_pure,Result.andThen_ok,invoke,hb,hs]
   cases b with
   |len=>
    simp only at hcc
    split at hcc
    ·rename_i x t ha hat
     obtain⟨y,hy,hcc⟩:=pT hcc
     have h1:=VV hE hy
     have ea:args= #[x]:=by apply SV;simpa using ha
     have et:argTypes= #[t]:=by apply SV;simpa using hat
     subst ea;subst et
     have go:∀str,evR cp sp e σ (.len str y)=some t_→(if str=true then P.underlying t=some .string else∃el,P.underlying t=some (.slice el))→
       ∃v,(execOp a.eval {dst:=dst,op:=.call {callee:=.builtin .len,args:= #[x],argTypes:= #[t]},type:=ty,pos:=pos,after:=after,guard:=guard}).run P w= .ok (.value v) w∧RT m σ w t_ v:=by
      intro str hs ht
      simp only[evR]at hs
      split at hs
      ·rename_i q hq
       obtain⟨n,hn,hs⟩:=pT hs
       simp only[Lo]at hs;subst hs
       rw[hq]at h1
       have:=xo (P:=P) h1 hn ht ty
       exact⟨.int .i64 n,bl (fun cs=>rfl) (by simpa using this),RP.i _ _⟩
      ·cases hs
     cases hu:P.underlying t with
     |none=>simp[hu]at hcc
     |some d=>
      simp only[hu]at hcc
      cases d with
      |slice el=>simp only[Lo]at hcc;subst hcc;exact go false hev (by simpa using⟨el,hu⟩)
      |string=>simp only[Lo]at hcc;subst hcc;exact go true hev (by simpa using hu)
      |_=>simp at hcc
    ·cases hcc
   |append=>
    simp only at hcc
    split at hcc
    ·obtain⟨_,_,hcc⟩:=pT hcc;obtain⟨_,_,hcc⟩:=pT hcc;obtain⟨_,_,hcc⟩:=pT hcc
     split at hcc
     ·simp only[Lo]at hcc;subst hcc;simp[evR]at hev
     ·cases hcc
    ·cases hcc
   |max=>
    simp only at hcc
    split at hcc
    ·rename_i x1 x2 ha
     obtain⟨y1,hy1,hcc⟩:=pT hcc
     obtain⟨y2,hy2,hcc⟩:=pT hcc
     simp only[Lo]at hcc;subst hcc
     have h1:=VV hE hy1
     have h2:=VV hE hy2
     have ea:args= #[x1,x2]:=by apply SV;simpa using ha
     subst ea
     simp only[evR]at hev
     split at hev
     ·rename_i k p k' q hp hq
      split at hev
      ·rename_i hk
       subst hk
       simp only[Lo]at hev;subst hev
       rw[hp]at h1;rw[hq]at h2
       refine⟨.int k (if q>p then q else p),bl (s:=Builtin.max_ argTypes ty #[a.eval x1,a.eval x2]) (fun cs=>by simp[builtin]) ?_,RP.i _ _⟩
       rw[h1.i,h2.i]
       simp[Builtin.max_,Builtin.max2]
      ·cases hev
     ·cases hev
    ·cases hcc
   |min=>
    simp only at hcc
    split at hcc
    ·rename_i x1 x2 ha
     obtain⟨y1,hy1,hcc⟩:=pT hcc
     obtain⟨y2,hy2,hcc⟩:=pT hcc
     simp only[Lo]at hcc;subst hcc
     have h1:=VV hE hy1
     have h2:=VV hE hy2
     have ea:args= #[x1,x2]:=by apply SV;simpa using ha
     subst ea
     simp only[evR]at hev
     split at hev
     ·rename_i k p k' q hp hq
      split at hev
      ·rename_i hk
       subst hk
       simp only[Lo]at hev;subst hev
       rw[hp]at h1;rw[hq]at h2
       refine⟨.int k (if q<p then q else p),bl (s:=Builtin.min_ argTypes ty #[a.eval x1,a.eval x2]) (fun cs=>by simp[builtin]) ?_,RP.i _ _⟩
       rw[h1.i,h2.i]
       simp[Builtin.min_,Builtin.min2]
      ·cases hev
     ·cases hev
    ·cases hcc
   |_=>simp at hcc
 |_=>simp[ccO]at hcc
end
end Go.Fx
namespace Go.Fx
open Go.RowKit
section
variable{P:Program}{eqs:List (TypeId×List Nat)}{CR:Nat→Code→C→Prop}{m m':Mt}{σ σ':St}{w w':World}{e:Env}{a:Act}
theorem BR.xt(h:SR CR m σ w)(x:Xt m σ w m' σ' w'){s:Key}{b:Blk}(hb:BR m σ w s b)(hm:m'.mu s=m.mu s)(hk:∀B c,m.mu s=some (B,c)→w'.heap[B]? =w.heap[B]?):BR m' σ' w' s b:=by
 cases b with
 |var cs=>
  rcases hb with h1|⟨B,T,vs,h1,h2,h3⟩
  ·exact .inl (hm.trans h1)
  ·exact .inr ⟨B,T,vs,hm.trans h1,(hk B 0 h1).trans h2,h3.imp fun _ _ hx=>x.ra h hx⟩
 |row k e rows=>
  obtain⟨h0,h1,h2⟩:=hb
  refine⟨h0,h1,?_⟩
  rcases h2 with⟨h3,h4⟩|⟨B,c,cur,h3,h4,h5,h6,h7,h8⟩
  ·exact .inl ⟨hm.trans h3,h4⟩
  ·exact .inr ⟨B,c,cur,hm.trans h3,(hk B c h3).trans h4,h5,h6,h7,fun i r j p hr hp=>let⟨v,hv,hp'⟩:=h8 i r j p hr hp;⟨v,hv,x.rp h hp'⟩⟩
 |map k ks=>
  obtain⟨B,es,clock,h1,h2,h3⟩:=hb
  exact⟨B,es,clock,hm.trans h1,(hk B 0 h1).trans h2,h3⟩
theorem LR.xt(h:SR CR m σ w)(x:Xt m σ w m' σ' w'){l:Nat}{r:LRec}(hl:LR CR m σ w l r)(hll:l<σ.ls.length)(hk:w'.heap[m.la l]? =w.heap[m.la l]?):LR CR m' σ' w' l r:=by
 obtain⟨lo,h1,h2,h3⟩:=hl
 exact⟨lo,by rw[x.la l hll,hk];exact h1,x.re h h2,h3⟩
theorem SR.step(h:SR CR m σ w)(x:Xt m σ w m' σ' w')
  (hb:∀s b,σ'.bs s=some b→BR m' σ' w' s b∨(σ.bs s=some b∧m'.mu s=m.mu s∧∀B c,m.mu s=some (B,c)→w'.heap[B]? =w.heap[B]?))
  (hgen:∀s b,σ'.bs s=some b→s.2<σ'.clk)
  (hinj:∀s s' b b' B c c',σ'.bs s=some b→σ'.bs s'=some b'→m'.mu s=some (B,c)→m'.mu s'=some (B,c')→s=s')
  (hdj:∀b,InS m' σ' b→¬m'.D b) (hdlt:∀b,m'.D b→b<w'.heap.size) (hls:σ'.ls=σ.ls) (hla:∀l,l<σ.ls.length→w'.heap[m.la l]? =w.heap[m.la l]?):SR CR m' σ' w' where
 blk s b hs:=by
  rcases hb s b hs with h1|⟨h1,h2,h3⟩
  ·exact h1
  ·exact BR.xt h x (h.blk s b h1) h2 h3
 gen:=hgen
 inj:=hinj
 dj:=hdj
 dlt:=hdlt
 lrs l r hl:=by
  rw[hls]at hl
  have hll:l<σ.ls.length:=(QU.1 hl).1
  exact LR.xt h x (h.lrs l r hl) hll (hla l hll)
 linj l l' h1 h2 h3:=by
  rw[hls]at h1 h2
  rw[x.la l h1,x.la l' h2]at h3
  exact h.linj l l' h1 h2 h3
theorem SR.loop_ne(h:SR CR m σ w){s:Key}{b:Blk}{B c:Nat}(hs:σ.bs s=some b)(hm:m.mu s=some (B,c)){l:Nat}(hl:l<σ.ls.length):m.la l≠B:=by
 intro e
 obtain⟨lo,h1,_⟩:=h.lrs l _ (Xb hl)
 rw[e]at h1
 have hb:=h.blk s b hs
 cases b with
 |var cs=>obtain⟨B',T,vs,h2,h3,_⟩:=hb.resolve_left (by rw[hm];simp);rw[hm]at h2;cases h2;rw[h1]at h3;cases h3
 |row k e rows=>
  obtain⟨_,_,⟨h2,_⟩|⟨B',c',cur,h2,h3,_⟩⟩:=hb
  ·rw[hm]at h2;cases h2
  ·rw[hm]at h2;cases h2;rw[h1]at h3;cases h3
 |map k ks=>obtain⟨B',es,clock,h2,h3,_⟩:=hb;rw[hm]at h2;cases h2;rw[h1]at h3;cases h3
def Mt.add(m:Mt)(s:Key)(v:Option (Nat×Nat)):Mt:={m with mu:=fun t=>if t=s then v else m.mu t}
theorem GW(h:SR CR m σ w)(d:Nat)(blk:Blk)(o:Obj)(c:Nat):Xt m σ w (m.add (d,σ.clk) (some (w.heap.size,c))) (σ.add d blk) (w.alloc o) where
 mu s hs:=by simp only[Mt.add];rw[if_neg];intro e;subst e;simp at hs
 la l hl:=rfl
 clk:=by simp[St.add]
 len:=nh _
 bs s b' hs hc:=by
  simp only[St.add,St.put]at hs
  rw[if_neg (by intro e;subst e;simp at hc)]at hs
  exact⟨b',hs,Yu.refl _⟩
 D b hb:=hb
 new b hb:=.inl hb
 img b hb:=by
  rcases hb with⟨s,bl,c',hs,hm⟩|⟨l,hl,e⟩
  ·simp only[St.add,St.put]at hs
   simp only[Mt.add]at hm
   by_cases e:s=(d,σ.clk)
   ·rw[if_pos e]at hm;simp only[Lo,ZP]at hm;exact .inr (by omega)
   ·rw[if_neg e]at hs hm;exact .inl (.inl ⟨s,bl,c',hs,hm⟩)
  ·exact .inl (.inr ⟨l,hl,e⟩)
 kept b hb hn:=Below.heap_alloc w o b hb
 os:=rfl
 tape:=rfl
 output:=rfl
 size:=by simp
theorem VE(h:SR CR m σ w)(d:Nat)(blk:Blk)(o:Obj)(c:Nat)(hB:BR (m.add (d,σ.clk) (some (w.heap.size,c))) (σ.add d blk) (w.alloc o) (d,σ.clk) blk):
  SR CR (m.add (d,σ.clk) (some (w.heap.size,c))) (σ.add d blk) (w.alloc o):=by
 have x:=GW h d blk o c
 have old:∀s b,(σ.add d blk).bs s=some b→s≠(d,σ.clk)→σ.bs s=some b∧(m.add (d,σ.clk) (some (w.heap.size,c))).mu s=m.mu s:=by
  intro s b hs e
  simp only[St.add,St.put]at hs
  rw[if_neg e]at hs
  exact⟨hs,by simp[Mt.add,e]⟩
 refine SR.step h x ?_ ?_ ?_ ?_ ?_ rfl ?_
 ·intro s b hs
  by_cases e:s=(d,σ.clk)
  ·subst e
   simp only[St.add,St.put,if_true,Lo]at hs
   subst hs;exact .inl hB
  ·obtain⟨h1,h2⟩:=old s b hs e
   exact .inr ⟨h1,h2,fun B c' hm=>Below.heap_alloc w o B (h.inS_lt (.inl ⟨s,b,c',h1,hm⟩))⟩
 ·intro s b hs
  by_cases e:s=(d,σ.clk)
  ·subst e;simp[St.add]
  ·have:=h.gen s b (old s b hs e).1;simp[St.add];omega
 ·intro s s' b b' B c1 c2 hs hs' hm hm'
  by_cases e:s=(d,σ.clk)<;>by_cases e':s'=(d,σ.clk)
  ·rw[e,e']
  ·obtain⟨h1,h2⟩:=old s' b' hs' e'
   rw[h2]at hm'
   simp only[Mt.add,e,if_true,Lo,ZP]at hm
   have:=h.inS_lt (.inl ⟨s',b',c2,h1,hm'⟩)
   omega
  ·obtain⟨h1,h2⟩:=old s b hs e
   rw[h2]at hm
   simp only[Mt.add,e',if_true,Lo,ZP]at hm'
   have:=h.inS_lt (.inl ⟨s,b,c1,h1,hm⟩)
   omega
  ·obtain⟨h1,h2⟩:=old s b hs e
   obtain⟨h3,h4⟩:=old s' b' hs' e'
   rw[h2]at hm;rw[h4]at hm'
   exact h.inj s s' b b' B c1 c2 h1 h3 hm hm'
 ·intro b hb hD
  rcases x.img b hb with h1|h1
  ·exact h.dj b h1 hD
  ·have:=h.dlt b hD;omega
 ·intro b hb
  have:=h.dlt b hb;simp;omega
 ·intro l hl
  exact Below.heap_alloc w o _ (h.inS_lt (.inr ⟨l,hl,rfl⟩))
def Mt.kill(m:Mt)(σ:St)(s:Key):Mt:={m with D:=DK m σ s}
theorem aZ(h:SR CR m σ w)(s:Key):SR CR (m.kill σ s) (σ.kill s) w∧Xt m σ w (m.kill σ s) (σ.kill s) w:=by
 have hbs:∀t b,(σ.kill s).bs t=some b→t≠s∧σ.bs t=some b:=by
  intro t b ht
  simp only[St.kill]at ht
  by_cases e:t=s
  ·rw[if_pos e]at ht;cases ht
  ·rw[if_neg e]at ht;exact⟨e,ht⟩
 have img:∀b,InS (m.kill σ s) (σ.kill s) b→InS m σ b:=by
  intro b hb
  rcases hb with⟨t,bl,c,ht,hm⟩|⟨l,hl,e⟩
  ·exact .inl ⟨t,bl,c,(hbs t bl ht).2,hm⟩
  ·exact .inr ⟨l,hl,e⟩
 have x:Xt m σ w (m.kill σ s) (σ.kill s) w:=
  {mu:=fun _ _=>rfl,la:=fun _ _=>rfl,clk:=nh _,len:=nh _
   bs:=fun t b ht _=>⟨b,(hbs t b ht).2,Yu.refl _⟩
   D:=fun b hb=>.inl hb
   new:=fun b hb=>by
    rcases hb with hb|⟨bl,c,h1,h2⟩
    ·exact .inl hb
    ·exact .inr (.inr (.inl ⟨s,bl,c,h1,h2⟩))
   img:=fun b hb=>.inl (img b hb)
   kept:=fun _ _ _=>rfl,os:=rfl,tape:=rfl,output:=rfl,size:=nh _}
 refine⟨SR.step h x (fun t b ht=>.inr ⟨(hbs t b ht).2,rfl,fun _ _ _=>rfl⟩) (fun t b ht=>h.gen t b (hbs t b ht).2)
  (fun t t' b b' B c c' h1 h2 h3 h4=>h.inj t t' b b' B c c' (hbs t b h1).2 (hbs t' b' h2).2 h3 h4) ?_ ?_ rfl (fun _ _=>rfl),x⟩
 ·intro b hb hD
  rcases hD with hD|⟨bl,c,h1,h2⟩
  ·exact h.dj b (img b hb) hD
  ·rcases hb with⟨t,bl',c',ht,hm⟩|⟨l,hl,e⟩
   ·exact(hbs t bl' ht).1 (h.inj t s bl' bl b c' c (hbs t bl' ht).2 h1 hm h2)
   ·exact h.loop_ne h1 h2 hl e
 ·intro b hb
  rcases hb with hb|⟨bl,c,h1,h2⟩
  ·exact h.dlt b hb
  ·exact h.inS_lt (.inl ⟨s,bl,c,h1,h2⟩)
theorem Hn(h:SR CR m σ w)(x:AV):∃m',SR CR m' (klA σ x) w∧Xt m σ w m' (klA σ x) w∧∀b,DA m σ x b→m'.D b:=by
 cases x with
 |own s off len=>exact⟨_,(aZ h s).1,(aZ h s).2,fun b hb=>hb⟩
 |_=>exact⟨m,h,Xt.refl _ _ _,fun b hb=>hb⟩
theorem gH:∀{xs:List AV} {m:Mt} {σ:St},SR CR m σ w→∃m',SR CR m' (klL σ xs) w∧Xt m σ w m' (klL σ xs) w∧
  ∀x,x∈xs→∀p v,RA m σ w x v→frA σ x=some p→RP w m'.D p v
 |[],m,σ,h=>⟨m,h,Xt.refl _ _ _,fun x hx=>by simp at hx⟩
 |x::xs,m,σ,h=>by
  obtain⟨m1,h1,x1,d1⟩:=Hn h x
  obtain⟨m2,h2,x2,d2⟩:=gH (xs:=xs) h1
  refine⟨m2,h2,x1.trans x2,fun y hy p v hr hf=>?_⟩
  have first:(∀b,DA m σ y b→m1.D b)→RP w m2.D p v:=fun hd=>
   RP.mono (fun b hb=>⟨x2.D b (hd b hb),rfl⟩) (I8 h hr hf)
  by_cases hsame:∀b,DA m σ y b→m1.D b
  ·exact first hsame
  ·
   have hy':y∈xs:=by
    rcases qY.1 hy with rfl|hy'
    ·exact absurd d1 hsame
    ·exact hy'
   refine d2 y hy' p v (x1.ra h hr) ?_
   cases y with
   |own s off len=>
    cases x with
    |own s' off' len'=>
     by_cases e:s=s'
     ·subst e;exact absurd d1 hsame
     ·simp only[frA,klA,St.kill]at hf⊢
      rw[if_neg e];exact hf
    |_=>exact hf
   |raw c=>
    exact hf
   |_=>simp[frA]at hf⊢<;>exact hf
theorem dC{xs:List AV}{ps:List PV}(h:frL σ xs=some ps):F2 (fun x p=>frA σ x=some p) xs ps:=by
 induction xs generalizing ps with
 |nil=>simp[frL]at h;subst h;exact .nil
 |cons x xs ih=>
  simp only[frL]at h
  obtain⟨v,h1,h⟩:=pT h
  obtain⟨vs,h2,h⟩:=pT h
  simp only[Lo]at h;subst h
  exact .cons h1 (ih h2)
theorem F2_comp{α β γ:Type}{R:α→β→Prop}{T:α→γ→Prop}{U:β→γ→Prop}:∀{as:List α} {bs:List β} {cs:List γ},(∀a b c,a∈as→R a b→T a c→U b c)→F2 R as bs→F2 T as cs→F2 U bs cs
 |_,_,_,_,.nil,.nil=>.nil
 |_,_,_,h,.cons x t,.cons y t'=>.cons (h _ _ _ (by simp) x y) (F2_comp (fun a b c ha=>h a b c (by simp[ha])) t t')
theorem CA(h:SR CR m σ w){xs:List AV}{ps:List PV}{vs:List Value}(hr:F2 (RA m σ w) xs vs)(hf:frL σ xs=some ps):
  ∃m',SR CR m' (klL σ xs) w∧Xt m σ w m' (klL σ xs) w∧F2 (RP w m'.D) ps vs:=by
 obtain⟨m',h1,x1,d1⟩:=gH (xs:=xs) h
 exact⟨m',h1,x1,F2_comp (fun x p v hx a b=>d1 x hx p v b a) (dC hf) hr⟩
theorem MV(x:AV):(klA σ x).clk=σ.clk:=by cases x<;>rfl
theorem cm:∀(xs:List AV) (σ:St),(klL σ xs).clk=σ.clk
 |[],_=>rfl
 |x::xs,σ=>by simp only[klL];rw[cm xs,MV]
end
end Go.Fx
namespace Go.Fx
open Go.RowKit
section
variable{P:Program}{eqs:List (TypeId×List Nat)}{CR:Nat→Code→C→Prop}{m m':Mt}{σ σ':St}{w w':World}{e:Env}{a:Act}
def Eff(P:Program)(CR:Nat→Code→C→Prop)(m:Mt)(σ:St)(w:World)(s:Sem Next)(t:TV)(σ':St):Prop:=
 ∃v w' m',(s.run P w= .ok (.value v) w'∨(s.run P w= .ok .skip w'∧v=undef))∧SR CR m' σ' w'∧RT m' σ' w' t v∧Xt m σ w m' σ' w'
theorem Eff.val{s:Sem Value}{t:TV}{v:Value}(hs:s.run P w= .ok v w')(h1:SR CR m' σ' w')(h2:RT m' σ' w' t v)(h3:Xt m σ w m' σ' w'):
  Eff P CR m σ w (do pure (Next.value (←s))) t σ':=⟨v,w',m',.inl (by simp[hs]),h1,h2,h3⟩
theorem MI(h:SR CR m σ w)(d:Nat)(blk:Blk)(o:Obj)(c:Nat):RT (m.add (d,σ.clk) (some (w.heap.size,c))) (σ.add d blk) (w.alloc o) (.a (.ptr (d,σ.clk) 0 0)) (.pointer (some ⟨w.heap.size,0,none⟩)):=by
 refine⟨⟨by simp[St.add],fun b hb=>⟨w.heap.size,c,by simp[Mt.add],?_⟩⟩,_,rfl⟩
 simp
theorem Zz(h:SR CR m σ w){t:TypeId}{z:List AV}(hz:NU P t=some z)(d:Nat):Eff P CR m σ w (do pure (Next.value (←Instr.alloc t true (.tuple #[])))) (.a (.ptr (d,σ.clk) 0 0)) (σ.add d (.var z)):=by
 obtain⟨zv,hr,hf⟩:=yF hz w
 have hs:(Instr.alloc t true (.tuple #[])).run P w= .ok (.pointer (some ⟨w.heap.size,0,none⟩)) (w.alloc (.cells zv.cells t)):=by
  simp[Instr.alloc,hr,newVar,newRow]
 refine Eff.val hs (VE h d _ _ 0 (.inr ⟨w.heap.size,t,zv.cells.toList,by simp[Mt.add],by simpa using World.alloc_heap_new w _,hf _ _ _⟩)) (MI h d _ _ 0) (GW h d _ _ 0)
theorem NW(h:SR CR m σ w){t:TypeId}{v:Value}{vs:List AV}(hv:F2 (RA m σ w) vs v.cells.toList)(d:Nat):Eff P CR m σ w (do pure (Next.value (←Instr.box t v))) (.a (.ptr (d,σ.clk) 0 0)) (σ.add d (.var vs)):=by
 have hs:(Instr.box t v).run P w= .ok (.pointer (some ⟨w.heap.size,0,none⟩)) (w.alloc (.cells v.cells t)):=by
  simp[Instr.box,newVar,newRow]
 refine Eff.val hs (VE h d _ _ 0 (.inr ⟨w.heap.size,t,v.cells.toList,by simp[Mt.add],by simpa using World.alloc_heap_new w _,?_⟩)) (MI h d _ _ 0) (GW h d _ _ 0)
 exact hv.imp fun _ _ hx=>(GW h d _ _ 0).ra h hx
theorem U1{z:List AV}{vs:List Value}{ps:List PV}(hz:∀(m:Mt) (σ:St) (w:World),F2 (RA m σ w) z vs)(hno:∀x,x∈z→MQ x=false)(hf:frL σ z=some ps)(m:Mt)(w:World):F2 (RP w m.D) ps vs:=by
 refine F2_comp (R:=fun x p=>frA σ x=some p) (T:=RA m σ w) (fun x p v hx h1 h2=>?_) (dC hf) (hz m σ w)
 cases x with
 |p y=>simp only[frA,Lo]at h1;subst h1;exact h2
 |nil=>simp only[frA,Lo]at h1;subst h1;cases h2;exact .e _ _
 |own s off len=>have:=hno _ hx;simp[MQ]at this
 |raw c=>
  obtain⟨rfl,_⟩:=h2
  cases v with
  |slice ad n cap=>
   cases n with
   |zero=>simp only[frA,zd,Lo]at h1;subst h1;exact .e _ _
   |succ n=>simp[frA,zd]at h1
  |_=>simp[frA,zd]at h1
 |_=>simp[frA]at h1
theorem YU{t:TypeId}{z:List AV}(h:NU P t=some z):∀x,x∈z→MQ x=false:=by
 unfold NU at h
 obtain⟨i,_,h⟩:=pT h
 obtain⟨v,_,h⟩:=pT h
 have:∀(l:List Value) (l':List AV),Fq cAV l=some l'→∀x,x∈l'→MQ x=false:=by
  intro l
  induction l with
  |nil=>intro l' h x hx;simp[Fq]at h;subst h;simp at hx
  |cons v l ih=>
   intro l' h x hx
   simp only[Fq]at h
   obtain⟨y,h1,h⟩:=pT h
   obtain⟨ys,h2,h⟩:=pT h
   simp only[Lo]at h;subst h
   rcases qY.1 hx with rfl|hx
   ·unfold cAV at h1
    split at h1<;>first|(simp only[Lo]at h1;subst h1;rfl)|(cases h1)
   ·exact ih ys h2 x hx
 exact this _ _ h
theorem Kn(z:Array Value)(n j:Nat)(h:j<n):(madeCells z n)[j]? =some (z[j%z.size]!):=by
 simp[madeCells,h]
def Zv(w:World)(D:Nat→Prop)(k:Nat)(rows:List (List PV))(cur:Array Value):Prop:=
 ∀(i:Nat) (r:List PV) (j:Nat) (p:PV),rows[i]? =some r→r[j]? =some p→∃v,cur[i*k+j]? =some v∧RP w D p v
theorem SK{D:Nat→Prop}{ps:List PV}{z:Array Value}{k l n:Nat}(hk:0<k)(hz:z.size=k)(hf:F2 (RP w D) ps z.toList)(hl:l*k≤n):Zv w D k (List.replicate l ps) (madeCells z n):=by
 intro i r j p hr hp
 obtain⟨hi,rfl⟩:i<l∧r=ps:=by
  rw[Be]at hr
  split at hr
  ·simp only[Lo]at hr;exact⟨by assumption,hr.symm⟩
  ·cases hr
 have hjk:j<k:=by
  have:=hf.length
  have h2:j<r.length:=(QU.1 hp).1
  simp at this;omega
 obtain⟨v,hv,hrp⟩:=hf.get hp
 refine⟨v,?_,hrp⟩
 have hlt:i*k+j<n:=by
  have:i*k+k≤l*k:=by rw[←Vb];exact rB _ hi
  omega
 rw[Kn z n _ hlt,hz]
 have:(i*k+j)%k=j:=by rw[Li,Nat.mul_add_mod,Nat.mod_eq_of_lt hjk]
 rw[this]
 have hjz:j<z.size:=by omega
 rw[getElem!_pos z j hjz]
 have hv':z[j]? =some v:=by simpa using hv
 rw[zp hjz]at hv'
 exact hv'
theorem Pf{t:TypeId}{k:Nat}(h:iC P t=some k):∃i v,P.info? t=some i∧i.zero=some v∧v.cells.size=k:=by
 unfold iC at h
 obtain⟨i,hi,h⟩:=pT h
 obtain⟨v,hv,h⟩:=pT h
 simp only[Lo]at h
 exact⟨i,v,hi,hv,h⟩
theorem Oz(h:SR CR m σ w)(d k el:Nat)(rows:List (List PV))(o:Obj)(c l:Nat)(hl:l≤c):RT (m.add (d,σ.clk) (some (w.heap.size,c))) (σ.add d (.row k el rows)) (w.alloc o) (.a (.own (d,σ.clk) 0 l)) (.slice (some ⟨w.heap.size,0,none⟩) l c):=by
 refine⟨by simp[St.add],⟨_,_,rfl,hl⟩,fun k' e' rows' hb=>.inr ⟨w.heap.size,c,by simp[Mt.add],by simp,by omega⟩⟩
theorem jW{D:Nat→Prop}{ps:List PV}{z:Array Value}{k:Nat}(hz:z.size=k)(hf:F2 (RP w D) ps z.toList):ps.length=k:=by
 have:=hf.length;simp at this;omega
theorem nS(h:SR CR m σ w){t:TypeId}{el:Nat×Nat×Nat}(hel:VU P t=some el){z:List AV}(hz:NU P el.1=some z)(hzl:iC P el.1=some el.2.1){ps:List PV}(hps:frL σ z=some ps)
  {kl kc:IntKind} {l c:Int} (h0:0≤l) (h1:l≤c) (h2:c*el.2.2≤140737488355328) (d:Nat):
  Eff P CR m σ w (do pure (Next.value (←Instr.makeSlice t (.int kl l) (.int kc c)))) (.a (.own (d,σ.clk) 0 l.toNat)) (σ.add d (.row el.2.1 el.1 (List.replicate l.toNat ps))):=by
 obtain⟨hu,ii,hii,hsz,hby,hpos,hbp⟩:=EL hel
 obtain⟨ii',zv,hii',hzv,hzs⟩:=Pf hzl
 rw[hii]at hii';cases hii'
 have hc:c≤140737488355328:=by
  have:c*1≤c*el.2.2:=Int.mul_le_mul_of_nonneg_left (by omega) (by omega)
  omega
 have hr:=run_make (P:=P) w t el.1 ii zv hu hii hzv kl kc l c h0 h1 (by rw[hby,Int.mul_comm];omega) (by omega)
 rw[hsz]at hr
 obtain⟨zv',hz1,hz2⟩:=yF hz w
 have:zv'=zv:=by
  simp[zeroValue,typeInfo,hii,hzv]at hz1;exact hz1.symm
 subst this
 let blk:Blk:=.row el.2.1 el.1 (List.replicate l.toNat ps)
 let o:Obj:=.cells (madeCells zv'.cells (c.toNat*el.2.1)) el.1
 have hpz:=U1 (fun m σ w=>hz2 m σ w) (YU hz) hps (m.add (d,σ.clk) (some (w.heap.size,c.toNat))) (w.alloc o)
 have hB:BR (m.add (d,σ.clk) (some (w.heap.size,c.toNat))) (σ.add d blk) (w.alloc o) (d,σ.clk) blk:=by
  refine⟨by omega,fun r hr=>?_,.inr ⟨w.heap.size,c.toNat,_,by simp[Mt.add],World.alloc_heap_new w o,size_madeCells _ _,by simp;omega,by simp only[maxLen];omega,?_⟩⟩
  ·rw[List.mem_replicate]at hr;rw[hr.2];exact jW hzs hpz
  ·exact SK (by omega) hzs hpz (rB _ (by omega))
 exact Eff.val hr (VE h d blk o c.toNat hB) (Oz h d _ _ _ o c.toNat l.toNat (by omega)) (GW h d blk o c.toNat)
theorem N3{α:Type}(cs:List α)(o:Nat)(vs:List α)(h:o+vs.length≤cs.length)(i:Nat):(over cs o vs)[i]? =if o≤i∧i<o+vs.length then vs[i-o]? else cs[i]? :=by
 unfold over
 have ho:(cs.take o).length=o:=by simp;omega
 by_cases h1:i<o
 ·rw[qg,GV (by omega),XL,if_pos h1,if_neg (by omega)]
 ·by_cases h2:i<o+vs.length
  ·rw[qg,bO (by omega),ho,GV (by omega),if_pos ⟨by omega,h2⟩]
  ·rw[bO (by simp;omega),L9,if_neg (by omega)]
   congr 1
   simp;omega
theorem QO{α:Type}(cs:List α)(o:Nat)(vs:List α)(h:o+vs.length≤cs.length):(over cs o vs).length=cs.length:=by
 unfold over;simp;omega
theorem dT{D:Nat→Prop}{k:Nat}{rows:List (List PV)}{cells:List Value}(hf:Zv w D k rows cells.toArray)(hlen:rows.length*k≤cells.length)(hk:∀r:List PV,r∈rows→r.length=k){i:Nat}(hi:i<rows.length){ws:List PV}{vs:List Value}(hws:ws.length=k)
  (hv:F2 (RP w D) ws vs):Zv w D k (rows.set i ws) (over cells (i*k) vs).toArray:=by
 have hvl:vs.length=k:=by rw[←hv.length];exact hws
 have hik:i*k+k≤rows.length*k:=by rw[←Vb];exact rB _ hi
 intro i' r j p hr hp
 rw[KC]at hr
 by_cases e:i=i'
 ·subst e
  simp only[if_true,hi]at hr
  simp only[Lo]at hr;subst hr
  have hj:j<ws.length:=(QU.1 hp).1
  obtain⟨v,hv1,hv2⟩:=hv.get hp
  refine⟨v,?_,hv2⟩
  rw[F4,N3 _ _ _ (by omega),if_pos ⟨by omega,by omega⟩,Nat.add_sub_cancel_left]
  exact hv1
 ·rw[if_neg e]at hr
  obtain⟨v,hv1,hv2⟩:=hf i' r j p hr hp
  refine⟨v,?_,hv2⟩
  rw[F4]at hv1⊢
  rw[N3 _ _ _ (by omega),if_neg]
  ·exact hv1
  ·have hj:j<k:=by
    rw[←hk r (yu hr)];exact(QU.1 hp).1
   rcases N2 i' i with h1|h1
   ·have:i'*k+k≤i*k:=by rw[←Vb];exact rB _ h1
    omega
   ·have:i*k+k≤i'*k:=by rw[←Vb];exact rB _ (by omega)
    omega
theorem Zv.mono{D D':Nat→Prop}{k:Nat}{rows:List (List PV)}{cur:Array Value}(h:∀b,D b→D' b∧w'.heap[b]? =w.heap[b]?)(hf:Zv w D k rows cur):Zv w' D' k rows cur:=
 fun i r j p hr hp=>let⟨v,h1,h2⟩:=hf i r j p hr hp;⟨v,h1,h2.mono h⟩
theorem xP{k:Nat}:∀{ps:List (Nat×Operand)} {ps':List (Nat×X)} {m:Mt} {σ σ1:St} {rows rows1:List (List PV)} {cells:List Value},
  Fq (fun p=>(ccX p.2).bind fun x=>some (p.1,x)) ps=some ps'→SR CR m σ w→RE m σ w e a.tmps→evO.bslRows e σ k rows ps'=some (rows1,σ1)→Zv w m.D k rows cells.toArray→rows.length*k=cells.length→
   (∀r:List PV,r∈rows→r.length=k)→
  ∃m1 cells1,SR CR m1 σ1 w∧Xt m σ w m1 σ1 w∧Instr.fill (fun i=>some (i*k,k)) cells.toArray (ps.map fun p=>(p.1,a.eval p.2))=some (List.toArray cells1)∧Zv w m1.D k rows1 (List.toArray cells1)∧
   rows1.length=rows.length∧cells1.length=cells.length∧(∀r:List PV,r∈rows1→r.length=k)∧σ1.clk=σ.clk
 |[],ps',m,σ,σ1,rows,rows1,cells,hm,h,hE,hb,hf,hl,hk=>by
  simp only[Fq,Lo]at hm;subst hm
  simp only[evO.bslRows,Lo,ZP]at hb
  obtain⟨rfl,rfl⟩:=hb
  exact⟨m,cells,h,Xt.refl _ _ _,rfl,hf,rfl,rfl,hk,rfl⟩
 |(i,o)::ps,ps',m,σ,σ1,rows,rows1,cells,hm,h,hE,hb,hf,hl,hk=>by
  simp only[Fq]at hm
  obtain⟨y,hy,hm⟩:=pT hm
  obtain⟨ys,hys,hm⟩:=pT hm
  simp only[Lo]at hm;subst hm
  obtain⟨x,hx,hy⟩:=pT hy
  simp only[Lo]at hy;subst hy
  simp only[evO.bslRows]at hb
  obtain⟨vs,hvs,hb⟩:=pT hb
  obtain⟨ws,hws,hb⟩:=pT hb
  split at hb
  ·rename_i hc
   obtain⟨hc1,hc2⟩:=hc
   have hcl:=oD (VV hE hx) hvs
   obtain⟨m1,h1,x1,hf1⟩:=CA h hcl hws
   have hsz:(a.eval o).cells.size=k:=by
    have:=hcl.length;have:=hf1.length;simp at*;omega
   have hf0:Zv w m1.D k rows cells.toArray:=hf.mono (fun b hb=>⟨x1.D b hb,rfl⟩)
   have hfl:=dT hf0 (by omega) hk hc2 hc1 hf1
   have hik:i*k+k≤rows.length*k:=by rw[←Vb];exact rB _ hc2
   have hol:(over cells (i*k) (a.eval o).cells.toList).length=cells.length:=QO _ _ _ (by simp;omega)
   obtain⟨m2,cells2,h2,x2,e2,f2,l2,l3,k2,c2⟩:=xP (ps:=ps) (cells:=over cells (i*k) (a.eval o).cells.toList) hys h1 (x1.re h hE) hb hfl (by rw[hol];simp;omega)
    (fun r hr=>by
     rcases MH hr with hr|rfl
     ·exact hk r hr
     ·exact hc1)
   refine⟨m2,cells2,h2,x1.trans x2,?_,f2,by simpa using l2,by omega,k2,by rw[c2,cm]⟩
   simp only[zx]
   rw[bx (off:=i*k) (size:=k) rfl hsz (by simp;omega)]
   exact e2
  ·cases hb
theorem LP(h:SR CR m σ w)(hE:RE m σ w e a.tmps){t:TypeId}{el:Nat×Nat×Nat}(hel:VU P t=some el){z:List AV}(hz:NU P el.1=some z)(hzl:iC P el.1=some el.2.1){ps:List PV}(hps:frL σ z=some ps)
  {len:Nat} (hlen:len*el.2.1≤16777216) {parts:Array (Nat×Operand)} {parts':List (Nat×X)} (hm:Fq (fun p=>(ccX p.2).bind fun x=>some (p.1,x)) parts.toList=some parts') {rows:List (List PV)} {σ1:St}
  (hb:evO.bslRows e σ el.2.1 (List.replicate len ps) parts'=some (rows,σ1)) (d:Nat):
  Eff P CR m σ w (do pure (Next.value (←Instr.buildSlice t len (parts.map fun(i,x)=>(i,a.eval x))))) (.a (.own (d,σ1.clk) 0 len)) (σ1.add d (.row el.2.1 el.1 rows)):=by
 obtain⟨hu,ii,hii,hsz,hby,hpos,hbp⟩:=EL hel
 obtain⟨ii',zv,hii',hzv,hzs⟩:=Pf hzl
 rw[hii]at hii';cases hii'
 obtain⟨zv',hz1,hz2⟩:=yF hz w
 have:zv'=zv:=by
  simp[zeroValue,typeInfo,hii,hzv]at hz1;exact hz1.symm
 subst this
 have hpz:=U1 (fun m σ w=>hz2 m σ w) (YU hz) hps m w
 have hpl:ps.length=el.2.1:=jW hzs hpz
 obtain⟨m1,cells1,h1,x1,e1,f1,l1,l2,k1,c1⟩:=xP (w:=w) (cells:=(madeCells zv'.cells (len*el.2.1)).toList) hm h hE hb
  (by simpa using SK (n:=len*el.2.1) (by omega) hzs hpz (nh _)) (by simp[size_madeCells]) (fun r hr=>by rw[List.mem_replicate]at hr;rw[hr.2];exact hpl)
 have hs:(Instr.buildSlice t len (parts.map fun(i,x)=>(i,a.eval x))).run P w= .ok (.slice (some ⟨w.heap.size,0,none⟩) len len) (w.alloc (.cells cells1.toArray el.1)):=by
  have e2:Instr.fill (fun i=>some (i*el.2.1,el.2.1)) (madeCells zv'.cells (len*el.2.1)) (parts.map fun(x:Nat×Operand)=>(x.1,a.eval x.2)).toList=some cells1.toArray:=by
   rw[show(parts.map fun(x:Nat×Operand)=>(x.1,a.eval x.2)).toList=parts.toList.map fun p=>(p.1,a.eval p.2) by simp]
   simpa using e1
  have hsr:(sizeOf el.1).run P w= .ok el.2.1 w:=by simp[sizeOf,typeInfo,hii,hsz]
  have hz0:(zeroValue el.1).run P w= .ok zv' w:=hz1
  have hnot:¬(len*el.2.1>2^24):=by omega
  by_cases hl0:len*el.2.1=0
  ·have e3:Instr.fill (fun i=>some (i*el.2.1,el.2.1)) #[] (parts.map fun(x:Nat×Operand)=>(x.1,a.eval x.2)).toList=some cells1.toArray:=by
    rw[hl0]at e2;simpa [madeCells,Array.range_zero']using e2
   simp only[Instr.buildSlice,Sem.run_bind,run_underlying hu,Result.andThen_ok,hsr,Sem.run_ite]
   rw[if_neg hnot]
   simp only[Result.andThen_ok,Sem.run_pure,hl0,if_true,Array.range_zero',Array.map_empty]
   rw[e3]
   simp[newRow]
  ·simp only[Instr.buildSlice,Sem.run_bind,run_underlying hu,Result.andThen_ok,hsr,Sem.run_ite]
   rw[if_neg hnot,if_neg hl0]
   simp only[Result.andThen_ok,Sem.run_pure,Sem.run_bind,hz0]
   have e4:(Array.range (len*el.2.1)).map (fun x=>zv'.cells[x%zv'.cells.size]!)=madeCells zv'.cells (len*el.2.1):=rfl
   rw[e4,e2]
   simp[newRow]
 have hml:len*el.2.1=cells1.length:=by rw[l2];simp[size_madeCells]
 have hl1:rows.length=len:=by rw[l1];simp
 let blk:Blk:=.row el.2.1 el.1 rows
 let o:Obj:=.cells cells1.toArray el.1
 have x2:=GW h1 d blk o len
 have hB:BR (m1.add (d,σ1.clk) (some (w.heap.size,len))) (σ1.add d blk) (w.alloc o) (d,σ1.clk) blk:=by
  refine⟨by omega,k1,.inr ⟨w.heap.size,len,_,by simp[Mt.add],World.alloc_heap_new w o,by simp;omega,by omega,?_,?_⟩⟩
  ·have:len*1≤len*el.2.1:=DX _ (by omega)
   simp only[maxLen];omega
  ·exact f1.mono (fun b hb=>⟨x2.D b hb,x2.kept b (h1.dlt b hb) (fun hi=>h1.dj b hi hb)⟩)
 exact Eff.val hs (VE h1 d blk o len hB) (Oz h1 d _ _ _ o len len (nh _)) (x1.trans x2)
end
end Go.Fx
namespace Go.Fx
open Go.RowKit
section
variable{P:Program}{eqs:List (TypeId×List Nat)}{CR:Nat→Code→C→Prop}{m m':Mt}{σ σ':St}{w w':World}{e:Env}{a:Act}
theorem lR(h:SR CR m σ w){s:Key}{blk blk':Blk}{B c:Nat}(hs:σ.bs s=some blk)(hm:m.mu s=some (B,c))(hsh:Yu blk blk')(cur:Array Value):Xt m σ w m (σ.put s blk') (w.setRow B cur) where
 mu _ _:=rfl
 la _ _:=rfl
 clk:=nh _
 len:=nh _
 bs t b' ht _:=by
  simp only[St.put]at ht
  by_cases e:t=s
  ·rw[if_pos e]at ht;simp only[Lo]at ht;subst ht;subst e;exact⟨blk,hs,hsh⟩
  ·rw[if_neg e]at ht;exact⟨b',ht,Yu.refl _⟩
 D _ hb:=hb
 new _ hb:=.inl hb
 img b hb:=by
  rcases hb with⟨t,bl,c',ht,hm'⟩|hl
  ·simp only[St.put]at ht
   by_cases e:t=s
   ·subst e;exact .inl (.inl ⟨t,blk,c',hs,hm'⟩)
   ·rw[if_neg e]at ht;exact .inl (.inl ⟨t,bl,c',ht,hm'⟩)
  ·exact .inl (.inr hl)
 kept b hb hn:=setRow_other w B b cur (fun e=>hn (.inl ⟨s,blk,c,hs,e▸hm⟩))
 os:=rfl
 tape:=rfl
 output:=rfl
 size:=by simp
theorem wY(h:SR CR m σ w){s:Key}{blk blk':Blk}{B c:Nat}(hs:σ.bs s=some blk)(hm:m.mu s=some (B,c))(hsh:Yu blk blk')(cur:Array Value)
  (hB:BR m (σ.put s blk') (w.setRow B cur) s blk'):SR CR m (σ.put s blk') (w.setRow B cur):=by
 have x:=lR h hs hm hsh cur
 have old:∀t b,(σ.put s blk').bs t=some b→t≠s→σ.bs t=some b:=by
  intro t b ht e
  simp only[St.put]at ht
  rw[if_neg e]at ht;exact ht
 have alive:∀t b,(σ.put s blk').bs t=some b→∃b0,σ.bs t=some b0:=by
  intro t b ht
  by_cases e:t=s
  ·subst e;exact⟨_,hs⟩
  ·exact⟨b,old t b ht e⟩
 refine SR.step h x ?_ ?_ ?_ ?_ ?_ rfl ?_
 ·intro t b ht
  by_cases e:t=s
  ·subst e
   simp only[St.put,if_true,Lo]at ht
   subst ht;exact .inl hB
  ·have h1:=old t b ht e
   refine .inr ⟨h1,rfl,fun B' c' hm'=>setRow_other w B B' cur (fun e'=>e ?_)⟩
   subst e'
   exact h.inj t s b blk B' c' c h1 hs hm' hm
 ·intro t b ht
  obtain⟨b0,h0⟩:=alive t b ht
  exact h.gen t b0 h0
 ·intro t t' b b' B1 c1 c2 h1 h2 h3 h4
  obtain⟨b0,h0⟩:=alive t b h1
  obtain⟨b0',h0'⟩:=alive t' b' h2
  exact h.inj t t' b0 b0' B1 c1 c2 h0 h0' h3 h4
 ·intro b hb hD
  rcases x.img b hb with h1|h1
  ·exact h.dj b h1 hD
  ·have:=h.dlt b hD;omega
 ·intro b hb
  have:=h.dlt b hb;simpa using this
 ·intro l hl
  exact setRow_other w B _ cur (h.loop_ne hs hm hl)
theorem Da{s:Key}{x:AV}(h:∀o l,x≠ .own s o l):(klA σ x).bs s=σ.bs s:=by
 cases x with
 |own t o l=>
  simp only[klA,St.kill]
  rw[if_neg];intro e;subst e;exact h o l rfl
 |_=>rfl
theorem Rp{s:Key}:∀{xs:List AV} {σ:St},(∀x,x∈xs→∀o l,x≠ .own s o l)→(klL σ xs).bs s=σ.bs s
 |[],_,_=>rfl
 |x::xs,σ,h=>by
  simp only[klL]
  rw[Rp (fun y hy=>h y (by simp[hy])),Da (h x (by simp))]
theorem wP{t:TypeId}{n:Nat}(hn:tsz P t=some n){B o:Nat}{cur:Array Value}{T:TypeId}{v:Value}(hg:w.heap[B]? =some (.cells cur T (0,0)))(hl:v.cells.size=n)(hfit:o+n≤cur.size)(h1:∀u∈v.cells.toList,u.oneCell'=true):
  (do Instr.storeAt t (.pointer (some ⟨B,o,none⟩)) v;pure Next.skip:Sem Next).run P w= .ok .skip (w.setRow B (over cur.toList o v.cells.toList).toArray):=by
 have hst:=run_storeCells_at P B o T v.cells.toList 0 cur w hg (by simp;omega) h1
 simp only[Ln]at hst
 simp only[Instr.storeAt,Instr.sureAddr,storeVar,Sem.run_bind,Sem.run_pure,Result.andThen_ok,Jb hn,Sem.run_ite]
 rw[if_neg (by omega),hst]
 rfl
theorem st_ok(h:SR CR m σ w){t:TypeId}{n:Nat}(hn:tsz P t=some n){s:Key}{i j:Nat}{pv v:Value}(hp:RT m σ w (.a (.ptr s i j)) pv){vs:List AV}(hv:F2 (RA m σ w) vs v.cells.toList)(hvn:vs.length=n){σ':St}
  (hev:(match σ.bs s with
    |some (.var cs)=>if i=0∧j+n≤cs.length then some (TV.u,σ.put s (.var (over cs j vs)))else none
    |some (.row k el rows)=>match rows[i]?,frL σ vs with
     |some r,some ws=>if j+n≤r.length∧vs.all (fun v=>match v with| .own t _ _=>t≠s|_=>true)then
       some (TV.u,(klL σ vs).put s (.row k el (rows.set i (over r j ws))))else none
     |_,_=>none
    |_=>none)=some (.u,σ')):
  Eff P CR m σ w (do Instr.storeAt t pv v;pure Next.skip) .u σ':=by
 have hvs:v.cells.size=n:=by have:=hv.length;simp at this;omega
 obtain⟨⟨hlt,hal⟩,_⟩:=hp
 cases hb:σ.bs s with
 |none=>simp[hb]at hev
 |some blk=>
  obtain⟨B,c,hm,rfl⟩:=hal blk hb
  have hbr:=h.blk s blk hb
  cases blk with
  |var cs=>
   simp only[hb]at hev
   split at hev
   ·rename_i hc
    obtain⟨rfl,hc⟩:=hc
    simp only[Lo,ZP,true_and]at hev;subst hev
    obtain⟨B',T,us,h1,h2,h3⟩:=hbr.resolve_left (by rw[hm];simp)
    rw[hm]at h1;simp only[Lo,ZP]at h1
    obtain⟨rfl,rfl⟩:=h1
    have hul:=h3.length
    have hr:=wP (P:=P) hn (B:=B) (o:=j) (v:=v) h2 hvs (by simp;omega) (F2.one hv)
    have hsh:Yu (.var cs) (.var (over cs j vs)):=by
     simp only[Yu];rw[QO];omega
    have x:=lR h hb hm hsh (over us j v.cells.toList).toArray
    rw[show us.toArray.toList=us from rfl]at hr
    refine⟨undef,w.setRow B (over us j v.cells.toList).toArray,m,.inr ⟨by simpa [Blk.k]using hr,rfl⟩,wY h hb hm hsh _ ?_,rfl,x⟩
    exact .inr ⟨B,T,over us j v.cells.toList,hm,setRow_heap w B _ _ T _ h2,F2.over j (h3.imp fun _ _ hx=>x.ra h hx) (hv.imp fun _ _ hx=>x.ra h hx)⟩
   ·cases hev
  |map k ks=>simp[hb]at hev
  |row k el rows=>
   simp only[hb]at hev
   cases hri:rows[i]? with
   |none=>simp[hri]at hev
   |some r=>
    cases hfr:frL σ vs with
    |none=>simp[hri,hfr]at hev
    |some ws=>
     simp only[hri,hfr]at hev
     split at hev
     ·rename_i hc
      obtain⟨hc1,hc2⟩:=hc
      simp only[Lo,ZP,true_and]at hev;subst hev
      obtain⟨m1,h1,x1,hf1⟩:=CA h hv hfr
      have hb1:(klL σ vs).bs s=some (.row k el rows):=by
       rw[Rp,hb]
       intro y hy o l e
       subst e
       rw[Gc]at hc2
       have:=hc2 _ hy
       simp at this
      have hm1:m1.mu s=some (B,c):=(x1.mu s hlt).trans hm
      obtain⟨hk,hkl,hbr⟩:=h1.blk s _ hb1
      rcases hbr with⟨h2,_⟩|⟨B',c',cur,h2,h3,h4,h5,h6,h7⟩
      ·rw[hm1]at h2;cases h2
      ·rw[hm1]at h2;simp only[Lo,ZP]at h2
       obtain⟨rfl,rfl⟩:=h2
       have hil:i<rows.length:=(QU.1 hri).1
       have hrk:r.length=k:=hkl r (yu hri)
       have hik:i*k+k≤c*k:=by rw[←Vb];exact rB _ (by omega)
       have hwl:ws.length=n:=by have:=hf1.length;simp at this;omega
       have hr:=wP (P:=P) hn (B:=B) (o:=i*k+j) (v:=v) h3 hvs (by omega) (F2.one hv)
       have hsh:Yu (.row k el rows) (.row k el (rows.set i (over r j ws))):=⟨rfl,rfl⟩
       have x2:=lR h1 hb1 hm1 hsh (over cur.toList (i*k+j) v.cells.toList).toArray
       refine⟨undef,w.setRow B (over cur.toList (i*k+j) v.cells.toList).toArray,m1,.inr ⟨hr,rfl⟩,wY h1 hb1 hm1 hsh _ ?_,rfl,x1.trans x2⟩
       have hcl:(over cur.toList (i*k+j) v.cells.toList).length=cur.size:=by rw[QO];simp;simp;omega
       have hrl:(over r j ws).length=k:=by rw[QO];exact hrk;omega
       refine⟨hk,?_,.inr ⟨B,c,_,hm1,setRow_heap w B _ _ el _ h3,by simp[hcl];omega,by simpa using h5,h6,?_⟩⟩
       ·intro r' hr'
        rcases MH hr' with hr'|rfl
        ·exact hkl r' hr'
        ·exact hrl
       ·intro i' r' j' p hr' hp'
        rw[KC]at hr'
        have key:∀u,RP w m1.D p u→RP (w.setRow B (over cur.toList (i*k+j) v.cells.toList).toArray) m1.D p u:=fun u hu=>x2.rp h1 hu
        by_cases e:i=i'
        ·subst e
         simp only[if_true,hil,Lo]at hr'
         subst hr'
         rw[N3 _ _ _ (by omega)]at hp'
         by_cases hj:j≤j'∧j'<j+ws.length
         ·rw[if_pos hj]at hp'
          obtain⟨u,hu1,hu2⟩:=hf1.get hp'
          refine⟨u,?_,key u hu2⟩
          rw[F4,N3 _ _ _ (by simp;omega),if_pos ⟨by omega,by simp;omega⟩,show i*k+j'-(i*k+j)=j'-j by omega]
          exact hu1
         ·rw[if_neg hj]at hp'
          obtain⟨u,hu1,hu2⟩:=h7 i r j' p hri hp'
          refine⟨u,?_,key u hu2⟩
          rw[F4,N3 _ _ _ (by simp;omega),if_neg (by simp;omega)]
          simpa using hu1
        ·rw[if_neg e]at hr'
         obtain⟨u,hu1,hu2⟩:=h7 i' r' j' p hr' hp'
         refine⟨u,?_,key u hu2⟩
         have hj:j'<k:=by
          rw[←hkl r' (yu hr')];exact(QU.1 hp').1
         rw[F4,N3 _ _ _ (by simp;omega),if_neg]
         ·simpa using hu1
         ·rcases N2 i' i with h8|h8
          ·have:i'*k+k≤i*k:=by rw[←Vb];exact rB _ h8
           omega
          ·have:i*k+k≤i'*k:=by rw[←Vb];exact rB _ (by omega)
           simp;omega
     ·cases hev
end
end Go.Fx
namespace Go.Fx
open Go.RowKit
section
variable{P:Program}{eqs:List (TypeId×List Nat)}{CR:Nat→Code→C→Prop}{m m':Mt}{σ σ':St}{w w':World}{e:Env}{a:Act}
theorem gv(h:SR CR m σ w):SR CR m σ w.drew∧Xt m σ w m σ w.drew:=by
 have x:Xt m σ w m σ w.drew:={Xt.refl m σ w with kept:=fun _ _ _=>rfl,os:=rfl,tape:=rfl,output:=rfl,size:=nh _}
 exact⟨SR.step h x (fun s b hs=>.inr ⟨hs,rfl,fun _ _ _=>rfl⟩) h.gen h.inj h.dj h.dlt rfl (fun _ _=>rfl),x⟩
theorem af(h:SR CR m σ w)(d k el:Nat)(hk:0<k):SR CR (m.add (d,σ.clk) none) (σ.add d (.row k el [])) w∧Xt m σ w (m.add (d,σ.clk) none) (σ.add d (.row k el [])) w:=by
 have old:∀s b,(σ.add d (.row k el [])).bs s=some b→s≠(d,σ.clk)→σ.bs s=some b∧(m.add (d,σ.clk) none).mu s=m.mu s:=by
  intro s b hs e
  simp only[St.add,St.put]at hs
  rw[if_neg e]at hs
  exact⟨hs,by simp[Mt.add,e]⟩
 have hno:∀B c,(m.add (d,σ.clk) none).mu (d,σ.clk)≠some (B,c):=by intro B c;simp[Mt.add]
 have img:∀b,InS (m.add (d,σ.clk) none) (σ.add d (.row k el [])) b→InS m σ b:=by
  intro b hb
  rcases hb with⟨s,bl,c',hs,hm⟩|⟨l,hl,e⟩
  ·by_cases e:s=(d,σ.clk)
   ·subst e;exact absurd hm (hno _ _)
   ·obtain⟨h1,h2⟩:=old s bl hs e;rw[h2]at hm;exact .inl ⟨s,bl,c',h1,hm⟩
  ·exact .inr ⟨l,hl,e⟩
 have x:Xt m σ w (m.add (d,σ.clk) none) (σ.add d (.row k el [])) w:=
  {mu:=fun s hs=>by simp only[Mt.add];rw[if_neg];intro e;subst e;simp at hs
   la:=fun _ _=>rfl
   clk:=by simp[St.add]
   len:=nh _
   bs:=fun s b' hs hc=>⟨b',(old s b' hs (by intro e;subst e;simp at hc)).1,Yu.refl _⟩
   D:=fun _ hb=>hb
   new:=fun _ hb=>.inl hb
   img:=fun b hb=>.inl (img b hb)
   kept:=fun _ _ _=>rfl,os:=rfl,tape:=rfl,output:=rfl,size:=nh _}
 refine⟨SR.step h x ?_ ?_ ?_ (fun b hb=>h.dj b (img b hb)) h.dlt rfl (fun _ _=>rfl),x⟩
 ·intro s b hs
  by_cases e:s=(d,σ.clk)
  ·subst e
   simp only[St.add,St.put,if_true,Lo]at hs
   subst hs
   exact .inl ⟨hk,by simp,.inl ⟨by simp[Mt.add],rfl⟩⟩
  ·obtain⟨h1,h2⟩:=old s b hs e
   exact .inr ⟨h1,h2,fun _ _ _=>rfl⟩
 ·intro s b hs
  by_cases e:s=(d,σ.clk)
  ·subst e;simp[St.add]
  ·have:=h.gen s b (old s b hs e).1;simp[St.add];omega
 ·intro s s' b b' B c c' h1 h2 h3 h4
  by_cases e:s=(d,σ.clk)
  ·subst e;exact absurd h3 (hno _ _)
  ·by_cases e':s'=(d,σ.clk)
   ·subst e';exact absurd h4 (hno _ _)
   ·obtain⟨a1,a2⟩:=old s b h1 e
    obtain⟨a3,a4⟩:=old s' b' h2 e'
    rw[a2]at h3;rw[a4]at h4
    exact h.inj s s' b b' B c c' a1 a3 h3 h4
theorem own0(h:SR CR m σ w)(d k el:Nat)(b:Option Addr):RT (m.add (d,σ.clk) none) (σ.add d (.row k el [])) w (.a (.own (d,σ.clk) 0 0)) (.slice b 0 0):=
 ⟨by simp[St.add],⟨_,_,rfl,nh _⟩,fun _ _ _ _=>.inl ⟨rfl,b,rfl⟩⟩
theorem KL(h:SR CR m σ w){s:Key}{k el:Nat}{rows rows':List (List PV)}{B c:Nat}{cur cur':Array Value}(hs:σ.bs s=some (.row k el rows))(hm:m.mu s=some (B,c))(hg:w.heap[B]? =some (.cells cur el (0,0)))(d:Nat)
  (hk:0<k) (hkl:∀r:List PV,r∈rows'→r.length=k) (hsz:cur'.size=c*k) (hle:rows'.length≤c) (hc:c≤maxLen) (hf:Zv w m.D k rows' cur'):
  SR CR (m.add (d,σ.clk) (some (B,c))) ((σ.kill s).add d (.row k el rows')) (w.setRow B cur')∧Xt m σ w (m.add (d,σ.clk) (some (B,c))) ((σ.kill s).add d (.row k el rows')) (w.setRow B cur'):=by
 have hlt:=h.gen s _ hs
 have hne:s≠(d,σ.clk):=by intro e;subst e;simp at hlt
 have old:∀t b,((σ.kill s).add d (.row k el rows')).bs t=some b→t≠(d,σ.clk)→t≠s∧σ.bs t=some b∧(m.add (d,σ.clk) (some (B,c))).mu t=m.mu t:=by
  intro t b ht e
  simp only[St.add,St.put]at ht
  split at ht
  ·rename_i e';exact absurd e' e
  ·simp only[St.kill]at ht
   by_cases e2:t=s
   ·rw[if_pos e2]at ht;cases ht
   ·rw[if_neg e2]at ht;exact⟨e2,ht,by simp[Mt.add,e]⟩
 have img:∀b,InS (m.add (d,σ.clk) (some (B,c))) ((σ.kill s).add d (.row k el rows')) b→InS m σ b:=by
  intro b hb
  rcases hb with⟨t,bl,c',ht,hm'⟩|⟨l,hl,e⟩
  ·by_cases e:t=(d,σ.clk)
   ·subst e
    simp only[Mt.add,if_true,Lo,ZP]at hm'
    exact .inl ⟨s,_,c,hs,by rw[hm,hm'.1]⟩
   ·obtain⟨_,h1,h2⟩:=old t bl ht e;rw[h2]at hm';exact .inl ⟨t,bl,c',h1,hm'⟩
  ·exact .inr ⟨l,hl,e⟩
 have x:Xt m σ w (m.add (d,σ.clk) (some (B,c))) ((σ.kill s).add d (.row k el rows')) (w.setRow B cur'):=
  {mu:=fun s hs=>by simp only[Mt.add];rw[if_neg];intro e;subst e;simp at hs
   la:=fun _ _=>rfl
   clk:=by simp[St.add,St.kill]
   len:=nh _
   bs:=fun t b' ht hc=>⟨b',(old t b' ht (by intro e;subst e;simp at hc)).2.1,Yu.refl _⟩
   D:=fun _ hb=>hb
   new:=fun _ hb=>.inl hb
   img:=fun b hb=>.inl (img b hb)
   kept:=fun b hb hn=>setRow_other w B b cur' (fun e=>hn (.inl ⟨s,_,c,hs,e▸hm⟩))
   os:=rfl,tape:=rfl,output:=rfl,size:=by simp}
 refine⟨SR.step h x ?_ ?_ ?_ (fun b hb=>h.dj b (img b hb)) (fun b hb=>by simpa using h.dlt b hb) rfl (fun l hl=>setRow_other w B _ cur' (h.loop_ne hs hm hl)),x⟩
 ·intro t b ht
  by_cases e:t=(d,σ.clk)
  ·subst e
   have ht:some (Blk.row k el rows')=some b:=by
    rw[←ht];simp[St.add,St.put,St.kill]
   simp only[Lo]at ht
   subst ht
   refine .inl ⟨hk,hkl,.inr ⟨B,c,cur',by simp[Mt.add],setRow_heap w B cur cur' el _ hg,hsz,hle,hc,?_⟩⟩
   exact hf.mono fun b hb=>⟨x.D b hb,x.kept b (h.dlt b hb) (fun hi=>h.dj b hi hb)⟩
  ·obtain⟨h0,h1,h2⟩:=old t b ht e
   refine .inr ⟨h1,h2,fun B' c' hm'=>setRow_other w B B' cur' (fun e'=>h0 ?_)⟩
   subst e'
   exact h.inj t s b _ B' c' c h1 hs hm' hm
 ·intro t b ht
  by_cases e:t=(d,σ.clk)
  ·subst e;simp[St.add,St.kill]
  ·have:=h.gen t b (old t b ht e).2.1;simp[St.add,St.kill];omega
 ·intro t t' b b' B1 c1 c2 h1 h2 h3 h4
  by_cases e:t=(d,σ.clk)<;>by_cases e':t'=(d,σ.clk)
  ·rw[e,e']
  ·obtain⟨a1,a2,a3⟩:=old t' b' h2 e'
   rw[a3]at h4
   simp only[Mt.add,e,if_true,Lo,ZP]at h3
   exact absurd (h.inj t' s b' _ B c2 c a2 hs (by rw[h4,h3.1]) hm) a1
  ·obtain⟨a1,a2,a3⟩:=old t b h1 e
   rw[a3]at h3
   simp only[Mt.add,e',if_true,Lo,ZP]at h4
   exact absurd (h.inj t s b _ B c1 c a2 hs (by rw[h3,h4.1]) hm) a1
  ·obtain⟨_,a2,a3⟩:=old t b h1 e
   obtain⟨_,a5,a6⟩:=old t' b' h2 e'
   rw[a3]at h3;rw[a6]at h4
   exact h.inj t t' b b' B1 c1 c2 a2 a5 h3 h4
theorem sD(h:SR CR m σ w){y:AV}{u:Value}(hy:RA m σ w y u){ns:List (List PV)}(hr:B2 σ y=some ns){k:Nat}(hk:0<k)(hkl:∀r:List PV,r∈ns→r.length=k):
  ∃b cap,u= .slice b ns.length cap∧(ns≠[]→∃(ad:Addr) (news:List Value),b=some ad∧news.length=ns.length*k∧(∀j v,news[j]? =some v→w.cell? (ad.add j)=some v)∧(∀v∈news,v.oneCell'=true)∧Zv w m.D k ns news.toArray):=by
 have mk:∀(ad:Addr) (vals:Nat→Nat→Value),ad.spot=none→(∀(i:Nat) (r:List PV) (j:Nat) (p:PV),ns[i]? =some r→r[j]? =some p→w.cell? ⟨ad.block,ad.off+(i*k+j),none⟩=some (vals i j)∧RP w m.D p (vals i j))→
   ∃news:List Value,news.length=ns.length*k∧(∀j v,news[j]? =some v→w.cell? (ad.add j)=some v)∧(∀v∈news,v.oneCell'=true)∧Zv w m.D k ns news.toArray:=by
  intro ad vals hs hv
  have idx:∀q,q<ns.length*k→q/k<ns.length∧q%k<k∧q/k*k+q%k=q:=fun q hq=>
   ⟨Nat.div_lt_of_lt_mul (by rw[Li];exact hq),Nat.mod_lt _ hk,by rw[Li];exact Nat.div_add_mod q k⟩
  have at_:∀q,q<ns.length*k→∃r p,ns[q/k]? =some r∧r[q%k]? =some p:=by
   intro q hq
   obtain⟨h1,h2,_⟩:=idx q hq
   have hr:ns[q/k].length=k:=hkl _ (xA h1)
   exact⟨_,_,Xb h1,Xb (by omega)⟩
  refine⟨(List.range (ns.length*k)).map fun q=>vals (q/k) (q%k),by simp,?_,?_,?_⟩
  ·intro q v hq
   have hql:q<ns.length*k:=by have:=(QU.1 hq).1;simpa using this
   simp only[Qy,CY hql,lT,Lo]at hq
   subst hq
   obtain⟨r,p,h1,h2⟩:=at_ q hql
   have:=(hv _ r _ p h1 h2).1
   rw[(idx q hql).2.2]at this
   rw[Y9 ad hs];exact this
  ·intro v hq
   simp only[Om,MD]at hq
   obtain⟨q,hql,rfl⟩:=hq
   obtain⟨r,p,h1,h2⟩:=at_ q hql
   exact(hv _ r _ p h1 h2).2.one
  ·intro i r j p hi hj
   have hjk:j<k:=by rw[←hkl r (yu hi)];exact(QU.1 hj).1
   have hil:i<ns.length:=(QU.1 hi).1
   have hq:i*k+j<ns.length*k:=by
    have:i*k+k≤ns.length*k:=by rw[←Vb];exact rB _ hil
    omega
   have e1:(i*k+j)/k=i:=by rw[Nat.add_comm,Nat.add_mul_div_right _ _ hk,Nat.div_eq_of_lt hjk,Fy]
   have e2:(i*k+j)%k=j:=by rw[Li,Nat.mul_add_mod,Nat.mod_eq_of_lt hjk]
   refine⟨vals i j,?_,(hv i r j p hi hj).2⟩
   simp[hq,e1,e2]
 unfold B2 at hr
 split at hr
 ·rename_i rows hfr
  simp only[Lo]at hr;subst hr
  cases y with
  |p q=>
   simp only[frA,Lo]at hfr;subst hfr
   have hy:RP w m.D (.l rows) u:=hy
   obtain⟨b,cap,hu⟩:=hy.slice
   refine⟨b,cap,hu,fun hne=>?_⟩
   obtain⟨ad,k',cap',vals,hv,hs,hD,hc,hk',hvv,hrr⟩:=hy.cells hne
   rw[hu]at hv;simp only[Value.slice.injEq]at hv
   obtain⟨rfl,_,_⟩:=hv
   have hkk:k'=k:=by
    cases rows with
    |nil=>exact absurd rfl hne
    |cons r rs=>rw[←hk' 0 r (by simp)];exact hkl r (by simp)
   subst hkk
   obtain⟨news,n1,n2,n3,n4⟩:=mk ad vals hs (fun i r j p hi hj=>⟨hvv i r j p hi hj,hrr i r j p hi hj⟩)
   exact⟨ad,news,rfl,n1,n2,n3,n4⟩
  |nil=>
   simp only[frA,Lo,PV.l.injEq]at hfr;subst hfr
   cases hy
   exact⟨none,0,rfl,fun hne=>absurd rfl hne⟩
  |own s off len=>
   simp only[frA]at hfr
   cases hb:σ.bs s with
   |none=>simp[hb]at hfr
   |some blk=>
    cases blk with
    |var cs=>simp[hb]at hfr
    |map k ks=>simp[hb]at hfr
    |row k' el' rows'=>
     simp only[hb]at hfr
     split at hfr
     ·rename_i hl
      simp only[Lo,PV.l.injEq]at hfr;subst hfr
      have hlen:((rows'.drop off).take len).length=len:=by simp;omega
      obtain⟨hlt,⟨b,cap,hu,hcap⟩,hal⟩:=hy
      refine⟨b,cap,by rw[hlen];exact hu,fun hne=>?_⟩
      rcases hal _ _ _ hb with⟨rfl,_⟩|⟨B,c,hm,hv,hle⟩
      ·simp at hne
      ·rw[hu]at hv;simp only[Value.slice.injEq]at hv
       obtain⟨rfl,_,rfl⟩:=hv
       obtain⟨hk0,hkl0,hbr⟩:=h.blk s _ hb
       rcases hbr with⟨h1,_⟩|⟨B',c',cur,h1,h2,h3,h4,h5,h6⟩
       ·rw[hm]at h1;cases h1
       ·rw[hm]at h1;simp only[Lo,ZP]at h1
        obtain⟨rfl,rfl⟩:=h1
        have hget:∀(i:Nat) (r:List PV),((rows'.drop off).take len)[i]? =some r→rows'[off+i]? =some r:=by
         intro i r hr
         rw[XL]at hr
         split at hr
         ·simpa [L9]using hr
         ·cases hr
        have hkk:k'=k:=by
         cases hq:(rows'.drop off).take len with
         |nil=>exact absurd hq hne
         |cons r rs=>
          have h0:((rows'.drop off).take len)[0]? =some r:=by rw[hq];simp
          rw[←hkl0 r (yu (hget 0 r h0))]
          exact hkl r (by rw[hq];simp)
        subst hkk
        obtain⟨news,n1,n2,n3,n4⟩:=mk ⟨B,off*k',none⟩ (fun i j=>(cur[(off+i)*k'+j]?).getD undef) rfl (fun i r j p hi hj=>by
         obtain⟨v,hv1,hv2⟩:=h6 (off+i) r j p (hget i r hi) hj
         simp only[hv1,M0]
         refine⟨?_,hv2⟩
         simp only[World.cell?,h2,S8,SY,if_false]
         rw[show off*k'+(i*k'+j)=(off+i)*k'+j by rw[rX];omega]
         exact hv1)
        exact⟨_,news,rfl,n1,n2,n3,n4⟩
     ·cases hfr
  |ptr s i j=>simp[frA]at hfr
  |cptr r j=>simp[frA]at hfr
  |fn f caps=>simp[frA]at hfr
  |yl l=>simp[frA]at hfr
  |mp s=>simp[frA]at hfr
  |raw c=>
   obtain⟨rfl,_⟩:=hy
   cases u with
   |slice ad n cap=>
    cases n with
    |zero=>
     simp only[frA,zd,Lo,PV.l.injEq]at hfr;subst hfr
     exact⟨ad,cap,rfl,fun hne=>absurd rfl hne⟩
    |succ n=>simp[frA,zd]at hfr
   |_=>simp[frA,zd]at hfr
 ·cases hr
theorem O6{t ty:TypeId}{el:Nat×Nat×Nat}(hel:VU P t=some el)(b:Option Addr)(n cap:Nat)(hn:n≤cap)(b':Option Addr)(cap':Nat):
  (Builtin.append_ #[t,t] ty #[.slice b n cap,.slice b' 0 cap']).run P w= .ok (.slice b n cap) w:=by
 obtain⟨hu,ii,hii,hsz,hby,hpos,hbp⟩:=EL hel
 cases b' with
 |none=>cases b<;>simp[Builtin.append_,run_underlying hu,sizeOf,typeInfo,hii,Builtin.lenOf,hn,Builtin.firstCells,storeCells]
 |some a=>cases b<;>simp[Builtin.append_,run_underlying hu,sizeOf,typeInfo,hii,Builtin.lenOf,hn,Builtin.firstCells,loadCells,loadCellsFrom,storeCells]
theorem jK{D:Nat→Prop}{k:Nat}{rows ns:List (List PV)}{cells news rest:List Value}(h1:Zv w D k rows cells.toArray)(hl:cells.length=rows.length*k)(h2:Zv w D k ns news.toArray):
  Zv w D k (rows++ns) (cells++news++rest).toArray:=by
 intro i r j p hr hp
 by_cases hi:i<rows.length
 ·rw[GV hi]at hr
  obtain⟨v,hv1,hv2⟩:=h1 i r j p hr hp
  refine⟨v,?_,hv2⟩
  rw[F4]at hv1⊢
  have:=(QU.1 hv1).1
  rw[qg,GV this]
  exact hv1
 ·rw[bO (by omega)]at hr
  obtain⟨v,hv1,hv2⟩:=h2 (i-rows.length) r j p hr hp
  refine⟨v,?_,hv2⟩
  rw[F4]at hv1⊢
  have e1:i*k+j-cells.length=(i-rows.length)*k+j:=by
   rw[hl,Nat.sub_mul]
   have:rows.length*k≤i*k:=rB _ (by omega)
   omega
  have hge:cells.length≤i*k+j:=by
   rw[hl]
   have:rows.length*k≤i*k:=rB _ (by omega)
   omega
  have:=(QU.1 hv1).1
  rw[qg,bO hge,e1,GV this]
  exact hv1
theorem oc{D:Nat→Prop}{k:Nat}{rows:List (List PV)}{cur:Array Value}(h:Zv w D k rows cur)(hkl:∀r:List PV,r∈rows→r.length=k)(len:Nat):Zv w D k (rows.take len) (cur.toList.take (len*k)).toArray:=by
 intro i r j p hr hp
 rw[XL]at hr
 split at hr
 ·rename_i hi
  obtain⟨v,hv1,hv2⟩:=h i r j p hr hp
  refine⟨v,?_,hv2⟩
  have hj:j<k:=by rw[←hkl r (yu hr)];exact(QU.1 hp).1
  have:i*k+k≤len*k:=by rw[←Vb];exact rB _ hi
  rw[F4,XL,if_pos (by omega)]
  simpa using hv1
 ·cases hr
end
end Go.Fx
namespace Go.Fx
open Go.RowKit
section
variable{P:Program}{eqs:List (TypeId×List Nat)}{CR:Nat→Code→C→Prop}{m m':Mt}{σ σ':St}{w w':World}{e:Env}{a:Act}
theorem kh{t ty:TypeId}{el:Nat×Nat×Nat}(hel:VU P t=some el)(hzl:iC P el.1=some el.2.1)(b:Option Addr)(len cap:Nat)(olds:List Value)(hlo:olds.length=len*el.2.1)
  (hb:len≤cap) (holds:(b=none∧len=0∧cap=0)∨∃ad,b=some ad∧∀j v,olds[j]? =some v→w.cell? (ad.add j)=some v)
  (ad:Addr) (n c:Nat) (news:List Value) (hl:news.length=n*el.2.1) (hnews:∀j v,news[j]? =some v→w.cell? (ad.add j)=some v) (hg:cap<len+n) (hbytes:(len+n)*el.2.2≤140737488355328):
  ∃(cap':Nat) (rest:List Value),(Builtin.append_ #[t,t] ty #[.slice b len cap,.slice (some ad) n c]).run P w= .ok (.slice (some ⟨w.heap.size,0,none⟩) (len+n) cap') (w.drew.alloc (.cells (olds++news++rest).toArray el.1))∧
   len+n≤cap'∧cap'≤maxLen∧(olds++news++rest).length=cap'*el.2.1:=by
 obtain⟨hu,ii,hii,hsz,hby,hpos,hbp⟩:=EL hel
 obtain⟨ii',zv,hii',hzv,hzs⟩:=Pf hzl
 rw[hii]at hii';cases hii'
 have hsmall:len+n≤140737488355328:=by
  have:(len+n)*1≤(len+n)*el.2.2:=DX _ (by omega)
  omega
 have hge:=grownCap_ge w (len+n) cap el.1
 have hcm:=grownCap_le_maxLen w (len+n) cap el.1 (by simp only[maxLen];omega)
 refine⟨grownCap w (len+n) cap el.1,(Builtin.zeroCells zv.cells (grownCap w (len+n) cap el.1-(len+n))).toList,?_,hge,hcm,?_⟩
 ·rcases holds with⟨rfl,rfl,rfl⟩|⟨ad0,rfl,holds⟩
  ·have:olds=[]:=eL (by simpa using hlo)
   subst this
   have hr:=run_append_nil (P:=P) w t ty el.1 ii zv hu hii hzv ad n c news (by rw[hsz];exact hl) hnews (by omega) (by omega) (by rw[hby];simp at hbytes;omega)
   simp only[Fy,Es]at hr⊢
   rw[hr]
   congr 3
   apply SV;simp
  ·have hr:=run_append_grow (P:=P) w t ty el.1 ii zv hu hii hzv ad0 len cap olds (by rw[hsz];exact hlo) holds ad n c news (by rw[hsz];exact hl) hnews hg (by omega) (by rw[hby];exact growslice_fits hg hbytes)
   rw[hr]
   congr 3
   apply SV;simp
 ·simp only[GM,hlo,hl,Array.length_toList,size_zeroCells,hzs,←rX]
  congr 1
  omega
theorem L6(h:SR CR m σ w){t ty:TypeId}{el:Nat×Nat×Nat}(hel:VU P t=some el){vx vy:Value}{cap' n:Nat}{cells:List Value}{rows:List (List PV)}(d:Nat)
  (hr:(Builtin.append_ #[t,t] ty #[vx,vy]).run P w= .ok (.slice (some ⟨w.heap.size,0,none⟩) n cap') (w.drew.alloc (.cells cells.toArray el.1))) (hn:rows.length=n) (hc:n≤cap') (hm:cap'≤maxLen)
  (hl:cells.length=cap'*el.2.1) (hkl:∀r:List PV,r∈rows→r.length=el.2.1) (hf:Zv w m.D el.2.1 rows cells.toArray):
  Eff P CR m σ w (do pure (Next.value (←Builtin.append_ #[t,t] ty #[vx,vy]))) (.a (.own (d,σ.clk) 0 n)) (σ.add d (.row el.2.1 el.1 rows)):=by
 obtain⟨hu,ii,hii,hsz,hby,hpos,hbp⟩:=EL hel
 obtain⟨h1,x1⟩:=gv h
 let o:Obj:=.cells cells.toArray el.1
 let blk:Blk:=.row el.2.1 el.1 rows
 have x2:=GW h1 d blk o cap'
 have hB:BR (m.add (d,σ.clk) (some (w.drew.heap.size,cap'))) (σ.add d blk) (w.drew.alloc o) (d,σ.clk) blk:=by
  refine⟨by omega,hkl,.inr ⟨w.heap.size,cap',_,by simp[Mt.add],World.alloc_heap_new w.drew o,by simpa using hl,by omega,hm,?_⟩⟩
  exact(Zv.mono (w:=w) (D':=m.D) (w':=w.drew) (fun b hb=>⟨hb,rfl⟩) hf).mono (fun b hb=>⟨x2.D b hb,x2.kept b (h1.dlt b hb) (fun hi=>h1.dj b hi hb)⟩)
 exact Eff.val hr (VE h1 d blk o cap' hB) (Oz h1 d _ _ _ o cap' n hc) (x1.trans x2)
theorem Cq(h:SR CR m σ w){t ty:TypeId}{el:Nat×Nat×Nat}(hel:VU P t=some el)(b b':Option Addr)(cap':Nat)(d:Nat):
  Eff P CR m σ w (do pure (Next.value (←Builtin.append_ #[t,t] ty #[.slice b 0 0,.slice b' 0 cap']))) (.a (.own (d,σ.clk) 0 0)) (σ.add d (.row el.2.1 el.1 [])):=by
 obtain⟨hu,ii,hii,hsz,hby,hpos,hbp⟩:=EL hel
 obtain⟨h1,x1⟩:=af h d el.2.1 el.1 (by omega)
 exact Eff.val (O6 hel b 0 0 (nh _) b' cap') h1 (own0 h d _ _ b) x1
theorem iL(h:SR CR m σ w){t ty:TypeId}{el:Nat×Nat×Nat}(hel:VU P t=some el)(hzl:iC P el.1=some el.2.1){x y:AV}{vx vy:Value}(hx:RA m σ w x vx)(hy:RA m σ w y vy)(d:Nat){tv:TV}
  (hev:(match x with
   | .nil=>(B2 σ y).bind fun ns=>
     if ns.length*el.2.2≤140737488355328∧ns.all (fun r=>r.length=el.2.1)then some (TV.a (.own (d,σ.clk) 0 ns.length),σ.add d (.row el.2.1 el.1 ns))else none
   | .own s off len=>match σ.bs s,B2 σ y with
     |some (.row k' el' rows),some ns=>
      if off=0∧k'=el.2.1∧el'=el.1∧len≤rows.length∧(len+ns.length)*el.2.2≤140737488355328∧ns.all (fun r=>r.length=el.2.1)then
       some (TV.a (.own (d,σ.clk) 0 (len+ns.length)),(σ.kill s).add d (.row el.2.1 el.1 (rows.take len++ns)))
      else none
     |_,_=>none
   |_=>none)=some (tv,σ')):
  Eff P CR m σ w (do pure (Next.value (←Builtin.append_ #[t,t] ty #[vx,vy]))) tv σ':=by
 have hel':=hel
 obtain⟨hu,ii,hii,hsz,hby,hpos,hbp⟩:=EL hel'
 have hk:0<el.2.1:=by omega
 have allk:∀{ns:List (List PV)},ns.all (fun r=>r.length=el.2.1)=true→∀r:List PV,r∈ns→r.length=el.2.1:=by
  intro ns hn r hr
  rw[Gc]at hn
  simpa using hn r hr
 cases x with
 |nil=>
  cases hx
  simp only at hev
  obtain⟨ns,hns,hev⟩:=pT hev
  split at hev
  ·rename_i hc
   obtain⟨hc1,hc2⟩:=hc
   simp only[Lo,ZP]at hev
   obtain⟨rfl,rfl⟩:=hev
   obtain⟨b,cap,rfl,hsrc⟩:=sD h hy hns hk (allk hc2)
   by_cases hne:ns=[]
   ·subst hne;exact Cq h hel none b cap d
   ·obtain⟨ad,news,rfl,n1,n2,n3,n4⟩:=hsrc hne
    have hpl:0<ns.length:=bD.2 hne
    obtain⟨cap',rest,hr,g1,g2,g3⟩:=kh (P:=P) (ty:=ty) hel hzl none 0 0 [] (by simp) (nh _) (.inl ⟨rfl,rfl,rfl⟩) ad ns.length cap news n1 n2 (by omega) (by simpa using hc1)
    simp only[Fy,Es]at hr g1 g3
    refine L6 h hel d hr rfl g1 g2 g3 (allk hc2) ?_
    have:=jK (w:=w) (D:=m.D) (k:=el.2.1) (rows:=[]) (cells:=[]) (rest:=rest) (fun i r j p hi=>by simp at hi) (by simp) n4
    simpa using this
  ·cases hev
 |own s off len=>
  simp only at hev
  cases hb:σ.bs s with
  |none=>simp[hb]at hev
  |some blk=>
   cases blk with
   |var cs=>simp[hb]at hev
   |map k ks=>simp[hb]at hev
   |row k' el' rows=>
    cases hns:B2 σ y with
    |none=>simp[hb,hns]at hev
    |some ns=>
     simp only[hb,hns]at hev
     split at hev
     ·rename_i hc
      obtain⟨rfl,rfl,rfl,hc4,hc5,hc6⟩:=hc
      simp only[Lo,ZP]at hev
      obtain⟨rfl,rfl⟩:=hev
      obtain⟨b,cap,rfl,hsrc⟩:=sD h hy hns hk (allk hc6)
      obtain⟨hlt,_,hal⟩:=hx
      obtain⟨hk1,x1⟩:=aZ h s
      rcases hal _ _ _ hb with⟨rfl,b',rfl⟩|⟨B,c,hm,rfl,hle⟩
      ·
       by_cases hne:ns=[]
       ·subst hne
        obtain⟨v,w1,m1,hr,h1,h2,h3⟩:=Cq (P:=P) (ty:=ty) hk1 hel b' b cap d
        simp only[om,Qg,Fy,sI]
        exact⟨v,w1,m1,hr,h1,h2,x1.trans h3⟩
       ·obtain⟨ad,news,rfl,n1,n2,n3,n4⟩:=hsrc hne
        have hpl:0<ns.length:=bD.2 hne
        obtain⟨cap',rest,hr,g1,g2,g3⟩:=kh (P:=P) (ty:=ty) hel hzl b' 0 0 [] (by simp) (nh _)
         (by cases b' with
          |none=>exact .inl ⟨rfl,rfl,rfl⟩
          |some q=>exact .inr ⟨q,rfl,by simp⟩) ad ns.length cap news n1 n2 (by omega) (by simpa using hc5)
        simp only[Fy,Es]at hr g1 g3
        simp only[om,Fy,Es]
        have hf:Zv w m.D el.2.1 ns (news++rest).toArray:=by
         have:=jK (w:=w) (D:=m.D) (k:=el.2.1) (rows:=[]) (cells:=[]) (rest:=rest) (fun i r j p hi=>by simp at hi) (by simp) n4
         simpa using this
        obtain⟨v,w1,m1,hr',h1,h2,h3⟩:=L6 (P:=P) hk1 hel d hr rfl g1 g2 g3 (allk hc6) (hf.mono fun b hb=>⟨x1.D b hb,rfl⟩)
        exact⟨v,w1,m1,hr',h1,h2,x1.trans h3⟩
      ·
       obtain⟨_,hkl,hbr⟩:=h.blk s _ hb
       rcases hbr with⟨h1,_⟩|⟨B',c',cur,h1,h2,h3,h4,h5,h6⟩
       ·rw[hm]at h1;cases h1
       ·rw[hm]at h1;simp only[Lo,ZP]at h1
        obtain⟨rfl,rfl⟩:=h1
        have hlk:len*el.2.1≤cur.size:=by rw[h3];exact rB _ (by omega)
        have htl:(cur.toList.take (len*el.2.1)).length=len*el.2.1:=by simp;omega
        have hft:=oc h6 hkl len
        have hrl:(rows.take len).length=len:=by simp;omega
        have hkl':∀r:List PV,r∈rows.take len++ns→r.length=el.2.1:=by
         intro r hr
         rcases Sw.1 hr with hr|hr
         ·exact hkl r (IY hr)
         ·exact allk hc6 r hr
        simp only[Nat.zero_mul,kR]
        by_cases hne:ns=[]
        ·subst hne
         have hr:=O6 (P:=P) (w:=w) (ty:=ty) hel (some ⟨B,0,none⟩) len c (by omega) b cap
         simp only[Qg,sI,Ln]at hkl'⊢
         have hf:Zv w m.D el.2.1 (rows.take len) cur:=by
          intro i r j p hi hj
          rw[XL]at hi
          split at hi
          ·exact h6 i r j p hi hj
          ·cases hi
         obtain⟨k1,k2⟩:=KL h hb hm h2 d hk hkl' h3 (by omega) h5 hf
         rw[setRow_self w B cur el.1 (0,0) h2]at k1 k2
         refine Eff.val hr k1 ⟨by simp[St.add,St.kill],⟨_,_,rfl,by omega⟩,fun _ _ _ _=>.inr ⟨B,c,by simp[Mt.add],by simp,by omega⟩⟩ k2
        ·obtain⟨ad,news,rfl,n1,n2,n3,n4⟩:=hsrc hne
         have hpl:0<ns.length:=bD.2 hne
         by_cases hroom:len+ns.length≤c
         ·
          have hfit:len*ii.size+news.length≤cur.size:=by rw[hsz,n1,h3,←rX];exact rB _ hroom
          have hr:=run_append_room (P:=P) w t ty el.1 ii hu hii B len c cur h2 ad ns.length cap news (by rw[hsz];exact n1) n2 n3 hroom hfit
          rw[hsz]at hr hfit
          have hf:=jK (rest:=cur.toList.drop (len*el.2.1+news.length)) hft (by rw[htl,hrl]) n4
          obtain⟨k1,k2⟩:=KL h hb hm h2 d hk hkl' (cur':=(cur.toList.take (len*el.2.1)++news++cur.toList.drop (len*el.2.1+news.length)).toArray)
           (by simp;omega) (by simp;omega) h5 hf
          refine Eff.val hr k1 ⟨by simp[St.add,St.kill],⟨_,_,rfl,hroom⟩,fun _ _ _ _=>.inr ⟨B,c,by simp[Mt.add],by simp,by omega⟩⟩ k2
         ·
          obtain⟨cap',rest,hr,g1,g2,g3⟩:=kh (P:=P) (ty:=ty) hel hzl (some ⟨B,0,none⟩) len c (cur.toList.take (len*el.2.1)) htl (by omega)
           (.inr ⟨_,rfl,fun j v hj=>by
            rw[XL]at hj
            split at hj
            ·rw[T2,Fy]
             simp only[World.cell?,h2,S8,SY,if_false]
             simpa using hj
            ·cases hj⟩) ad ns.length cap news n1 n2 (by omega) hc5
          have hf:=jK (rest:=rest) hft (by rw[htl,hrl]) n4
          obtain⟨v,w1,m1,hr',h1',h2',h3'⟩:=L6 (P:=P) hk1 hel d hr (rows:=rows.take len++ns) (by simp;omega) g1 g2 g3 hkl' (hf.mono fun b hb=>⟨x1.D b hb,rfl⟩)
          exact⟨v,w1,m1,hr',h1',h2',x1.trans h3'⟩
     ·cases hev
 |_=>simp at hev
theorem Zu(h:SR CR m σ w)(hE:RE m σ w e a.tmps){t:TypeId}{el:Nat×Nat×Nat}(hel:VU P t=some el){lo hi mx:Option Operand}{lo' hi':Option X}{mx':X}(hlo:Iu lo=some lo')(hhi:Iu hi=some hi')(hmx:Iu mx=some (some mx'))
  (h1:Bp e lo' 0=some 0) (h2:(hi'.map (ev e)).bind mO=some 0) (h3:mO (ev e mx')=some 0) {v:Value} (hv:∃b n c,v= .slice b n c) (d:Nat):
  Eff P CR m σ w (do pure (Next.value (←Instr.sliceAt t v (lo.map a.eval) (hi.map a.eval) (mx.map a.eval)))) (.a (.own (d,σ.clk) 0 0)) (σ.add d (.row el.2.1 el.1 [])):=by
 obtain⟨hu,ii,hii,hsz,hby,hpos,hbp⟩:=EL hel
 obtain⟨b,n,c,rfl⟩:=hv
 cases mx with
 |none=>simp[Iu]at hmx
 |some mo=>
  simp only[Iu]at hmx
  obtain⟨z,hz,hmx⟩:=pT hmx
  simp only[Lo]at hmx;subst hmx
  obtain⟨k,hk⟩:=zG (VV hE hz) h3
  cases hi with
  |none=>simp only[Iu,Lo]at hhi;subst hhi;simp at h2
  |some ho=>
   simp only[Iu]at hhi
   obtain⟨z2,hz2,hhi⟩:=pT hhi
   simp only[Lo]at hhi;subst hhi
   simp only[lT,wA]at h2
   obtain⟨k2,hk2⟩:=zG (VV hE hz2) h2
   have hb:(Instr.sliceBounds true n c (lo.map a.eval) (some (.int k2 0)) (some (.int k 0))).run P w= .ok (0,0,0) w:=by
    rcases cn hE hlo h1 with⟨rfl,_⟩|⟨o',k',rfl,ho'⟩
    ·simp[Instr.sliceBounds,Instr.sliceBound,asIntOf]
    ·simp[Instr.sliceBounds,Instr.sliceBound,asIntOf,ho']
   have hs:(Instr.sliceAt t (.slice b n c) (lo.map a.eval) ((some ho).map a.eval) ((some mo).map a.eval)).run P w= .ok (.slice b 0 0) w:=by
    have hsr:(sizeOf el.1).run P w= .ok el.2.1 w:=by simp[sizeOf,typeInfo,hii,hsz]
    simp only[lT,hk,hk2,Instr.sliceAt,Instr.slice,Sem.run_bind,run_underlying hu,Result.andThen_ok,hb,hsr,if_true,Sem.run_pure]
   obtain⟨g1,g2⟩:=af h d el.2.1 el.1 (by omega)
   exact Eff.val hs g1 (own0 h d _ _ b) g2
end
end Go.Fx
namespace Go.Fx
open Go.RowKit
section
variable{P:Program}{eqs:List (TypeId×List Nat)}{CR:Nat→Code→C→Prop}{m m':Mt}{σ σ':St}{w w':World}{e:Env}{a:Act}
theorem NN(h:SR CR m σ w){xs:List AV}{ps:List PV}{vs:List Value}(hr:F2 (RA m σ w) xs vs)(hf:frL σ xs=some ps):F2 (RP w (DS m σ)) ps vs:=
 F2_comp (fun x p v _ (a:frA σ x=some p) (b:RA m σ w x v)=>pW h b a) (dC hf) hr
theorem HT{xs:List (Bool×List AV)}{ps:List (Bool×List PV)}(h:frV σ xs=some ps):F2 (fun x p=>x.1=p.1∧frL σ x.2=some p.2) xs ps:=by
 induction xs generalizing ps with
 |nil=>simp[frV]at h;subst h;exact .nil
 |cons x xs ih=>
  simp only[frV]at h
  obtain⟨v,h1,h⟩:=pT h
  obtain⟨vs,h2,h⟩:=pT h
  simp only[Lo]at h;subst h
  exact .cons ⟨rfl,h1⟩ (ih h2)
theorem Cu{D:Nat→Prop}{g:Bool}{cs:List AV}{ps:List PV}{v:Value}(hg:RGA (RA m σ w) g cs v)(hf:frL σ cs=some ps)(key:∀vs,F2 (RA m σ w) cs vs→F2 (RP w D) ps vs):RG (RP w D) g ps v:=by
 unfold RGA at hg
 unfold RG
 cases g with
 |true=>
  simp only[if_true]at hg⊢
  obtain⟨vs,rfl,h2⟩:=hg
  exact⟨vs,rfl,key vs h2⟩
 |false=>
  simp only[SY,if_false]at hg⊢
  obtain⟨x,rfl,h2⟩:=hg
  have:=key [v] (.cons h2 .nil)
  cases this with
  |cons x t=>cases t;exact⟨_,rfl,x⟩
theorem WT(h:SR CR m σ w){t:TV}{p:PT}{v:Value}(hr:RT m σ w t v)(hf:frT σ t=some p):RPT w (DS m σ) p v:=by
 cases t with
 |u=>simp only[frT,Lo]at hf;subst hf;exact hr
 |a x=>simp only[frT]at hf;obtain⟨q,h1,hf⟩:=pT hf;simp only[Lo]at hf;subst hf;exact pW h hr h1
 |g cs=>
  simp only[frT]at hf;obtain⟨q,h1,hf⟩:=pT hf;simp only[Lo]at hf;subst hf
  obtain⟨vs,hv,h2⟩:=hr
  exact⟨vs,hv,NN h h2 h1⟩
 |t ts=>
  simp only[frT]at hf;obtain⟨q,h1,hf⟩:=pT hf;simp only[Lo]at hf;subst hf
  obtain⟨us,hv,h2⟩:=hr
  refine⟨us,hv,F2_comp (fun x p u hx hxp hxu=>?_) (HT h1) h2⟩
  rw[←hxp.1]
  exact Cu hxu hxp.2 (fun vs hvs=>NN h hvs hxp.2)
theorem Hb{xs:List TV}{ps:List PT}(h:Kt σ xs=some ps):F2 (fun x p=>frT σ x=some p) xs ps:=by
 induction xs generalizing ps with
 |nil=>simp[Kt]at h;subst h;exact .nil
 |cons x xs ih=>
  simp only[Kt]at h
  obtain⟨v,h1,h⟩:=pT h
  obtain⟨vs,h2,h⟩:=pT h
  simp only[Lo]at h;subst h
  exact .cons h1 (ih h2)
def cellsOf:TV→List AV
 | .u=>[]
 | .a x=>[x]
 | .g cs=>cs
 | .t vs=>vs.flatMap (·.2)
theorem KG:∀(xs ys:List AV) (σ:St),klL σ (xs++ys)=klL (klL σ xs) ys
 |[],_,_=>rfl
 |x::xs,ys,σ=>by simp only[Hh,klL];exact KG xs ys _
theorem oK:∀(vs:List (Bool×List AV)) (σ:St),klV σ vs=klL σ (vs.flatMap (·.2))
 |[],_=>rfl
 |x::vs,σ=>by simp only[klV,aC];rw[KG,oK vs]
theorem fp(t:TV)(σ:St):klT σ t=klL σ (cellsOf t):=by
 cases t with
 |t vs=>simp only[klT,cellsOf];exact oK vs σ
 |_=>rfl
theorem oX:∀(ts:List TV) (σ:St),KW σ ts=klL σ (ts.flatMap cellsOf)
 |[],_=>rfl
 |t::ts,σ=>by simp only[KW,aC];rw[KG,oX ts,fp]
theorem F6:∀(xs:List AV) (σ:St),(∀x,x∈xs→MQ x=false)→klL σ xs=σ
 |[],_,_=>rfl
 |x::xs,σ,h=>by
  have:klA σ x=σ:=by
   have:=h x (by simp)
   cases x<;>simp_all [klA,MQ]
  simp only[klL,this]
  exact F6 xs σ fun y hy=>h y (by simp[hy])
theorem yj{t:TV}(h:PZ t=false):∀x,x∈cellsOf t→MQ x=false:=by
 cases t with
 |u=>simp[cellsOf]
 |a x=>simpa [cellsOf,PZ]using h
 |g cs=>intro x hx;simp only[PZ,GL]at h;simpa using h x hx
 |t vs=>
  intro x hx
  simp only[cellsOf,cP]at hx
  obtain⟨y,hy,hxy⟩:=hx
  simp only[PZ,GL]at h
  have:=h y hy
  simp only[qB,not_exists,not_and]at this
  simpa using this x hxy
theorem sQ(h:SR CR m σ w){ts:List TV}{ps:List PT}{vs:List Value}(hr:F2 (RT m σ w) ts vs)(hf:Kt σ ts=some ps):
  ∃m',SR CR m' (KW σ ts) w∧Xt m σ w m' (KW σ ts) w∧F2 (RPT w m'.D) ps vs:=by
 obtain⟨m',h1,x1,d1⟩:=gH (xs:=ts.flatMap cellsOf) h
 rw[←oX]at h1 x1
 refine⟨m',h1,x1,?_⟩
 have keyL:∀(t:TV),t∈ts→∀(cs:List AV) (qs:List PV) (us:List Value),(∀x,x∈cs→x∈cellsOf t)→frL σ cs=some qs→F2 (RA m σ w) cs us→F2 (RP w m'.D) qs us:=by
  intro t ht cs qs us hsub hfr hra
  exact F2_comp (fun x p v hx a b=>d1 x (cP.2 ⟨t,ht,hsub x hx⟩) p v b a) (dC hfr) hra
 refine F2_comp (fun t p v ht hf1 hr1=>?_) (Hb hf) hr
 cases t with
 |u=>simp only[frT,Lo]at hf1;subst hf1;exact hr1
 |a x=>
  simp only[frT]at hf1;obtain⟨q,h2,hf1⟩:=pT hf1;simp only[Lo]at hf1;subst hf1
  exact d1 x (cP.2 ⟨_,ht,by simp[cellsOf]⟩) q v hr1 h2
 |g cs=>
  simp only[frT]at hf1;obtain⟨q,h2,hf1⟩:=pT hf1;simp only[Lo]at hf1;subst hf1
  obtain⟨us,hv,h3⟩:=hr1
  exact⟨us,hv,keyL _ ht cs q us (fun x hx=>hx) h2 h3⟩
 |t vs'=>
  simp only[frT]at hf1;obtain⟨q,h2,hf1⟩:=pT hf1;simp only[Lo]at hf1;subst hf1
  obtain⟨us,hv,h3⟩:=hr1
  refine⟨us,hv,F2_comp (fun x p u hx hxp hxu=>?_) (HT h2) h3⟩
  rw[←hxp.1]
  exact Cu hxu hxp.2 (fun vs hvs=>keyL _ ht x.2 p.2 vs (fun y hy=>cP.2 ⟨x,hx,hy⟩) hxp.2 hvs)
theorem kY{p:PT}{v:Value}(h:RPT w m.D p v):RT m σ w (cV p) v:=by
 cases p with
 |z=>exact h
 |a x=>exact h
 |g cs=>obtain⟨vs,hv,h2⟩:=h;exact⟨vs,hv,F2_p rfl h2⟩
 |t ts=>
  obtain⟨us,hv,h2⟩:=h
  refine⟨us,hv,?_⟩
  have:∀{ts:List (Bool×List PV)} {us:List Value},F2 (fun x u=>RG (RP w m.D) x.1 x.2 u) ts us→F2 (fun x u=>RGA (RA m σ w) x.1 x.2 u) (ts.map fun x=>(x.1,x.2.map .p)) us:=by
   intro ts us h
   induction h with
   |nil=>exact .nil
   |cons x _ ih=>
    rename_i g _ _ _ _
    refine .cons ?_ ih
    unfold RG at x
    unfold RGA
    split
    ·rename_i e;rw[if_pos e]at x;obtain⟨vs,hv,h2⟩:=x;exact⟨vs,hv,F2_p rfl h2⟩
    ·rename_i e;rw[if_neg e]at x;obtain⟨y,hy,h2⟩:=x;exact⟨.p y,by simp[hy],h2⟩
  exact this h2
theorem Y3(h:SR CR m σ w)(hb:Below w.heap.size w w')(D':Nat→Prop)(h1:∀b,m.D b→D' b)(h2:∀b,D' b→m.D b∨(w.heap.size≤b∧b<w'.heap.size)):
  SR CR {m with D:=D'} σ w'∧Xt m σ w {m with D:=D'} σ w':=by
 have x:Xt m σ w {m with D:=D'} σ w':=
  {mu:=fun _ _=>rfl,la:=fun _ _=>rfl,clk:=nh _,len:=nh _
   bs:=fun s b hs _=>⟨b,hs,Yu.refl _⟩
   D:=h1
   new:=fun b hb=>by rcases h2 b hb with h|h;exact .inl h;exact .inr (.inl h.1)
   img:=fun b hb=>.inl hb
   kept:=fun b hlt _=>hb.block b hlt
   os:=hb.os,tape:=hb.tape,output:=hb.output,size:=hb.size}
 refine⟨SR.step h x (fun s b hs=>.inr ⟨hs,rfl,fun B c hm=>hb.block B (h.inS_lt (.inl ⟨s,b,c,hs,hm⟩))⟩) h.gen h.inj ?_ ?_ rfl (fun l hl=>hb.block _ (h.inS_lt (.inr ⟨l,hl,rfl⟩))),x⟩
 ·intro b hi hD
  have hi':InS m σ b:=hi
  rcases h2 b hD with h3|h3
  ·exact h.dj b hi' h3
  ·have:=h.inS_lt hi';omega
 ·intro b hD
  rcases h2 b hD with h3|h3
  ·have:=h.dlt b h3;have:=hb.size;omega
  ·exact h3.2
def FW(r:Option Nat):Fence:={fn:=fun _=>True,depth:=none,alive:=false,round:=r}
def Ent(P:Program)(f:FuncId):Prop:=∃fn,P.funcs[f]? =some fn∧fn.body.isNone=false∧(fn.name== "runtime.NumGoroutine")=false
def QP(P:Program)(f:FuncId)(ps:List PT)(r:PT):Prop:=
 ∀(w:World) (D:Nat→Prop) (vs:List Value),(∀b,D b→b<w.heap.size)→F2 (RPT w D) ps vs→∀rr n,
  CallsIn (FW rr) n P f vs.toArray w fun e w'=>∃v,e= .returned v∧RPT w' (fun b=>D b∨(w.heap.size≤b∧b<w'.heap.size)) r v∧Below w.heap.size w w'
def Ua(P:Program)(cp:FuncId→List PT→Option PT):Prop:=∀f ps r,cp f ps=some r→Ent P f∧QP P f ps r
def HQ(CR:Nat→Code→C→Prop)(m:Mt)(σ:St)(w:World)(r:TV)(σ':St)(e:Ending)(w':World):Prop:=
 ∃v m',e= .returned v∧SR CR m' σ' w'∧RT m' σ' w' r v∧Xt m σ w m' σ' w'
def Pw(P:Program)(CR:Nat→Code→C→Prop)(args:List TV)(σ:St)(r:TV)(σ':St):Cal→Prop
 | .f g=>Ent P g∧∀m w vs,SR CR m σ w→F2 (RT m σ w) args vs→∀rr n,CallsIn (FW rr) n P g vs.toArray w (HQ CR m σ w r σ')
 | .y l=>∀m w vs,SR CR m σ w→F2 (RT m σ w) args vs→∀lo:Loop,w.heap[m.la l]? =some (.loop lo)→vs.length=lo.params.size∧
   ∀rr n,RoundIn (FW rr) n P (m.la l) lo.fn ((lo.params.zip vs.toArray).foldl (fun tmps (x:Tmp×Value)=>tmps.setIfInBounds x.1 x.2) lo.tmps) lo.assign lo.body w (HQ CR m σ w r σ')
def dI(P:Program)(CR:Nat→Code→C→Prop)(cs:Cal→List TV→St→Option (TV×St)):Prop:=∀c args σ r σ',cs c args σ=some (r,σ')→Pw P CR args σ r σ' c
theorem Vs{f:FuncId}(h:Ent P f)(args:Array Value)(w:World):(callFunc f args).run P w= .ok (.enter f args) w:=by
 obtain⟨fn,h1,h2,h3⟩:=h
 simp only[callFunc,Sem.run_bind,run_program,Result.andThen_ok,h1,h2,h3,SY,if_false,Sem.run_pure]
theorem zK(h:SR CR m σ w){f:FuncId}{ps:List PT}{r:PT}(hs:QP P f ps r){ts:List TV}{vs:List Value}(ht:F2 (RT m σ w) ts vs)(hf:Kt σ ts=some ps){σ':St}(hσ:σ'=if r.flat=true then σ else KW σ ts)(rr:Option Nat)(n:Nat):
  CallsIn (FW rr) n P f vs.toArray w (HQ CR m σ w (cV r) σ'):=by
 by_cases hfl:r.flat=true
 ·rw[if_pos hfl]at hσ;subst hσ
  have hps:F2 (RPT w (DS m σ')) ps vs:=F2_comp (fun t p v _ (a:frT σ' t=some p) (b:RT m σ' w t v)=>WT h b a) (Hb hf) ht
  refine(hs w (DS m σ') vs (fun b hb=>hb.elim (h.dlt b) h.inS_lt) hps rr n).mono ?_
  rintro e w' ⟨v,rfl,h1,h2⟩
  obtain⟨k1,k2⟩:=Y3 h h2 m.D (fun _ h=>h) (fun _ h=>.inl h)
  exact⟨v,m,rfl,k1,kY (h1.flat hfl),k2⟩
 ·rw[if_neg hfl]at hσ;subst hσ
  obtain⟨m1,h1,x1,hps⟩:=sQ h ht hf
  refine(hs w m1.D vs h1.dlt hps rr n).mono ?_
  rintro e w' ⟨v,rfl,h3,h2⟩
  obtain⟨k1,k2⟩:=Y3 h1 h2 (fun b=>m1.D b∨(w.heap.size≤b∧b<w'.heap.size)) (fun _ h=>.inl h) (fun _ h=>h)
  exact⟨v,_,rfl,k1,kY (m:={m1 with D:=fun b=>m1.D b∨(w.heap.size≤b∧b<w'.heap.size)}) h3,x1.trans k2⟩
end
section
variable{P:Program}{CR:Nat→Code→C→Prop}{m m':Mt}{σ σ':St}{w w':World}
open Go.MapKept Go.ChangeMaps Go.Maps
end
end Go.Fx
end
