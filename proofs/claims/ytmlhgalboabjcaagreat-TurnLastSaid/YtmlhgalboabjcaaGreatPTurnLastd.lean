/- Part 4 of what is proved for the law TurnLast: it returns true, whatever the input. No condition. -/
import Derived.Test.YtmlhgalboabjcaaGreatPTurnLastc
set_option maxHeartbeats 8000000
set_option maxRecDepth 100000
set_option linter.unusedSimpArgs false
set_option linter.unusedVariables false
namespace Go.Proofs.YtmlhgalboabjcaaGreat.Tm
open Go.Fx
theorem dZ(n:Int):∃r,eP S 112 [.a (.i .u8 n)]=some r∧∃c,r= .a (.i .i64 c)∧0≤c∧c≤4:=by
 refine xI (xO (by decide)) (fc:=F112) rfl rfl ?_
 simp only[F112,nxB,evO,simprocAttr]
 iterate 14
  all_goals try (first
   |(refine oU (fun h=>?_) (fun h=>?_)<;>simp only[h,nxB,evO,simprocAttr])
   |(refine pG (fun h=>?_) (fun h=>?_)<;>simp only[h,nxB,evO,simprocAttr]))
 all_goals exact⟨_,rfl,by omega,by omega⟩
theorem ua(s:List UInt8):∃r,eP S 150 [.a (.s s)]=some r∧∃b,r= .a (.b b):=by
 refine xI (xO (by decide)) (fc:=F150) rfl rfl ?_
 simp only[F150,nxB,evO,simprocAttr]
 iterate 6
  all_goals try (refine oU (fun h=>?_) (fun h=>?_)<;>simp only[h,nxB,evO,simprocAttr])
 all_goals exact⟨_,rfl⟩
theorem JH(s:List UInt8)(at_:Nat)(hs:s.length≤reachBytes)(ha:at_≤s.length):∃r,eP S 147 [.a (.s s),.a (.i .i64 at_)]=some r∧∃(n:Nat) (b:Bool),r= .t [(false,[.i .i64 n]),(false,[.b b])]∧at_+n≤s.length:=by
 refine xI (xO (by decide)) (fc:=F147) rfl rfl ?_
 simp only[F147,nxB,evO,simprocAttr]
 have hsl:s.length≤140737488351232:=by simpa only[reachBytes]using hs
 refine VK (fun k e σ=>e 0= .a (.p (.s s))∧e 1= .a (.p (.i .i64 at_))∧∃(n:Nat) (b:Bool),e 6= .a (.p (.i .i64 n))∧e 7= .a (.p (.b b))∧at_+n+k=s.length) ?_ (s.length-at_) _ _ ⟨?_,?_,0,false,?_,?_,by omega⟩
 ·rintro k e σ ⟨e0,e1,n,b,e6,e7,hk⟩
  have hw:IntKind.i64.wrap ((at_:Int)+(n:Int))=((at_+n:Nat):Int):=by rw[qI _ (by omega)];omega
  rw[F147b0]
  cases k with
  |zero=>
   have hlt:¬((at_+n:Nat):Int)<(s.length:Int):=by omega
   simp only[e0,e1,e6,e7,hw,hlt,frV,nxB,evO,simprocAttr]
   exact⟨n,b,rfl,by omega⟩
  |succ k=>
   have hlt:((at_+n:Nat):Int)<(s.length:Int):=by omega
   have h0:(0:Int)≤((at_+n:Nat):Int):=by omega
   obtain⟨c,hc⟩:∃c,s[at_+n]? =some c:=⟨_,Xb (by omega)⟩
   obtain⟨r,hr,q,rfl,hq0,hq4⟩:=dZ (c.toNat:Int)
   simp only[e0,e1,e6,e7,hw,hlt,h0,KA,hc,hr,nxB,evO,simprocAttr]
   iterate 3
    all_goals try (first
     |(refine oU (fun h=>?_) (fun h=>?_)<;>simp only[h,e0,e1,e6,e7,frV,nxB,evO,simprocAttr])
     |(refine pG (fun h=>?_) (fun h=>?_)<;>simp only[h,e0,e1,e6,e7,frV,nxB,evO,simprocAttr]))
   all_goals first
    |exact⟨n,b,rfl,by omega⟩
    |exact⟨k,by omega,n+1,_,by rw[zz n (by omega)],rfl,by omega⟩
 all_goals simp only[nxB,evO,simprocAttr]
 all_goals rfl
theorem Hu(s:List UInt8)(hs:s.length≤reachBytes):∃r,eP S 149 [.a (.s s)]=some r∧∃n,r= .a (.i .i64 n):=by
 refine xI (xO (by decide)) (fc:=F149) rfl rfl ?_
 simp only[F149,nxB,evO,simprocAttr]
 have hsl:s.length≤140737488351232:=by simpa only[reachBytes]using hs
 refine VK (fun k e σ=>e 0= .a (.p (.s s))∧∃(i:Nat) (n:Int),e 4= .a (.p (.i .i64 i))∧e 3= .a (.p (.i .i64 n))∧i+k=s.length) ?_ s.length _ _ ⟨?_,0,0,?_,?_,by omega⟩
 ·rintro k e σ ⟨e0,i,n,e4,e3,hk⟩
  rw[F149b0]
  cases k with
  |zero=>
   have hlt:¬(i:Int)<(s.length:Int):=by omega
   simp only[e0,e3,e4,hlt,nxB,evO,simprocAttr]
   exact⟨n,rfl⟩
  |succ k=>
   have hlt:(i:Int)<(s.length:Int):=by omega
   have h0:(0:Int)≤(i:Int):=by omega
   obtain⟨c,hc⟩:∃c,s[i]? =some c:=⟨_,Xb (by omega)⟩
   simp only[e0,e3,e4,hlt,h0,KA,hc,nxB,evO,simprocAttr]
   exact⟨k,by omega,i+1,_,by rw[zz i (by omega)],rfl,by omega⟩
 all_goals simp only[nxB,evO,simprocAttr]
 all_goals rfl
theorem aj(s:List UInt8)(at_:Nat)(hs:s.length≤reachBytes)(ha:at_<s.length):∃r,eP S 148 [.a (.s s),.a (.i .i64 at_)]=some r∧∃n:Nat,r= .a (.i .i64 n)∧at_+n≤s.length:=by
 refine xI (xO (by decide)) (fc:=F148) rfl rfl ?_
 have hsl:s.length≤140737488351232:=by simpa only[reachBytes]using hs
 obtain⟨c,hc⟩:∃c,s[at_]? =some c:=⟨_,Xb ha⟩
 have h0:(0:Int)≤(at_:Int):=by omega
 have hw1:IntKind.i64.wrap ((at_:Int)+1)=((at_+1:Nat):Int):=zz at_ (by omega)
 have hw2:IntKind.i64.wrap ((at_:Int)+2)=((at_+2:Nat):Int):=by rw[qI _ (by omega)];omega
 have loop:∀(e:Env) (σ:St),e 0= .a (.p (.s s))→e 1= .a (.p (.i .i64 at_))→e 5= .a (.p (.i .i64 0))→
   wp S false (.loop F148b0) e σ (tM 0 (Q5 S false ((C.reg [⟨some 4,none,.mv (.c (.a (.p (.i .i64 0)))),.any⟩]).seq C.ret) (LH [Rs.tmp 4] fun r=>∃n:Nat,r= .a (.i .i64 n)∧at_+n≤s.length))):=by
  intro e σ e0 e1 e5
  refine VK (fun k e σ=>e 0= .a (.p (.s s))∧e 1= .a (.p (.i .i64 at_))∧∃i:Nat,e 5= .a (.p (.i .i64 i))∧i+k=13) ?_ 13 _ _ ⟨e0,e1,0,e5,rfl⟩
  rintro k e σ ⟨e0,e1,i,e5,hk⟩
  rw[F148b0]
  cases k with
  |zero=>
   have hlt:¬(i:Int)<13:=by omega
   simp only[e0,e1,e5,hlt,nxB,evO,simprocAttr]
   exact⟨0,rfl,by omega⟩
  |succ k=>
   have hlt:(i:Int)<13:=by omega
   have hi0:(0:Int)≤(i:Int):=by omega
   obtain⟨d,hd⟩:∃d,([92,46,40,41,61,123,125,124,43,45,42,47,60]:List UInt8)[i]? =some d:=⟨_,Xb (by simp;omega)⟩
   simp only[e0,e1,e5,hlt,hi0,h0,KA,hc,hd,nxB,evO,simprocAttr]
   refine pG (fun h=>?_) (fun h=>?_)<;>simp only[h,e0,e1,e5,nxB,evO,simprocAttr]
   ·exact⟨1,rfl,by omega⟩
   ·exact⟨k,by omega,i+1,by rw[zz i (by omega)],by omega⟩
 simp only[F148,hw1,hw2,nxB,evO,simprocAttr]
 refine oU (fun h=>?_) (fun h=>?_)
 ·have hlt:((at_+1:Nat):Int)<(s.length:Int):=by simpa using h
  have hle:((at_+2:Nat):Int)≤(s.length:Int):=by omega
  have hle2:(at_:Int)≤((at_+2:Nat):Int):=by omega
  simp only[h,Bp,hw1,hw2,h0,hle,hle2,nxB,evO,simprocAttr]
  refine oU (fun h2=>?_) (fun h2=>?_)<;>simp only[h,h2,Bp,hw1,hw2,h0,hle,hle2,nxB,evO,simprocAttr]
  ·refine pG (fun h3=>?_) (fun h3=>?_)<;>simp only[h,h2,h3,nxB,evO,simprocAttr]
   ·exact⟨2,rfl,by omega⟩
   ·exact loop _ _ (by simp only[nxB,evO,simprocAttr]) (by simp only[nxB,evO,simprocAttr]) (by simp only[nxB,evO,simprocAttr])
  ·exact⟨2,rfl,by omega⟩
 ·simp only[h,nxB,evO,simprocAttr]
  exact loop _ _ (by simp only[nxB,evO,simprocAttr]) (by simp only[nxB,evO,simprocAttr]) (by simp only[nxB,evO,simprocAttr])
def o5(r:PT):Prop:=∃(k:Int) (x:List UInt8) (n a e:Int),r= .t [(true,[.i .i64 k,.s x,.i .i64 n,.i .i64 a]),(false,[.i .i64 e])]
theorem CL(s:List UInt8)(at_:Nat)(hs:s.length≤reachBytes)(ha:at_<s.length):∃r,eP S 113 [.a (.s s),.a (.i .i64 at_)]=some r∧o5 r:=by
 have hsl:s.length≤140737488351232:=by simpa only[reachBytes]using hs
 obtain⟨c,hc⟩:∃c,s[at_]? =some c:=⟨_,Xb ha⟩
 have h0:(0:Int)≤(at_:Int):=by omega
 obtain⟨_,hrun,n,b,rfl,hn⟩:=JH s at_ hs (by omega)
 obtain⟨_,hsign,m,rfl,hm⟩:=aj s at_ hs ha
 obtain⟨_,hclass,q,rfl,hq0,hq4⟩:=dZ (c.toNat:Int)
 have hwn:IntKind.i64.wrap ((at_:Int)+(n:Int))=((at_+n:Nat):Int):=by rw[qI _ (by omega)];omega
 have hwm:IntKind.i64.wrap ((at_:Int)+(m:Int))=((at_+m:Nat):Int):=by rw[qI _ (by omega)];omega
 have l1:(at_:Int)≤((at_+n:Nat):Int):=by omega
 have l2:((at_+n:Nat):Int)≤(s.length:Int):=by omega
 have l3:(at_:Int)≤((at_+m:Nat):Int):=by omega
 have l4:((at_+m:Nat):Int)≤(s.length:Int):=by omega
 obtain⟨x,hx⟩:∃x,x=(s.drop at_).take (at_+n-at_):=⟨_,rfl⟩
 have hxl:x.length≤reachBytes:=by rw[hx];simp only[Q4,z5];omega
 obtain⟨_,hnum,z,rfl⟩:=Hu x hxl
 obtain⟨_,hword,y,rfl⟩:=ua x
 refine xI (xO (by decide)) (fc:=F113) rfl rfl ?_
 simp only[F113,hrun,hsign,hclass,hnum,hword,hwn,hwm,l1,l2,l3,l4,h0,hc,Bp,←hx,KA,frV,aT,cw,nxB,evO,simprocAttr]
 iterate 9
  all_goals try (first
   |(refine oU (fun h=>?_) (fun h=>?_)<;>simp only[h,hrun,hsign,hclass,hnum,hword,hwn,hwm,l1,l2,l3,l4,h0,hc,Bp,←hx,KA,frV,aT,cw,nxB,evO,simprocAttr])
   |(refine pG (fun h=>?_) (fun h=>?_)<;>simp only[h,hrun,hsign,hclass,hnum,hword,hwn,hwm,l1,l2,l3,l4,h0,hc,Bp,←hx,KA,frV,aT,cw,nxB,evO,simprocAttr]))
 all_goals first
  |exact⟨_,_,_,_,_,rfl⟩
theorem nM(s:List UInt8)(hs:s.length≤reachBytes):∃r,eP S 86 [.a (.s s)]=some r∧∃b,r= .a (.b b):=by
 refine xI (xO (by decide)) (fc:=F86) rfl rfl ?_
 simp only[F86,nxB,evO,simprocAttr]
 refine pG (fun h=>?_) (fun h=>?_)
 ·simp only[h,nxB,evO,simprocAttr];exact⟨_,rfl⟩
 ·have hne:0<s.length:=by
   have:s≠[]:=by simpa using h
   exact bD.2 this
  obtain⟨_,hone,k,x,n,a,e,rfl⟩:=CL s 0 hs hne
  have hone':eP S 113 [.a (.s s),.a (.i .i64 0)]=some (.t [(true,[.i .i64 k,.s x,.i .i64 n,.i .i64 a]),(false,[.i .i64 e])]):=hone
  simp only[h,hone',aT,cw,nxB,evO,simprocAttr]
  iterate 3
   all_goals try (first
    |(refine oU (fun h=>?_) (fun h=>?_)<;>simp only[h,aT,cw,nxB,evO,simprocAttr])
    |(refine pG (fun h=>?_) (fun h=>?_)<;>simp only[h,nxB,evO,simprocAttr]))
  all_goals first
   |exact⟨_,rfl⟩
noncomputable def con(s:List UInt8):Bool:=if h:s.length≤reachBytes then Classical.choose (Gb (nM s h)).2 else false
theorem ZF(s:List UInt8)(h:s.length≤reachBytes):eP S 86 [.a (.s s)]=some (.a (.b (con s))):=by
 have h1:=(Gb (nM s h)).1
 have h2:=Gb (Gb (nM s h)).2
 have h3:con s=Classical.choose (Gb (nM s h)).2:=dif_pos h
 rw[h3,←h2];exact h1
def G6(s:List UInt8):Bool:=decide (s=[43])||decide (s=[45])||decide (s=[42])||decide (s=[47])||decide (s=[60])||decide (s=[61,61])
noncomputable def CU(k n:Int)(s:List UInt8)(len:Int)(free:Int)(alt:Bool):Bool:=
 if alt then decide (k=6)&&con s&&decide (n≥0)&&decide (n≤8)&&decide (len=1)
 else if k=1 then decide (s=[])&&decide (len=0)&&decide (n≥0)&&decide (n<free)
 else if k=2 then decide (s=[])&&decide (n=0)&&decide (len=1)
 else if k=3 then decide (s=[])&&decide (n=0)&&decide (len=2)
 else if k=4 then con s&&decide (n=0)&&decide (len≤8)
 else if k=5 then decide (s=[])&&decide (n=0)&&decide (len≥2)&&decide (len≤9)
 else if k=7 then decide (s=[])&&decide (len=0)
 else if k=8 then G6 s&&decide (n=0)&&decide (len=2)
 else if k=9 then decide (s=[])&&decide (n=0)&&decide (len=0)
 else false
noncomputable def Qf(t:T)(free:Int)(alt:Bool):Bool:=CU t.k t.n t.s t.l.length free alt
def wu(free:Int)(alt:Bool)(k n:Int)(s:List UInt8)(l:List T)(e:Env)(σ:St):Prop:=
 e 1= .a (.p (.i .i64 free))∧e 2= .a (.p (.b alt))∧e 3= .a (.ptr (3,0) 0 0)∧σ.bs (3,0)=some (.var [.p (.i .i64 k),.p (.i .i64 n),.p (.s s),.p (.l (l.map enc))])
theorem head_ok{t:T}(ht:T.Ok t)(free:Int)(alt:Bool):eP S 47 [.g (enc t),.a (.i .i64 free),.a (.b alt)]=some (.a (.b (Qf t free alt))):=by
 cases ht with
 |mk k n s l hk hn hs hl h=>
  have hc:=ZF s hs
  have e0:Qf (.mk k n s l) free alt=CU k n s l.length free alt:=rfl
  rw[e0]
  refine Cf (xO (by decide)) (fc:=F47) rfl rfl ?_
  unfold F47
  simp only[enc,It,zx,XM,yh,xG]
  refine H0 (wu free alt k n s l) ?_ fun e σ hM=>?_
  ·simp only[nxB,evO,simprocAttr]
   exact⟨by simp only[nxB,evO,simprocAttr],by simp only[nxB,evO,simprocAttr],by simp only[nxB,evO,simprocAttr],by simp only[nxB,evO,simprocAttr]⟩
  obtain⟨e1,e2,e3,h3⟩:=hM
  refine H0 (fun e σ=>wu free alt k n s l e σ∧e 7= .a (.p (.i .i64 l.length))) ?_ fun e' σ' hM=>?_
  ·simp only[e1,e2,e3,h3,nxB,evO,simprocAttr]
   exact⟨by simp only[e1,nxB,evO,simprocAttr],by simp only[e2,nxB,evO,simprocAttr],by simp only[e3,nxB,evO,simprocAttr],by simp only[h3,nxB,evO,simprocAttr]⟩
  clear e1 e2 e3 h3
  obtain⟨⟨e1,e2,e3,h3⟩,e7⟩:=hM
  refine H0 (fun e σ=>wu free alt k n s l e σ∧e 7= .a (.p (.i .i64 l.length))∧e 8= .a (.p (.b (G6 s)))) ?_ fun e'' σ'' hM=>?_
  ·simp only[e1,e2,e3,e7,h3,nxB,evO,simprocAttr]
   iterate 5
    all_goals try (refine oU (fun h=>?_) (fun h=>?_)<;>simp only[h,e1,e2,e3,e7,h3,nxB,evO,simprocAttr])
   all_goals refine⟨⟨by simp only[e1,nxB,evO,simprocAttr],by simp only[e2,nxB,evO,simprocAttr],by simp only[e3,nxB,evO,simprocAttr],by simp only[h3,nxB,evO,simprocAttr]⟩,?_⟩
   all_goals simp only[G6, *,nxB,evO,simprocAttr]
  clear e1 e2 e3 e7 h3
  obtain⟨⟨e1,e2,e3,h3⟩,e7,e8⟩:=hM
  refine H0 (fun e σ=>wu free alt k n s l e σ∧e 7= .a (.p (.i .i64 l.length))∧e 8= .a (.p (.b (G6 s)))∧e 9= .a (.p (.b (decide (s=[])&&decide (n=0))))) ?_ fun e3' σ3' hM=>?_
  ·simp only[e1,e2,e3,e7,e8,h3,nxB,evO,simprocAttr]
   refine oU (fun h=>?_) (fun h=>?_)<;>simp only[h,e1,e2,e3,e7,e8,h3,nxB,evO,simprocAttr]
   all_goals refine⟨by simp only[e1,nxB,evO,simprocAttr],by simp only[e2,nxB,evO,simprocAttr],by simp only[e3,nxB,evO,simprocAttr],by simp only[h3,nxB,evO,simprocAttr]⟩
  clear e1 e2 e3 e7 e8 h3
  obtain⟨⟨e1,e2,e3,h3⟩,e7,e8,e9⟩:=hM
  cases alt with
  |true=>
   simp only[e1,e2,e3,e7,e8,e9,h3,hc,nxB,evO,simprocAttr]
   iterate 5
    all_goals try (refine oU (fun h=>?_) (fun h=>?_)<;>simp only[h,e1,e2,e3,e7,e8,e9,h3,hc,nxB,evO,simprocAttr])
   all_goals clear e1 e2 e3 e7 e8 e9 h3 hc hl hs hk hn
   all_goals simp only[J2,qp,J6,WQ,decide_eq_true_eq,decide_eq_false_iff_not,ct]at*
   all_goals (refine congrArg (fun z=>some (PT.a (PV.b z))) (Gy.2 ?_);simp_all [CU]<;>omega)
  |false=>
   simp only[e1,e2,e3,e7,e8,e9,h3,hc,nxB,evO,simprocAttr]
   iterate 12
    all_goals try (first
     |(refine oU (fun h=>?_) (fun h=>?_)<;>simp only[h,e1,e2,e3,e7,e8,e9,h3,hc,nxB,evO,simprocAttr])
     |(refine pG (fun h=>?_) (fun h=>?_)<;>simp only[h,e1,e2,e3,e7,e8,e9,h3,hc,nxB,evO,simprocAttr]))
   all_goals clear e1 e2 e3 e7 e8 e9 h3 hc hl hs hk hn
   all_goals simp only[J2,qp,J6,WQ,decide_eq_true_eq,decide_eq_false_iff_not,ct]at*
   all_goals (refine congrArg (fun z=>some (PT.a (PV.b z))) (Gy.2 ?_);simp_all [CU]<;>omega)
def dup(l:List T)(i:Nat)(s:List UInt8):Bool:=((l.take i).drop 1).any fun u=>decide (u.s=s)
mutual
noncomputable def may:T→Int→Bool→Bool
 | .mk k n s l,free,alt=>if free<0 then false else if Qf (.mk k n s l) free alt then mayL k l l 0 (if k=2 then w (free+1)else if k=6 then w (free+n)else free)else false
noncomputable def mayL(k:Int)(all:List T):List T→Nat→Int→Bool
 |[],_,_=>true
 |t::r,i,free=>may t free (decide (k=5)&&decide ((i:Int)>0))&& !(decide (k=5)&&dup all i t.s)&&mayL k all r (i+1) free
end
theorem OT(t:T)(hl:t.l.length*56≤reachBytes)(i:Nat)(x:T)(hi:i<t.l.length)(hx:t.l[i]? =some x)(Q:Ex→Env→St→Prop):
  ∀(m:Nat) (j:Nat) (e:Env) (σ:St),m+j=max i j→1≤j→
   e 3= .a (.ptr (3,0) 0 0)→e 7= .a (.p (.i .i64 (i:Nat)))→e 8= .a (.p (.i .i64 (j:Nat)))→σ.bs (3,0)=some (.var [.p (.i .i64 t.k),.p (.i .i64 t.n),.p (.s t.s),.p (.l (t.l.map enc))])→
   ((decide (t.k=5)&&((t.l.take i).drop j).any fun u=>decide (u.s=x.s))=false→∀e',e' 1=e 1→e' 3=e 3→e' 7=e 7→Q (.exit 2) e' σ)→
   ((decide (t.k=5)&&((t.l.take i).drop j).any fun u=>decide (u.s=x.s))=true→∀e',e' 6= .a (.p (.b false))→Q .ret e' σ)→wp S false (.loop F25b1) e σ Q:=by
 intro m
 induction m with
 |zero=>
  intro j e σ hm hj e3 e7 e8 h3 hQ hR
  have hlt:¬((j:Int)<(i:Int)):=by omega
  rw[xi,F25b1]
  simp only[e3,e7,e8,h3,hlt,nxB,evO,simprocAttr]
  refine hQ ?_ _ ?_ ?_ ?_
  ·rw[nZ (by simp;omega)];simp
  all_goals simp only[nxB,evO,simprocAttr]
 |succ m ih=>
  intro j e σ hm hj e3 e7 e8 h3 hQ hR
  have hlt:((j:Int)<(i:Int)):=by omega
  have h0:(0:Int)≤(j:Int):=by omega
  have h0':(0:Int)≤(i:Int):=by omega
  have hlt2:((j:Int)<(t.l.length:Int)):=by omega
  have hlt3:((i:Int)<(t.l.length:Int)):=by omega
  obtain⟨y,hy⟩:∃y,t.l[j]? =some y:=⟨_,Xb (by omega)⟩
  have hx':(t.l.map enc)[i]? =some (enc x):=by simp[hx]
  have hy':(t.l.map enc)[j]? =some (enc y):=by simp[hy]
  have hlb:t.l.length<9223372036854775807:=by simp only[reachBytes]at hl;omega
  have hdr:(t.l.take i).drop j=y::(t.l.take i).drop (j+1):=by
   rw[iM (by simp;omega)]
   congr 1
   rw[List.getElem_take]
   rw[Xb (by omega)]at hy
   exact BQ hy
  rw[hdr,List.any_cons]at hQ hR
  have hxe:∀z:T,enc z=[.i .i64 z.k,.i .i64 z.n,.s z.s,.l (z.l.map enc)]:=W4
  rw[xi,F25b1]
  simp only[e3,e7,e8,h3,hlt,nxB,evO,simprocAttr]
  refine pG (fun h1=>?_) (fun h1=>?_)
  ·simp only[e3,e7,e8,h3,h1,hlt2,hlt3,h0,h0',KA,hx',hy',dw,PH,hxe,nxB,evO,simprocAttr]
   simp only[h1,Pn]at hQ hR ih
   refine pG (fun h2=>?_) (fun h2=>?_)
   ·simp only[h2,nxB,evO,simprocAttr]
    exact hR (by simp only[h2,Bool.true_or]) _ (by simp only[nxB,evO,simprocAttr])
   ·simp only[e3,e7,e8,h3,h2,nxB,evO,simprocAttr]
    refine ih (j+1) _ σ (by omega) (by omega) ?_ ?_ ?_ h3 ?_ ?_
    all_goals try simp only[e3,e7,e8,nxB,evO,simprocAttr]
    ·rw[zz j (by omega)]
    ·intro hf e' f1 f3 f7
     exact hQ (by rw[h2,fF,hf]) e' f1 (f3.trans e3.symm) (f7.trans e7.symm)
    ·intro hf;exact hR (by rw[h2,fF,hf])
  ·simp only[h1,nxB,evO,simprocAttr]
   refine hQ (by simp only[h1,iS]) _ ?_ ?_ ?_
   all_goals simp only[nxB,evO,simprocAttr]
theorem R8(t:T)(free:Int)(hl:t.l.length*56≤reachBytes)(Q:Ex→Env→St→Prop):
  ∀(rem:List T) (i:Nat) (e:Env) (σ:St),t.l.drop i=rem→i+rem.length=t.l.length→(∀u,u∈rem→∀f a,eP S 25 [.g (enc u),.a (.i .i64 f),.a (.b a)]=some (.a (.b (may u f a))))→
   e 1= .a (.p (.i .i64 free))→e 3= .a (.ptr (3,0) 0 0)→e 7= .a (.p (.i .i64 (i:Nat)))→σ.bs (3,0)=some (.var [.p (.i .i64 t.k),.p (.i .i64 t.n),.p (.s t.s),.p (.l (t.l.map enc))])→
   (mayL t.k t.l rem i free=true→∀e',Q (.exit 0) e' σ)→(mayL t.k t.l rem i free=false→∀e',e' 6= .a (.p (.b false))→Q .ret e' σ)→wp S false (.loop F25b0) e σ Q:=by
 intro rem
 induction rem with
 |nil=>
  intro i e σ hd hi hu e1 e3 e7 h3 hQ hR
  have hlt:¬((i:Int)<(t.l.length:Int)):=by simp at hi;omega
  rw[xi,F25b0]
  simp only[e1,e3,e7,h3,hlt,fxa,fxc,fxE,fxL,fxI,nxE,evO,evR,dV,cM,mkT,lenA,mE,Env.init,JC,O2,frT,klT,PZ,mO,O.adds,MQ,B2,over,eh,yQ,J8,ne_eq,if_true,if_false,ite_self,Nat.reduceLT,Nat.reduceSub,Nat.reduceBEq,Nat.reduceEqDiff,Nat.reduceAdd,Nat.reduceLeDiff,reduceCtorEq,Nat.reduceMul]
  exact hQ rfl _
 |cons x rem ih=>
  intro i e σ hd hi hu e1 e3 e7 h3 hQ hR
  simp only[Ce]at hi
  have hlt:((i:Int)<(t.l.length:Int)):=by omega
  have h0:(0:Int)≤(i:Int):=by omega
  have hx:t.l[i]? =some x:=by rw[←List.head?_drop,hd];rfl
  have hx':(t.l.map enc)[i]? =some (enc x):=by simp[hx]
  have hux:=hu x (by simp)
  have hlb:t.l.length<9223372036854775807:=by simp only[reachBytes]at hl;omega
  have e0:mayL t.k t.l (x::rem) i free=(may x free (decide (t.k=5)&&decide ((i:Int)>0))&& !(decide (t.k=5)&&dup t.l i x.s)&&mayL t.k t.l rem (i+1) free):=rfl
  rw[e0]at hQ hR
  rw[xi,F25b0]
  simp only[e1,e3,e7,h3,hlt,h0,KA,hx',dw,PH,S5,lZ,hux,fxa,fxc,fxE,fxL,fxI,nxE,evO,evR,dV,cM,mkT,lenA,mE,Env.init,JC,O2,frT,klT,PZ,mO,O.adds,MQ,B2,over,eh,yQ,J8,ne_eq,if_true,if_false,ite_self,Nat.reduceLT,Nat.reduceSub,Nat.reduceBEq,Nat.reduceEqDiff,Nat.reduceAdd,Nat.reduceLeDiff,reduceCtorEq,Nat.reduceMul]
  have fin:∀(b:Bool),(decide (t.k=5)&&decide ((i:Int)>0))=b→∀(e:Env),e 1= .a (.p (.i .i64 free))→e 3= .a (.ptr (3,0) 0 0)→e 7= .a (.p (.i .i64 (i:Nat)))→
    (may x free b=false→∀e',e' 6= .a (.p (.b false))→Q .ret e' σ)→True:=fun _ _ _ _ _ _ _=>trivial
  have step:∀(e:Env),may x free (decide (t.k=5)&&decide ((i:Int)>0))=true→e 1= .a (.p (.i .i64 free))→e 3= .a (.ptr (3,0) 0 0)→e 7= .a (.p (.i .i64 (i:Nat)))→e 8= .a (.p (.i .i64 1))→
    wp S false (.loop F25b1) e σ (tM 2 (tM 1 (Q5 S false (.reg [⟨some 35,none,.mv (.t 7),.any⟩,⟨some 36,none,.bin .add (.t 35) (.c (.a (.p (.i .i64 1)))),.any⟩,⟨some 7,none,.mv (.t 36),.any⟩]) (UD S false F25b0 Q)))):=by
   intro e hm e1 e3 e7 e8
   refine OT t hl i x (by omega) hx _ (max i 1-1) 1 e σ (by omega) (by omega) e3 e7 e8 h3 (fun hf e' f1 f3 f7=>?_) (fun hf e' he'=>?_)
   ·rw[e1]at f1;rw[e3]at f3;rw[e7]at f7
    simp only[f1,f3,f7,fxa,fxc,fxE,fxL,fxI,nxE,evO,evR,dV,cM,mkT,lenA,mE,Env.init,JC,O2,frT,klT,PZ,mO,O.adds,MQ,B2,over,eh,yQ,J8,ne_eq,if_true,if_false,ite_self,Nat.reduceLT,Nat.reduceSub,Nat.reduceBEq,Nat.reduceEqDiff,Nat.reduceAdd,Nat.reduceLeDiff,reduceCtorEq,Nat.reduceMul]
    refine ih (i+1) _ σ (by rw[←dJ,hd];rfl) (by omega) (fun u hu'=>hu u (by simp[hu'])) ?_ ?_ ?_ h3 ?_ ?_
    all_goals try simp only[f1,f3,f7,fxa,fxc,fxE,fxL,fxI,nxE,evO,evR,dV,cM,mkT,lenA,mE,Env.init,JC,O2,frT,klT,PZ,mO,O.adds,MQ,B2,over,eh,yQ,J8,ne_eq,if_true,if_false,ite_self,Nat.reduceLT,Nat.reduceSub,Nat.reduceBEq,Nat.reduceEqDiff,Nat.reduceAdd,Nat.reduceLeDiff,reduceCtorEq,Nat.reduceMul]
    ·rw[zz i (by omega)]
    ·intro hm';exact hQ (by rw[hm,dup,hf,hm'];rfl)
    ·intro hm';exact hR (by rw[hm,dup,hf,hm'];rfl)
   ·simp only[he',fxa,fxc,fxE,fxL,fxI,nxE,evO,evR,dV,cM,mkT,lenA,mE,Env.init,JC,O2,frT,klT,PZ,mO,O.adds,MQ,B2,over,eh,yQ,J8,ne_eq,if_true,if_false,ite_self,Nat.reduceLT,Nat.reduceSub,Nat.reduceBEq,Nat.reduceEqDiff,Nat.reduceAdd,Nat.reduceLeDiff,reduceCtorEq,Nat.reduceMul]
    exact hR (by rw[hm,dup,hf];rfl) _ he'
  refine oU (fun h1=>?_) (fun h1=>?_)
  all_goals try simp only[WQ]at h1
  all_goals simp only[h1,Pn,iS]at step hQ hR⊢
  all_goals simp only[e1,e3,e7,h3,h1,hlt,h0,KA,hx',dw,PH,S5,lZ,hux,fxa,fxc,fxE,fxL,fxI,nxE,evO,evR,dV,cM,mkT,lenA,mE,Env.init,JC,O2,frT,klT,PZ,mO,O.adds,MQ,B2,over,eh,yQ,J8,ne_eq,if_true,if_false,ite_self,Nat.reduceLT,Nat.reduceSub,Nat.reduceBEq,Nat.reduceEqDiff,Nat.reduceAdd,Nat.reduceLeDiff,reduceCtorEq,Nat.reduceMul]
  all_goals refine pG (fun h2=>?_) (fun h2=>?_)
  all_goals simp only[J2,qp,J6,WQ,decide_eq_true_eq,decide_eq_false_iff_not,ct]at h2
  all_goals try (simp only[fxa,fxc,fxE,fxL,fxI,nxE,evO,evR,dV,cM,mkT,lenA,mE,Env.init,JC,O2,frT,klT,PZ,mO,O.adds,MQ,B2,over,eh,yQ,J8,ne_eq,if_true,if_false,ite_self,Nat.reduceLT,Nat.reduceSub,Nat.reduceBEq,Nat.reduceEqDiff,Nat.reduceAdd,Nat.reduceLeDiff,reduceCtorEq,Nat.reduceMul];exact hR (by rw[h2];rfl) _ (by simp only[fxa,fxc,fxE,fxL,fxI,nxE,evO,evR,dV,cM,mkT,lenA,mE,Env.init,JC,O2,frT,klT,PZ,mO,O.adds,MQ,B2,over,eh,yQ,J8,ne_eq,if_true,if_false,ite_self,Nat.reduceLT,Nat.reduceSub,Nat.reduceBEq,Nat.reduceEqDiff,Nat.reduceAdd,Nat.reduceLeDiff,reduceCtorEq,Nat.reduceMul]))
  all_goals simp only[fxa,fxc,fxE,fxL,fxI,nxE,evO,evR,dV,cM,mkT,lenA,mE,Env.init,JC,O2,frT,klT,PZ,mO,O.adds,MQ,B2,over,eh,yQ,J8,ne_eq,if_true,if_false,ite_self,Nat.reduceLT,Nat.reduceSub,Nat.reduceBEq,Nat.reduceEqDiff,Nat.reduceAdd,Nat.reduceLeDiff,reduceCtorEq,Nat.reduceMul]
  all_goals exact step _ h2 (by simp only[e1,fxa,fxc,fxE,fxL,fxI,nxE,evO,evR,dV,cM,mkT,lenA,mE,Env.init,JC,O2,frT,klT,PZ,mO,O.adds,MQ,B2,over,eh,yQ,J8,ne_eq,if_true,if_false,ite_self,Nat.reduceLT,Nat.reduceSub,Nat.reduceBEq,Nat.reduceEqDiff,Nat.reduceAdd,Nat.reduceLeDiff,reduceCtorEq,Nat.reduceMul]) (by simp only[e3,fxa,fxc,fxE,fxL,fxI,nxE,evO,evR,dV,cM,mkT,lenA,mE,Env.init,JC,O2,frT,klT,PZ,mO,O.adds,MQ,B2,over,eh,yQ,J8,ne_eq,if_true,if_false,ite_self,Nat.reduceLT,Nat.reduceSub,Nat.reduceBEq,Nat.reduceEqDiff,Nat.reduceAdd,Nat.reduceLeDiff,reduceCtorEq,Nat.reduceMul]) (by simp only[e7,fxa,fxc,fxE,fxL,fxI,nxE,evO,evR,dV,cM,mkT,lenA,mE,Env.init,JC,O2,frT,klT,PZ,mO,O.adds,MQ,B2,over,eh,yQ,J8,ne_eq,if_true,if_false,ite_self,Nat.reduceLT,Nat.reduceSub,Nat.reduceBEq,Nat.reduceEqDiff,Nat.reduceAdd,Nat.reduceLeDiff,reduceCtorEq,Nat.reduceMul]) (by simp only[fxa,fxc,fxE,fxL,fxI,nxE,evO,evR,dV,cM,mkT,lenA,mE,Env.init,JC,O2,frT,klT,PZ,mO,O.adds,MQ,B2,over,eh,yQ,J8,ne_eq,if_true,if_false,ite_self,Nat.reduceLT,Nat.reduceSub,Nat.reduceBEq,Nat.reduceEqDiff,Nat.reduceAdd,Nat.reduceLeDiff,reduceCtorEq,Nat.reduceMul])
theorem Vl{t:T}(ht:T.Ok t):∀(free:Int) (alt:Bool),eP S 25 [.g (enc t),.a (.i .i64 free),.a (.b alt)]=some (.a (.b (may t free alt))):=by
 induction ht with
 |mk k n s l hk hn hs hl h ih=>
  intro free alt
  have hh:=head_ok (.mk k n s l hk hn hs hl h) free alt
  have e0:may (.mk k n s l) free alt=if free<0 then false else if Qf (.mk k n s l) free alt then mayL k l l 0 (if k=2 then w (free+1)else if k=6 then w (free+n)else free)else false:=rfl
  rw[e0]
  rw[enc,It]at hh
  refine Cf (xO (by decide)) (fc:=F25) rfl rfl ?_
  simp only[F25,enc,It,nxB,evO,simprocAttr]
  have fin:∀(f:Int) (e:Env) (σ:St),e 1= .a (.p (.i .i64 f))→e 3= .a (.ptr (3,0) 0 0)→e 7= .a (.p (.i .i64 0))→σ.bs (3,0)=some (.var [.p (.i .i64 k),.p (.i .i64 n),.p (.s s),.p (.l (l.map enc))])→
    wp S false (.loop F25b0) e σ (tM 0 (Q5 S false ((C.reg [⟨some 6,none,.mv (.c (.a (.p (.b true)))),.any⟩]).seq C.ret) (zQ [Rs.tmp 6] (PT.a (PV.b (mayL k l l 0 f)))))):=by
   intro f e σ e1 e3 e7 h3
   refine R8 (.mk k n s l) f hl _ l 0 e σ rfl (by simp[T.l]) (fun u hu=>ih u hu) e1 e3 e7 h3 (fun hm e'=>?_) (fun hm e' he'=>?_)
   ·simp only[T.k,T.l]at hm;simp only[hm,nxB,evO,simprocAttr]
   ·simp only[T.k,T.l]at hm;simp only[hm,he',nxB,evO,simprocAttr]
  refine oU (fun h1=>?_) (fun h1=>?_)
  all_goals simp only[h1,hh,nxB,evO,simprocAttr]
  ·simp only[J2,qp,J6,WQ,decide_eq_true_eq,decide_eq_false_iff_not,ct]at h1
   rw[if_neg (by omega)]
   refine pG (fun h2=>?_) (fun h2=>?_)
   ·simp only[J2,qp,J6,WQ,decide_eq_true_eq,decide_eq_false_iff_not,ct]at h2;simp only[h2,nxB,evO,simprocAttr]
   ·simp only[J2,qp,J6,WQ,decide_eq_true_eq,decide_eq_false_iff_not,ct]at h2;simp only[h2,nxB,evO,simprocAttr]
    refine pG (fun h3=>?_) (fun h3=>?_)
    ·simp only[J2,qp,J6,WQ,decide_eq_true_eq,decide_eq_false_iff_not,ct]at h3
     subst h3
     simp only[Int.reduceEq,nxB,evO,simprocAttr]
     exact fin _ _ _ (by simp only[nxB,evO,simprocAttr]) (by simp only[nxB,evO,simprocAttr]) (by simp only[nxB,evO,simprocAttr]) (by simp only[nxB,evO,simprocAttr])
    ·simp only[J2,qp,J6,WQ,decide_eq_true_eq,decide_eq_false_iff_not,ct]at h3
     rw[if_neg h3]
     simp only[nxB,evO,simprocAttr]
     refine pG (fun h4=>?_) (fun h4=>?_)
     ·simp only[J2,qp,J6,WQ,decide_eq_true_eq,decide_eq_false_iff_not,ct]at h4
      rw[if_pos h4]
      simp only[nxB,evO,simprocAttr]
      exact fin _ _ _ (by simp only[nxB,evO,simprocAttr]) (by simp only[nxB,evO,simprocAttr]) (by simp only[nxB,evO,simprocAttr]) (by simp only[nxB,evO,simprocAttr])
     ·simp only[J2,qp,J6,WQ,decide_eq_true_eq,decide_eq_false_iff_not,ct]at h4
      rw[if_neg h4]
      simp only[nxB,evO,simprocAttr]
      exact fin _ _ _ (by simp only[nxB,evO,simprocAttr]) (by simp only[nxB,evO,simprocAttr]) (by simp only[nxB,evO,simprocAttr]) (by simp only[nxB,evO,simprocAttr])
  ·simp only[J2,qp,J6,WQ,decide_eq_true_eq,decide_eq_false_iff_not,ct]at h1
   rw[if_pos h1]
theorem sS{t:T}(ht:T.Ok t)(f:Int):eP S 10 [.g (enc t),.a (.i .i64 f)]=some (.a (.b (may t f false))):=by
 have h:=Vl ht f false
 refine Cf (xO (by decide)) (fc:=F10) rfl rfl ?_
 simp only[F10,dw,lZ,Ls,h,fxa,fxc,fxE,fxL,fxI,nxE,evO,evR,dV,cM,mkT,lenA,mE,Env.init,JC,O2,frT,klT,PZ,mO,O.adds,MQ,B2,over,eh,yQ,J8,ne_eq,if_true,if_false,ite_self,Nat.reduceLT,Nat.reduceSub,Nat.reduceBEq,Nat.reduceEqDiff,Nat.reduceAdd,Nat.reduceLeDiff,reduceCtorEq,Nat.reduceMul]
def T.more(t:T):Int:=if t.k=2 then 1 else if t.k=6 then t.n else 0
theorem Zl{k n:Int}{s:List UInt8}{l:List T}{f:Int}{a:Bool}(h:Qf (.mk k n s l) f a=true):(k=1→a=false∧0≤n∧n<f∧s=[]∧l=[])∧(k=6↔a=true)∧0≤T.more (.mk k n s l)∧T.more (.mk k n s l)≤8:=by
 have e:Qf (.mk k n s l) f a=CU k n s l.length f a:=rfl
 have em:T.more (.mk k n s l)=if k=2 then 1 else if k=6 then n else 0:=rfl
 rw[e]at h
 rw[em]
 unfold CU at h
 split at h
 ·simp only[Cd,decide_eq_true_eq]at h
  rename_i ha
  subst ha
  obtain⟨⟨⟨⟨h1,h2⟩,h3⟩,h4⟩,h5⟩:=h
  subst h1
  simp;omega
 ·rename_i ha
  have ha:a=false:=by simpa using ha
  subst ha
  by_cases h1:k=1
  ·subst h1
   simp at h
   simp
   exact⟨h.1.2,h.2,h.1.1.1,h.1.1.2⟩
  ·have h6:k≠6:=by
    rintro rfl
    simp at h
   simp[h1,h6]
   split<;>omega
theorem JG(k:Int)(all:List T)(free:Int):∀(l:List T) (i:Nat),mayL k all l i free=true↔∀j t,l[j]? =some t→may t free (decide (k=5)&&decide (((i+j:Nat):Int)>0))=true∧(k=5→dup all (i+j) t.s=false)
 |[],i=>by simp[mayL]
 |t::r,i=>by
  simp only[mayL,Cd]
  rw[JG k all free r (i+1)]
  constructor
  ·rintro⟨⟨h1,h2⟩,h3⟩ j u hj
   cases j with
   |zero=>
    simp only[aT,Lo]at hj
    subst hj
    refine⟨by simpa using h1,fun hk=>?_⟩
    simpa [hk]using h2
   |succ j=>
    simp only[cw]at hj
    have:=h3 j u hj
    rwa [show i+1+j=i+(j+1) by omega]at this
  ·intro h
   refine⟨⟨?_,?_⟩,fun j u hj=>?_⟩
   ·simpa using(h 0 t rfl).1
   ·by_cases hk:k=5
    ·have:=(h 0 t rfl).2 hk
     simp[hk];simpa using this
    ·simp[hk]
   ·have:=h (j+1) u (by simpa using hj)
    rwa [show i+(j+1)=i+1+j by omega]at this
theorem may_iff{k n:Int}{s:List UInt8}{l:List T}{f:Int}{a:Bool}(hf:0≤f)(hb:f+8≤9223372036854775807):may (.mk k n s l) f a=true↔Qf (.mk k n s l) f a=true∧∀j t,l[j]? =some t→may t (f+T.more (.mk k n s l)) (decide (k=5)&&decide (((j:Nat):Int)>0))=true∧(k=5→dup l j t.s=false):=by
 have e:may (.mk k n s l) f a=if f<0 then false else if Qf (.mk k n s l) f a then mayL k l l 0 (if k=2 then w (f+1)else if k=6 then w (f+n)else f)else false:=rfl
 rw[e,if_neg (by omega)]
 by_cases hh:Qf (.mk k n s l) f a=true
 ·rw[if_pos hh,JG]
  have hm:=(Zl hh).2.2
  have em:T.more (.mk k n s l)=if k=2 then 1 else if k=6 then n else 0:=rfl
  have hw:(if k=2 then w (f+1)else if k=6 then w (f+n)else f)=f+T.more (.mk k n s l):=by
   rw[em]at hm⊢
   split
   ·rw[Sa _ (by omega)]
   ·rename_i h2
    rw[if_neg h2]at hm
    split
    ·rename_i h6;rw[if_pos h6]at hm;rw[Sa _ (by omega)]
    ·omega
  rw[hw]
  simp only[hh,true_and,Fy]
 ·simp only[hh,if_false,false_and];simp
end Go.Proofs.YtmlhgalboabjcaaGreat.Tm
namespace Go.Proofs.YtmlhgalboabjcaaGreat
open Go.Fx
theorem rA{n:Nt}(hn:n.ns.length*88≤140737488355328)(hne:n.ns≠[])(σ:St):
  ∃v σ',eS S (.f 128) [.g ((Ip n).map .p)] σ=some (v,σ')∧∃k:Key,v= .g [.own k 0 n.ns.length,.p (.i .i64 n.cap)]∧
   σ'.bs k=some (.row 6 46 (n.ns.map Ug))∧σ.clk≤k.2∧k.2<σ'.clk∧σ'.ls=σ.ls∧∀s:Key,s.2<σ.clk→σ'.bs s=σ.bs s:=by
 refine ZE (fc:=F128) rfl rfl ?_
 obtain⟨c,hc⟩:∃c,σ.clk=c:=⟨_,rfl⟩
 have hpos:0<n.ns.length:=bD.2 hne
 simp only[F128,hc,nxB,evO,simprocAttr]
 have hold:∀{s:Key} {d k:Nat},s.2<c→¬s=(d,c+k):=by rintro s d k hs rfl;simp at hs;omega
 have hold0:∀{s:Key} {d:Nat},s.2<c→¬s=(d,c):=by rintro s d hs rfl;simp at hs
 refine Fs n.ns.length (fun i e σ'=>e 1= .a (.ptr (1,c) 0 0)∧e 2= .a (.ptr (2,c+1) 0 0)∧e 3= .a (.ptr (3,c+1+1) 0 0)∧e 4= .a (.p (.i .i64 (i:Nat)))∧σ'.bs (1,c)=some (.var [.p (.l (n.ns.map Ug)),.p (.i .i64 n.cap)])∧σ'.bs (2,c+1)=some (.var [.nil,.p (.i .i64 0)])∧
  (∃x,σ'.bs (3,c+1+1)=some (.var [x,.p (.i .i64 n.cap)])∧(i=0∧x= .nil∨∃q:Nat,x= .own (23,q) 0 i∧σ'.bs (23,q)=some (.row 6 46 ((n.ns.take i).map Ug))∧c+2<q∧q<σ'.clk))∧c+3≤σ'.clk∧σ'.ls=σ.ls∧∀s:Key,s.2<c→σ'.bs s=σ.bs s) (i0:=0) (ji _) ?_ ?_ ?_
 ·refine⟨?_,?_,?_,?_,?_,?_,⟨.nil,?_,.inl ⟨rfl,rfl⟩⟩,?_,?_,fun s hs=>?_⟩<;>simp only[hc,nxB,evO,Nat.reduceLT,Nat.reduceSub,Nat.reduceBEq,Nat.reduceEqDiff,Nat.reduceAdd,Nat.reduceLeDiff,reduceCtorEq,Nat.reduceMul]
  all_goals first|rfl|omega|skip
  simp only[hold hs,hold0 hs,Qp,if_false]
 ·rintro i e σ' hi ⟨e1,e2,e3,e4,s1,s2,⟨x,s3,hx⟩,hclk,hls,hs⟩
  obtain⟨y,hy⟩:∃y,n.ns[i]? =some y:=⟨_,Xb hi⟩
  have hy':=Kr Ug hy
  have hlt:((i:Nat):Int)<(n.ns.length:Int):=by omega
  have hge:(0:Int)≤((i:Nat):Int):=by omega
  have htk:(n.ns.take (i+1)).map Ug=(n.ns.take i).map Ug++[Ug y]:=by rw[Oq,hy];simp
  have hb:(i+1)*88≤140737488355328:=by omega
  have hlen:(List.take i n.ns).length=i:=by rw[Q4];omega
  have hold':∀{s:Key} {d:Nat},s.2<c→¬s=(d,σ'.clk)∧¬s=(d,σ'.clk+1):=by rintro s d hs;exact⟨by rintro rfl;simp at hs;omega,by rintro rfl;simp at hs;omega⟩
  have hne1:∀d:Nat,¬c=σ'.clk∧¬c=σ'.clk+1∧¬c+1=σ'.clk∧¬c+1=σ'.clk+1∧¬c+1+1=σ'.clk∧¬c+1+1=σ'.clk+1:=by intro d;omega
  rcases hx with⟨rfl,rfl⟩|⟨q,rfl,hq,hq1,hq2⟩
  ·simp only[F128b0,e1,e2,e3,e4,s1,s2,s3,hlt,hge,hy',KA,Fy,SZ,Nat.reduceLeDiff,nxB,evO,Nat.reduceLT,Nat.reduceSub,Nat.reduceBEq,Nat.reduceEqDiff,Nat.reduceAdd,Nat.reduceLeDiff,reduceCtorEq,Nat.reduceMul]
   refine⟨by rw[zz 0 (by omega)],⟨.own (23,σ'.clk+1) 0 1,rfl,.inr ⟨σ'.clk+1,rfl,?_,by omega,by omega⟩⟩,by omega,hls,fun s h=>?_⟩
   try·rw[htk];simp[Ug]
   ·have h3:¬s=(3,c+1+1):=by rintro rfl;simp at h;omega
    simp only[(hold' (d:=22) h).1,(hold' (d:=23) h).2,h3,if_false];exact hs s h
  ·have h1:¬q=σ'.clk:=by omega
   have h2:¬q=σ'.clk+1:=by omega
   have hle:i≤((n.ns.take i).map Ug).length:=by simp;omega
   have htk2:List.take i ((n.ns.take i).map Ug)=(n.ns.take i).map Ug:=Ea (by simp;omega)
   simp only[F128b0,e1,e2,e3,e4,s1,s2,s3,hq,hlt,hge,hy',hb,hlen,h1,h2,htk2,mB,nh,KA,Fy,SZ,Nat.reduceLeDiff,nxB,evO,simprocAttr]
   refine⟨by rw[zz i (by omega)],⟨.own (23,σ'.clk+1) 0 (i+1),rfl,.inr ⟨σ'.clk+1,rfl,?_,by omega,by omega⟩⟩,by omega,hls,fun s h=>?_⟩
   ·rw[htk];simp[Ug]
   ·have h3:¬s=(3,c+1+1):=by rintro rfl;simp at h;omega
    have h4:¬s=(23,q):=by rintro rfl;simp at h;omega
    simp only[(hold' (d:=22) h).1,(hold' (d:=23) h).2,h3,h4,if_false];exact hs s h
 ·rintro e σ' ⟨e1,e2,e3,e4,s1,s2,⟨x,s3,hx⟩,hclk,hls,hs⟩
  have hlt:¬((n.ns.length:Nat):Int)<(n.ns.length:Int):=by omega
  rcases hx with⟨h0,_⟩|⟨q,rfl,hq,hq1,hq2⟩
  ·omega
  ·rw[QL]at hq
   simp only[F128b0,e1,e2,e3,e4,s1,s2,s3,hq,hlt,nxB,evO,simprocAttr]
   refine⟨(23,q),rfl,?_,by simp;omega,by simpa using hq2,hls,fun s h=>?_⟩
   ·rw[if_neg (by simp)];exact hq
   ·have h2:¬s=(2,c+1):=by rintro rfl;simp at h;omega
    simp only[h2,if_false];exact hs s h
theorem qC{n:Nt}{p:Pt}(q:Pt)(hn:n.Ok)(h:n.has p=true):eP S 92 [.g (Ip n),.g (xN p),.g (xN q)]=some (.g (Ip (n.set p q))):=by
 have hp:=sJ.1 h
 have g:=vH (l:=n.ns) hp.1 hp.2.1
 have hx:(n.nd p.n).Ok:=hn.nd _ (oP hp.1 hp.2.1)
 have hto:=hx.to
 have hns:=hn.ns
 have h4:=hp.2.2.2
 have g2:=FA (l:=(n.nd p.n).to) hp.2.2.1 h4
 obtain⟨σ0,hσ0⟩:∃σ0,σ0=(((St.empty.add 3 (.var ((Ip n).map .p))).add 4 (.var ((xN p).map .p))).add 5 (.var ((xN q).map .p))).add 6 (.var [.nil,.p (.i .i64 0)]):=⟨_,rfl⟩
 obtain⟨v,σ1,hcall,k,rfl,sk,hk1,hk2,hls,hold⟩:=rA (n:=n) (by simpa using hns) (by intro h;rw[h]at hp;simp at hp;omega) σ0
 have hclk:σ0.clk=4:=by rw[hσ0];rfl
 rw[hclk]at hk1 hold
 have s3:σ1.bs (3,0)=some (.var ((Ip n).map .p)):=by rw[hold _ (by simp),hσ0];simp[Mq,Bv,Sx]
 have s4:σ1.bs (4,1)=some (.var ((xN p).map .p)):=by rw[hold _ (by simp),hσ0];simp[Mq,Bv,Sx]
 have s5:σ1.bs (5,2)=some (.var ((xN q).map .p)):=by rw[hold _ (by simp),hσ0];simp[Mq,Bv,Sx]
 have s6:σ1.bs (6,3)=some (.var [.nil,.p (.i .i64 0)]):=by rw[hold _ (by simp),hσ0];simp[Mq,Bv,Sx]
 rw[hσ0]at hcall
 obtain⟨x,hxe⟩:∃x,n.ns.getD p.n.toNat zN=x:=⟨_,rfl⟩
 simp only[Nt.nd,hxe]at h4 g g2 hto
 simp only[Ip,xN,zx,XM,mB]at hcall s3 s4 s5 s6
 obtain⟨c,hc⟩:∃c,σ1.clk=c:=⟨_,rfl⟩
 have n1:∀d j:Nat,¬k=(d,c+j):=by rintro d j rfl;simp at hk2;omega
 have n1':∀d i j:Nat,¬k=(d,c+i+j):=by rintro d i j rfl;simp at hk2;omega
 have n5':∀d i j:Nat,¬(d,c+i+j)=k:=fun d i j e=>n1' d i j e.symm
 have n2:∀d:Nat,¬k=(d,c):=by rintro d rfl;simp at hk2;omega
 have n3:¬k=(3,0)∧¬k=(4,1)∧¬k=(5,2)∧¬k=(6,3):=by refine⟨?_,?_,?_,?_⟩<;>(rintro rfl;simp at hk1)
 have n7:¬(3,0)=k∧¬(4,1)=k∧¬(5,2)=k∧¬(6,3)=k:=⟨fun e=>n3.1 e.symm,fun e=>n3.2.1 e.symm,fun e=>n3.2.2.1 e.symm,fun e=>n3.2.2.2 e.symm⟩
 have n4:¬0=c∧¬1=c∧¬2=c∧¬3=c:=by omega
 have n5:∀d j:Nat,¬(d,c+j)=k:=fun d j e=>n1 d j e.symm
 have n6:∀d:Nat,¬(d,c)=k:=fun d e=>n2 d e.symm
 have hlt0:p.n.toNat<n.ns.length:=by omega
 have htk:List.take x.to.length (x.to.map xN)=x.to.map xN:=Ea (by simp)
 have hset:∀r:List PV,List.take x.to.length ((x.to.map xN).set p.s.toNat r)=(x.to.map xN).set p.s.toNat r:=fun r=>Ea (by simp)
 have hset2:∀r:List PV,List.take n.ns.length ((n.ns.map Ug).set p.n.toNat r)=(n.ns.map Ug).set p.n.toNat r:=fun r=>Ea (by simp)
 have htk0:List.take n.ns.length (n.ns.map Ug)=n.ns.map Ug:=Ea (by simp)
 refine Cf (xO (by decide)) (fc:=F92) rfl rfl ?_
 simp only[F92,hcall,hc,sk,s3,s4,s5,s6,hp.1,hp.2.1,hp.2.2.1,h4,g,g2,n1,n1',n5',n2,n3.1,n3.2.1,n3.2.2.1,n3.2.2.2,n7.1,n7.2.1,n7.2.2.1,n7.2.2.2,n4.1,n4.2.1,n4.2.2.1,n4.2.2.2,n5,n6,htk,hset,hset2,htk0,Ci,hto,hlt0,rm,mB,nh,Fy,ji,Nat.zero_mul,List.all_nil,ne_eq,not_false_eq_true,nxB,evO,simprocAttr]
 simp only[Nt.set,Nt.nd,hxe,JV,Ug,xN]
theorem Gx{n:Nt}{p q:Pt}(hn:n.Ok)(hp:wf p.n∧wf p.s)(hq:wf q.n∧wf q.s):eP S 51 [.g (Ip n),.g (xN p),.g (xN q)]=some (qX (KD n p q)):=by
 have a1:=uA n p
 have a1':=uA n q
 refine Cf (xO (by decide)) (fc:=F51) rfl rfl ?_
 simp only[Ip,xN]at a1 a1'
 unfold KD
 cases h1:n.has p with
 |false=>rw[h1]at a1;simp only[F51,a1,qX,SY,nxB,evO,simprocAttr]
 |true=>
 cases h1':n.has q with
 |false=>rw[h1]at a1;rw[h1']at a1';simp only[F51,a1,a1',qX,SY,nxB,evO,simprocAttr]
 |true=>
  rw[h1]at a1
  rw[h1']at a1'
  by_cases h2:p=q
  ·subst h2
   simp only[F51,a1,qX,DP,SY,WQ,nxB,evO,simprocAttr]
  ·have a2:=qC q hn h1
   have a3:=qC p (yd hn h1 hq) (by rw[HG q q h1];exact h1')
   simp only[Ip,xN]at a2 a3
   simp only[F51,a1,a1',a2,a3,h2,qX,DP,nxB,evO,simprocAttr]
theorem gV{rd:Bool}{a b:C}{e:Env}{σ:St}{Q:Ex→Env→St→Prop}(M:Env→St→Prop)(h:wp S rd a e σ (LQ M Q))(k:∀e' σ',M e' σ'→wp S rd b e' σ' Q):wp S rd (.seq a b) e σ Q:=by
 rw[o7]
 refine Go.Fx.wp_mono h fun x e' σ' q=>?_
 cases x with
 |norm=>exact k e' σ' q
 |exit id=>exact q
 |ret=>exact q
def Nd.ports(x:Nd):Int:=
 if x.k=1∨x.k=7∨x.k=10∨x.k=13 then 1 else if x.k=5∨x.k=6∨x.k=12 then 2 else if x.k=2∨x.k=3∨x.k=4∨x.k=11 then 3 else if x.k=8 then x.to.length else if x.k=9 then 2+x.al.length else 0
theorem fC{x:Nd}(hx:x.Ok):eP S 34 [.g (Ug x)]=some (.a (.i .i64 x.ports)):=by
 refine Cf (xO (by decide)) (fc:=F34) rfl rfl ?_
 have hal:=hx.al
 have hw:IntKind.i64.wrap (2+(x.al.length:Int))=2+x.al.length:=qI _ (by omega)
 unfold Nd.ports
 by_cases h1:x.k=1
 ·simp only[F34,h1,Int.reduceEq,or_true,true_or,or_false,false_or,nxB,evO,simprocAttr]
 by_cases h2:x.k=7
 ·simp only[F34,h2,Int.reduceEq,or_true,true_or,or_false,false_or,nxB,evO,simprocAttr]
 by_cases h3:x.k=10
 ·simp only[F34,h3,Int.reduceEq,or_true,true_or,or_false,false_or,nxB,evO,simprocAttr]
 by_cases h4:x.k=13
 ·simp only[F34,h4,Int.reduceEq,or_true,true_or,or_false,false_or,nxB,evO,simprocAttr]
 by_cases h5:x.k=5
 ·simp only[F34,h5,Int.reduceEq,or_true,true_or,or_false,false_or,nxB,evO,simprocAttr]
 by_cases h6:x.k=6
 ·simp only[F34,h6,Int.reduceEq,or_true,true_or,or_false,false_or,nxB,evO,simprocAttr]
 by_cases h7:x.k=12
 ·simp only[F34,h7,Int.reduceEq,or_true,true_or,or_false,false_or,nxB,evO,simprocAttr]
 by_cases h8:x.k=2
 ·simp only[F34,h8,Int.reduceEq,or_true,true_or,or_false,false_or,nxB,evO,simprocAttr]
 by_cases h9:x.k=3
 ·simp only[F34,h9,Int.reduceEq,or_true,true_or,or_false,false_or,nxB,evO,simprocAttr]
 by_cases h10:x.k=4
 ·simp only[F34,h10,Int.reduceEq,or_true,true_or,or_false,false_or,nxB,evO,simprocAttr]
 by_cases h11:x.k=11
 ·simp only[F34,h11,Int.reduceEq,or_true,true_or,or_false,false_or,nxB,evO,simprocAttr]
 by_cases h12:x.k=8
 ·simp only[F34,h12,Int.reduceEq,or_true,true_or,or_false,false_or,nxB,evO,simprocAttr]
 by_cases h13:x.k=9
 ·simp only[F34,h13,hw,Int.reduceEq,or_true,true_or,or_false,false_or,nxB,evO,simprocAttr]
 ·simp only[F34,h1,h2,h3,h4,h5,h6,h7,h8,h9,h10,h11,h12,h13,or_false,false_or,nxB,evO,simprocAttr]
def BB(l:List Ar):Prop:=∀(i:Nat) (a:Ar),l[i]? =some a→a.s≠[]∧0≤a.n∧a.n≤8∧∀(j:Nat) (b:Ar),j<i→l[j]? =some b→b.s≠a.s
structure Nd.may(x:Nd):Prop where
 k0:0≤x.k
 k1:x.k≤13
 lv0:0≤x.lv
 lv1:x.lv≤60
 lv2:x.k<2→x.lv≤0
 nm:x.s≠[]↔(x.k=8∨x.k=11∨x.k=12)
 nn:x.n≠0→x.k=10∨x.k=12
 to8:x.k=8→1≤(x.to.length:Int)∧(x.to.length:Int)≤9
 al9:x.k=9→1≤(x.al.length:Int)
 aln:x.k≠9→(x.al.length:Int)≤0
 al8:(x.al.length:Int)≤8
 alt:BB x.al
def NdM(x:Nd)(e:Env)(σ:St):Prop:=e 1= .a (.ptr (1,0) 0 0)∧σ.bs (1,0)=some (.var [.p (.i .i64 x.k),.p (.i .i64 x.lv),.p (.i .i64 x.n),.p (.s x.s),.p (.l (x.al.map uO)),.p (.l (x.to.map xN))])
theorem xg{x:Nd}(hx:x.Ok):eP S 33 [.g (Ug x)]=some (.a (.b (bool x.may))):=by
 refine ml (xO (by decide)) (fc:=F33) rfl rfl ?_
 have hal:=hx.al
 unfold F33
 simp only[Ug,zx,XM,yh]
 refine gV (NdM x) ?_ fun e σ hM=>?_
 ·simp only[nxB,evO,simprocAttr]
  exact⟨by simp only[nxB,evO,simprocAttr],by simp only[nxB,evO,simprocAttr]⟩
 obtain⟨e1,s1⟩:=hM
 refine gV (fun e σ=>NdM x e σ∧0≤x.k∧x.k≤13∧0≤x.lv∧x.lv≤60∧(x.k<2→x.lv≤0)) ?_ fun e' σ' hM=>?_
 ·simp only[e1,s1,nxB,evO,simprocAttr]
  iterate 7
   all_goals try (first
    |(refine oU (fun h=>?_) (fun h=>?_)<;>simp only[h,e1,s1,nxB,evO,simprocAttr])
    |(refine pG (fun h=>?_) (fun h=>?_)<;>simp only[h,e1,s1,nxB,evO,simprocAttr]))
  all_goals simp only[J2,qp,J6,WQ,decide_eq_true_eq,decide_eq_false_iff_not,ct]at*
  all_goals first
   |(intro hP;have p1:=hP.k0;have p2:=hP.k1;have p3:=hP.lv0;have p4:=hP.lv1;have p5:=hP.lv2;omega)
   |(refine⟨⟨by simp only[e1,nxB,evO,simprocAttr],by simp only[s1,nxB,evO,simprocAttr]⟩,?_⟩;omega)
 clear e1 s1
 obtain⟨⟨e1,s1⟩,hA⟩:=hM
 refine gV (fun e σ=>NdM x e σ∧(x.s≠[]↔(x.k=8∨x.k=11∨x.k=12))∧(x.n≠0→x.k=10∨x.k=12)) ?_ fun e' σ' hM=>?_
 ·simp only[e1,s1,nxB,evO,simprocAttr]
  cases hs:decide (x.s=[])with
  |true=>
   have hs':x.s=[]:=by simpa using hs
   simp only[hs,e1,s1,nxB,evO,simprocAttr]
   iterate 8
    all_goals try (first
     |(refine oU (fun h=>?_) (fun h=>?_)<;>simp only[h,e1,s1,nxB,evO,simprocAttr])
     |(refine pG (fun h=>?_) (fun h=>?_)<;>simp only[h,e1,s1,nxB,evO,simprocAttr]))
   all_goals simp only[J2,qp,J6,WQ,decide_eq_true_eq,decide_eq_false_iff_not,ct]at*
   all_goals try simp only[Bool.false_eq,Bool.true_eq,J2,qp,J6,WQ,decide_eq_true_eq,decide_eq_false_iff_not,ct]at*
   all_goals first
    |(intro hP;have p1:=hP.nm;have p2:=hP.nn;simp only[hs',ne_eq,not_true_eq_false,false_iff]at p1;omega)
    |(refine⟨⟨by simp only[e1,nxB,evO,simprocAttr],by simp only[s1,nxB,evO,simprocAttr]⟩,?_⟩;simp only[hs',ne_eq,not_true_eq_false,false_iff];omega)
  |false=>
   have hs':¬x.s=[]:=by simpa using hs
   simp only[hs,e1,s1,nxB,evO,simprocAttr]
   iterate 8
    all_goals try (first
     |(refine oU (fun h=>?_) (fun h=>?_)<;>simp only[h,e1,s1,nxB,evO,simprocAttr])
     |(refine pG (fun h=>?_) (fun h=>?_)<;>simp only[h,e1,s1,nxB,evO,simprocAttr]))
   all_goals simp only[J2,qp,J6,WQ,decide_eq_true_eq,decide_eq_false_iff_not,ct]at*
   all_goals try simp only[Bool.false_eq,Bool.true_eq,J2,qp,J6,WQ,decide_eq_true_eq,decide_eq_false_iff_not,ct]at*
   all_goals first
    |(intro hP;have p1:=hP.nm;have p2:=hP.nn;simp only[hs',ne_eq,not_false_eq_true,true_iff]at p1;omega)
    |(refine⟨⟨by simp only[e1,nxB,evO,simprocAttr],by simp only[s1,nxB,evO,simprocAttr]⟩,?_⟩;simp only[hs',ne_eq,not_false_eq_true,true_iff];omega)
 clear e1 s1
 obtain⟨⟨e1,s1⟩,hB⟩:=hM
 refine gV (fun e σ=>NdM x e σ∧(x.k=8→1≤(x.to.length:Int)∧(x.to.length:Int)≤9)∧(x.k=9→1≤(x.al.length:Int))∧(x.k≠9→(x.al.length:Int)≤0)∧(x.al.length:Int)≤8) ?_ fun e' σ' hM=>?_
 ·simp only[e1,s1,nxB,evO,simprocAttr]
  iterate 9
   all_goals try (first
    |(refine oU (fun h=>?_) (fun h=>?_)<;>simp only[h,e1,s1,nxB,evO,simprocAttr])
    |(refine pG (fun h=>?_) (fun h=>?_)<;>simp only[h,e1,s1,nxB,evO,simprocAttr]))
  all_goals simp only[J2,qp,J6,WQ,decide_eq_true_eq,decide_eq_false_iff_not,ct]at*
  all_goals first
   |(intro hP;have p1:=hP.to8;have p2:=hP.al9;have p3:=hP.aln;have p4:=hP.al8;omega)
   |(refine⟨⟨by simp only[e1,nxB,evO,simprocAttr],by simp only[s1,nxB,evO,simprocAttr]⟩,?_⟩;omega)
 clear e1 s1
 obtain⟨⟨e1,s1⟩,hC⟩:=hM
 refine gV (fun e σ=>BB x.al) ?_ fun e' σ' hM=>?_
 ·simp only[e1,s1,nxB,evO,simprocAttr]
  refine Fs x.al.length (fun i e σ=>NdM x e σ∧e 3= .a (.p (.i .i64 (i:Nat)))∧∀m a,m<i→x.al[m]? =some a→a.s≠[]∧0≤a.n∧a.n≤8∧∀j b,j<m→x.al[j]? =some b→b.s≠a.s) (i0:=0) (ji _) ?_ ?_ ?_
  ·exact⟨⟨by simp only[e1,nxB,evO,Nat.reduceLT,Nat.reduceSub,Nat.reduceBEq,Nat.reduceEqDiff,Nat.reduceAdd,Nat.reduceLeDiff,reduceCtorEq,Nat.reduceMul],by simp only[s1,nxB,evO,Nat.reduceLT,Nat.reduceSub,Nat.reduceBEq,Nat.reduceEqDiff,Nat.reduceAdd,Nat.reduceLeDiff,reduceCtorEq,Nat.reduceMul]⟩,by simp only[nxB,evO,Nat.reduceLT,Nat.reduceSub,Nat.reduceBEq,Nat.reduceEqDiff,Nat.reduceAdd,Nat.reduceLeDiff,reduceCtorEq,Nat.reduceMul];rfl,fun j a hj=>by omega⟩
  ·rintro i e σ hi ⟨⟨e1,s1⟩,e3,hall⟩
   obtain⟨a,ha⟩:∃a,x.al[i]? =some a:=⟨_,Xb hi⟩
   have ha':=Kr uO ha
   have hlt:((i:Nat):Int)<(x.al.length:Int):=by omega
   have hge:(0:Int)≤((i:Nat):Int):=by omega
   by_cases h1:a.s=[]
   ·simp only[F33b0,e1,e3,s1,hlt,hge,ha',h1,nxB,evO,simprocAttr]
    intro hP;exact(hP.alt i a ha).1 h1
   by_cases h2:a.n<0
   ·simp only[F33b0,e1,e3,s1,hlt,hge,ha',h1,h2,nxB,evO,simprocAttr]
    intro hP;have:=hP.alt i a ha;omega
   by_cases h3:a.n>8
   ·simp only[F33b0,e1,e3,s1,hlt,hge,ha',h1,h2,h3,nxB,evO,simprocAttr]
    intro hP;have:=hP.alt i a ha;omega
   simp only[F33b0,e1,e3,s1,hlt,hge,ha',h1,h2,h3,nxB,evO,simprocAttr]
   refine Fs i (fun j e σ=>NdM x e σ∧e 3= .a (.p (.i .i64 (i:Nat)))∧e 4= .a (.p (.i .i64 (j:Nat)))∧∀m b,m<j→x.al[m]? =some b→b.s≠a.s) (i0:=0) (ji _) ?_ ?_ ?_
   ·exact⟨⟨by simp only[e1,nxB,evO,Nat.reduceLT,Nat.reduceSub,Nat.reduceBEq,Nat.reduceEqDiff,Nat.reduceAdd,Nat.reduceLeDiff,reduceCtorEq,Nat.reduceMul],by simp only[s1,nxB,evO,Nat.reduceLT,Nat.reduceSub,Nat.reduceBEq,Nat.reduceEqDiff,Nat.reduceAdd,Nat.reduceLeDiff,reduceCtorEq,Nat.reduceMul]⟩,by simp only[e3,nxB,evO,Nat.reduceLT,Nat.reduceSub,Nat.reduceBEq,Nat.reduceEqDiff,Nat.reduceAdd,Nat.reduceLeDiff,reduceCtorEq,Nat.reduceMul],by simp only[nxB,evO,Nat.reduceLT,Nat.reduceSub,Nat.reduceBEq,Nat.reduceEqDiff,Nat.reduceAdd,Nat.reduceLeDiff,reduceCtorEq,Nat.reduceMul];rfl,fun j a hj=>by omega⟩
   ·rintro j e σ hj ⟨⟨e1,s1⟩,e3,e4,hj2⟩
    obtain⟨b,hb⟩:∃b,x.al[j]? =some b:=⟨_,Xb (by omega)⟩
    have hb':=Kr uO hb
    have hlt2:((j:Nat):Int)<((i:Nat):Int):=by omega
    have hlt3:((j:Nat):Int)<(x.al.length:Int):=by omega
    have hge2:(0:Int)≤((j:Nat):Int):=by omega
    by_cases h4:b.s=a.s
    ·simp only[F33b1,e1,e3,e4,s1,hlt,hge,hlt2,hlt3,hge2,ha',hb',h4,nxB,evO,simprocAttr]
     intro hP;exact(hP.alt i a ha).2.2.2 j b hj hb h4
    ·simp only[F33b1,e1,e3,e4,s1,hlt,hge,hlt2,hlt3,hge2,ha',hb',h4,nxB,evO,simprocAttr]
     refine⟨⟨by simp only[e1,nxB,evO,simprocAttr],by simp only[s1,nxB,evO,simprocAttr]⟩,by rw[zz j (by omega)],fun m c hm hc=>?_⟩
     by_cases e:m=j
     ·subst e;rw[hb]at hc;rw[←BQ hc];exact h4
     ·exact hj2 m c (by omega) hc
   ·rintro e σ ⟨⟨e1,s1⟩,e3,e4,hj2⟩
    have hlt2:¬((i:Nat):Int)<((i:Nat):Int):=by omega
    simp only[F33b1,e1,e3,e4,s1,hlt2,nxB,evO,simprocAttr]
    refine⟨⟨by simp only[e1,nxB,evO,simprocAttr],by simp only[s1,nxB,evO,simprocAttr]⟩,by rw[zz i (by omega)],fun m c hm hc=>?_⟩
    by_cases e:m=i
    ·subst e;rw[ha]at hc;rw[←BQ hc];exact⟨h1,by omega,by omega,hj2⟩
    ·exact hall m c (by omega) hc
  ·rintro e σ ⟨⟨e1,s1⟩,e3,hall⟩
   have hlt:¬((x.al.length:Nat):Int)<(x.al.length:Int):=by omega
   simp only[F33b0,e1,e3,s1,hlt,nxB,evO,simprocAttr]
   exact fun i a hi=>hall i a (QU.1 hi).1 hi
 simp only[nxB,evO,simprocAttr]
 exact⟨hA.1,hA.2.1,hA.2.2.1,hA.2.2.2.1,hA.2.2.2.2,hB.1,hB.2,hC.1,hC.2.1,hC.2.2.1,hC.2.2.2,hM⟩
structure Nt.Good(n:Nt):Prop where
 cap1:1≤n.cap
 cap2:n.cap≤4000
 ln1:1≤(n.ns.length:Int)
 ln2:(n.ns.length:Int)≤n.cap
 last:(n.nd (n.ns.length-1)).k≠0
 nds:∀(i:Nat) (x:Nd),n.ns[i]? =some x→x.may∧(x.to.length:Int)=x.ports∧((i:Int)=0↔x.k=1)∧
  ∀(j:Nat) (q:Pt),x.to[j]? =some q→q≠⟨i,j⟩∧n.has q=true∧n.lk q=⟨i,j⟩
def RE(P:Prop)(r:PT):Prop:=r= .a (.i .i64 (if bool P=true then 0 else 120))
theorem RE_0(P:Prop):RE P (.a (.i .i64 0))=P:=by
 unfold RE
 by_cases h:P
 ·rw[Pb h];simp[h]
 ·rw[qy h];simp[h]
theorem im(P:Prop):RE P (.a (.i .i64 120))=¬P:=by
 unfold RE
 by_cases h:P
 ·rw[Pb h];simp[h]
 ·rw[qy h];simp[h]
theorem BG(a b c:Int):eP S 56 [.a (.i .i64 a),.a (.i .i64 b),.a (.i .i64 c)]=some (.a (.b (decide (a≥b)&&decide (a≤c)))):=by
 refine Cf (xO (by decide)) (fc:=F56) rfl rfl ?_
 by_cases h:a≥b
 ·simp only[F56,h,nxB,evO,simprocAttr]
 ·simp only[F56,h,nxB,evO,simprocAttr]
theorem Pv{a b c:Int}(h:b≤a∧a≤c):eP S 56 [.a (.i .i64 a),.a (.i .i64 b),.a (.i .i64 c)]=some (.a (.b true)):=by
 rw[BG,decide_eq_true (h.1:a≥b),decide_eq_true h.2];rfl
theorem wm{a b c:Int}(h:¬(b≤a∧a≤c)):eP S 56 [.a (.i .i64 a),.a (.i .i64 b),.a (.i .i64 c)]=some (.a (.b false)):=by
 rw[BG]
 have:(decide (a≥b)&&decide (a≤c))=false:=by
  rw[Bool.and_eq_false_iff,decide_eq_false_iff_not,decide_eq_false_iff_not];omega
 rw[this]
theorem Vj(x:Nd):eP S 69 [.g (Ug x)]=some (.a (.b (decide (x.k=0)))):=by
 refine Cf (xO (by decide)) (fc:=F69) rfl rfl ?_
 simp only[F69,nxB,evO,simprocAttr]
def NH(l:List Nd):Int:=(l.countP fun x=>decide (x.k≠0):Nat)
def Nt.used(n:Nt):Int:=NH n.ns
theorem Jm{l:List Nd}{i:Nat}{x:Nd}(h:l[i]? =some x):NH (l.take (i+1))=NH (l.take i)+(if x.k=0 then 0 else 1):=by
 unfold NH
 rw[Oq,h]
 simp only[Option.toList_some,UN,Mp,List.countP_nil]
 by_cases hk:x.k=0
 ·simp[hk]
 ·simp[hk]
theorem ij(l:List Nd):0≤NH l∧NH l≤l.length:=by
 unfold NH
 have:=List.countP_le_length (p:=fun x:Nd=>decide (x.k≠0)) (l:=l)
 omega
theorem Ig{n:Nt}(hn:n.Ok):eP S 40 [.g (Ip n)]=some (.a (.i .i64 n.used)):=by
 refine Cf (xO (by decide)) (fc:=F40) rfl rfl ?_
 have hns:=hn.ns
 simp only[F40,nxB,evO,simprocAttr]
 refine Fs n.ns.length (fun i e σ=>e 7= .a (.p (.l (n.ns.map Ug)))∧e 8= .a (.p (.i .i64 n.ns.length))∧e 9= .a (.p (.i .i64 (i:Nat)))∧e 3= .a (.p (.i .i64 (NH (n.ns.take i))))) (i0:=0) (ji _) ?_ ?_ ?_
 ·refine⟨?_,?_,?_,?_⟩<;>simp only[nxB,evO,simprocAttr]
  all_goals rfl
 ·rintro i e σ hi ⟨e7,e8,e9,e3⟩
  obtain⟨x,hx⟩:∃x,n.ns[i]? =some x:=⟨_,Xb hi⟩
  have hx':=Kr Ug hx
  have hlt:((i:Nat):Int)<(n.ns.length:Int):=by omega
  have hge:(0:Int)≤((i:Nat):Int):=by omega
  have c1:=Vj x
  have hu:=Jm hx
  have hb:=ij (n.ns.take i)
  simp only[Q4]at hb
  simp only[Ug]at c1
  by_cases hk:x.k=0
  ·rw[if_pos hk,aE]at hu
   rw[hk]at c1
   simp only[F40b0,e7,e8,e9,e3,hlt,hge,hx',c1,hk,hu,nxB,evO,simprocAttr]
   rw[zz i (by omega)]
  ·rw[if_neg hk]at hu
   have hw:IntKind.i64.wrap (NH (n.ns.take i)+1)=NH (n.ns.take i)+1:=qI _ (by omega)
   simp only[F40b0,e7,e8,e9,e3,hlt,hge,hx',c1,hk,hu,hw,nxB,evO,simprocAttr]
   rw[zz i (by omega)]
 ·rintro e σ ⟨e7,e8,e9,e3⟩
  have hlt:¬((n.ns.length:Nat):Int)<(n.ns.length:Int):=by omega
  rw[QL]at e3
  simp only[F40b0,e7,e8,e9,e3,hlt,Nt.used,nxB,evO,simprocAttr]
theorem X9{n:Nt}(hn:n.Ok):eP S 127 [.g (Ip n)]=some (.a (.i .i64 n.used)):=by
 refine Cf (xO (by decide)) (fc:=F127) rfl rfl ?_
 have hns:=hn.ns
 simp only[F127,nxB,evO,simprocAttr]
 refine Fs n.ns.length (fun i e σ=>e 1= .a (.ptr (1,0) 0 0)∧e 4= .a (.p (.i .i64 (i:Nat)))∧e 3= .a (.p (.i .i64 (NH (n.ns.take i))))∧σ.bs (1,0)=some (.var ((Ip n).map .p))) (i0:=0) (ji _) ?_ ?_ ?_
 ·refine⟨?_,?_,?_,?_⟩<;>simp only[nxB,evO,simprocAttr]
  all_goals rfl
 ·rintro i e σ hi ⟨e1,e4,e3,s1⟩
  obtain⟨x,hx⟩:∃x,n.ns[i]? =some x:=⟨_,Xb hi⟩
  have hx':=Kr Ug hx
  have hlt:((i:Nat):Int)<(n.ns.length:Int):=by omega
  have hge:(0:Int)≤((i:Nat):Int):=by omega
  have hu:=Jm hx
  have hb:=ij (n.ns.take i)
  simp only[Q4]at hb
  simp only[Ip,zx,XM]at s1
  by_cases hk:x.k=0
  ·rw[if_pos hk,aE]at hu
   simp only[F127b0,e1,e4,e3,s1,hlt,hge,hx',hk,hu,nxB,evO,simprocAttr]
   rw[zz i (by omega)]
  ·rw[if_neg hk]at hu
   have hw:IntKind.i64.wrap (NH (n.ns.take i)+1)=NH (n.ns.take i)+1:=qI _ (by omega)
   simp only[F127b0,e1,e4,e3,s1,hlt,hge,hx',hk,hu,hw,nxB,evO,simprocAttr]
   rw[zz i (by omega)]
 ·rintro e σ ⟨e1,e4,e3,s1⟩
  have hlt:¬((n.ns.length:Nat):Int)<(n.ns.length:Int):=by omega
  rw[QL]at e3
  simp only[Ip,zx,XM]at s1
  simp only[F127b0,e1,e4,e3,s1,hlt,Nt.used,nxB,evO,simprocAttr]
theorem BX:eP S 99 []=some (.g [.i .i64 0,.i .i64 1,.i .i64 3,.i .i64 3,.i .i64 3,.i .i64 2,.i .i64 2,.i .i64 1,.i .i64 0,.i .i64 0,.i .i64 1,.i .i64 3,.i .i64 2,.i .i64 1]):=(oW S).2 ⟨3,by kernel_rfl⟩
theorem kF{x:Nd}(hx:x.Ok):eP S 58 [.g (Ug x)]=some (.a (.i .i64 x.ports)):=by
 refine Cf (xO (by decide)) (fc:=F58) rfl rfl ?_
 have hal:=hx.al
 have hw:IntKind.i64.wrap (2+(x.al.length:Int))=2+x.al.length:=qI _ (by omega)
 have f:=BX
 by_cases h8:x.k=8
 ·have e:x.ports=x.to.length:=by unfold Nd.ports;rw[h8];simp
  rw[e]
  simp only[F58,h8,Int.reduceEq,nxB,evO,simprocAttr]
 by_cases h9:x.k=9
 ·have e:x.ports=2+x.al.length:=by unfold Nd.ports;rw[h9];simp
  rw[e]
  simp only[F58,h9,hw,Int.reduceEq,nxB,evO,simprocAttr]
 by_cases hin:0≤x.k∧x.k≤13
 ·have c1:=Pv (a:=x.k) (b:=0) (c:=13) hin
  obtain⟨k,hk⟩:∃k:Nat,x.k=k:=⟨x.k.toNat,by omega⟩
  unfold Nd.ports
  rw[hk]at c1 h8 h9
  have hk13:k≤13:=by omega
  simp only[F58,hk,h8,h9,c1,f,nxB,evO,simprocAttr]
  have:k=0∨k=1∨k=2∨k=3∨k=4∨k=5∨k=6∨k=7∨k=10∨k=11∨k=12∨k=13:=by omega
  rcases this with rfl|rfl|rfl|rfl|rfl|rfl|rfl|rfl|rfl|rfl|rfl|rfl<;>simp only[Int.reduceToNat,Int.reduceEq,Int.reduceLT,Int.reduceLE,Mz,Bg,yA,or_true,true_or,or_false,false_or,or_self,nxB,evO,simprocAttr]
 ·have c1:=wm (a:=x.k) (b:=0) (c:=13) hin
  have e:x.ports=0:=by
   unfold Nd.ports
   rw[if_neg (by omega),if_neg (by omega),if_neg (by omega),if_neg (by omega),if_neg (by omega)]
  rw[e]
  simp only[F58,h8,h9,c1,nxB,evO,simprocAttr]
theorem fi(b a:Ar)(k:Key)(σ:St)(hk:σ.bs k=some (.var ((uO a).map .p)))(hlt:k.2<σ.clk):
  eS S (.f 135) [.g ((uO b).map .p),.a (.ptr k 0 0)] σ=some (.a (.p (.b (decide (b.s=a.s)))),σ.add 2 (.var ((uO b).map .p))):=by
 have hne:¬k=(2,σ.clk):=by rintro rfl;exact TZ _ hlt
 simp only[uO,zx,XM]at hk
 refine kZ (fc:=F135) rfl rfl ?_
 simp only[F135,hk,hne,nxB,evO,simprocAttr]
theorem tK(l:List Ar)(hl:l.length*24≤140737488355328)(g:FuncId)(caps:List Key)(hc:caps≠[])(hsp:spN g=false)(f:Ar→Bool)(R:St→Prop)
  (hR:∀p σ,R σ→∃σ',eS S (.f g) ([.g ((uO p).map .p)]++caps.map fun s=>.a (.ptr s 0 0)) σ=some (.a (.p (.b (f p))),σ')∧R σ') (σ:St) (h0:R σ):
  ∃σ',eS S (.f 139) [.a (.p (.l (l.map uO))),.a (.fn g caps)] σ=some (.a (.p (.i .i64 (idx f l))),σ')∧R σ':=by
 obtain⟨c1,cr,rfl⟩:∃c1 cr,caps=c1::cr:=by
  cases caps with
  |nil=>exact absurd rfl hc
  |cons c1 cr=>exact⟨c1,cr,rfl⟩
 refine Zy (fc:=F139) rfl rfl ?_
 simp only[F139,nxB,evO,simprocAttr]
 refine Fs l.length (fun i e σ=>e 0= .a (.p (.l (l.map uO)))∧e 1= .a (.fn g (c1::cr))∧e 7= .a (.p (.i .i64 l.length))∧e 8= .a (.p (.i .i64 (i:Nat)))∧R σ∧∀j x,j<i→l[j]? =some x→f x=false) (i0:=0) (ji _) ?_ ?_ ?_
 ·refine⟨?_,?_,?_,?_,h0,fun j x hj=>by omega⟩<;>simp only[nxB,evO,Nat.reduceLT,Nat.reduceSub,Nat.reduceBEq,Nat.reduceEqDiff,Nat.reduceAdd,Nat.reduceLeDiff,reduceCtorEq,Nat.reduceMul]
  rfl
 ·rintro i e σ hi ⟨e0,e1,e7,e8,hRσ,hall⟩
  have hlt:((i:Nat):Int)<(l.length:Int):=by omega
  have hge:(0:Int)≤((i:Nat):Int):=by omega
  obtain⟨x,hx⟩:∃x,l[i]? =some x:=⟨_,Xb hi⟩
  have hx':=Kr uO hx
  obtain⟨σ2,hcall,hR2⟩:=hR x σ hRσ
  simp only[uO,zx,XM,Hh,Es]at hcall
  simp only[F139b0,e0,e1,e7,e8,hlt,hge,hx',hsp,hcall,SY,nxB,evO,simprocAttr]
  refine pG (fun hf=>?_) (fun hf=>?_)
  ·simp only[nxB,evO,simprocAttr]
   refine⟨?_,hR2⟩
   have:l.findIdx? f=some i:=by
    rw[oO]
    refine⟨hi,?_,fun j hj=>?_⟩
    ·rw[Xb hi]at hx;rw[BQ hx];exact hf
    ·rw[hall j _ hj (Xb (by omega))];simp
   simp only[idx,this]
  ·simp only[e0,e1,e7,e8,nxB,evO,simprocAttr]
   refine⟨by rw[zz i (by omega)],hR2,fun j y hj hy=>?_⟩
   by_cases e:j=i
   ·subst e;rw[hx]at hy;rw[←BQ hy];exact hf
   ·exact hall j y (by omega) hy
 ·rintro e σ ⟨e0,e1,e7,e8,hRσ,hall⟩
  have hlt:¬((l.length:Nat):Int)<(l.length:Int):=by omega
  simp only[F139b0,e0,e1,e7,e8,hlt,nxB,evO,simprocAttr]
  refine⟨?_,hRσ⟩
  have:l.findIdx? f=none:=by
   rw[iU]
   intro x hx
   obtain⟨j,hj⟩:=IL hx
   exact hall j x (QU.1 hj).1 hj
  simp only[idx,this]
theorem Yc(l:List Ar)(hl:l.length*24≤140737488355328)(a:Ar)(k:Key)(R:St→Prop)(hRk:∀σ,R σ→σ.bs k=some (.var ((uO a).map .p))∧k.2<σ.clk)(hRa:∀σ b,R σ→R (σ.add 2 b))(σ:St)(h0:R σ):
  ∃σ',eS S (.f 136) [.a (.p (.l (l.map uO))),.a (.fn 135 [k])] σ=some (.a (.p (.b (l.any fun b=>decide (b.s=a.s)))),σ')∧R σ':=by
 obtain⟨σ',h,hR⟩:=tK l hl 135 [k] (by simp) (by decide) (fun b=>decide (b.s=a.s)) R (fun b σ hσ=>⟨_,fi b a k σ (hRk σ hσ).1 (hRk σ hσ).2,hRa σ _ hσ⟩) σ h0
 refine Zy (fc:=F136) rfl rfl ?_
 simp only[F136,h,OS,nxB,evO,simprocAttr]
 exact hR
def jX(x:Nd):Prop:=(x.k≠9→x.al.length=0)∧(x.k=9→BB x.al∧1≤(x.al.length:Int)∧(x.al.length:Int)≤8)
theorem cX{x:Nd}(hx:x.Ok):eP S 98 [.g (Ug x)]=some (.a (.b (bool (jX x)))):=by
 refine ml (xO (by decide)) (fc:=F98) rfl rfl ?_
 have hal:=hx.al
 by_cases h9:x.k=9
 case neg=>
  simp only[F98,h9,nxB,evO,simprocAttr]
  rw[decide_eq_true_iff]
  exact⟨fun h=>⟨fun _=>by omega,fun h2=>absurd h2 h9⟩,fun h=>by have:=h.1 h9;omega⟩
 simp only[F98,h9,nxB,evO,simprocAttr]
 refine Fs x.al.length (fun i e σ=>e 1= .a (.ptr (1,0) 0 0)∧e 14= .a (.p (.l (x.al.map uO)))∧e 15= .a (.p (.i .i64 x.al.length))∧e 16= .a (.p (.i .i64 (i:Nat)))∧σ.bs (1,0)=some (.var ((Ug x).map .p))∧1≤σ.clk∧
  ∀(m:Nat) (a:Ar),m<i→x.al[m]? =some a→a.s≠[]∧0≤a.n∧a.n≤8∧∀(j:Nat) (b:Ar),j<m→x.al[j]? =some b→b.s≠a.s) (i0:=0) (ji _) ?_ ?_ ?_
 ·refine⟨?_,?_,?_,?_,?_,?_,fun j a hj=>by omega⟩<;>simp only[h9,nxB,evO,simprocAttr]
  all_goals first|rfl|omega
 ·rintro i e σ hi ⟨e1,e14,e15,e16,s1,hc,hall⟩
  obtain⟨a,ha⟩:∃a,x.al[i]? =some a:=⟨_,Xb hi⟩
  have ha':=Kr uO ha
  have hlt:((i:Nat):Int)<(x.al.length:Int):=by omega
  have hle:((i:Nat):Int)≤(x.al.length:Int):=by omega
  have hge:(0:Int)≤((i:Nat):Int):=by omega
  simp only[Ug,zx,XM]at s1
  have htk:List.take i (x.al.map uO)=(x.al.take i).map uO:=List.map_take.symm
  have hall2:((x.al.take i).map uO).all (fun r=>decide (r.length=2))=true:=L5 _
  by_cases h1:a.s=[]
  ·simp only[F98b0,e1,e14,e15,e16,s1,hlt,hle,hge,ha',h1,Wk,Bp,bz,htk,hall2,Int.reduceToNat,kR,rV,kS,yA,nxB,evO,simprocAttr]
   intro hP;exact((hP.2 h9).1 i a ha).1 h1
  by_cases h2:0≤a.n∧a.n≤8
  case neg=>
   have c1:=wm h2
   simp only[F98b0,e1,e14,e15,e16,s1,hlt,hle,hge,ha',h1,c1,Wk,Bp,bz,htk,hall2,Int.reduceToNat,kR,rV,kS,yA,nxB,evO,simprocAttr]
   intro hP;have:=(hP.2 h9).1 i a ha;omega
  have c1:=Pv h2
  have hne:∀d:Nat,∀s:Key,s.2<σ.clk→¬s=(d,σ.clk):=by rintro d s hs rfl;exact TZ _ hs
  obtain⟨σ0,hσ0⟩:∃σ0,σ0=((σ.add 4 (.var [.p (.s []),.p (.i .i64 0)])).put (4,σ.clk) (.var [.p (.s a.s),.p (.i .i64 a.n)])):=⟨_,rfl⟩
  obtain⟨σ2,hcall,hR2⟩:=Yc (x.al.take i) (by simp;omega) a (4,σ.clk) (fun σ'=>σ'.bs (1,0)=some (.var ((Ug x).map .p))∧σ'.bs (4,σ.clk)=some (.var ((uO a).map .p))∧σ.clk<σ'.clk)
   (fun σ' h=>⟨h.2.1,h.2.2⟩) (fun σ' b h=>⟨by simp only[Mq];rw[if_neg (by simp)];exact h.1,by simp only[Mq];rw[if_neg (by simp)];exact h.2.1,by simp only[Bv];omega⟩) σ0
   (by rw[hσ0];refine⟨?_,?_,?_⟩<;>simp only[s1,Ug,uO,zx,XM,nxB,evO,simprocAttr])
  simp only[Ug,zx,XM]at hR2
  rw[hσ0]at hcall
  simp only[F98b0,e1,e14,e15,e16,s1,hlt,hle,hge,ha',h1,c1,Wk,Bp,bz,htk,hall2,hcall,Int.reduceToNat,kR,rV,kS,yA,nxB,evO,simprocAttr]
  cases hany:(x.al.take i).any fun b=>decide (b.s=a.s)with
  |true=>
   simp only[hany,nxB,evO,simprocAttr]
   intro hP
   rw[qB]at hany
   obtain⟨b,hb,hb2⟩:=hany
   obtain⟨j,hj⟩:=IL hb
   have hjl:=(QU.1 hj).1
   simp at hjl
   rw[Dp (by omega)]at hj
   exact((hP.2 h9).1 i a ha).2.2.2 j b (by omega) hj (by simpa using hb2)
  |false=>
   simp only[hany,e1,e14,e15,e16,nxB,evO,simprocAttr]
   refine⟨by rw[zz i (by omega)],hR2.1,by omega,fun m c hm hcc=>?_⟩
   by_cases e:m=i
   ·subst e;rw[ha]at hcc;rw[←BQ hcc]
    refine⟨h1,h2.1,h2.2,fun j b hj hb hs=>?_⟩
    rw[GL]at hany
    exact hany b (by rw[List.mem_take_iff_getElem];obtain⟨hl,hg⟩:=QU.1 hb;exact⟨j,by omega,hg⟩) (by simpa using hs)
   ·exact hall m c (by omega) hcc
 ·rintro e σ ⟨e1,e14,e15,e16,s1,hc,hall⟩
  have hlt:¬((x.al.length:Nat):Int)<(x.al.length:Int):=by omega
  have c1:=BG (x.al.length:Int) 1 8
  simp only[Ug,zx,XM]at s1
  simp only[F98b0,e1,e14,e15,e16,s1,hlt,c1,nxB,evO,simprocAttr]
  rw[Cd,decide_eq_true_eq,decide_eq_true_eq]
  exact⟨fun h=>⟨fun h2=>absurd h9 h2,fun _=>⟨fun i a hi=>hall i a (QU.1 hi).1 hi,h.1,h.2⟩⟩,fun h=>(h.2 h9).2⟩
theorem may_iff(x:Nd):x.may↔((0≤x.k∧x.k≤13)∧jX x)∧(0≤x.lv∧x.lv≤(if x.k=0∨x.k=1 then 0 else 60))∧(x.s≠[]↔(x.k=8∨x.k=11∨x.k=12))∧(x.n=0∨(x.k=10∨x.k=12))∧(x.k≠8∨(1≤(x.to.length:Int)∧(x.to.length:Int)≤9)):=by
 constructor
 ·intro h
  refine⟨⟨⟨h.k0,h.k1⟩,fun h9=>by have:=h.aln h9;omega,fun h9=>⟨h.alt,h.al9 h9,h.al8⟩⟩,⟨h.lv0,?_⟩,h.nm,?_,?_⟩
  ·have:=h.lv2;have:=h.lv1;split<;>omega
  ·have:=h.nn;omega
  ·have:=h.to8;omega
 ·rintro⟨⟨⟨h1,h2⟩,h3,h4⟩,⟨h5,h6⟩,h7,h8,h9⟩
  refine⟨h1,h2,h5,by split at h6<;>omega,fun h=>by rw[if_pos (by omega)]at h6;exact h6,h7,fun h=>by omega,fun h=>by omega,fun h=>(h4 h).2.1,fun h=>by have:=h3 h;omega,?_,?_⟩
  ·by_cases h:x.k=9
   ·exact(h4 h).2.2
   ·have:=h3 h;omega
  ·by_cases h:x.k=9
   ·exact(h4 h).1
   ·have:=h3 h
    have:x.al=[]:=eL this
    rw[this];intro i a hi;simp at hi
theorem Qz{x:Nd}(hx:x.Ok):eP S 57 [.g (Ug x)]=some (.a (.b (bool x.may))):=by
 rw[wK (may_iff x)]
 refine ml (xO (by decide)) (fc:=F57) rfl rfl ?_
 have hal:=hx.al
 have c0:=cX hx
 simp only[Ug]at c0
 unfold F57
 simp only[Ug,zx,XM,yh]
 refine gV (NdM x) ?_ fun e σ hM=>?_
 ·simp only[nxB,evO,simprocAttr]
  exact⟨by simp only[nxB,evO,simprocAttr],by simp only[nxB,evO,simprocAttr]⟩
 obtain⟨e1,s1⟩:=hM
 by_cases hk:0≤x.k∧x.k≤13
 case neg=>
  have c1:=wm (a:=x.k) (b:=0) (c:=13) hk
  simp only[e1,s1,c1,nxB,evO,simprocAttr]
  exact fun h=>hk h.1.1
 have c1:=Pv (a:=x.k) (b:=0) (c:=13) hk
 by_cases ha:jX x
 case neg=>
  rw[qy ha]at c0
  simp only[e1,s1,c1,c0,nxB,evO,simprocAttr]
  exact fun h=>ha h.1.2
 rw[Pb ha]at c0
 refine gV (NdM x) ?_ fun e' σ' hM=>?_
 ·simp only[e1,s1,c1,c0,nxB,evO,simprocAttr]
  exact⟨by simp only[e1,nxB,evO,simprocAttr],by simp only[s1,nxB,evO,simprocAttr]⟩
 clear e1 s1
 obtain⟨e1,s1⟩:=hM
 refine gV (fun e σ=>NdM x e σ∧e 3= .a (.p (.b (decide (x.k=8∨x.k=11∨x.k=12))))) ?_ fun e' σ' hM=>?_
 ·by_cases k8:x.k=8
  ·simp only[e1,s1,k8,nxB,evO,simprocAttr]
   exact⟨⟨by simp only[e1,nxB,evO,simprocAttr],by simp only[s1,k8,nxB,evO,simprocAttr]⟩,by simp[k8]⟩
  by_cases k11:x.k=11
  ·simp only[e1,s1,k8,k11,Int.reduceEq,nxB,evO,simprocAttr]
   exact⟨⟨by simp only[e1,nxB,evO,simprocAttr],by simp only[s1,k11,nxB,evO,simprocAttr]⟩,by simp[k11]⟩
  simp only[e1,s1,k8,k11,nxB,evO,simprocAttr]
  refine⟨⟨by simp only[e1,nxB,evO,simprocAttr],by simp only[s1,nxB,evO,simprocAttr]⟩,?_⟩
  simp[k8,k11]
 clear e1 s1
 obtain⟨⟨e1,s1⟩,e3⟩:=hM
 refine gV (fun e σ=>NdM x e σ∧e 3= .a (.p (.b (decide (x.k=8∨x.k=11∨x.k=12))))∧e 4= .a (.p (.b (decide (x.k=10∨x.k=12))))) ?_ fun e' σ' hM=>?_
 ·by_cases k10:x.k=10
  ·simp only[e1,s1,e3,k10,nxB,evO,simprocAttr]
   unfold NdM
   repeat' apply And.intro
   all_goals first|(simp only[e1,s1,e3,k10,nxB,evO,simprocAttr];done)|(simp[Zq,e1,s1,e3,k10];done)
  simp only[e1,s1,e3,k10,nxB,evO,simprocAttr]
  unfold NdM
  repeat' apply And.intro
  all_goals first|(simp only[e1,s1,e3,k10,nxB,evO,simprocAttr];done)|(simp[Zq,e1,s1,e3,k10];done)
 clear e1 s1 e3
 obtain⟨⟨e1,s1⟩,e3,e4⟩:=hM
 refine gV (fun e σ=>NdM x e σ∧e 3= .a (.p (.b (decide (x.k=8∨x.k=11∨x.k=12))))∧e 4= .a (.p (.b (decide (x.k=10∨x.k=12))))∧e 5= .a (.p (.i .i64 60))) ?_ fun e' σ' hM=>?_
 ·simp only[e1,s1,e3,e4,nxB,evO,simprocAttr]
  unfold NdM
  repeat' apply And.intro
  all_goals first|(simp only[e1,s1,e3,e4,nxB,evO,simprocAttr];done)|(simp[Zq,e1,s1,e3,e4];done)
 clear e1 s1 e3 e4
 obtain⟨⟨e1,s1⟩,e3,e4,e5⟩:=hM
 refine gV (fun e σ=>NdM x e σ∧e 3= .a (.p (.b (decide (x.k=8∨x.k=11∨x.k=12))))∧e 4= .a (.p (.b (decide (x.k=10∨x.k=12))))∧e 5= .a (.p (.i .i64 (if x.k=0∨x.k=1 then 0 else 60)))) ?_ fun e' σ' hM=>?_
 ·by_cases k0:x.k=0
  ·simp only[e1,s1,e3,e4,e5,k0,nxB,evO,simprocAttr]
   unfold NdM
   repeat' apply And.intro
   all_goals first|(simp only[e1,s1,e3,e4,e5,k0,nxB,evO,simprocAttr];done)|(simp[Zq,e1,s1,e3,e4,e5,k0];done)
  by_cases k1:x.k=1
  ·simp only[e1,s1,e3,e4,e5,k0,k1,Int.reduceEq,nxB,evO,simprocAttr]
   unfold NdM
   repeat' apply And.intro
   all_goals first|(simp only[e1,s1,e3,e4,e5,k0,k1,nxB,evO,simprocAttr];done)|(simp[Zq,e1,s1,e3,e4,e5,k0,k1];done)
  simp only[e1,s1,e3,e4,e5,k0,k1,nxB,evO,simprocAttr]
  unfold NdM
  repeat' apply And.intro
  all_goals first|(simp only[e1,s1,e3,e4,e5,k0,k1,nxB,evO,simprocAttr];done)|(simp[Zq,e1,s1,e3,e4,e5,k0,k1];done)
 clear e1 s1 e3 e4 e5
 obtain⟨⟨e1,s1⟩,e3,e4,e5⟩:=hM
 obtain⟨most,hmost⟩:∃z:Int,(if x.k=0∨x.k=1 then 0 else 60)=z:=⟨_,rfl⟩
 rw[hmost]at e5⊢
 obtain⟨b3,hb3⟩:∃b:Bool,decide (x.k=8∨x.k=11∨x.k=12)=b:=⟨_,rfl⟩
 obtain⟨b4,hb4⟩:∃b:Bool,decide (x.k=10∨x.k=12)=b:=⟨_,rfl⟩
 rw[hb3]at e3
 rw[hb4]at e4
 obtain⟨p,hp⟩:∃p:Prop,(((0≤x.k∧x.k≤13)∧jX x)∧(0≤x.lv∧x.lv≤most)∧(x.s≠[]↔(x.k=8∨x.k=11∨x.k=12))∧(x.n=0∨(x.k=10∨x.k=12))∧(x.k≠8∨(1≤(x.to.length:Int)∧(x.to.length:Int)≤9)))=p:=⟨_,rfl⟩
 have hp1:=hp
 rw[hp]
 by_cases hA:0≤x.lv∧x.lv≤most
 case neg=>
  have c2:=wm hA
  simp only[e1,s1,e3,e4,e5,c2,nxB,evO,simprocAttr]
  rw[←hp1]
  exact fun h=>hA h.2.1
 have c2:=Pv hA
 by_cases hB:x.s≠[]↔(x.k=8∨x.k=11∨x.k=12)
 case neg=>
  have hd:((!decide (x.s=[]))=b3)=False:=by
   rw[←hb3]
   refine propext ⟨fun h=>hB ?_,fun h=>h.elim⟩
   rw[Gy]at h;simpa using h
  simp only[e1,s1,e3,e4,e5,c2,hd,nxB,evO,simprocAttr]
  rw[←hp1]
  exact fun h=>hB h.2.2.1
 have hd:((!decide (x.s=[]))=b3)=True:=by
  rw[←hb3]
  refine propext ⟨fun _=>trivial,fun _=>?_⟩
  rw[Gy];simpa using hB
 by_cases hn:x.n=0
 ·by_cases h8:x.k=8
  ·have c3:=BG (x.to.length:Int) 1 9
   simp only[e1,s1,e3,e4,e5,c2,hd,hn,h8,c3,nxB,evO,simprocAttr]
   rw[←hp1,Cd,decide_eq_true_eq,decide_eq_true_eq]
   exact⟨fun h=>⟨⟨hk,ha⟩,hA,hB,.inl hn,.inr h⟩,fun h=>by have:=h.2.2.2.2;omega⟩
  ·simp only[e1,s1,e3,e4,e5,c2,hd,hn,h8,nxB,evO,simprocAttr]
   rw[←hp1]
   exact⟨⟨hk,ha⟩,hA,hB,.inl hn,.inl h8⟩
 ·by_cases hN:x.k=10∨x.k=12
  ·have h8:¬x.k=8:=by omega
   rw[decide_eq_true hN]at hb4;subst hb4
   simp only[e1,s1,e3,e4,e5,c2,hd,hn,h8,nxB,evO,simprocAttr]
   rw[←hp1]
   exact⟨⟨hk,ha⟩,hA,hB,.inr hN,.inl h8⟩
  ·rw[decide_eq_false hN]at hb4;subst hb4
   simp only[e1,s1,e3,e4,e5,c2,hd,hn,nxB,evO,simprocAttr]
   rw[←hp1]
   rintro⟨_,_,_,h,_⟩
   rcases h with h|h
   ·exact hn h
   ·exact hN h
theorem OD{n:Nt}(hn:n.ns.length*88+88≤140737488355328)(σ:St):
  ∃σ',eS S (.f 97) [.g ((Ip n).map .p)] σ=some (.g [.own (10,σ.clk+3) 0 n.ns.length,.p (.i .i64 n.cap)],σ')∧
   (σ'.bs (10,σ.clk+3)=some (.row 6 46 (n.ns.map Ug))∧σ'.clk=σ.clk+4∧σ'.ls=σ.ls∧∀s:Key,s.2<σ.clk→σ'.bs s=σ.bs s):=by
 refine Zy (fc:=F97) rfl rfl ?_
 have hw:IntKind.i64.wrap ((n.ns.length:Int)+1)=n.ns.length+1:=qI _ (by omega)
 have hb:(n.ns.length+1:Int)*88≤140737488355328:=by omega
 have hb2:n.ns.length*88≤140737488355328:=by omega
 have h0:(0:Int)≤n.ns.length+1:=by omega
 simp only[F97,hw,hb,hb2,h0,Mz,kS,rV,Nat.not_lt_zero,Qp,Nat.reduceAdd,nxB,evO,simprocAttr]
 intro s hs
 have hne:∀d k:Nat,¬s=(d,σ.clk+k):=by rintro d k rfl;simp at hs;omega
 have hne0:∀d:Nat,¬s=(d,σ.clk):=by rintro d rfl;simp at hs
 simp only[hne,hne0,if_false]
theorem U3(l:List Ar)(hl:l.length*24≤140737488355328):eP S 145 [.a (.l (l.map uO))]=some (.a (.l (l.map uO))):=by
 cases l with
 |nil=>exact(oW S).2 ⟨1,rfl⟩
 |cons a r=>
  have key:∀σ:St,eS S (.f 145) [.a (.p (.l ((a::r).map uO)))] σ=some (.a (.own (7,σ.clk+1) 0 (r.length+1)),((σ.add 5 (.row 2 107 [])).kill (5,σ.clk)).add 7 (.row 2 107 ((a::r).map uO))):=by
   intro σ
   refine kZ (fc:=F145) rfl rfl ?_
   have hl':(r.length+1)*24≤140737488355328:=hl
   have h2:=L5 (a::r)
   simp only[zx,KF,uO]at h2
   simp only[F145,xY,hl',h2,nxB,evO,simprocAttr]
  obtain⟨k,hk⟩:=(jk S).1 (key .empty)
  refine(oW S).2 ⟨k+1,?_⟩
  have ho:S.orc 145 [.a (.l ((a::r).map uO))]=none:=rfl
  have hk':evS S k (.f 145) ([PT.a (.l ((a::r).map uO))].map cV) .empty=_:=hk
  simp only[evP,ho,hk',wA]
  simp[frT,frA,St.add,St.put,St.kill,St.empty]
  exact Ea (by simp)
theorem Ha(l:List Nd)(hl:l.length*88≤140737488355328)(k:Key)(σ:St)(hk:σ.bs k=some (.row 6 46 (l.map Ug))):
  eS S (.f 146) [.a (.own k 0 l.length),.a (.fn 69 [])] σ=some (.a (.p (.i .i64 (idx (fun x:Nd=>decide (x.k=0)) l))),σ):=by
 refine kZ (fc:=F146) rfl rfl ?_
 simp only[F146,nxB,evO,simprocAttr]
 refine Fs l.length (fun i e σ'=>σ'=σ∧e 0= .a (.own k 0 l.length)∧e 1= .a (.fn 69 [])∧e 7= .a (.p (.i .i64 l.length))∧e 8= .a (.p (.i .i64 (i:Nat)))∧∀j x,j<i→l[j]? =some x→decide (x.k=0)=false) (i0:=0) (ji _) ?_ ?_ ?_
 ·refine⟨rfl,?_,?_,?_,?_,fun j x hj=>by omega⟩<;>simp only[nxB,evO,Nat.reduceLT,Nat.reduceSub,Nat.reduceBEq,Nat.reduceEqDiff,Nat.reduceAdd,Nat.reduceLeDiff,reduceCtorEq,Nat.reduceMul]
  rfl
 ·rintro i e σ' hi ⟨rfl,e0,e1,e7,e8,hall⟩
  have hlt:((i:Nat):Int)<(l.length:Int):=by omega
  have hge:(0:Int)≤((i:Nat):Int):=by omega
  obtain⟨x,hx⟩:∃x,l[i]? =some x:=⟨_,Xb hi⟩
  have hx':=Kr Ug hx
  have c1:=Vj x
  simp only[Ug]at c1
  by_cases hf:x.k=0
  ·rw[hf]at c1
   simp only[F146b0,e0,e1,e7,e8,hk,hlt,hge,hx',c1,hf,Ci,nxB,evO,simprocAttr]
   have:l.findIdx? (fun x:Nd=>decide (x.k=0))=some i:=by
    rw[oO]
    refine⟨hi,?_,fun j hj=>?_⟩
    ·rw[Xb hi]at hx;rw[BQ hx];simpa using hf
    ·rw[hall j _ hj (Xb (by omega))];simp
   simp only[idx,this]
  ·simp only[F146b0,e0,e1,e7,e8,hk,hlt,hge,hx',c1,hf,Ci,nxB,evO,simprocAttr]
   refine⟨by rw[zz i (by omega)],fun j y hj hy=>?_⟩
   by_cases e:j=i
   ·subst e;rw[hx]at hy;rw[←BQ hy];simpa using hf
   ·exact hall j y (by omega) hy
 ·rintro e σ' ⟨rfl,e0,e1,e7,e8,hall⟩
  have hlt:¬((l.length:Nat):Int)<(l.length:Int):=by omega
  simp only[F146b0,e0,e1,e7,e8,hlt,nxB,evO,simprocAttr]
  have:l.findIdx? (fun x:Nd=>decide (x.k=0))=none:=by
   rw[iU]
   intro x hx
   obtain⟨j,hj⟩:=IL hx
   exact hall j x (QU.1 hj).1 hj
  simp only[idx,this]
def mj(x:Nd):Bool:=decide (x.k=0)
def Nt.at(n:Nt):Nat:=match n.ns.findIdx? mj with|some i=>i|none=>n.ns.length
def Nd.fresh(x:Nd):Nd:={x with to:=List.replicate x.ports.toNat zP}
def Nt.make(n:Nt)(x:Nd):Nt:={n with ns:=match n.ns.findIdx? mj with|some i=>n.ns.set i x.fresh|none=>n.ns++[x.fresh]}
noncomputable def wS(n:Nt)(x:Nd):Nt×Int×Int:=
 if(x.k=0∨x.k=1)∨bool x.may=false then(n,0,122)else if n.used≥n.cap then(n,0,121)else(n.make x,n.at,0)
def Yg(x:Nt×Int×Int):PT:=.t [(true,Ip x.1),(false,[.i .i64 x.2.1]),(false,[.i .i64 x.2.2])]
theorem lq{x:Nd}(hx:x.Ok):0≤x.ports∧x.ports*16≤140737488355328:=by
 have h1:=hx.to
 have h2:=hx.al
 unfold Nd.ports
 repeat' split
 all_goals omega
theorem wU{n:Nt}{x:Nd}(hn:n.Ok)(hbig:n.ns.length*88+88≤140737488355328)(hx:x.Ok):eP S 110 [.g (Ip n),.g (Ug x)]=some (Yg (wS n x)):=by
 have c1:=Qz hx
 have c2:=Ig hn
 have c3:=kF hx
 have c4:=U3 x.al hx.al
 have hp:=lq hx
 refine Cf (xO (by decide)) (fc:=F110) rfl rfl ?_
 unfold wS
 by_cases k0:x.k=0
 ·simp only[F110,k0,Yg,true_or,nxB,evO,simprocAttr]
 by_cases k1:x.k=1
 ·simp only[F110,k0,k1,Int.reduceEq,Yg,true_or,or_true,nxB,evO,simprocAttr]
 by_cases hm:x.may
 case neg=>
  rw[qy hm]at c1⊢
  simp only[Ug]at c1
  simp only[F110,k0,k1,c1,Yg,or_true,nxB,evO,simprocAttr]
 rw[Pb hm]at c1⊢
 by_cases hu:n.used≥n.cap
 ·simp only[Ug,Ip]at c1 c2
  simp only[F110,k0,k1,c1,c2,hu,Yg,or_self,U8,nxB,evO,simprocAttr]
 obtain⟨σ1,hcall,s10,hclk,hls,hold⟩:=OD hbig (((St.empty.add 2 (.var ((Ip n).map .p))).add 3 (.var ((Ug x).map .p))).add 4 (.var [.nil,.p (.i .i64 0)]))
 have h2:=hold (2,0) (by simp[Bv,Sx])
 have h3:=hold (3,1) (by simp[Bv,Sx])
 have h4:=hold (4,2) (by simp[Bv,Sx])
 simp only[Ip,Ug,zx,XM,Bv,Sx,Mq,Wl,Fy,Nat.reduceAdd,if_true,if_false,ZP,Nat.reduceEqDiff,false_and,and_false,and_self,Nat.succ_ne_self]at hcall s10 hclk h2 h3 h4
 simp only[Ug,Ip]at c1 c2 c3
 have hidx:=Ha n.ns hn.ns
 cases hf:n.ns.findIdx? mj with
 |some i=>
  have hi:idx (fun x:Nd=>decide (x.k=0)) n.ns=(i:Int):=by
   have:n.ns.findIdx? (fun x:Nd=>decide (x.k=0))=some i:=hf
   simp only[idx,this]
  rw[hi]at hidx
  have hil:i<n.ns.length:=by
   have:=oO.1 hf
   exact this.1
  obtain⟨y,hy⟩:∃y,n.ns[i]? =some y:=⟨_,Xb hil⟩
  have hy':=Kr Ug hy
  have hlt:((i:Nat):Int)<(n.ns.length:Int):=by omega
  have hneg:¬((i:Nat):Int)<0:=by omega
  have hge:(0:Int)≤((i:Nat):Int):=by omega
  simp only[F110,k0,k1,c1,c2,c3,c4,hu,hcall,s10,hclk,h2,h3,h4,hp.1,hp.2,hidx,hlt,hneg,hge,hy',Ci,Mz,Yg,or_self,U8,kS,nxB,evO,simprocAttr]
  have hset:(n.ns.map Ug).set i [.i .i64 x.k,.i .i64 x.lv,.i .i64 x.n,.s x.s,.l (x.al.map uO),.l (List.replicate x.ports.toNat [.i .i64 0,.i .i64 0])]=(n.ns.set i x.fresh).map Ug:=by
   rw[JV];simp[Ug,Nd.fresh,zP,xN]
  rw[hset]
  have hlen:n.ns.length≤(n.ns.set i x.fresh).length:=by simp
  have htk:List.take n.ns.length ((n.ns.set i x.fresh).map Ug)=(n.ns.set i x.fresh).map Ug:=Ea (by simp)
  simp only[hlen,htk,Nt.make,Nt.at,hf,nxB,evO,simprocAttr]
 |none=>
  have hi:idx (fun x:Nd=>decide (x.k=0)) n.ns= -1:=by
   have:n.ns.findIdx? (fun x:Nd=>decide (x.k=0))=none:=hf
   simp only[idx,this]
  rw[hi]at hidx
  have htk0:List.take n.ns.length (n.ns.map Ug)=n.ns.map Ug:=Ea (by simp)
  have hat:∀r:List PV,(n.ns.map Ug++[r])[n.ns.length]? =some r:=by intro r;rw[bO (by simp)];simp
  have hset:∀r r':List PV,(n.ns.map Ug++[r]).set n.ns.length r'=n.ns.map Ug++[r']:=by intro r r';rw[List.set_append_right _ _ (by simp)];simp
  have hb1:(n.ns.length+1)*88≤140737488355328:=by omega
  have hlt:((n.ns.length:Nat):Int)<((n.ns.length+1:Nat):Int):=by omega
  have hge:(0:Int)≤((n.ns.length:Nat):Int):=by omega
  simp only[F110,k0,k1,c1,c2,c3,c4,hu,hcall,s10,hclk,h2,h3,h4,hp.1,hp.2,hidx,Int.reduceNeg,Int.reduceLT,hb1,hlt,hge,htk0,hat,hset,Ci,Yg,or_self,U8,kS,Mz,nxB,evO,simprocAttr]
  have hmk:n.ns.map Ug++[[.i .i64 x.k,.i .i64 x.lv,.i .i64 x.n,.s x.s,.l (x.al.map uO),.l (List.replicate x.ports.toNat [.i .i64 0,.i .i64 0])]]=(n.ns++[x.fresh]).map Ug:=by
   simp[Ug,Nd.fresh,zP,xN]
  rw[hmk]
  have hlen:n.ns.length+1≤(n.ns++[x.fresh]).length:=by simp
  have htk:List.take (n.ns.length+1) ((n.ns++[x.fresh]).map Ug)=(n.ns++[x.fresh]).map Ug:=Ea (by simp)
  have hmake:(n.make x).ns=n.ns++[x.fresh]∧(n.make x).cap=n.cap∧n.at=n.ns.length:=by simp only[Nt.make,Nt.at,hf,and_self]
  rw[hmake.1,hmake.2.1,hmake.2.2]
  simp only[mB,hlen,htk,nxB,evO,simprocAttr]
def tl(l:List Nd):Nat→Nat
 |0=>0
 |k+1=>if mj (l.getD k zN)then tl l k else k+1
def CV(l:List Nd):List Nd:=l.take (tl l l.length)
def Nt.free(n:Nt)(i:Int):Nt:={n with ns:=CV (n.ns.set i.toNat zN)}
def ti(n:Nt)(i:Int):Nt×Int:=if 0≤i∧i≤(n.ns.length:Int)-1∧(n.nd i).k≠0 then(n.free i,0)else(n,122)
theorem pX{n:Nt}(hn:n.Ok)(hbig:n.ns.length*88+88≤140737488355328)(i:Int):eP S 55 [.g (Ip n),.a (.i .i64 i)]=some (qX (ti n i)):=by
 have hw0:IntKind.i64.wrap ((n.ns.length:Int)-1)=(n.ns.length:Int)-1:=qI _ (by omega)
 refine Cf (xO (by decide)) (fc:=F55) rfl rfl ?_
 unfold ti
 by_cases hin:0≤i∧i≤(n.ns.length:Int)-1
 case neg=>
  have c1:=wm hin
  rw[if_neg (fun h=>hin ⟨h.1,h.2.1⟩)]
  simp only[F55,hw0,c1,qX,nxB,evO,simprocAttr]
 have c1:=Pv hin
 have hx:=vH (l:=n.ns) (i:=i) hin.1 (by omega)
 have hlt:i<(n.ns.length:Int):=by omega
 have hge:=hin.1
 obtain⟨y,hy⟩:∃y,n.ns.getD i.toNat zN=y:=⟨_,rfl⟩
 have hy2:n.nd i=y:=hy
 rw[hy]at hx
 have c2:=Vj y
 simp only[Ug]at c2
 rw[hy2]
 by_cases hk:y.k=0
 ·rw[if_neg (fun h=>h.2.2 hk)]
  rw[hk]at c2
  simp only[Ug,hk]at hx
  simp only[F55,hw0,c1,hlt,hge,hx,c2,qX,nxB,evO,simprocAttr]
 rw[if_pos ⟨hin.1,hin.2,hk⟩]
 obtain⟨σ1,hcall,s10,hclk,hls,hold⟩:=OD hbig ((St.empty.add 2 (.var ((Ip n).map .p))).add 4 (.var [.nil,.p (.i .i64 0)]))
 have h2:=hold (2,0) (by simp[Bv,Sx])
 have h4:=hold (4,1) (by simp[Bv,Sx])
 simp only[Ip,Ug,zx,XM,Bv,Sx,Mq,Wl,Fy,Nat.reduceAdd,if_true,if_false,ZP,Nat.reduceEqDiff,false_and,and_false,and_self,Nat.succ_ne_self]at hcall s10 hclk h2 h4
 simp only[Ug]at hx
 have hlt2:i.toNat<n.ns.length:=by omega
 have hset:∀r:List PV,r=Ug zN→(n.ns.map Ug).set i.toNat r=(n.ns.set i.toNat zN).map Ug:=by rintro r rfl;rw[JV]
 have hz:Ug zN=[.i .i64 0,.i .i64 0,.i .i64 0,.s [],.l [],.l []]:=rfl
 have hset':=hset _ hz.symm
 obtain⟨M,hM⟩:∃M,M=n.ns.set i.toNat zN:=⟨_,rfl⟩
 have hMl:M.length=n.ns.length:=by rw[hM];simp
 rw[←hM]at hset'
 have hfr:n.free i=⟨M.take (tl M M.length),n.cap⟩:=by rw[hM];rfl
 rw[hfr]
 simp only[F55,hw0,c1,hlt,hge,hx,c2,hk,hcall,s10,hclk,h2,h4,hset',Ci,qX,nxB,evO,simprocAttr]
 refine Fs M.length (fun q e σ=>e 2= .a (.ptr (2,0) 0 0)∧e 4= .a (.ptr (4,1) 0 0)∧σ.bs (2,0)=some (.var [.own (10,5) 0 (M.length-q),.p (.i .i64 n.cap)])∧σ.bs (4,1)=some (.var [.nil,.p (.i .i64 0)])∧
  σ.bs (10,5)=some (.row 6 46 (M.map Ug))∧tl M M.length=tl M (M.length-q)) (i0:=0) (ji _) ?_ ?_ ?_
 ·refine⟨?_,?_,?_,?_,?_,?_⟩<;>simp only[hMl,kR,h2,h4,nxB,evO,simprocAttr]
 ·rintro q e σ hq ⟨e2,e4,s2,s4,s10,ht⟩
  obtain⟨k,hk⟩:∃k,M.length-q=k+1:=⟨M.length-q-1,by omega⟩
  have hk2:M.length-(q+1)=k:=by omega
  obtain⟨L,hL⟩:∃L,L=M.length-q:=⟨_,rfl⟩
  rw[←hL]at s2 ht
  rw[hk2]
  have hLk:L=k+1:=by omega
  have hw:IntKind.i64.wrap ((L:Int)-1)=(k:Int):=by rw[qI _ (by omega)];omega
  have hgt:(L:Int)>0:=by omega
  have hlt:(k:Int)<(L:Int):=by omega
  have hle:(k:Int)≤(L:Int):=by omega
  have hge:(0:Int)≤(k:Int):=by omega
  obtain⟨x,hx⟩:∃x,M[k]? =some x:=⟨_,Xb (by omega)⟩
  have hx':=Kr Ug hx
  have c1:=Vj x
  have hgd:M.getD k zN=x:=by rw[Kh,hx];rfl
  have htk:tl M (k+1)=if x.k=0 then tl M k else k+1:=by simp only[tl,hgd,mj,decide_eq_true_eq]
  simp only[Ug]at c1
  by_cases hf:x.k=0
  ·rw[hf]at c1
   rw[hLk,htk,if_pos hf]at ht
   simp only[F55b0,e2,e4,s2,s4,s10,hw,hgt,hlt,hle,hge,hx',c1,hf,Ci,Bp,rV,kR,kS,nxB,evO,simprocAttr]
   exact ht
  ·rw[hLk,htk,if_neg hf,←hLk]at ht
   rw[ht]
   have hlen:L≤M.length:=by omega
   have htake:List.take L (M.map Ug)=(M.take L).map Ug:=List.map_take.symm
   simp only[F55b0,e2,e4,s2,s4,s10,hw,hgt,hlt,hle,hge,hx',c1,hf,Ci,hlen,htake,mB,nxB,evO,simprocAttr]
 ·rintro e σ ⟨e2,e4,s2,s4,s10,ht⟩
  rw[IZ]at s2 ht
  have:tl M 0=0:=rfl
  rw[ht,this]
  have hgt:¬((0:Nat):Int)>0:=by simp
  simp only[F55b0,e2,e4,s2,s4,s10,hgt,om,XM,ji,nxB,evO,simprocAttr]
def Lc:Nd:=⟨1,0,0,[],[],[⟨1,0⟩]⟩
theorem V1{n:Nt}(hn:n.Ok){i j:Nat}{x:Nd}(hx:n.ns[i]? =some x){q:Pt}(hq:x.to[j]? =some q):
  eP S 59 [.g (Ip n),.g [.i .i64 (i:Nat),.i .i64 (j:Nat)]]=some (.a (.b (bool (q≠⟨i,j⟩∧n.has q=true∧n.lk q=⟨i,j⟩)))):=by
 obtain⟨p,hp⟩:∃p:Prop,(q≠⟨i,j⟩∧n.has q=true∧n.lk q=⟨i,j⟩)=p:=⟨_,rfl⟩
 rw[hp]
 refine ml (xO (by decide)) (fc:=F59) rfl rfl ?_
 have hns:=hn.ns
 have hx':=Kr Ug hx
 have hq':=Kr xN hq
 have hi:=(QU.1 hx).1
 have hj:=(QU.1 hq).1
 have hlt1:((i:Nat):Int)<(n.ns.length:Int):=by omega
 have hge1:(0:Int)≤((i:Nat):Int):=by omega
 have hlt2:((j:Nat):Int)<(x.to.length:Int):=by omega
 have hge2:(0:Int)≤((j:Nat):Int):=by omega
 have hw0:IntKind.i64.wrap ((n.ns.length:Int)-1)=(n.ns.length:Int)-1:=qI _ (by omega)
 by_cases m1:q=⟨i,j⟩
 ·have hd:(decide (q.n=(i:Int))&&decide (q.s=(j:Int)))=true:=by rw[m1];simp
  simp only[F59,hlt1,hge1,hx',hlt2,hge2,hq',hd,nxB,evO,simprocAttr]
  rw[←hp];exact fun h=>h.1 m1
 have hd:(decide (q.n=(i:Int))&&decide (q.s=(j:Int)))=false:=by
  have:=DP q ⟨i,j⟩;rw[this];simpa using m1
 by_cases m2:0≤q.n∧q.n≤(n.ns.length:Int)-1
 case neg=>
  have c1:=wm m2
  simp only[F59,hlt1,hge1,hx',hlt2,hge2,hq',hd,hw0,c1,nxB,evO,simprocAttr]
  rw[←hp];intro h;have:=sJ.1 h.2.1;omega
 have c1:=Pv m2
 have g1:=vH (l:=n.ns) m2.1 (by omega)
 have hlt3:q.n<(n.ns.length:Int):=by omega
 have hge3:=m2.1
 have hzo:=hn.nd _ (oP m2.1 hlt3)
 obtain⟨z,hz⟩:∃z,n.nd q.n=z:=⟨_,rfl⟩
 rw[hz]at hzo
 have hz2:n.ns.getD q.n.toNat zN=z:=hz
 rw[hz2]at g1
 have hzt:=hzo.to
 have hw1:IntKind.i64.wrap ((z.to.length:Int)-1)=(z.to.length:Int)-1:=qI _ (by omega)
 by_cases m3:0≤q.s∧q.s≤(z.to.length:Int)-1
 case neg=>
  have c2:=wm m3
  simp only[F59,hlt1,hge1,hx',hlt2,hge2,hq',hd,hw0,c1,hlt3,hge3,g1,hw1,c2,nxB,evO,simprocAttr]
  rw[←hp];intro h;have:=sJ.1 h.2.1;rw[hz]at this;omega
 have c2:=Pv m3
 have g2:=FA (l:=z.to) m3.1 (by omega)
 have hlt4:q.s<(z.to.length:Int):=by omega
 have hge4:=m3.1
 obtain⟨y,hy⟩:∃y,z.to.getD q.s.toNat zP=y:=⟨_,rfl⟩
 rw[hy]at g2
 have hlk:n.lk q=y:=by unfold Nt.lk Nd.tt;rw[hz];exact hy
 have hhas:n.has q=true:=sJ.2 ⟨hge3,hlt3,hge4,by rw[hz];exact hlt4⟩
 have hP:(decide (y.n=(i:Int))&&decide (y.s=(j:Int)))=true↔p:=by
  have:=DP y ⟨i,j⟩
  rw[this,decide_eq_true_eq,←hp,hlk]
  simp only[hhas,m1,ne_eq,not_false_eq_true,true_and]
 simp only[F59,hlt1,hge1,hx',hlt2,hge2,hq',hd,hw0,c1,hlt3,hge3,g1,hw1,c2,hlt4,hge4,g2,nxB,evO,simprocAttr]
 exact hP
theorem Hi{n:Nt}(hn:n.Ok):eP S 37 [.g (Ip n)]=some (.a (.i .i64 (if bool n.Good=true then 0 else 120))):=by
 obtain⟨r,h1,h2⟩:=xI (S:=S) (g:=37) (xO (by decide)) (fc:=F37) rfl (ps:=[.g (Ip n)]) rfl (K:=RE n.Good) (by
  have hns:=hn.ns
  have hw:IntKind.i64.wrap ((n.ns.length:Int)-1)=n.ns.length-1:=qI _ (by omega)
  have hw1:IntKind.i64.wrap ((n.ns.length:Int)-1+1)=n.ns.length:=by rw[qI _ (by omega)];omega
  by_cases h1:1≤n.cap∧n.cap≤4000
  case neg=>
   have c1:=wm h1
   simp only[F37,hw,hw1,c1,im,nxB,evO,simprocAttr];intro hG;exact h1 ⟨hG.cap1,hG.cap2⟩
  have c1:=Pv h1
  by_cases h3:1≤(n.ns.length:Int)∧(n.ns.length:Int)≤n.cap
  case neg=>
   have c2:=wm h3
   simp only[F37,hw,hw1,c1,c2,im,nxB,evO,simprocAttr];intro hG;exact h3 ⟨hG.ln1,hG.ln2⟩
  have c2:=Pv h3
  have g:=vH (l:=n.ns) (i:=(n.ns.length:Int)-1) (by omega) (by omega)
  have hge0:0≤(n.ns.length:Int)-1:=by omega
  have hlt0:(n.ns.length:Int)-1<n.ns.length:=by omega
  by_cases h5:(n.nd (n.ns.length-1)).k=0
  ·unfold Nt.nd at h5
   simp only[F37,hw,hw1,c1,c2,h5,g,hge0,hlt0,im,nxB,evO,simprocAttr];intro hG;exact hG.last h5
  have h5':=h5
  unfold Nt.nd at h5'
  simp only[F37,hw,hw1,c1,c2,h5',g,hge0,hlt0,nxB,evO,simprocAttr]
  refine Fs n.ns.length (fun i e σ=>e 1= .a (.ptr (1,0) 0 0)∧e 33= .a (.p (.l (n.ns.map Ug)))∧e 34= .a (.p (.i .i64 n.ns.length))∧e 35= .a (.p (.i .i64 (i:Nat)))∧σ.bs (1,0)=some (.var ((Ip n).map .p))∧0<σ.clk∧
   ∀(m:Nat) (x:Nd),m<i→n.ns[m]? =some x→x.may∧(x.to.length:Int)=x.ports∧((m:Int)=0↔x.k=1)∧∀(j:Nat) (q:Pt),x.to[j]? =some q→q≠⟨m,j⟩∧n.has q=true∧n.lk q=⟨m,j⟩) (i0:=0) (ji _) ?_ ?_ ?_
  ·refine⟨?_,?_,?_,?_,?_,?_,fun m x hm=>by omega⟩<;>simp only[nxB,evO,simprocAttr]
   all_goals first|rfl|omega
  ·rintro i e σ hi ⟨e1,e33,e34,e35,s1,hc,hall⟩
   obtain⟨x,hx⟩:∃x,n.ns[i]? =some x:=⟨_,Xb hi⟩
   have hx':=Kr Ug hx
   have hlt:((i:Nat):Int)<(n.ns.length:Int):=by omega
   have hge:(0:Int)≤((i:Nat):Int):=by omega
   have hxo:=hn.nd x (yu hx)
   have hto:=hxo.to
   have c1:=Qz hxo
   have c2:=kF hxo
   have hne:¬((1,0):Key)=(5,σ.clk):=by simp
   simp only[Ug]at c1 c2
   simp only[Ip,zx,XM]at s1
   by_cases k1:x.may
   case neg=>
    rw[qy k1]at c1
    simp only[F37b0,e1,e33,e34,e35,s1,hlt,hge,hx',c1,im,nxB,evO,simprocAttr]
    intro hG;exact k1 (hG.nds i x hx).1
   rw[Pb k1]at c1
   by_cases k2:(x.to.length:Int)=x.ports
   case neg=>
    simp only[F37b0,e1,e33,e34,e35,s1,hlt,hge,hx',c1,c2,k2,im,nxB,evO,simprocAttr]
    intro hG;exact k2 (hG.nds i x hx).2.1
   by_cases k3:(((i:Nat):Int)=0↔x.k=1)
   case neg=>
    have hd:(decide (x.k=1)=decide (((i:Nat):Int)=0))=False:=by simp only[decide_eq_decide,eq_iff_iff,iff_false];exact fun h=>k3 h.symm
    simp only[F37b0,e1,e33,e34,e35,s1,hlt,hge,hx',c1,c2,k2,hd,im,nxB,evO,simprocAttr]
    intro hG;exact k3 (hG.nds i x hx).2.2.1
   have hd:(decide (x.k=1)=decide (((i:Nat):Int)=0))=True:=by simp only[decide_eq_decide,eq_iff_iff,iff_true];exact k3.symm
   simp only[F37b0,e1,e33,e34,e35,s1,hlt,hge,hx',c1,c2,k2,hd,nxB,evO,simprocAttr]
   refine Fs x.to.length (fun j e σ'=>e 1= .a (.ptr (1,0) 0 0)∧e 33= .a (.p (.l (n.ns.map Ug)))∧e 34= .a (.p (.i .i64 n.ns.length))∧e 35= .a (.p (.i .i64 (i:Nat)))∧e 4= .a (.p (.i .i64 (i:Nat)))∧e 61= .a (.p (.i .i64 x.to.length))∧e 62= .a (.p (.i .i64 (j:Nat)))∧σ'.bs (1,0)=some (.var ((Ip n).map .p))∧0<σ'.clk∧
    ∀(m:Nat) (q:Pt),m<j→x.to[m]? =some q→q≠⟨i,m⟩∧n.has q=true∧n.lk q=⟨i,m⟩) (i0:=0) (ji _) ?_ ?_ ?_
   ·refine⟨?_,?_,?_,?_,?_,?_,?_,?_,?_,fun m x hm=>by omega⟩<;>simp only[e1,e33,e34,e35,s1,k2,nxB,evO,simprocAttr]
    all_goals first|rfl|omega
   ·rintro j e σ' hj ⟨e1,e33,e34,e35,e4,e61,e62,s1,hc,hall2⟩
    obtain⟨q,hq⟩:∃q,x.to[j]? =some q:=⟨_,Xb hj⟩
    have hlt2:((j:Nat):Int)<(x.to.length:Int):=by omega
    have hge2:(0:Int)≤((j:Nat):Int):=by omega
    have c3:=V1 hn hx hq
    simp only[Ip,Ug,xN,zx,XM]at s1 c3
    by_cases m1:q≠⟨i,j⟩∧n.has q=true∧n.lk q=⟨i,j⟩
    case neg=>
     rw[qy m1]at c3
     simp only[F37b1,e1,e33,e34,e35,e4,e61,e62,s1,hlt2,hge2,c3,im,nxB,evO,simprocAttr]
     intro hG;exact m1 ((hG.nds i x hx).2.2.2 j q hq)
    rw[Pb m1]at c3
    simp only[F37b1,e1,e33,e34,e35,e4,e61,e62,s1,hlt2,hge2,c3,nxB,evO,simprocAttr]
    refine⟨by rw[zz j (by omega)],hc,fun m c hm hc=>?_⟩
    by_cases e:m=j
    ·subst e;rw[hq]at hc;rw[←BQ hc];exact m1
    ·exact hall2 m c (by omega) hc
   ·rintro e σ' ⟨e1,e33,e34,e35,e4,e61,e62,s1,hc,hall2⟩
    have hlt2:¬((x.to.length:Nat):Int)<(x.to.length:Int):=by omega
    simp only[Ip,Ug,xN,zx,XM]at s1
    simp only[F37b1,e1,e33,e34,e35,e4,e61,e62,s1,hlt2,nxB,evO,simprocAttr]
    refine⟨by rw[zz i (by omega)],hc,fun m y hm hy=>?_⟩
    by_cases e:m=i
    ·subst e;rw[hx]at hy;rw[←BQ hy]
     exact⟨k1,k2,k3,fun j q hq=>hall2 j q (QU.1 hq).1 hq⟩
    ·exact hall m y (by omega) hy
  ·rintro e σ ⟨e1,e33,e34,e35,s1,hc,hall⟩
   have hlt:¬((n.ns.length:Nat):Int)<(n.ns.length:Int):=by omega
   simp only[Ip,zx,XM]at s1
   simp only[F37b0,e1,e33,e34,e35,s1,hlt,RE_0,nxB,evO,simprocAttr]
   exact⟨h1.1,h1.2,h3.1,h3.2,h5,fun i x hi=>hall i x (QU.1 hi).1 hi⟩)
 rw[h1,h2]
theorem ZK:NH []=0:=rfl
theorem rh(x:Nd)(l:List Nd):NH (x::l)=(if x.k=0 then 0 else 1)+NH l:=by
 unfold NH
 rw[Mp]
 by_cases hk:x.k=0
 ·simp[hk]
 ·simp[hk];omega
theorem tZ(l m:List Nd):NH (l++m)=NH l+NH m:=by
 unfold NH;rw[UN];omega
theorem lr:∀{l:List Nd} {i:Nat} {x:Nd} (y:Nd),l[i]? =some x→NH (l.set i y)=NH l-(if x.k=0 then 0 else 1)+(if y.k=0 then 0 else 1)
 |[],i,x,y,h=>by simp at h
 |z::l,0,x,y,h=>by
  simp only[aT,Lo]at h;subst h
  rw[List.set_cons_zero,rh,rh];omega
 |z::l,i+1,x,y,h=>by
  simp only[cw]at h
  rw[DV,rh,rh,lr y h];omega
theorem Qv{l:List Nd}{i:Nat}{x:Nd}(h:l[i]? =some x):l.getD i zN=x:=by
 rw[Kh,h];rfl
theorem Gp(l:List Nd):∀k,tl l k≤k
 |0=>nh _
 |k+1=>by
  simp only[tl]
  split
  ·have:=Gp l k;omega
  ·omega
theorem wB(l:List Nd):∀k i,tl l k≤i→i<k→(l.getD i zN).k=0
 |0,i,h1,h2=>by omega
 |k+1,i,h1,h2=>by
  simp only[tl]at h1
  split at h1
  ·rename_i hf
   by_cases e:i=k
   ·subst e;simpa [mj]using hf
   ·exact wB l k i h1 (by omega)
  ·omega
theorem L8(l:List Nd):∀k,0<tl l k→(l.getD (tl l k-1) zN).k≠0
 |0,h=>by simp[tl]at h
 |k+1,h=>by
  simp only[tl]at h⊢
  split
  ·rename_i hf;rw[if_pos hf]at h;exact L8 l k h
  ·rename_i hf;simpa [mj]using hf
theorem nD{l:List Nd}{k:Nat}(hk:0<k)(h:(l.getD (k-1) zN).k≠0):tl l k=k:=by
 cases k with
 |zero=>omega
 |succ k=>simp only[tl];rw[if_neg];simpa [mj]using h
theorem Tz(l:List Nd):(CV l).length=tl l l.length:=by
 unfold CV;rw[Q4];have:=Gp l l.length;omega
theorem BE{l:List Nd}{i:Nat}(h:i<(CV l).length):(CV l)[i]? =l[i]? :=by
 rw[Tz]at h
 unfold CV;rw[Dp h]
theorem Ud{l:List Nd}:∀(j:Nat),j≤l.length→∀k,k≤j→(∀i,k≤i→i<j→(l.getD i zN).k=0)→NH (l.take j)=NH (l.take k)
 |0,_,k,hk,_=>by rw[show k=0 by omega]
 |j+1,hj,k,hk,h=>by
  by_cases e:k=j+1
  ·rw[e]
  ·obtain⟨x,hx⟩:∃x,l[j]? =some x:=⟨_,Xb (by omega)⟩
   rw[Jm hx,if_pos (by rw[←Qv hx];exact h j (by omega) (by omega)),aE]
   exact Ud j (by omega) k (by omega) fun i h1 h2=>h i h1 (by omega)
theorem eu(l:List Nd):NH (CV l)=NH l:=by
 have:=Ud (l:=l) l.length (nh _) (tl l l.length) (Gp _ _) (fun i h1 h2=>wB l _ i h1 h2)
 rw[QL]at this
 exact this.symm
theorem Yl{x:Nd}(hm:x.may)(ht:(x.to.length:Int)=x.ports)(hk:x.k=0):x=zN:=by
 obtain⟨k,lv,n,s,al,to⟩:=x
 simp only at hk
 subst hk
 have h1:=hm.lv0
 have h2:=hm.lv2 (by simp)
 have h3:=hm.nm
 have h4:=hm.nn
 have h5:=hm.aln (by simp)
 have hp:(Nd.mk 0 lv n s al to).ports=0:=by unfold Nd.ports;simp
 rw[hp]at ht
 simp only at ht h1 h2 h3 h4 h5
 have e1:lv=0:=by omega
 have e2:n=0:=by
  by_cases h:n=0
  ·exact h
  ·have:=h4 h;omega
 have e3:s=[]:=by
  by_cases h:s=[]
  ·exact h
  ·have:=h3.1 h;omega
 have e4:al=[]:=eL (by omega)
 have e5:to=[]:=eL (by omega)
 rw[e1,e2,e3,e4,e5];rfl
theorem bo{n:Nt}(hG:n.Good):CV n.ns=n.ns:=by
 have h1:=hG.ln1
 have h2:=hG.last
 unfold CV
 rw[nD (by omega),QL]
 unfold Nt.nd at h2
 rw[show((n.ns.length:Int)-1).toNat=n.ns.length-1 by omega]at h2
 exact h2
theorem oC{n:Nt}(hG:n.Good){i:Nat}{x:Nd}(hx:n.ns[i]? =some x)(hk:x.k=0):n.ns.set i zN=n.ns:=by
 have h:=hG.nds i x hx
 have:=Yl h.1 h.2.1 hk
 rw[←this]
 obtain⟨h1,h2⟩:=QU.1 hx
 rw[←h2,List.set_getElem_self]
instance(i:Int):Decidable (wf i):=by unfold wf;infer_instance
theorem KT{n:Nat}(h:n≤9223372036854775807):wf (n:Int):=by unfold wf;omega
theorem cT{x:Nd}(hx:x.Ok):x.fresh.Ok:=by
 have hp:=lq hx
 refine⟨hx.k,hx.lv,hx.n,hx.s,hx.al,?_,hx.ap,fun p h=>?_⟩
 ·simp only[Nd.fresh,Eh];omega
 ·have:=Fa h;rw[this];decide
theorem OY{x:Nd}(hx:x.Ok):x.fresh.ports=x.ports:=by
 have hp:=lq hx
 by_cases h8:x.k=8
 ·have e2:x.fresh.ports=x.fresh.to.length:=by
   have h8':x.fresh.k=8:=h8
   unfold Nd.ports;rw[h8'];simp
  rw[e2];simp only[Nd.fresh,Eh];omega
 ·unfold Nd.ports Nd.fresh;simp only[h8,if_false]
def Shp(n m:Nt):Prop:=n.ns.length=m.ns.length∧n.cap=m.cap∧∀i:Int,0≤i→(m.nd i).k=(n.nd i).k∧(m.nd i).lv=(n.nd i).lv∧(m.nd i).n=(n.nd i).n∧(m.nd i).s=(n.nd i).s∧(m.nd i).al=(n.nd i).al∧(m.nd i).to.length=(n.nd i).to.length
theorem Shp.refl(n:Nt):Shp n n:=⟨rfl,rfl,fun _ _=>⟨rfl,rfl,rfl,rfl,rfl,rfl⟩⟩
theorem Shp.trans{a b c:Nt}(h:Shp a b)(k:Shp b c):Shp a c:=
 ⟨h.1.trans k.1,h.2.1.trans k.2.1,fun i hi=>by
  obtain⟨a1,a2,a3,a4,a5,a6⟩:=h.2.2 i hi
  obtain⟨b1,b2,b3,b4,b5,b6⟩:=k.2.2 i hi
  exact⟨b1.trans a1,b2.trans a2,b3.trans a3,b4.trans a4,b5.trans a5,b6.trans a6⟩⟩
theorem Shp.has{n m:Nt}(h:Shp n m)(p:Pt):m.has p=n.has p:=by
 rw[Gy,sJ,sJ,←h.1]
 constructor
 ·rintro⟨h1,h2,h3,h4⟩;rw[(h.2.2 p.n h1).2.2.2.2.2]at h4;exact⟨h1,h2,h3,h4⟩
 ·rintro⟨h1,h2,h3,h4⟩;rw[←(h.2.2 p.n h1).2.2.2.2.2]at h4;exact⟨h1,h2,h3,h4⟩
theorem Shp.set{n:Nt}{p:Pt}(q:Pt)(hp:n.has p=true):Shp n (n.set p q):=by
 refine⟨(B5 n p q).symm,rfl,fun i hi=>?_⟩
 rw[yO n p q hp i hi]
 split
 ·rename_i e;subst e;exact⟨rfl,rfl,rfl,rfl,rfl,by simp⟩
 ·exact⟨rfl,rfl,rfl,rfl,rfl,rfl⟩
theorem EZ{n:Nt}{i:Nat}{x:Nd}(h:n.ns[i]? =some x):n.nd (i:Int)=x:=by
 unfold Nt.nd;rw[KA,Kh,h];rfl
theorem OA{n:Nt}{i:Int}(h0:0≤i)(h1:i<n.ns.length):n.ns[i.toNat]? =some (n.nd i):=by
 unfold Nt.nd;rw[Kh,Xb (by omega)];rfl
theorem JE{x:Nd}{j:Nat}{q:Pt}(h:x.to[j]? =some q):x.tt (j:Int)=q:=by
 unfold Nd.tt;rw[KA,Kh,h];rfl
theorem pq{x:Nd}{j:Int}(h0:0≤j)(h1:j<x.to.length):x.to[j.toNat]? =some (x.tt j):=by
 unfold Nd.tt;rw[Kh,Xb (by omega)];rfl
theorem Hl{n:Nt}{i j:Nat}{x:Nd}(h:n.ns[i]? =some x)(hj:j<x.to.length):n.has ⟨i,j⟩=true:=by
 rw[sJ]
 have hi:=(QU.1 h).1
 refine⟨by simp,by simp;omega,by simp,?_⟩
 simp only
 rw[EZ h];omega
theorem Kp{n:Nt}{i j:Nat}{x:Nd}{q:Pt}(h:n.ns[i]? =some x)(hq:x.to[j]? =some q):n.lk ⟨i,j⟩=q:=by
 unfold Nt.lk;simp only;rw[EZ h,JE hq]
theorem aF{n:Nt}(hg:n.Good){p:Pt}(hp:n.has p=true):n.lk p≠p∧n.has (n.lk p)=true∧n.lk (n.lk p)=p:=by
 have h:=sJ.1 hp
 have hx:=OA (n:=n) h.1 h.2.1
 have hq:=pq (x:=n.nd p.n) h.2.2.1 h.2.2.2
 obtain⟨_,_,_,h4⟩:=hg.nds _ _ hx
 have h5:=h4 _ _ hq
 have e:(⟨(p.n.toNat:Int),(p.s.toNat:Int)⟩:Pt)=p:=by
  obtain⟨a,b⟩:=p
  simp only at h
  simp only[Pt.mk.injEq];omega
 rw[e]at h5
 exact h5
def Nt.ln(n:Nt)(p q:Pt):Nt:=(n.set p q).set q p
theorem zS{n:Nt}{p q:Pt}(hp:n.has p=true)(hq:n.has q=true):Shp n (n.ln p q):=(Shp.set q hp).trans (Shp.set p (by rw[HG q q hp];exact hq))
theorem UP{n:Nt}{p q r:Pt}(hp:n.has p=true)(hq:n.has q=true)(hr:n.has r=true):(n.ln p q).lk r=if r=q then p else if r=p then q else n.lk r:=by
 unfold Nt.ln
 rw[NV p r (by rw[HG q q hp];exact hq) (by rw[HG q r hp];exact hr),NV q r hp hr]
theorem qQ{n:Nt}{p q:Pt}(hp:n.has p=true)(hq:n.has q=true)(h:p≠q):KD n p q=(n.ln p q,0):=by
 unfold KD Nt.ln;simp[hp,hq,h]
structure Made(n:Nt)(x:Nd)(a:Nt)(t:Nat):Prop where
 one:1≤t
 lt:t<a.ns.length
 was:∀y,n.ns[t]? =some y→y.k=0
 now:a.ns[t]? =some x.fresh
 used:a.used=n.used+1
 cap:a.cap=n.cap
 rest:∀i:Nat,i≠t→i<a.ns.length→i<n.ns.length∧a.ns[i]? =n.ns[i]?
 back:a.free t=n
 len:a.ns.length≤n.ns.length+1
 le:n.ns.length≤a.ns.length
 ok:a.Ok
theorem W2{n:Nt}(hG:n.Good):n.ns.length≤4000:=by
 have:=hG.ln2;have:=hG.cap2;omega
theorem OR{n:Nt}(hG:n.Good):∃y,n.ns[0]? =some y∧y.k=1:=by
 have:=hG.ln1
 obtain⟨y,hy⟩:∃y,n.ns[0]? =some y:=⟨_,Xb (by omega)⟩
 exact⟨y,hy,(hG.nds 0 y hy).2.2.1.1 (by simp)⟩
theorem made{n:Nt}{x:Nd}(hn:n.Ok)(hG:n.Good)(hx:x.Ok)(hk:x.k≠0):Made n x (n.make x) n.at:=by
 have hb:=W2 hG
 obtain⟨r,hr,hr1⟩:=OR hG
 have hfk:x.fresh.k=x.k:=rfl
 cases hf:n.ns.findIdx? mj with
 |some i=>
  obtain⟨hi,hfi,hbef⟩:=oO.1 hf
  have e1:n.at=i:=by unfold Nt.at;rw[hf]
  have e2:n.make x=⟨n.ns.set i x.fresh,n.cap⟩:=by unfold Nt.make;rw[hf]
  have hy:n.ns[i]? =some n.ns[i]:=Xb hi
  have hyk:(n.ns[i]).k=0:=by simpa [mj]using hfi
  rw[e1,e2]
  refine⟨?_,by simpa using hi,fun y h=>?_,by simp[KC,hi],?_,rfl,fun j hj hjl=>⟨by simpa using hjl,xM (Mu hj)⟩,?_,by simp,by simp,⟨by simp;omega,hn.cap,fun y h=>?_⟩⟩
  ·rcases Nat.eq_zero_or_pos i with rfl|h
   ·rw[hr]at hy;simp only[Lo]at hy;rw[←hy,hr1]at hyk;omega
   ·exact h
  ·rw[hy]at h;rw[←BQ h];exact hyk
  ·show NH (n.ns.set i x.fresh)=NH n.ns+1
   rw[lr _ hy,if_pos hyk,hfk,if_neg hk];omega
  ·show(⟨CV ((n.ns.set i x.fresh).set (i:Int).toNat zN),n.cap⟩:Nt)=n
   rw[KA,List.set_set,oC hG hy hyk,bo hG]
  ·rcases MH h with h|rfl
   ·exact hn.nd y h
   ·exact cT hx
 |none=>
  have hnone:=iU.1 hf
  have e1:n.at=n.ns.length:=by unfold Nt.at;rw[hf]
  have e2:n.make x=⟨n.ns++[x.fresh],n.cap⟩:=by unfold Nt.make;rw[hf]
  rw[e1,e2]
  have hl:=hG.ln1
  refine⟨by omega,by simp,fun y h=>?_,by simp,?_,rfl,fun j hj hjl=>?_,?_,by simp,by simp,⟨by simp;omega,hn.cap,fun y h=>?_⟩⟩
  ·rw[eF (nh _)]at h;cases h
  ·show NH (n.ns++[x.fresh])=NH n.ns+1
   rw[tZ,rh,ZK,hfk,if_neg hk];omega
  ·simp only[GM,Ce,sI]at hjl
   exact⟨by omega,GV (by omega)⟩
  ·show(⟨CV ((n.ns++[x.fresh]).set (n.ns.length:Int).toNat zN),n.cap⟩:Nt)=n
   have e3:(n.ns++[x.fresh]).set (n.ns.length:Int).toNat zN=n.ns++[zN]:=by
    rw[KA,List.set_append_right _ _ (nh _)];simp
   have e4:CV (n.ns++[zN])=n.ns:=by
    have hlast:=hG.last
    unfold Nt.nd at hlast
    rw[show((n.ns.length:Int)-1).toNat=n.ns.length-1 by omega]at hlast
    have t1:tl (n.ns++[zN]) (n.ns.length+1)=tl (n.ns++[zN]) n.ns.length:=by
     simp only[tl];rw[if_pos]
     rw[Kh,bO (nh _)];simp[mj,zN]
    have t2:tl (n.ns++[zN]) n.ns.length=n.ns.length:=nD (by omega) (by
     rw[Kh,GV (by omega),←Kh];exact hlast)
    unfold CV
    rw[GM,Ce,sI,t1,t2];simp
   rw[e3,e4]
  ·rcases Sw.1 h with h|h
   ·exact hn.nd y h
   ·simp only[qY,oZ,or_false]at h;rw[h];exact cT hx
theorem RD:zN.Ok:=⟨by decide,by decide,by decide,by decide,by decide,by decide,by decide,by decide⟩
theorem xw{l:List Nd}{x:Nd}(h:x∈CV l):x∈l:=IY h
theorem nO(l:List Nd):(CV l).length≤l.length:=by rw[Tz];exact Gp _ _
theorem Tq{n:Nt}(hn:n.Ok)(i:Int):(n.free i).Ok:=by
 have h1:=nO (n.ns.set i.toNat zN)
 rw[rm]at h1
 have h2:=hn.ns
 refine⟨?_,hn.cap,fun x hx=>?_⟩
 ·show(CV (n.ns.set i.toNat zN)).length*88≤_;omega
 ·rcases MH (xw hx)with h|rfl
  ·exact hn.nd x h
  ·exact RD
theorem kT{n:Nt}{x:Nd}(hn:n.Ok)(hx:x.Ok)(hb:n.ns.length*88+88≤140737488355328):(n.make x).Ok:=by
 unfold Nt.make
 cases hf:n.ns.findIdx? mj with
 |some i=>
  refine⟨by simp;omega,hn.cap,fun y h=>?_⟩
  rcases MH h with h|rfl
  ·exact hn.nd y h
  ·exact cT hx
 |none=>
  refine⟨by simp;omega,hn.cap,fun y h=>?_⟩
  rcases Sw.1 h with h|h
  ·exact hn.nd y h
  ·simp only[qY,oZ,or_false]at h;rw[h];exact cT hx
theorem BM{n:Nt}{x:Nd}(hk:x.k≠0):(n.make x).used=n.used+1:=by
 have hfk:x.fresh.k=x.k:=rfl
 unfold Nt.make
 cases hf:n.ns.findIdx? mj with
 |some i=>
  obtain⟨hi,hfi,hbef⟩:=oO.1 hf
  have hy:n.ns[i]? =some n.ns[i]:=Xb hi
  have hyk:(n.ns[i]).k=0:=by simpa [mj]using hfi
  show NH (n.ns.set i x.fresh)=NH n.ns+1
  rw[lr _ hy,if_pos hyk,hfk,if_neg hk];omega
 |none=>
  show NH (n.ns++[x.fresh])=NH n.ns+1
  rw[tZ,rh,ZK,hfk,if_neg hk];omega
theorem jZ{n:Nt}{t:Nat}{y:Nd}(hy:n.ns[t]? =some y)(hk:y.k≠0):(n.free (t:Int)).used=n.used-1:=by
 show NH (CV (n.ns.set (t:Int).toNat zN))=NH n.ns-1
 rw[eu,KA,lr zN hy,if_neg hk]
 show NH n.ns-1+(if zN.k=0 then 0 else 1)=NH n.ns-1
 rw[if_pos (show zN.k=0 from rfl)];omega
theorem eB(n:Nt)(t:Int):(n.free t).ns.length≤n.ns.length:=by
 have:=nO (n.ns.set t.toNat zN)
 rw[rm]at this;exact this
theorem tP{n:Nt}(hG:n.Good):n.used≤n.cap:=by
 have:=ij n.ns
 have:=hG.ln2
 unfold Nt.used;omega
theorem LZ{n:Nt}(hG:n.Good){i j:Nat}{x:Nd}{q:Pt}(hx:n.ns[i]? =some x)(hq:x.to[j]? =some q):x.k≠0:=by
 intro h
 have h1:=hG.nds i x hx
 have h2:=Yl h1.1 h1.2.1 h
 rw[h2]at hq;simp[zN]at hq
theorem dW{n:Nt}{i m:Nat}{x:Nd}(hx:n.ns[m]? =some x)(hm:m≠i)(hk:x.k≠0):(n.free (i:Int)).ns[m]? =some x:=by
 have hset:(n.ns.set (i:Int).toNat zN)[m]? =some x:=by rw[KA,xM (Mu hm)];exact hx
 have hlt:m<(CV (n.ns.set (i:Int).toNat zN)).length:=by
  rw[Tz]
  by_cases h:m<tl (n.ns.set (i:Int).toNat zN) (n.ns.set (i:Int).toNat zN).length
  ·exact h
  ·exfalso
   apply hk
   have:=wB (n.ns.set (i:Int).toNat zN) _ m (by omega) ((QU.1 hset).1)
   rw[Qv hset]at this;exact this
 show(CV (n.ns.set (i:Int).toNat zN))[m]? =some x
 rw[BE hlt];exact hset
theorem fk{n:Nt}{i m:Nat}{x:Nd}(hx:(n.free (i:Int)).ns[m]? =some x):(m=i∧x=zN)∨(m≠i∧n.ns[m]? =some x):=by
 have h1:=(QU.1 hx).1
 have h2:(CV (n.ns.set (i:Int).toNat zN))[m]? =some x:=hx
 rw[BE h1,KA]at h2
 by_cases h:m=i
 ·subst h
  rw[KC]at h2
  rw[if_pos rfl]at h2
  split at h2
  ·exact .inl ⟨rfl,(BQ h2).symm⟩
  ·cases h2
 ·rw[xM (Mu h)]at h2;exact .inr ⟨h,h2⟩
theorem uG{n:Nt}{x:Nd}(hn:n.Ok)(hb:(n.ns.length+1)*88≤140737488355328)(hne:n.ns≠[])(hx:x.Ok)(hk:¬x.k<2)(hmay:x.may)(hfull:¬n.used≥n.cap)(σ:St):
  ∃v σ',eS S (.f 87) [.g ((Ip n).map .p),.g ((Ug x).map .p)] σ=some (v,σ')∧∃k:Key,v= .t [(true,[.own k 0 (n.make x).ns.length,.p (.i .i64 n.cap)]),(false,[.p (.i .i64 (n.at:Nat))]),(false,[.p (.i .i64 0)])]∧
   σ'.bs k=some (.row 6 46 ((n.make x).ns.map Ug))∧σ.clk≤k.2∧k.2<σ'.clk∧σ'.ls=σ.ls∧∀s:Key,s.2<σ.clk→σ'.bs s=σ.bs s:=by
 refine ZE (fc:=F87) rfl rfl ?_
 obtain⟨c,hc⟩:∃c,σ.clk=c:=⟨_,rfl⟩
 have c1:=xg hx
 have c2:=X9 hn
 have c3:=fC hx
 rw[Pb hmay]at c1
 have hpb:=lq hx
 obtain⟨σ0,hσ0⟩:∃σ0,σ0=((σ.add 2 (.var ((Ip n).map .p))).add 3 (.var ((Ug x).map .p))).add 4 (.var [.nil,.p (.i .i64 0)]):=⟨_,rfl⟩
 obtain⟨_,σ1,c4,k,rfl,hk1,hk2,hk3,hk4,hk5⟩:=rA (n:=n) (by omega) hne σ0
 have hcl0:σ0.clk=c+3:=by rw[hσ0];simp only[Bv];omega
 have b2:=hk5 (2,c) (by simp only;omega)
 have b3:=hk5 (3,c+1) (by simp only;omega)
 have b4:=hk5 (4,c+2) (by simp only;omega)
 have b0:∀s:Key,s.2<c→σ1.bs s=σ.bs s:=by
  intro s hs
  rw[hk5 s (by omega),hσ0]
  have h2:¬s=(2,σ.clk):=by rintro rfl;simp at hs;omega
  have h3:¬s=(3,σ.clk+1):=by rintro rfl;simp at hs;omega
  have h4:¬s=(4,σ.clk+1+1):=by rintro rfl;simp at hs;omega
  simp only[Mq,Bv,h2,h3,h4,if_false]
 have d2:σ0.bs (2,c)=some (.var ((Ip n).map .p)):=by rw[hσ0];simp[Mq,Bv,hc]
 have d3:σ0.bs (3,c+1)=some (.var ((Ug x).map .p)):=by rw[hσ0];simp[Mq,Bv,hc]
 have b2':σ1.bs (2,c)=some (.var ((Ip n).map .p)):=by rw[b2,hσ0];simp[Mq,Bv,hc]
 have b3':σ1.bs (3,c+1)=some (.var ((Ug x).map .p)):=by rw[b3,hσ0];simp[Mq,Bv,hc]
 have b4':σ1.bs (4,c+2)=some (.var [.nil,.p (.i .i64 0)]):=by rw[b4,hσ0];simp[Mq,Bv,hc]
 have hls1:σ1.ls=σ.ls:=by rw[hk4,hσ0];rfl
 obtain⟨c5,hc5⟩:∃c5,σ1.clk=c5:=⟨_,rfl⟩
 rw[hcl0]at hk2
 rw[hc5]at hk3
 obtain⟨kd,kc⟩:=k
 simp only at hk2 hk3
 simp only[Ip,Ug,zx,XM]at c1 c2 c3 c4 b2' b3' d2 d3 hσ0
 have hfr:x.fresh={x with to:=List.replicate x.ports.toNat zP}:=rfl
 have hrep:List.replicate x.ports.toNat [PV.i IntKind.i64 0,PV.i IntKind.i64 0]=(List.replicate x.ports.toNat zP).map xN:=by simp[xN,zP]
 have hab0:x.al.length*24≤140737488355328:=hx.al
 have htka0:List.take x.al.length (x.al.map uO)=x.al.map uO:=Ea (by simp)
 have hpr:(0≤x.ports∧x.ports≤x.ports∧x.ports*((16:Nat):Int)≤140737488355328)=True:=by simp;omega
 simp only[F87,Ip,Ug,hc,zx,XM,hk,c1,c2,hfull,←hσ0,c4,hc5,d2,d3,b2',b3',b4',c3,hpr,hrep,hab0,htka0,mB,Fy,SZ,Nat.reduceLeDiff,nxB,evO,Nat.reduceLT,Nat.reduceSub,Nat.reduceBEq,Nat.reduceEqDiff,Nat.reduceAdd,Nat.reduceLeDiff,reduceCtorEq,Nat.reduceMul]
 obtain⟨R,hR⟩:∃R,R=(List.replicate x.ports.toNat zP).map xN:=⟨_,rfl⟩
 have hencf:Ug x.fresh=[.i .i64 x.k,.i .i64 x.lv,.i .i64 x.n,.s x.s,.l (x.al.map uO),.l R]:=by rw[hfr,hR];simp only[Ug,XM]
 rw[←hR]
 have hab:x.al.length*24≤140737488355328:=hx.al
 have htka:List.take x.al.length (x.al.map uO)=x.al.map uO:=Ea (by simp)
 have nk:¬kc=c5+1∧¬kc=c5+1+1∧¬kc=c5+1+1+1:=by omega
 have nk0:¬kc=c5:=by omega
 have nc:¬c+1=c5+1∧¬c+1+1=c5+1∧¬c+1=c5+1+1∧¬c+1+1=c5+1+1∧¬c+1=c5+1+1+1∧¬c+1+1=c5+1+1+1:=by omega
 have nc0:¬c+1=c5∧¬c+1+1=c5:=by omega
 have nkc:¬c5+1+1+1=kc∧¬kc=c+1∧¬kc=c+1+1∧¬c+1=kc∧¬c+1+1=kc∧¬c5=kc:=by omega
 refine Fs n.ns.length (fun i e τ=>e 2= .a (.ptr (2,c) 0 0)∧e 3= .a (.ptr (3,c+1) 0 0)∧e 4= .a (.ptr (4,c+1+1) 0 0)∧e 7= .a (.ptr (7,c5) 0 0)∧e 8= .a (.p (.i .i64 (i:Nat)))∧
  τ.bs (3,c+1)=some (.var [.p (.i .i64 x.k),.p (.i .i64 x.lv),.p (.i .i64 x.n),.p (.s x.s),.own (33,c5+1+1+1) 0 x.al.length,.p (.l R)])∧τ.bs (33,c5+1+1+1)=some (.row 2 107 (x.al.map uO))∧
  τ.bs (7,c5)=some (.var [.own (kd,kc) 0 n.ns.length,.p (.i .i64 n.cap)])∧τ.bs (kd,kc)=some (.row 6 46 (n.ns.map Ug))∧τ.bs (4,c+1+1)=some (.var [.nil,.p (.i .i64 0)])∧
  c5+4≤τ.clk∧τ.ls=σ.ls∧(∀s:Key,s.2<c→τ.bs s=σ.bs s)∧∀j,j<i→∀y,n.ns[j]? =some y→mj y=false) (i0:=0) (ji _) ?_ ?_ ?_
 ·refine⟨?_,?_,?_,?_,?_,?_,?_,?_,?_,?_,?_,?_,fun s hs=>?_,fun j hj=>by omega⟩
  all_goals first
   |(simp only[hc5,nk,nk0,nc,nc0,nkc,b2',b3',b4',hk1,hls1,nxB,evO,simprocAttr];done)
   |(simp only[hc5,nk,nk0,nc,nc0,nkc,b2',b3',b4',hk1,hls1,nxB,evO,simprocAttr];rfl)
   |(simp only[hc5,nk,nk0,nc,nc0,nkc,b2',b3',b4',hk1,hls1,nxB,evO,simprocAttr];omega)
   |skip
  have n1:∀d,¬s=(d,c5)∧¬s=(d,c5+1)∧¬s=(d,c5+1+1)∧¬s=(d,c5+1+1+1)∧¬s=(d,c+1):=by
   intro d;refine⟨?_,?_,?_,?_,?_⟩<;>(rintro rfl;simp at hs;omega)
  simp only[hc5,(n1 _).1,(n1 _).2.1,(n1 _).2.2.1,(n1 _).2.2.2.1,(n1 _).2.2.2.2,b0 s hs,nxB,evO,simprocAttr]
 ·rintro i e τ hi ⟨e2,e3,e4,e7,e8,t3,t33,t7,tk,t4,hcl,hls,hs,hfree⟩
  obtain⟨y,hy⟩:∃y,n.ns[i]? =some y:=⟨_,Xb hi⟩
  have hy':=Kr Ug hy
  have hlt:((i:Nat):Int)<(n.ns.length:Int):=by omega
  have hge:(0:Int)≤((i:Nat):Int):=by omega
  by_cases hyk:y.k=0
  ·have hfi:n.ns.findIdx? mj=some i:=by
    rw[oO]
    refine⟨hi,?_,fun j hj=>?_⟩
    ·rw[(QU.1 hy).2];simp[mj,hyk]
    ·rw[hfree j hj _ (Xb (by omega))];simp
   have e1:n.at=i:=by unfold Nt.at;rw[hfi]
   have e2':(n.make x).ns=n.ns.set i x.fresh:=by unfold Nt.make;rw[hfi]
   have hsx:(n.ns.map Ug).set i [.i .i64 x.k,.i .i64 x.lv,.i .i64 x.n,.s x.s,.l (x.al.map uO),.l R]=(n.ns.set i x.fresh).map Ug:=by rw[JV,hencf]
   rw[e1,e2']
   simp only[F87b0,e2,e3,e4,e7,e8,t3,t33,t7,tk,t4,hlt,hge,hy',hyk,htka,nk,nk0,nc,nc0,nkc,hsx,Ci,Ug,mB,rm,KA,Fy,nh,nxB,evO,simprocAttr]
   refine⟨(kd,kc),rfl,?_,by simp only;omega,by simp only;omega,hls,fun s h=>?_⟩
   ·rw[if_neg (by intro e;rw[ZP]at e;omega),if_pos rfl]
   ·rw[if_neg (by rintro rfl;simp at h;omega),if_neg (by rintro rfl;simp at h;omega),if_neg (by rintro rfl;simp at h;omega)];exact hs s h
  ·have hyf:mj y=false:=by simp[mj,hyk]
   simp only[F87b0,e2,e3,e4,e7,e8,t3,t33,t7,tk,t4,hlt,hge,hy',hyk,htka,Ci,Ug,mB,KA,Fy,nxB,evO,simprocAttr]
   refine⟨by rw[zz i (by omega)],hcl,hls,hs,fun j hj z hz=>?_⟩
   by_cases e:j=i
   ·rw[e,hy]at hz;rw[←BQ hz];exact hyf
   ·exact hfree j (by omega) z hz
 ·rintro e τ ⟨e2,e3,e4,e7,e8,t3,t33,t7,tk,t4,hcl,hls,hs,hfree⟩
  have hlt:¬((n.ns.length:Nat):Int)<(n.ns.length:Int):=by omega
  have hfi:n.ns.findIdx? mj=none:=by
   rw[iU]
   intro y hy
   obtain⟨j,hj⟩:=IL hy
   exact hfree j (QU.1 hj).1 y hj
  have e1:n.at=n.ns.length:=by unfold Nt.at;rw[hfi]
  have e2':(n.make x).ns=n.ns++[x.fresh]:=by unfold Nt.make;rw[hfi]
  have htk:List.take n.ns.length (n.ns.map Ug)=n.ns.map Ug:=Ea (by simp)
  have hsx:n.ns.map Ug++[[.i .i64 x.k,.i .i64 x.lv,.i .i64 x.n,.s x.s,.l (x.al.map uO),.l R]]=(n.ns++[x.fresh]).map Ug:=by rw[TU,←hencf];rfl
  have nkt:¬kc=τ.clk∧¬kc=τ.clk+1∧¬c5=τ.clk∧¬c5=τ.clk+1∧¬c+1+1=τ.clk∧¬c+1+1=τ.clk+1:=by omega
  rw[e1,e2']
  have hw:IntKind.i64.wrap (((n.ns.length+1:Nat):Int)-1)=(n.ns.length:Int):=by rw[qI _ (by omega)];omega
  simp only[F87b0,e2,e3,e4,e7,e8,t3,t33,t7,tk,t4,hlt,hb,htk,htka,hsx,hw,nkt,nk,nk0,nc,nc0,nkc,Ci,Ug,mB,GM,Ce,sI,KA,Fy,SZ,nh,nxB,evO,simprocAttr]
  refine⟨(60,τ.clk+1),rfl,?_,by simp only;omega,by simp only;omega,hls,fun s h=>?_⟩
  ·rw[if_neg (by intro e;rw[ZP]at e;omega),if_neg (by intro e;rw[ZP]at e;omega),if_pos rfl]
  ·rw[if_neg (by rintro rfl;simp at h;omega),if_neg (by rintro rfl;simp at h;omega),if_neg (by rintro rfl;simp at h;omega),if_neg (by rintro rfl;simp at h;omega),if_neg (by rintro rfl;simp at h;omega),if_neg (by rintro rfl;simp at h;omega)];exact hs s h
theorem Cy{n:Nt}{p q:Pt}(hn:n.Ok)(hp:wf p.n∧wf p.s)(hq:wf q.n∧wf q.s):(KD n p q).1.Ok:=by
 unfold KD
 split
 ·rename_i h
  simp only[Cd]at h
  exact yd (yd hn h.1.1 hq) (by rw[HG q q h.1.1];exact h.1.2) hp
 ·exact hn
theorem gN{n:Nt}{p q:Pt}(hn:n.Ok)(hp:wf p.n∧wf p.s)(hq:wf q.n∧wf q.s):(Qs n p q).1.Ok:=by
 unfold Qs
 split
 ·rename_i h
  simp only[Cd]at h
  split
  ·exact hn
  ·exact Cy hn hq (Oy hn h.1.1.1)
 ·exact hn
theorem Vd{n:Nt}{p q:Pt}(hn:n.Ok)(hp:wf p.n∧wf p.s)(hq:wf q.n∧wf q.s):(iY n p q).1.Ok:=by
 unfold iY
 split
 ·rename_i h
  simp only[Cd]at h
  split
  ·exact hn
  ·exact Cy hn (Oy hn h.1.1.1.1) (Oy hn h.1.1.1.2)
 ·exact hn
end Go.Proofs.YtmlhgalboabjcaaGreat
namespace Go.Proofs.YtmlhgalboabjcaaGreat.Tm
open Go.Fx
abbrev En:=Int×Pt
def xu(x:En):List PV:=[.i .i64 x.1,.i .i64 x.2.n,.i .i64 x.2.s]
theorem CC(l:List En):((l.map xu).all fun r=>decide (r.length=3))=true:=by simp[xu]
theorem cL{l:List En}{i:Nat}{x:En}(h:l[i]? =some x):(l.map xu)[i]? =some [.i .i64 x.1,.i .i64 x.2.n,.i .i64 x.2.s]:=by rw[Qy,h];rfl
def lnk(n:Nt)(p q:Pt):Nt:=(KD n p q).1
def Hc(n:Nt)(x:Nd):Nt:=⟨n.ns++[x.fresh],n.cap⟩
def RV(k lv:Int):Nd:=⟨k,lv,0,[],[],[]⟩
theorem DJ(a b:Int):eP S 28 [.a (.i .i64 a),.a (.i .i64 b)]=some (.g [.i .i64 a,.i .i64 b]):=by
 refine Cf (xO (by decide)) (fc:=F28) rfl rfl ?_
 simp only[F28,nxB,evO,simprocAttr]
theorem xh{n:Nt}{p q:Pt}(hn:n.Ok)(hp:wf p.n∧wf p.s)(hq:wf q.n∧wf q.s):eP S 27 [.g (Ip n),.g (xN p),.g (xN q)]=some (.g (Ip (lnk n p q))):=by
 have a1:=Gx hn hp hq
 refine Cf (xO (by decide)) (fc:=F27) rfl rfl ?_
 unfold lnk
 obtain⟨⟨m,e⟩,hm⟩:∃x,KD n p q=x:=⟨_,rfl⟩
 rw[hm]at a1⊢
 simp only[qX,Ip,xN]at a1
 simp only[F27,a1,Ip,xN,nxB,evO,simprocAttr]
structure Room(n:Nt):Prop where
 ok:n.Ok
 full:∀x∈n.ns,x.k≠0
 ne:n.ns≠[]
 cap:n.cap≤4000
 len:(n.ns.length:Int)≤n.cap
theorem eI{l:List Nd}(h:∀x∈l,x.k≠0):NH l=l.length:=by
 unfold NH
 rw[List.countP_eq_length.2 fun x hx=>by simpa using h x hx]
theorem F1{l:List Nd}(h:∀x∈l,x.k≠0):l.findIdx? mj=none:=by
 rw[iU]
 intro x hx
 simp[mj,h x hx]
theorem QA{n:Nt}{x:Nd}(hn:Room n)(hx:x.Ok)(hk:¬x.k<2)(hmay:x.may)(hlv:x.lv≤60)(hroom:((n.ns.length+1:Nat):Int)≤n.cap):
  eP S 48 [.g (Ip n),.g (Ug x)]=some (.t [(true,Ip (Hc n x)),(false,[.i .i64 (n.ns.length:Nat)]),(false,[.i .i64 0])]):=by
 refine Cf (xO (by decide)) (fc:=F48) rfl rfl ?_
 have hcap:=hn.cap
 have hf:=F1 hn.full
 have hu:¬n.used≥n.cap:=by unfold Nt.used;rw[eI hn.full];omega
 have hmk:n.make x=Hc n x:=by unfold Nt.make Hc;rw[hf]
 have hat:n.at=n.ns.length:=by unfold Nt.at;rw[hf]
 obtain⟨v,σ',h1,k,rfl,h2,h3,h4,h5,h6⟩:=uG (n:=n) (x:=x) hn.ok (by omega) hn.ne hx hk hmay hu (((((St.empty.add 2 (.var ((Ip n).map .p))).add 3 (.var ((Ug x).map .p))).add 4 (.var [.nil,.p (.i .i64 0)]))))
 rw[hmk,hat]at h1
 rw[hmk]at h2
 have hlv':¬x.lv>60:=by omega
 have c4:((((St.empty.add 2 (.var ((Ip n).map .p))).add 3 (.var ((Ug x).map .p))).add 4 (.var [.nil,.p (.i .i64 0)]))).clk=3:=rfl
 rw[c4]at h3 h6
 have b4:=h6 (4,2) (by simp)
 simp only[Mq,Bv,Sx,Nat.reduceAdd,if_true]at b4
 have htk:List.take (Hc n x).ns.length ((Hc n x).ns.map Ug)=(Hc n x).ns.map Ug:=Ea (by simp)
 have hca:(Hc n x).cap=n.cap:=rfl
 obtain⟨kd,kc⟩:=k
 simp only at h3 h4
 have nk:¬kc=2:=by omega
 simp only[Ip,Ug,zx,XM]at h1
 simp only[F48,Ip,Ug,zx,XM,hlv',h1,b4,h2,nk,htk,hca,mB,Fy,nh,yA,nxB,evO,simprocAttr]
def dP(l:List En)(v:Int):Int:=match l.findIdx? (fun x=>decide (x.1=v))with|some i=>(i:Nat)|none=> -1
theorem cU{l:List En}{v:Int}(hl:l.length≤1099511627776):eP S 89 [.a (.l (l.map xu)),.a (.i .i64 v)]=some (.a (.i .i64 (dP l v))):=by
 refine Cf (xO (by decide)) (fc:=F89) rfl rfl ?_
 simp only[F89,nxB,evO,simprocAttr]
 refine Fs l.length (fun i e τ=>e 0= .a (.p (.l (l.map xu)))∧e 1= .a (.p (.i .i64 v))∧e 5= .a (.p (.i .i64 (i:Nat)))∧∀j,j<i→∀y,l[j]? =some y→y.1≠v) (i0:=0) (ji _) ⟨rfl,rfl,rfl,fun j hj=>by omega⟩ ?_ ?_
 ·rintro i e τ hi ⟨e0,e1,e5,hf⟩
  obtain⟨x,hx⟩:∃x,l[i]? =some x:=⟨_,Xb hi⟩
  have hx':=cL hx
  have hlt:((i:Nat):Int)<(l.length:Int):=by omega
  have hge:(0:Int)≤((i:Nat):Int):=by omega
  have hw:=zz i (by omega)
  by_cases h:x.1=v
  ·have hfi:dP l v=(i:Nat):=by
    unfold dP
    have:l.findIdx? (fun x=>decide (x.1=v))=some i:=by
     rw[oO]
     refine⟨hi,?_,fun j hj=>?_⟩
     ·rw[(QU.1 hx).2];simpa using h
     ·have:=hf j hj _ (Xb (by omega))
      simpa using this
    rw[this]
   rw[hfi]
   simp only[F89b0,e0,e1,e5,hlt,hge,hw,hx',h,CC,KA,mB,Ce,sI,nxB,evO,simprocAttr]
  ·simp only[F89b0,e0,e1,e5,hlt,hge,hw,hx',h,CC,KA,mB,Ce,sI,nxB,evO,simprocAttr]
   intro j hj y hy
   by_cases e:j=i
   ·rw[e,hx]at hy;rw[←BQ hy];exact h
   ·exact hf j (by omega) y hy
 ·rintro e τ ⟨e0,e1,e5,hf⟩
  have hlt:¬((l.length:Nat):Int)<(l.length:Int):=by omega
  have hfi:dP l v= -1:=by
   unfold dP
   have:l.findIdx? (fun x=>decide (x.1=v))=none:=by
    rw[iU]
    intro x hx
    obtain⟨j,hj⟩:=IL hx
    have:=hf j (QU.1 hj).1 x hj
    simpa using this
   rw[this]
  rw[hfi]
  simp only[F89b0,e0,e1,e5,hlt,mB,Int.reduceNeg,nxB,evO,simprocAttr]
def TD(x:En):Bool→List En→List En
 |laid,[]=>if laid then[]else[x]
 |laid,y::r=>(if laid=false∧y.1>x.1 then[x]else[])++y::TD x (laid||decide (y.1>x.1)) r
theorem Gn(x:En):∀(laid:Bool) (l:List En),(TD x laid l).length≤l.length+1
 |laid,[]=>by unfold TD;split<;>simp
 |laid,y::r=>by
  unfold TD
  cases laid with
  |true=>
   have:∀l,TD x true l=l:=by
    intro l
    induction l with
    |nil=>simp[TD]
    |cons z l ih=>simp[TD,ih]
   simp[this]
  |false=>
   by_cases h:y.1>x.1
   ·have:∀l,TD x true l=l:=by
     intro l
     induction l with
     |nil=>simp[TD]
     |cons z l ih=>simp[TD,ih]
    simp[h,this]
   ·have:=Gn x false r
    simp[h];omega
def TM(c:Nat)(σ:St)(X:AV)(l:List En):Prop:=(X= .nil∧l=[])∨∃d q,X= .own (d,q) 0 l.length∧σ.bs (d,q)=some (.row 3 104 (l.map xu))∧c≤q∧q<σ.clk
structure Keep(c:Nat)(σ σ':St):Prop where
 clk:σ.clk≤σ'.clk
 ls:σ'.ls=σ.ls
 bs:∀s:Key,s.2<c→σ'.bs s=σ.bs s
theorem Keep.refl(c:Nat)(σ:St):Keep c σ σ:=⟨nh _,rfl,fun _ _=>rfl⟩
theorem Keep.trans{c:Nat}{a b d:St}(h:Keep c a b)(g:Keep c b d):Keep c a d:=⟨fm h.clk g.clk,g.ls.trans h.ls,fun s hs=>(g.bs s hs).trans (h.bs s hs)⟩
theorem Keep.mono{c c':Nat}{a b:St}(h:Keep c a b)(hc:c'≤c):Keep c' a b:=⟨h.clk,h.ls,fun s hs=>h.bs s (by omega)⟩
theorem Keep.add{c:Nat}{a b:St}(h:Keep c a b)(hc:c≤b.clk)(d:Nat)(x:Blk):Keep c a (b.add d x):=⟨fm h.clk (by simp only[Bv];omega),h.ls,fun s hs=>by
 have:¬s=(d,b.clk):=by rintro rfl;simp at hs;omega
 simp only[Mq,this,if_false];exact h.bs s hs⟩
theorem Keep.put{c:Nat}{a b:St}(h:Keep c a b){k:Key}(hk:c≤k.2)(x:Blk):Keep c a (b.put k x):=⟨h.clk,h.ls,fun s hs=>by
 have:¬s=k:=by rintro rfl;omega
 simp only[xL,this,if_false];exact h.bs s hs⟩
theorem Keep.kill{c:Nat}{a b:St}(h:Keep c a b){k:Key}(hk:c≤k.2):Keep c a (b.kill k):=⟨h.clk,h.ls,fun s hs=>by
 have:¬s=k:=by rintro rfl;omega
 simp only[Sn,this,if_false];exact h.bs s hs⟩
theorem TM.keep{c:Nat}{σ σ':St}{X:AV}{l:List En}(h:TM c σ X l)(k:Keep σ.clk σ σ'):TM c σ' X l:=by
 rcases h with h|⟨d,q,h1,h2,h3,h4⟩
 ·exact .inl h
 ·exact .inr ⟨d,q,h1,(k.bs _ h4).trans h2,h3,yz h4 k.clk⟩
theorem TM.put{c:Nat}{σ:St}{X:AV}{l:List En}(h:TM c σ X l){k:Key}(hk:k.2<c)(b:Blk):TM c (σ.put k b) X l:=by
 rcases h with h|⟨d,q,h1,h2,h3,h4⟩
 ·exact .inl h
 ·refine .inr ⟨d,q,h1,?_,h3,h4⟩
  have:¬(d,q)=k:=by rintro rfl;simp at hk;omega
  simp only[xL,this,if_false];exact h2
theorem TM.add{c:Nat}{σ:St}{X:AV}{l:List En}(h:TM c σ X l)(d:Nat)(b:Blk):TM c (σ.add d b) X l:=by
 rcases h with h|⟨d',q,h1,h2,h3,h4⟩
 ·exact .inl h
 ·refine .inr ⟨d',q,h1,?_,h3,by simp only[Bv];omega⟩
  have:¬(d',q)=(d,σ.clk):=by intro e;simp only[ZP]at e;omega
  simp only[Mq,this,if_false];exact h2
theorem TM.mono{c c':Nat}{σ:St}{X:AV}{l:List En}(h:TM c σ X l)(k:c'≤c):TM c' σ X l:=by
 rcases h with h|⟨d,q,h1,h2,h3,h4⟩
 ·exact .inl h
 ·exact .inr ⟨d,q,h1,h2,by omega,h4⟩
theorem TM.fr{c:Nat}{σ:St}{X:AV}{l:List En}(h:TM c σ X l):frA σ X=some (.l (l.map xu)):=by
 rcases h with⟨rfl,rfl⟩|⟨d,q,rfl,h2,h3,h4⟩
 ·rfl
 ·simp only[frA,h2,mB,Fy,nh,if_true,yA]
  rw[Ea (by simp)]
theorem ql(n:Nt)(x:Nd):(Hc n x).ns.length=n.ns.length+1:=by simp[Hc]
theorem tu(n:Nt)(x:Nd):(Hc n x).cap=n.cap:=rfl
theorem Za{n:Nt}{x:Nd}(hn:Room n)(hx:x.Ok)(hk:x.k≠0)(h:((n.ns.length+1:Nat):Int)≤n.cap):Room (Hc n x):=by
 have hc:=hn.cap
 have hp:=lq hx
 have hl:=ql n x
 refine⟨⟨by rw[hl];omega,hn.ok.cap,fun y hy=>?_⟩,fun y hy=>?_,by simp[Hc],hn.cap,by rw[hl,tu];exact h⟩
 ·rcases Sw.1 hy with h|h
  ·exact hn.ok.nd y h
  ·rw[bK]at h
   subst h
   refine⟨hx.k,hx.lv,hx.n,hx.s,hx.al,?_,hx.ap,fun p hp'=>?_⟩
   ·show(List.replicate x.ports.toNat zP).length*16≤_
    rw[Eh];omega
   ·have:p=zP:=Fa hp'
    rw[this];exact⟨⟨by decide,by decide⟩,⟨by decide,by decide⟩⟩
 ·rcases Sw.1 hy with h|h
  ·exact hn.full y h
  ·rw[bK]at h
   subst h;exact hk
theorem FM{n:Nt}{p:Pt}(q:Pt)(h:∀x∈n.ns,x.k≠0)(hp:n.has p=true):∀x∈(n.set p q).ns,x.k≠0:=by
 intro x hx
 have hp':=sJ.1 hp
 rcases MH hx with h1|rfl
 ·exact h x h1
 ·show(n.nd p.n).k≠0
  exact h _ (oP hp'.1 hp'.2.1)
theorem EI(n:Nt)(p q:Pt):(lnk n p q).ns.length=n.ns.length∧(lnk n p q).cap=n.cap:=by
 unfold lnk KD
 split
 ·exact⟨by rw[B5,B5],rfl⟩
 ·exact⟨rfl,rfl⟩
theorem jr{n:Nt}{p q:Pt}(hn:Room n)(hp:wf p.n∧wf p.s)(hq:wf q.n∧wf q.s):Room (lnk n p q):=by
 have hl:=EI n p q
 have hok:(lnk n p q).Ok:=Cy hn.ok hp hq
 refine⟨hok,?_,?_,by rw[hl.2];exact hn.cap,by rw[hl.1,hl.2];exact hn.len⟩
 ·unfold lnk KD
  split
  ·rename_i h
   simp only[Cd]at h
   exact FM p (FM q hn.full h.1.1) (by rw[HG q q h.1.1];exact h.1.2)
  ·exact hn.full
 ·intro h0
  have:=hl.1
  rw[h0]at this
  exact hn.ne (eL this.symm)
theorem KT{n:Int}(h:0≤n∧n≤1099511627776):wf n:=⟨by omega,by omega⟩
def OkE(x:En):Prop:=(0≤x.1∧x.1≤1099511627776)∧(0≤x.2.n∧x.2.n≤1099511627776)∧(0≤x.2.s∧x.2.s≤1099511627776)
theorem OkE.wf{x:En}(h:OkE x):wf x.2.n∧wf x.2.s:=⟨KT h.2.1,KT h.2.2⟩
theorem fB(i:Nat)(s:Nat)(h:i≤5000)(h2:s≤100):Go.Proofs.YtmlhgalboabjcaaGreat.wf (i:Int)∧Go.Proofs.YtmlhgalboabjcaaGreat.wf (s:Int):=⟨⟨by omega,by omega⟩,⟨by omega,by omega⟩⟩
theorem ZM{k lv:Int}(hk:0≤k∧k≤100)(hl:0≤lv∧lv≤60):(RV k lv).Ok:=⟨⟨by show _≤k;omega,by show k≤_;omega⟩,⟨by show _≤lv;omega,by show lv≤_;omega⟩,⟨by show _≤(0:Int);decide,by show(0:Int)≤_;decide⟩,by simp[RV],by simp[RV],by simp[RV],by simp[RV],by simp[RV]⟩
def Io(lv:Int):List En→Nt→Nt×List En
 |[],n=>(n,[])
 |x::r,n=>((Io lv r (lnk (Hc n (RV 6 lv)) ⟨(n.ns.length:Nat),1⟩ x.2)).1,(x.1,⟨(n.ns.length:Nat),0⟩)::(Io lv r (lnk (Hc n (RV 6 lv)) ⟨(n.ns.length:Nat),1⟩ x.2)).2)
theorem RH(lv:Int):∀(l:List En) (n:Nt),(Io lv l n).1.ns.length=n.ns.length+l.length∧(Io lv l n).1.cap=n.cap∧(Io lv l n).2.length=l.length
 |[],n=>⟨rfl,rfl,rfl⟩
 |x::r,n=>by
  have h:=RH lv r (lnk (Hc n (RV 6 lv)) ⟨(n.ns.length:Nat),1⟩ x.2)
  have h2:=EI (Hc n (RV 6 lv)) ⟨(n.ns.length:Nat),1⟩ x.2
  rw[h2.1,h2.2,ql,tu]at h
  simp only[Io,Ce]
  exact⟨by omega,h.2.1,by omega⟩
def BU(n:Nt)(out:Pt)(X:AV):List AV:=[.p (.l (n.ns.map Ug)),.p (.i .i64 n.cap),.p (.i .i64 out.n),.p (.i .i64 out.s),X,.p (.i .i64 0)]
theorem Ns{lv:Int}(h:0≤lv∧lv≤60){k:Int}(hk:k=2∨k=3∨k=4∨k=5∨k=6∨k=7∨k=13):(RV k lv).may:=by
 rw[Go.Proofs.YtmlhgalboabjcaaGreat.may_iff]
 unfold RV jX
 rcases hk with rfl|rfl|rfl|rfl|rfl|rfl|rfl<;>simp<;>omega
theorem B7{α:Type}{M:List α}{i:Nat}(h:i<M.length)(y:α):(M.set i y).take (i+1)=M.take i++[y]∧(M.set i y).drop (i+1)=M.drop (i+1):=by
 have e:M.set i y=M.take i++y::M.drop (i+1):=by rw[lV,if_pos h]
 have hl:(M.take i).length=i:=by rw[Q4];omega
 constructor
 ·rw[e,List.take_append,hl,show i+1-i=1 by omega,Ea (by omega)];rfl
 ·rw[e,List.drop_append,hl,show i+1-i=1 by omega,List.drop_of_length_le (by omega)];rfl
def zE:En:=(0,zP)
def C5(lv:Int):List En→List En→Nt→Nt×List En
 |[],l,n=>(n,l)
 |x::r,l,n=>if dP l x.1<0 then C5 lv r (TD x false l) n else
   C5 lv r (l.set (dP l x.1).toNat ((l.getD (dP l x.1).toNat zE).1,⟨(n.ns.length:Nat),0⟩))
    (lnk (lnk (Hc n (RV 4 lv)) ⟨(n.ns.length:Nat),1⟩ (l.getD (dP l x.1).toNat zE).2) ⟨(n.ns.length:Nat),2⟩ x.2)
theorem jH(lv:Int):∀(r l:List En) (n:Nt),n.ns.length≤(C5 lv r l n).1.ns.length∧(C5 lv r l n).1.cap=n.cap∧(C5 lv r l n).2.length≤l.length+r.length
 |[],l,n=>⟨nh _,rfl,by simp[C5]⟩
 |x::r,l,n=>by
  unfold C5
  split
  ·have h:=jH lv r (TD x false l) n
   have h2:=Gn x false l
   simp only[Ce]
   exact⟨h.1,h.2.1,by omega⟩
  ·have h:=jH lv r (l.set (dP l x.1).toNat ((l.getD (dP l x.1).toNat zE).1,⟨(n.ns.length:Nat),0⟩)) (lnk (lnk (Hc n (RV 4 lv)) ⟨(n.ns.length:Nat),1⟩ (l.getD (dP l x.1).toNat zE).2) ⟨(n.ns.length:Nat),2⟩ x.2)
   have h2:=EI (lnk (Hc n (RV 4 lv)) ⟨(n.ns.length:Nat),1⟩ (l.getD (dP l x.1).toNat zE).2) ⟨(n.ns.length:Nat),2⟩ x.2
   have h3:=EI (Hc n (RV 4 lv)) ⟨(n.ns.length:Nat),1⟩ (l.getD (dP l x.1).toNat zE).2
   rw[ql,tu]at h3
   rw[rm]at h
   simp only[Ce]
   exact⟨by omega,h.2.1.trans (h2.2.trans h3.2),by omega⟩
theorem Xy(x:En):∀(laid:Bool) (l:List En) (y:En),y∈TD x laid l→y=x∨y∈l
 |laid,[],y,h=>by
  unfold TD at h
  split at h
  ·simp at h
  ·left;simpa using h
 |laid,z::r,y,h=>by
  unfold TD at h
  rw[Sw,qY]at h
  rcases h with h|rfl|h
  ·split at h
   ·left;simpa using h
   ·simp at h
  ·right;simp
  ·rcases Xy x _ r y h with h|h
   ·exact .inl h
   ·right;simp[h]
theorem Et{l:List En}{v:Int}(h:¬dP l v<0):∃k:Nat,dP l v=(k:Int)∧k<l.length∧∃y,l[k]? =some y∧y.1=v:=by
 unfold dP at h⊢
 cases hf:l.findIdx? (fun x=>decide (x.1=v))with
 |none=>rw[hf]at h;simp at h
 |some k=>
  rw[oO]at hf
  obtain⟨h1,h2,_⟩:=hf
  exact⟨k,rfl,h1,l[k],Xb h1,by simpa using h2⟩
structure W where
 n:Nt
 out:Pt
 l:List En
def TT(l:List En):List En:=(l.filter fun x=>decide (x.1>0)).map fun x=>(x.1-1,x.2)
theorem SM(l:List En):(TT l).length≤l.length:=by unfold TT;rw[mB];exact zF _ _
theorem Fe{l:List En}(h:∀x∈l,OkE x):∀x∈TT l,OkE x:=by
 intro x hx
 unfold TT at hx
 obtain⟨y,hy,rfl⟩:=Om.1 hx
 rw[Bo]at hy
 have h1:=h y hy.1
 have h2:y.1>0:=by simpa using hy.2
 exact⟨⟨by show 0≤y.1-1;omega,by show y.1-1≤_;have:=h1.1.2;omega⟩,h1.2⟩
theorem IP(l:List En)(x:En):TT (l++[x])=TT l++(if x.1>0 then[(x.1-1,x.2)]else[]):=by
 unfold TT
 rw[wj,TU]
 congr 1
 by_cases h:x.1>0<;>simp[h]
def iT(lv:Int)(m:Nat)(y:W):Nt:=
 if dP y.l 0≥0 then lnk (lnk y.n y.out ⟨(m:Nat),1⟩) (y.l.getD (dP y.l 0).toNat zE).2 ⟨(m:Nat),2⟩
 else lnk (Hc (lnk y.n y.out ⟨(m:Nat),1⟩) (RV 7 lv)) ⟨(y.n.ns.length:Nat),0⟩ ⟨(m:Nat),2⟩
def od(lv:Int)(m:Nat)(y:W):W:=⟨iT lv m y,⟨(m:Nat),0⟩,TT y.l⟩
def Hr(lv:Int)(f:Nt→W):Nat→Nt→W
 |0,n=>f n
 |k+1,n=>od lv n.ns.length (Hr lv f k (Hc n (RV 2 lv)))
theorem BA(lv:Int)(m:Nat)(y:W):y.n.ns.length≤(iT lv m y).ns.length∧(iT lv m y).cap=y.n.cap∧(¬dP y.l 0≥0→(iT lv m y).ns.length=y.n.ns.length+1):=by
 unfold iT
 have h1:=EI y.n y.out ⟨(m:Nat),1⟩
 split
 ·rename_i h
  have h2:=EI (lnk y.n y.out ⟨(m:Nat),1⟩) (y.l.getD (dP y.l 0).toNat zE).2 ⟨(m:Nat),2⟩
  exact⟨by omega,h2.2.trans h1.2,fun h'=>absurd h h'⟩
 ·have h2:=EI (Hc (lnk y.n y.out ⟨(m:Nat),1⟩) (RV 7 lv)) ⟨(y.n.ns.length:Nat),0⟩ ⟨(m:Nat),2⟩
  rw[ql,tu]at h2
  exact⟨by omega,h2.2.trans h1.2,fun _=>by omega⟩
structure Mono(f:Nt→W)(B:Nat):Prop where
 len:∀m,m.ns.length≤(f m).n.ns.length
 cap:∀m,(f m).n.cap=m.cap
 l:∀m,(f m).l.length≤B
theorem Dk{lv:Int}{f:Nt→W}{B:Nat}(hf:Mono f B):∀k,Mono (Hr lv f k) B
 |0=>hf
 |k+1=>by
  have ih:=Dk (lv:=lv) hf k
  refine⟨fun m=>?_,fun m=>?_,fun m=>?_⟩
  ·have h1:=ih.len (Hc m (RV 2 lv))
   have h2:=BA lv m.ns.length (Hr lv f k (Hc m (RV 2 lv)))
   rw[ql]at h1
   show m.ns.length≤(iT lv m.ns.length (Hr lv f k (Hc m (RV 2 lv)))).ns.length
   omega
  ·have h2:=BA lv m.ns.length (Hr lv f k (Hc m (RV 2 lv)))
   show(iT lv m.ns.length (Hr lv f k (Hc m (RV 2 lv)))).cap=m.cap
   rw[h2.2.1,ih.cap,tu]
  ·exact fm (SM _) (ih.l _)
end Go.Proofs.YtmlhgalboabjcaaGreat.Tm
namespace Go.Proofs.YtmlhgalboabjcaaGreat
open Go.Fx
structure Semi(n:Nt)(X:Pt→Prop):Prop where
 cap1:1≤n.cap
 cap2:n.cap≤4000
 ln1:1≤(n.ns.length:Int)
 ln2:(n.ns.length:Int)≤n.cap
 last:(n.nd (n.ns.length-1)).k≠0
 nds:∀(i:Nat) (x:Nd),n.ns[i]? =some x→x.may∧(x.to.length:Int)=x.ports∧((i:Int)=0↔x.k=1)
 xs:∀p,X p→n.has p=true
 ln:∀p,n.has p=true→¬X p→n.lk p≠p∧n.has (n.lk p)=true∧¬X (n.lk p)∧n.lk (n.lk p)=p
theorem Semi.iff{n:Nt}{X Y:Pt→Prop}(h:Semi n X)(e:∀p,X p↔Y p):Semi n Y:=by
 have:X=Y:=funext fun p=>propext (e p)
 exact this▸h
theorem Nt.Good.semi{n:Nt}(h:n.Good):Semi n fun _=>False:=
 ⟨h.cap1,h.cap2,h.ln1,h.ln2,h.last,fun i x hx=>⟨(h.nds i x hx).1,(h.nds i x hx).2.1,(h.nds i x hx).2.2.1⟩,fun _ h=>h.elim,fun p hp _=>by
  obtain⟨h1,h2,h3⟩:=aF h hp
  exact⟨h1,h2,id,h3⟩⟩
theorem Semi.good{n:Nt}(h:Semi n fun _=>False):n.Good:=
 ⟨h.cap1,h.cap2,h.ln1,h.ln2,h.last,fun i x hx=>⟨(h.nds i x hx).1,(h.nds i x hx).2.1,(h.nds i x hx).2.2,fun j q hq=>by
  have hj:=(QU.1 hq).1
  obtain⟨h1,h2,_,h3⟩:=h.ln ⟨i,j⟩ (Hl hx hj) id
  rw[Kp hx hq]at h1 h2 h3
  exact⟨h1,h2,h3⟩⟩⟩
theorem cG{x:Nd}{t:List Pt}(h:x.may)(ht:t.length=x.to.length):({x with to:=t}:Nd).may:=
 ⟨h.k0,h.k1,h.lv0,h.lv1,h.lv2,h.nm,h.nn,by simp only[ht];exact h.to8,h.al9,h.aln,h.al8,h.alt⟩
theorem Bk{x:Nd}{t:List Pt}(ht:t.length=x.to.length):({x with to:=t}:Nd).ports=x.ports:=by unfold Nd.ports;simp only[ht]
theorem Shp.get{n m:Nt}(h:Shp n m){i:Nat}{y:Nd}(hy:m.ns[i]? =some y):∃x,n.ns[i]? =some x∧y={x with to:=y.to}∧y.to.length=x.to.length:=by
 have hl:=(QU.1 hy).1
 obtain⟨x,hx⟩:∃x,n.ns[i]? =some x:=⟨_,Xb (by rw[h.1];exact hl)⟩
 have h1:=h.2.2 (i:Int) (by omega)
 rw[EZ hx,EZ hy]at h1
 obtain⟨xk,xl,xn,x0,xa,x1⟩:=x
 obtain⟨yk,yl,yn,y0,ya,y1⟩:=y
 simp only at h1
 obtain⟨a1,a2,a3,a4,a5,a6⟩:=h1
 subst a1 a2 a3 a4 a5
 exact⟨_,hx,rfl,a6⟩
theorem Shp.get'{n m:Nt}(h:Shp n m){i:Nat}{x:Nd}(hx:n.ns[i]? =some x):∃y,m.ns[i]? =some y∧y={x with to:=y.to}∧y.to.length=x.to.length:=by
 have hl:=(QU.1 hx).1
 obtain⟨y,hy⟩:∃y,m.ns[i]? =some y:=⟨_,Xb (by rw[←h.1];exact hl)⟩
 obtain⟨x',hx',h1,h2⟩:=h.get hy
 rw[hx]at hx'
 obtain rfl:=BQ hx'
 exact⟨y,hy,h1,h2⟩
theorem Shp.used{n m:Nt}(h:Shp n m):m.used=n.used:=by
 have key:∀(l l':List Nd),l.length=l'.length→(∀(i:Nat) (x y:Nd),l[i]? =some x→l'[i]? =some y→y.k=x.k)→NH l'=NH l:=by
  intro l
  induction l with
  |nil=>intro l' hl _;rw[eL hl.symm]
  |cons x l ih=>
   intro l' hl hk
   cases l' with
   |nil=>simp at hl
   |cons y l'=>
    rw[rh,rh,ih l' (by simpa using hl) (fun i a b ha hb=>hk (i+1) a b (by simpa using ha) (by simpa using hb)),hk 0 x y rfl rfl]
 refine key _ _ h.1 fun i x y hx hy=>?_
 obtain⟨x',hx',h1,_⟩:=h.get hy
 rw[hx]at hx'
 obtain rfl:=BQ hx'
 rw[h1]
theorem Shp.semi{n m:Nt}(h:Shp n m){X Y:Pt→Prop}(hn:Semi n X)(hY:∀p,Y p→n.has p=true)
  (hl:∀p,n.has p=true→¬Y p→m.lk p≠p∧n.has (m.lk p)=true∧¬Y (m.lk p)∧m.lk (m.lk p)=p):Semi m Y:=by
 have hc:=h.2.1
 have hlen:=h.1
 have hl1:=hn.ln1
 refine⟨hc▸hn.cap1,hc▸hn.cap2,hlen▸hn.ln1,by rw[←hc,←hlen];exact hn.ln2,?_,fun i y hy=>?_,fun p hp=>by rw[h.has];exact hY p hp,fun p hp hy=>?_⟩
 ·rw[←hlen,(h.2.2 _ (by omega)).1];exact hn.last
 ·obtain⟨x,hx,h1,h2⟩:=h.get hy
  obtain⟨g1,g2,g3⟩:=hn.nds i x hx
  refine⟨by rw[h1];exact cG g1 h2,?_,by rw[h1];exact g3⟩
  rw[h2,g2,h1]
  exact(Bk (x:=x) h2).symm
 ·rw[h.has]at hp
  obtain⟨h1,h2,h3,h4⟩:=hl p hp hy
  exact⟨h1,by rw[h.has];exact h2,h3,h4⟩
theorem Semi.link{n:Nt}{X:Pt→Prop}(h:Semi n X){p q:Pt}(hp:X p)(hq:X q)(hne:p≠q):KD n p q=(n.ln p q,0)∧Semi (n.ln p q) fun r=>X r∧r≠p∧r≠q:=by
 have hp1:=h.xs p hp
 have hq1:=h.xs q hq
 refine⟨qQ hp1 hq1 hne,(zS hp1 hq1).semi h (fun r hr=>h.xs r hr.1) fun r hr hX=>?_⟩
 have hpl:(n.ln p q).lk p=q:=by rw[UP hp1 hq1 hp1,if_neg hne,if_pos rfl]
 have hql:(n.ln p q).lk q=p:=by rw[UP hp1 hq1 hq1,if_pos rfl]
 by_cases e1:r=p
 ·subst e1;rw[hpl,hql];exact⟨Mu hne,hq1,fun k=>k.2.2 rfl,rfl⟩
 by_cases e2:r=q
 ·subst e2;rw[hql,hpl];exact⟨hne,hp1,fun k=>k.2.1 rfl,rfl⟩
 have hX':¬X r:=fun k=>hX ⟨k,e1,e2⟩
 obtain⟨h1,h2,h3,h4⟩:=h.ln r hr hX'
 have e:(n.ln p q).lk r=n.lk r:=by rw[UP hp1 hq1 hr,if_neg e2,if_neg e1]
 rw[e]
 refine⟨h1,h2,fun k=>h3 k.1,?_⟩
 rw[UP hp1 hq1 h2,if_neg (fun k:n.lk r=q=>h3 (k▸hq)),if_neg (fun k:n.lk r=p=>h3 (k▸hp)),h4]
theorem Semi.inj{n:Nt}{X:Pt→Prop}(h:Semi n X){p q:Pt}(hp:n.has p=true)(hq:n.has q=true)(hp':¬X p)(hq':¬X q)(e:n.lk p=n.lk q):p=q:=by
 rw[←(h.ln p hp hp').2.2.2,←(h.ln q hq hq').2.2.2,e]
theorem Semi.move{n:Nt}{X:Pt→Prop}(h:Semi n X){p q:Pt}(hp1:n.has p=true)(hp:¬X p)(hq:X q):Qs n p q=(n.ln q (n.lk p),0)∧Semi (n.ln q (n.lk p)) fun r=>X r∧r≠q∨r=p:=by
 have hq1:=h.xs q hq
 obtain⟨k1,k2,k3,k4⟩:=h.ln p hp1 hp
 have hpq:p≠q:=fun e=>hp (e▸hq)
 have hne:n.lk p≠q:=fun e=>k3 (e▸hq)
 refine⟨?_,(zS hq1 k2).semi h (fun r hr=>hr.elim (fun k=>h.xs r k.1) (fun e=>e▸hp1)) fun r hr hX=>?_⟩
 ·unfold Qs
  rw[if_pos (by simp[hp1,hq1,hpq,k2]),if_neg hne]
  exact qQ hq1 k2 (Mu hne)
 have hql:(n.ln q (n.lk p)).lk q=n.lk p:=by rw[UP hq1 k2 hq1,if_neg (Mu hne),if_pos rfl]
 have hpl:(n.ln q (n.lk p)).lk (n.lk p)=q:=by rw[UP hq1 k2 k2,if_pos rfl]
 by_cases e1:r=q
 ·subst e1;rw[hql,hpl];exact⟨hne,k2,fun k=>k.elim (fun k=>k3 k.1) k1,rfl⟩
 by_cases e2:r=n.lk p
 ·subst e2;rw[hpl,hql];exact⟨Mu hne,hq1,fun k=>k.elim (fun k=>k.2 rfl) (Mu hpq),rfl⟩
 have hX':¬X r:=fun k=>hX (.inl ⟨k,e1⟩)
 have hrp:r≠p:=fun k=>hX (.inr k)
 obtain⟨h1,h2,h3,h4⟩:=h.ln r hr hX'
 have e:(n.ln q (n.lk p)).lk r=n.lk r:=by rw[UP hq1 k2 hr,if_neg e2,if_neg e1]
 rw[e]
 refine⟨h1,h2,fun k=>k.elim (fun k=>h3 k.1) (fun k=>e2 (by rw[←k,h4])),?_⟩
 rw[UP hq1 k2 h2,if_neg (fun k=>hrp (h.inj hr hp1 hX' hp k)),if_neg (fun k:n.lk r=q=>h3 (k▸hq)),h4]
theorem Semi.join{n:Nt}{X:Pt→Prop}(h:Semi n X){p q:Pt}(hp1:n.has p=true)(hp:¬X p)(hq1:n.has q=true)(hq:¬X q)(hpq:p≠q):
  iY n p q=(if n.lk p=q then n else n.ln (n.lk p) (n.lk q),0)∧Semi (if n.lk p=q then n else n.ln (n.lk p) (n.lk q)) fun r=>X r∨r=p∨r=q:=by
 obtain⟨k1,k2,k3,k4⟩:=h.ln p hp1 hp
 obtain⟨j1,j2,j3,j4⟩:=h.ln q hq1 hq
 have hxs:∀r,(X r∨r=p∨r=q)→n.has r=true:=fun r hr=>by
  rcases hr with hr|rfl|rfl
  ·exact h.xs r hr
  ·exact hp1
  ·exact hq1
 by_cases e:n.lk p=q
 ·rw[if_pos e]
  refine⟨?_,(Shp.refl n).semi h hxs fun r hr hX=>?_⟩
  ·unfold iY;rw[if_pos (by simp[hp1,hq1,hpq,k2,j2]),if_pos e]
  ·obtain⟨h1,h2,h3,h4⟩:=h.ln r hr fun k=>hX (.inl k)
   refine⟨h1,h2,fun k=>?_,h4⟩
   rcases k with k|k|k
   ·exact h3 k
   ·exact hX (.inr (.inr (by rw[←h4,k,e])))
   ·exact hX (.inr (.inl (by rw[←h4,k,←e,k4])))
 ·rw[if_neg e]
  have hne:n.lk p≠n.lk q:=fun k=>hpq (h.inj hp1 hq1 hp hq k)
  refine⟨?_,(zS k2 j2).semi h hxs fun r hr hX=>?_⟩
  ·unfold iY
   rw[if_pos (by simp[hp1,hq1,hpq,k2,j2]),if_neg e]
   exact qQ k2 j2 hne
  have hpl:(n.ln (n.lk p) (n.lk q)).lk (n.lk p)=n.lk q:=by rw[UP k2 j2 k2,if_neg hne,if_pos rfl]
  have hql:(n.ln (n.lk p) (n.lk q)).lk (n.lk q)=n.lk p:=by rw[UP k2 j2 j2,if_pos rfl]
  have e':n.lk q≠p:=fun k=>e (by rw[←k,j4])
  by_cases e1:r=n.lk p
  ·subst e1;rw[hpl,hql];exact⟨Mu hne,j2,fun k=>k.elim j3 fun k=>k.elim e' j1,rfl⟩
  by_cases e2:r=n.lk q
  ·subst e2;rw[hql,hpl];exact⟨hne,k2,fun k=>k.elim k3 fun k=>k.elim k1 e,rfl⟩
  have hX':¬X r:=fun k=>hX (.inl k)
  have hrp:r≠p:=fun k=>hX (.inr (.inl k))
  have hrq:r≠q:=fun k=>hX (.inr (.inr k))
  obtain⟨h1,h2,h3,h4⟩:=h.ln r hr hX'
  have el:(n.ln (n.lk p) (n.lk q)).lk r=n.lk r:=by rw[UP k2 j2 hr,if_neg e2,if_neg e1]
  rw[el]
  refine⟨h1,h2,fun k=>k.elim h3 fun k=>k.elim (fun k=>e1 (by rw[←k,h4])) (fun k=>e2 (by rw[←k,h4])),?_⟩
  rw[UP k2 j2 h2,if_neg (fun k=>hrq (h.inj hr hq1 hX' hq k)),if_neg (fun k=>hrp (h.inj hr hp1 hX' hp k)),h4]
theorem dp{n:Nt}{X:Pt→Prop}(h:Semi n X):n.ns.length≤4000:=by
 have:=h.ln2;have:=h.cap2;omega
theorem SA{n:Nt}{X:Pt→Prop}(h:Semi n X):∃y,n.ns[0]? =some y∧y.k=1:=by
 have:=h.ln1
 obtain⟨y,hy⟩:∃y,n.ns[0]? =some y:=⟨_,Xb (by omega)⟩
 exact⟨y,hy,(h.nds 0 y hy).2.2.1 (by simp)⟩
theorem Bd{n:Nt}{X:Pt→Prop}(h:Semi n X){i:Nat}{x:Nd}(hx:n.ns[i]? =some x)(hk:x.k=0):x=zN:=Yl (h.nds i x hx).1 (h.nds i x hx).2.1 hk
theorem Ji{n:Nt}{X:Pt→Prop}(h:Semi n X){p:Pt}(hp:n.has p=true):(n.nd p.n).k≠0:=by
 intro hk
 have h1:=sJ.1 hp
 have:=Bd h (OA h1.1 h1.2.1) hk
 rw[this]at h1;simp[zN]at h1;omega
structure MadeS(n:Nt)(x:Nd)(a:Nt)(t:Nat):Prop where
 one:1≤t
 le:t≤n.ns.length
 was:∀y,n.ns[t]? =some y→y.k=0
 now:a.ns[t]? =some x.fresh
 cap:a.cap=n.cap
 rest:∀i:Nat,i≠t→a.ns[i]? =n.ns[i]?
 len:a.ns.length=n.ns.length∧t<n.ns.length∨a.ns.length=n.ns.length+1∧t=n.ns.length∧n.used=n.ns.length
theorem uS{l:List Nd}(h:∀x∈l,mj x=false):NH l=l.length:=by
 induction l with
 |nil=>rfl
 |cons x l ih=>
  rw[rh,ih fun y hy=>h y (by simp[hy])]
  have:=h x (by simp)
  simp only[mj,decide_eq_false_iff_not]at this
  rw[if_neg this];simp only[Ce];omega
theorem uZ{n:Nt}{X:Pt→Prop}(h:Semi n X)(x:Nd):MadeS n x (n.make x) n.at:=by
 obtain⟨r,hr,hr1⟩:=SA h
 have hl:=h.ln1
 cases hf:n.ns.findIdx? mj with
 |some i=>
  obtain⟨hi,hfi,hbef⟩:=oO.1 hf
  have e1:n.at=i:=by unfold Nt.at;rw[hf]
  have e2:n.make x=⟨n.ns.set i x.fresh,n.cap⟩:=by unfold Nt.make;rw[hf]
  have hy:n.ns[i]? =some n.ns[i]:=Xb hi
  have hyk:(n.ns[i]).k=0:=by simpa [mj]using hfi
  rw[e1,e2]
  refine⟨?_,by omega,fun y h=>?_,by simp[KC,hi],rfl,fun j hj=>xM (Mu hj),.inl ⟨by simp,hi⟩⟩
  ·rcases Nat.eq_zero_or_pos i with rfl|h
   ·rw[hr]at hy;simp only[Lo]at hy;rw[←hy,hr1]at hyk;omega
   ·exact h
  ·rw[hy]at h;rw[←BQ h];exact hyk
 |none=>
  have hnone:=iU.1 hf
  have e1:n.at=n.ns.length:=by unfold Nt.at;rw[hf]
  have e2:n.make x=⟨n.ns++[x.fresh],n.cap⟩:=by unfold Nt.make;rw[hf]
  rw[e1,e2]
  refine⟨by omega,nh _,fun y h=>?_,by simp,rfl,fun j hj=>?_,.inr ⟨by simp,rfl,uS fun y hy=>by simpa using hnone y hy⟩⟩
  ·rw[eF (nh _)]at h;cases h
  ·by_cases hjl:j<n.ns.length
   ·exact GV hjl
   ·rw[bO (by omega),eF (l:=n.ns) (by omega),eF];simp;omega
theorem MadeS.nd{n a:Nt}{x:Nd}{t:Nat}(h:MadeS n x a t){i:Int}(h0:0≤i)(hi:i≠t):a.nd i=n.nd i:=by
 unfold Nt.nd;rw[Kh,Kh,h.rest i.toNat (by omega)]
theorem MadeS.nd_now{n a:Nt}{x:Nd}{t:Nat}(h:MadeS n x a t):a.nd t=x.fresh:=EZ h.now
theorem MadeS.lt{n a:Nt}{x:Nd}{t:Nat}(h:MadeS n x a t):t<a.ns.length:=(QU.1 h.now).1
theorem JL{x:Nd}(hx:x.Ok):(x.fresh.to.length:Int)=x.ports:=by
 have hp:=lq hx
 simp only[Nd.fresh,Eh];omega
theorem MadeS.has{n a:Nt}{x:Nd}{t:Nat}(h:MadeS n x a t)(hx:x.Ok){X:Pt→Prop}(hs:Semi n X)(p:Pt):a.has p=true↔n.has p=true∨p.n=t∧0≤p.s∧p.s<x.ports:=by
 have hlt:=h.lt
 have hfl:=JL hx
 by_cases e:p.n=t
 ·constructor
  ·intro k
   have k1:=sJ.1 k
   rw[e,h.nd_now,hfl]at k1
   exact .inr ⟨e,k1.2.2.1,k1.2.2.2⟩
  ·rintro(k|k)
   ·exfalso
    have k1:=sJ.1 k
    have:=h.was _ (by have:=OA (n:=n) k1.1 k1.2.1;rw[e]at this;simpa using this)
    have hk:=Ji hs k
    rw[e]at hk;exact hk this
   ·rw[sJ,e,h.nd_now,hfl];exact⟨by omega,by omega,k.2.1,k.2.2⟩
 ·rw[sJ,sJ]
  constructor
  ·rintro⟨k1,k2,k3,k4⟩
   rw[h.nd k1 e]at k4
   refine .inl ⟨k1,?_,k3,k4⟩
   rcases h.len with⟨l1,_⟩|⟨l1,l2,_⟩<;>omega
  ·rintro(⟨k1,k2,k3,k4⟩|k)
   ·rw[h.nd k1 e]
    refine⟨k1,?_,k3,k4⟩
    rcases h.len with⟨l1,_⟩|⟨l1,l2,_⟩<;>omega
   ·exact absurd k.1 e
theorem MadeS.lk{n a:Nt}{x:Nd}{t:Nat}(h:MadeS n x a t){X:Pt→Prop}(hs:Semi n X){p:Pt}(hp:n.has p=true):p.n≠t∧a.lk p=n.lk p:=by
 have k1:=sJ.1 hp
 have e:p.n≠t:=fun e=>by
  have:=h.was _ (by have:=OA (n:=n) k1.1 k1.2.1;rw[e]at this;simpa using this)
  have hk:=Ji hs hp
  rw[e]at hk;exact hk this
 exact⟨e,by unfold Nt.lk;rw[h.nd k1.1 e]⟩
theorem Qq{x:Nd}(hx:x.Ok)(h:x.may):x.fresh.may:=by
 refine⟨h.k0,h.k1,h.lv0,h.lv1,h.lv2,h.nm,h.nn,fun h8=>?_,h.al9,h.aln,h.al8,h.alt⟩
 have h8':x.k=8:=h8
 have hp:x.ports=x.to.length:=by unfold Nd.ports;rw[h8'];simp
 rw[JL hx,hp];exact h.to8 h8'
theorem Semi.make{n:Nt}{X:Pt→Prop}(h:Semi n X){x:Nd}(hx:x.Ok)(hm:x.may)(hk0:x.k≠0)(hk1:x.k≠1)(hu:n.used<n.cap):
  wS n x=(n.make x,(n.at:Int),0)∧Semi (n.make x) fun r=>X r∨r.n=n.at∧0≤r.s∧r.s<x.ports:=by
 have hM:=uZ h x
 obtain⟨t,ht⟩:∃t,n.at=t:=⟨_,rfl⟩
 obtain⟨a,ha⟩:∃a,n.make x=a:=⟨_,rfl⟩
 rw[ht,ha]at hM
 refine⟨?_,?_⟩
 ·unfold wS
  rw[Pb hm,if_neg (by simp[hk0,hk1]),if_neg (by omega)]
 rw[ht,ha]
 have hl1:=h.ln1
 refine⟨hM.cap▸h.cap1,hM.cap▸h.cap2,?_,?_,?_,fun i y hy=>?_,fun p hp=>(hM.has hx h p).2 (hp.imp (h.xs p) id),fun p hp hX=>?_⟩
 ·rcases hM.len with⟨l1,_⟩|⟨l1,_⟩<;>omega
 ·have:=h.ln2
  rw[hM.cap]
  rcases hM.len with⟨l1,_⟩|⟨l1,_,l3⟩<;>omega
 ·rcases hM.len with⟨l1,l2⟩|⟨l1,l2,_⟩
  ·rw[l1,hM.nd (by omega) ?_]
   ·exact h.last
   ·intro e
    have:=h.last
    rw[e]at this
    obtain⟨y,hy⟩:∃y,n.ns[t]? =some y:=⟨_,Xb l2⟩
    rw[EZ hy]at this
    exact this (hM.was y hy)
  ·rw[l1,show((n.ns.length+1:Nat):Int)-1=((t:Nat):Int) by omega,hM.nd_now];exact hk0
 ·by_cases e:i=t
  ·subst e
   rw[hM.now]at hy
   obtain rfl:=BQ hy
   have h1:=hM.one
   refine⟨Qq hx hm,by rw[JL hx,OY hx],?_⟩
   constructor
   ·intro e;omega
   ·intro e;exact absurd e hk1
  ·rw[hM.rest i e]at hy;exact h.nds i y hy
 ·have hp':n.has p=true:=((hM.has hx h p).1 hp).resolve_right fun k=>hX (.inr k)
  obtain⟨e1,e2⟩:=hM.lk h hp'
  obtain⟨h1,h2,h3,h4⟩:=h.ln p hp' fun k=>hX (.inl k)
  rw[e2]
  refine⟨h1,(hM.has hx h _).2 (.inl h2),fun k=>k.elim h3 fun k=>(hM.lk h h2).1 k.1,by rw[(hM.lk h h2).2,h4]⟩
theorem Semi.free{n:Nt}{X:Pt→Prop}(h:Semi n X){i:Nat}{x:Nd}(hx:n.ns[i]? =some x)(hi:1≤i)(hk:x.k≠0)(hX:∀p,n.has p=true→p.n=i→X p):
  ti n i=(n.free i,0)∧Semi (n.free i) (fun r=>X r∧r.n≠i)∧(n.free i).used=n.used-1∧(∀p,(n.free i).has p=true↔n.has p=true∧p.n≠i)∧∀p,n.has p=true→p.n≠i→(n.free i).lk p=n.lk p:=by
 have hil:=(QU.1 hx).1
 obtain⟨r,hr,hr1⟩:=SA h
 have hlen:=eB n (i:Int)
 have hr2:=dW (i:=i) hr (by omega) (by omega)
 have hl0:=(QU.1 hr2).1
 have hc:(n.free (i:Int)).cap=n.cap:=rfl
 have hhas:∀p,(n.free (i:Int)).has p=true↔n.has p=true∧p.n≠i:=by
  intro p
  constructor
  ·intro k
   have k1:=sJ.1 k
   have g:=OA (n:=n.free (i:Int)) k1.1 k1.2.1
   rcases fk g with⟨e1,e2⟩|⟨e1,e2⟩
   ·rw[e2]at k1;simp[zN]at k1;omega
   ·refine⟨sJ.2 ⟨k1.1,by have:=(QU.1 e2).1;omega,k1.2.2.1,?_⟩,by omega⟩
    have:=EZ e2
    rw[show((p.n.toNat:Nat):Int)=p.n by omega]at this
    rw[this];exact k1.2.2.2
  ·rintro⟨k,e⟩
   have k1:=sJ.1 k
   have g:=dW (i:=i) (OA (n:=n) k1.1 k1.2.1) (by omega) (Ji h k)
   have:=EZ g
   rw[show((p.n.toNat:Nat):Int)=p.n by omega]at this
   exact sJ.2 ⟨k1.1,by have:=(QU.1 g).1;omega,k1.2.2.1,by rw[this];exact k1.2.2.2⟩
 have hlk:∀p,n.has p=true→p.n≠i→(n.free (i:Int)).lk p=n.lk p:=by
  intro p k e
  have k1:=sJ.1 k
  have g:=dW (i:=i) (OA (n:=n) k1.1 k1.2.1) (by omega) (Ji h k)
  have:=EZ g
  rw[show((p.n.toNat:Nat):Int)=p.n by omega]at this
  unfold Nt.lk;rw[this]
 refine⟨?_,⟨h.cap1,h.cap2,by omega,?_,?_,fun m y hy=>?_,fun p hp=>(hhas p).2 ⟨h.xs p hp.1,hp.2⟩,fun p hp hX'=>?_⟩,jZ hx hk,hhas,hlk⟩
 ·unfold ti
  rw[if_pos ⟨by omega,by omega,by rw[EZ hx];exact hk⟩]
 ·have:=h.ln2;rw[hc];omega
 ·have e:(n.free (i:Int)).ns.length=tl (n.ns.set (i:Int).toNat zN) (n.ns.set (i:Int).toNat zN).length:=Tz _
  have h1:=L8 (n.ns.set (i:Int).toNat zN) (n.ns.set (i:Int).toNat zN).length (by omega)
  obtain⟨z,hz⟩:∃z,(n.free (i:Int)).ns[(n.free (i:Int)).ns.length-1]? =some z:=⟨_,Xb (by omega)⟩
  have h2:(CV (n.ns.set (i:Int).toNat zN))[(n.free (i:Int)).ns.length-1]? =some z:=hz
  rw[BE (by show _<(n.free (i:Int)).ns.length;omega)]at h2
  rw[←e,Qv h2]at h1
  have h3:(((n.free (i:Int)).ns.length:Nat):Int)-1=(((n.free (i:Int)).ns.length-1:Nat):Int):=by omega
  rw[h3,EZ hz];exact h1
 ·rcases fk hy with⟨rfl,rfl⟩|⟨hmi,hy0⟩
  ·refine⟨⟨by decide,by decide,by decide,by decide,by decide,by decide,by decide,by decide,by decide,by decide,by decide,fun i a h=>by simp[zN]at h⟩,by decide,?_⟩
   constructor
   ·intro e;omega
   ·intro e;simp[zN]at e
  ·exact h.nds m y hy0
 ·obtain⟨g1,g2⟩:=(hhas p).1 hp
  have hX1:¬X p:=fun k=>hX' ⟨k,g2⟩
  obtain⟨h1,h2,h3,h4⟩:=h.ln p g1 hX1
  have h5:(n.lk p).n≠i:=fun e=>h3 (hX _ h2 e)
  rw[hlk p g1 g2]
  exact⟨h1,(hhas _).2 ⟨h2,h5⟩,fun k=>h3 k.1,by rw[hlk _ h2 h5,h4]⟩
structure Pl where
 k:Int
 sw:Bool
 lv:Int
 alt:Int
 nd:Nd
 deriving DecidableEq
def II(p:Pl):List PV:=[.i .i64 p.k,.b p.sw,.i .i64 p.lv,.i .i64 p.alt,.i .i64 p.nd.k,.i .i64 p.nd.lv,.i .i64 p.nd.n,.s p.nd.s,.l (p.nd.al.map uO),.l (p.nd.to.map xN)]
def si(x:Pl×Int):PT:=.t [(true,II x.1),(false,[.i .i64 x.2])]
def p0:Pl:=⟨0,false,0,0,zN⟩
def Vc(k:Int):Pl×Int:=(⟨k,false,0,0,zN⟩,0)
def noR(e:Int):Pl×Int:=(p0,e)
def S2(x:Pl×Int):Pl×Int:=if x.2=0 then(⟨x.1.k,true,x.1.lv,x.1.alt,x.1.nd⟩,0)else x
def cls(k:Int):Int:=if k=3∨k=9∨k=11∨k=12 then 1 else if k=2∨k=8∨k=10∨k=13 then 2 else if k=4∨k=5∨k=6 then 3 else if k=7 then 4 else 0
def wr(i:Int):Int:=IntKind.i64.wrap i
def VG(x y:Nd):Int:=if x.k=5 then wr (y.lv-1)else if x.k=6 then wr (y.lv+1)else y.lv
def IB(x y:Nd):Pl×Int:=if x.lv≥y.lv then noR 140 else if VG x y>60 then noR 141 else(⟨7,false,VG x y,0,zN⟩,0)
def R5(x y:Nd):Int:=idx (fun a=>decide (a.s=y.s)&&decide (a.n=wr (y.to.length-1))) x.al
def To(x y:Nd):Pl×Int:=if x.lv≠y.lv then noR 140 else if R5 x y<0 then Vc 5 else(⟨2,false,0,R5 x y,zN⟩,0)
def nf(b:Bool):Nd:=⟨8,0,0,if b then[84,114,117,101]else[70,97,108,115,101],[],[zP]⟩
def FD(x y:Nd):Nd:=
 if x.s=[43]then⟨10,0,wr (x.n+y.n),[],[],[]⟩else if x.s=[45]then⟨10,0,wr (x.n-y.n),[],[],[]⟩else if x.s=[42]then⟨10,0,wr (x.n*y.n),[],[],[]⟩
 else if x.s=[47]then⟨10,0,wr (x.n.tdiv y.n),[],[],[]⟩else if x.s=[60]then nf (decide (x.n<y.n))else if x.s=[61,61]then nf (decide (x.n=y.n))else⟨10,0,0,[],[],[]⟩
def Pq(x y:Nd):Pl×Int:=if x.s=[47]∧y.n=0 then Vc 5 else(⟨4,false,0,0,{FD x y with lv:=x.lv}⟩,0)
def Kl(x y:Nd):Pl×Int:=
 if x.k=3∧y.k=2 then(if x.lv≠y.lv then noR 140 else Vc 1)else if x.k=9∧y.k=8 then To x y else if x.k=11∧y.k=10 then Vc 3 else if x.k=12∧y.k=10 then Pq x y else Vc 5
def ofR(a b:Nd):Pl×Int:=
 if cls a.k=0∨cls b.k=0 then noR 140 else if cls a.k=4 then Vc 8 else if cls b.k=4 then S2 (Vc 8)
 else if cls a.k=3∧cls b.k=3∧a.lv=b.lv∧a.k=b.k then Vc 6
 else if cls a.k=3∧(cls b.k≠3∨a.lv≤b.lv)then IB a b
 else if cls b.k=3 then S2 (IB b a)else if cls a.k=1∧cls b.k=2 then Kl a b else if cls a.k=2∧cls b.k=1 then S2 (Kl b a)else noR 140
theorem Te(k:Int):eP S 63 [.a (.i .i64 k)]=some (.a (.i .i64 (cls k))):=by
 refine Cf (xO (by decide)) (fc:=F63) rfl rfl ?_
 unfold cls
 by_cases h1:k=3
 ·simp only[F63,h1,Int.reduceEq,or_true,true_or,or_false,false_or,nxB,evO,simprocAttr]
 by_cases h2:k=9
 ·simp only[F63,h2,Int.reduceEq,or_true,true_or,or_false,false_or,nxB,evO,simprocAttr]
 by_cases h3:k=11
 ·simp only[F63,h3,Int.reduceEq,or_true,true_or,or_false,false_or,nxB,evO,simprocAttr]
 by_cases h4:k=12
 ·simp only[F63,h4,Int.reduceEq,or_true,true_or,or_false,false_or,nxB,evO,simprocAttr]
 by_cases h5:k=2
 ·simp only[F63,h5,Int.reduceEq,or_true,true_or,or_false,false_or,or_self,nxB,evO,simprocAttr]
 by_cases h6:k=8
 ·simp only[F63,h6,Int.reduceEq,or_true,true_or,or_false,false_or,or_self,nxB,evO,simprocAttr]
 by_cases h7:k=10
 ·simp only[F63,h7,Int.reduceEq,or_true,true_or,or_false,false_or,or_self,nxB,evO,simprocAttr]
 by_cases h8:k=13
 ·simp only[F63,h8,Int.reduceEq,or_true,true_or,or_false,false_or,or_self,nxB,evO,simprocAttr]
 by_cases h9:k=4
 ·simp only[F63,h9,Int.reduceEq,or_true,true_or,or_false,false_or,or_self,nxB,evO,simprocAttr]
 by_cases h10:k=5
 ·simp only[F63,h10,Int.reduceEq,or_true,true_or,or_false,false_or,or_self,nxB,evO,simprocAttr]
 by_cases h11:k=6
 ·simp only[F63,h11,Int.reduceEq,or_true,true_or,or_false,false_or,or_self,nxB,evO,simprocAttr]
 by_cases h12:k=7
 ·simp only[F63,h12,Int.reduceEq,or_true,true_or,or_false,false_or,or_self,nxB,evO,simprocAttr]
 ·simp only[F63,h1,h2,h3,h4,h5,h6,h7,h8,h9,h10,h11,h12,or_self,nxB,evO,simprocAttr]
theorem bL(k:Int):eP S 65 [.a (.i .i64 k)]=some (si (Vc k)):=by
 refine Cf (xO (by decide)) (fc:=F65) rfl rfl ?_
 simp only[F65,si,II,Vc,zN,nxB,evO,simprocAttr]
theorem uY(x:Pl×Int):eP S 66 [.g (II x.1),.a (.i .i64 x.2)]=some (si (S2 x)):=by
 refine Cf (xO (by decide)) (fc:=F66) rfl rfl ?_
 unfold S2
 by_cases h:x.2=0
 ·simp only[F66,si,II,h,nxB,evO,simprocAttr]
 ·simp only[F66,si,II,h,nxB,evO,simprocAttr]
theorem qE(x y:Nd):eP S 67 [.g (Ug x),.g (Ug y)]=some (si (IB x y)):=by
 refine Cf (xO (by decide)) (fc:=F67) rfl rfl ?_
 unfold IB VG wr
 by_cases h5:x.k=5
 ·by_cases h1:x.lv≥y.lv
  ·simp only[F67,si,II,noR,p0,zN,h5,h1,nxB,evO,simprocAttr]
  ·by_cases h2:IntKind.i64.wrap (y.lv-1)>60
   ·simp only[F67,si,II,noR,p0,zN,h5,h1,h2,nxB,evO,simprocAttr]
   ·simp only[F67,si,II,noR,p0,zN,h5,h1,h2,nxB,evO,simprocAttr]
 by_cases h6:x.k=6
 ·by_cases h1:x.lv≥y.lv
  ·simp only[F67,si,II,noR,p0,zN,h6,h1,Int.reduceEq,nxB,evO,simprocAttr]
  ·by_cases h2:IntKind.i64.wrap (y.lv+1)>60
   ·simp only[F67,si,II,noR,p0,zN,h6,h1,h2,Int.reduceEq,nxB,evO,simprocAttr]
   ·simp only[F67,si,II,noR,p0,zN,h6,h1,h2,Int.reduceEq,nxB,evO,simprocAttr]
 by_cases h1:x.lv≥y.lv
 ·simp only[F67,si,II,noR,p0,zN,h5,h6,h1,Int.reduceEq,nxB,evO,simprocAttr]
 ·by_cases h2:y.lv>60
  ·simp only[F67,si,II,noR,p0,zN,h5,h6,h1,h2,Int.reduceEq,nxB,evO,simprocAttr]
  ·simp only[F67,si,II,noR,p0,zN,h5,h6,h1,h2,Int.reduceEq,nxB,evO,simprocAttr]
theorem O1(a:Ar)(y:Nd)(k:Key)(σ:St)(hk:σ.bs k=some (.var ((Ug y).map .p)))(hlt:k.2<σ.clk):
  eS S (.f 140) [.g ((uO a).map .p),.a (.ptr k 0 0)] σ=some (.a (.p (.b (decide (a.s=y.s)&&decide (a.n=wr (y.to.length-1))))),σ.add 2 (.var ((uO a).map .p))):=by
 have hne:¬k=(2,σ.clk):=by rintro rfl;exact TZ _ hlt
 simp only[Ug,zx,XM]at hk
 refine kZ (fc:=F140) rfl rfl ?_
 unfold wr
 cases h1:decide (a.s=y.s)with
 |false=>simp only[F140,hk,hne,h1,nxB,evO,simprocAttr]
 |true=>simp only[F140,hk,hne,h1,nxB,evO,simprocAttr]
theorem Ko{x y:Nd}(hx:x.Ok):eP S 102 [.g (Ug x),.g (Ug y)]=some (si (To x y)):=by
 refine Cf (xO (by decide)) (fc:=F102) rfl rfl ?_
 have c5:=bL 5
 unfold To
 by_cases h1:x.lv=y.lv
 case neg=>simp only[F102,si,II,noR,p0,zN,h1,nxB,evO,simprocAttr]
 obtain⟨σ0,hσ0⟩:∃σ0,σ0=((St.empty.add 2 (.var ((Ug x).map .p))).add 3 (.var ((Ug y).map .p))).add 4 (.var [.p (.i .i64 0),.p (.b false),.p (.i .i64 0),.p (.i .i64 0),.p (.i .i64 0),.p (.i .i64 0),.p (.i .i64 0),.p (.s []),.nil,.nil]):=⟨_,rfl⟩
 obtain⟨σ1,hcall,h4,h5⟩:=tK x.al hx.al 140 [(3,1)] (by simp) (by decide) (fun a=>decide (a.s=y.s)&&decide (a.n=wr (y.to.length-1))) (fun σ=>(σ.bs (3,1)=some (.var ((Ug y).map .p))∧2≤σ.clk)∧σ.bs (4,2)=some (.var [.p (.i .i64 0),.p (.b false),.p (.i .i64 0),.p (.i .i64 0),.p (.i .i64 0),.p (.i .i64 0),.p (.i .i64 0),.p (.s []),.nil,.nil]))
  (fun a σ hσ=>⟨_,O1 a y (3,1) σ hσ.1.1 (by have:=hσ.1.2;simp;omega),by
   refine⟨⟨?_,?_⟩,?_⟩
   ·simp only[Mq];rw[if_neg (by simp)];exact hσ.1.1
   ·simp only[Bv];have:=hσ.1.2;omega
   ·simp only[Mq];rw[if_neg (by simp)];exact hσ.2⟩) σ0 (by rw[hσ0];refine⟨⟨?_,?_⟩,?_⟩<;>simp[Mq,Bv,Sx])
 rw[hσ0]at hcall
 have hcall:eS S (.f 139) [.a (.p (.l (x.al.map uO))),.a (.fn 140 [(3,1)])] _=some (.a (.p (.i .i64 (R5 x y))),σ1):=hcall
 simp only[Ug,zx,XM,h1]at hcall h4
 simp only[si,II,Vc,zN,XM]at c5
 by_cases h2:R5 x y<0
 ·simp only[F102,si,II,noR,Vc,p0,zN,h1,Wk,hcall,h2,h4,h5,c5,not_true_eq_false,nxB,evO,simprocAttr]
 ·simp only[F102,si,II,noR,Vc,p0,zN,h1,Wk,hcall,h2,h4,h5,c5,not_true_eq_false,nxB,evO,simprocAttr]
theorem Ie(b:Bool):eP S 141 [.a (.b b)]=some (.g (Ug (nf b))):=by
 refine Cf (xO (by decide)) (fc:=F141) rfl rfl ?_
 unfold nf
 cases b
 ·simp only[F141,zP,Int.reduceLE,Int.reduceMul,Int.reduceToNat,Mz,nxB,evO,simprocAttr]
 ·simp only[F141,zP,Int.reduceLE,Int.reduceMul,Int.reduceToNat,Mz,nxB,evO,simprocAttr]
theorem nmU:((43:UInt8)=45)=False∧((43:UInt8)=42)=False∧((43:UInt8)=47)=False∧((43:UInt8)=60)=False∧((43:UInt8)=61)=False∧((45:UInt8)=43)=False∧((45:UInt8)=42)=False∧((45:UInt8)=47)=False∧((45:UInt8)=60)=False∧((45:UInt8)=61)=False∧((42:UInt8)=43)=False∧((42:UInt8)=45)=False∧((42:UInt8)=47)=False∧((42:UInt8)=60)=False∧((42:UInt8)=61)=False∧((47:UInt8)=43)=False∧((47:UInt8)=45)=False∧((47:UInt8)=42)=False∧((47:UInt8)=60)=False∧((47:UInt8)=61)=False∧((60:UInt8)=43)=False∧((60:UInt8)=45)=False∧((60:UInt8)=42)=False∧((60:UInt8)=47)=False∧((60:UInt8)=61)=False∧((61:UInt8)=43)=False∧((61:UInt8)=45)=False∧((61:UInt8)=42)=False∧((61:UInt8)=47)=False∧((61:UInt8)=60)=False:=
 ⟨eq_false (by decide),eq_false (by decide),eq_false (by decide),eq_false (by decide),eq_false (by decide),eq_false (by decide),eq_false (by decide),eq_false (by decide),eq_false (by decide),eq_false (by decide),eq_false (by decide),eq_false (by decide),eq_false (by decide),eq_false (by decide),eq_false (by decide),eq_false (by decide),eq_false (by decide),eq_false (by decide),eq_false (by decide),eq_false (by decide),eq_false (by decide),eq_false (by decide),eq_false (by decide),eq_false (by decide),eq_false (by decide),eq_false (by decide),eq_false (by decide),eq_false (by decide),eq_false (by decide),eq_false (by decide)⟩
theorem zV(x y:Nd):eP S 103 [.g (Ug x),.g (Ug y)]=some (si (Pq x y)):=by
 refine Cf (xO (by decide)) (fc:=F103) rfl rfl ?_
 have c5:=bL 5
 have t1:=Ie (decide (x.n<y.n))
 have t2:=Ie (decide (x.n=y.n))
 unfold Pq FD
 simp only[Ug,nf,zP,xN,zx,XM]at t1 t2
 obtain⟨n1,hn1⟩:∃b,decide (x.n<y.n)=b:=⟨_,rfl⟩
 obtain⟨n2,hn2⟩:∃b,decide (x.n=y.n)=b:=⟨_,rfl⟩
 rw[hn1]at t1⊢
 rw[hn2]at t2⊢
 simp only[si,II,Vc,zN,XM]at c5
 by_cases h1:x.s=[43]
 ·simp only[F103,si,II,Vc,zN,wr,h1,KB,nmU,SO,not_true_eq_false,nxB,evO,simprocAttr]
 by_cases h2:x.s=[45]
 ·simp only[F103,si,II,Vc,zN,wr,h2,KB,nmU,SO,not_true_eq_false,nxB,evO,simprocAttr]
 by_cases h3:x.s=[42]
 ·simp only[F103,si,II,Vc,zN,wr,h3,KB,nmU,SO,not_true_eq_false,nxB,evO,simprocAttr]
 by_cases h4:x.s=[47]
 ·by_cases h5:y.n=0
  ·simp only[F103,si,II,Vc,zN,wr,h4,h5,c5,KB,nmU,SO,not_true_eq_false,nxB,evO,simprocAttr]
  ·simp only[F103,si,II,Vc,zN,wr,h4,h5,c5,KB,nmU,SO,not_true_eq_false,nxB,evO,simprocAttr]
 by_cases h6:x.s=[60]
 ·simp only[F103,si,II,Vc,zN,wr,h6,t1,hn1,nf,zP,KB,nmU,SO,not_true_eq_false,nxB,evO,simprocAttr]
 by_cases h7:x.s=[61,61]
 ·simp only[F103,si,II,Vc,zN,wr,h7,t2,hn2,nf,zP,KB,nmU,SO,not_true_eq_false,nxB,evO,simprocAttr]
 ·simp only[F103,si,II,Vc,zN,wr,h1,h2,h3,h4,h6,h7,KB,nmU,SO,not_true_eq_false,nxB,evO,simprocAttr]
theorem Gv{x y:Nd}(hx:x.Ok):eP S 68 [.g (Ug x),.g (Ug y)]=some (si (Kl x y)):=by
 refine Cf (xO (by decide)) (fc:=F68) rfl rfl ?_
 have c1:=bL 1
 have c3:=bL 3
 have c5:=bL 5
 have cp:=Ko (x:=x) (y:=y) hx
 have co:=zV x y
 obtain⟨⟨⟨pk,ps,pl,pa,⟨n1,n2,n3,n4,n5,n6⟩⟩,pe⟩,hp⟩:∃z,To x y=z:=⟨_,rfl⟩
 obtain⟨⟨⟨ok,os,ol,oa,⟨m1,m2,m3,m4,m5,m6⟩⟩,oe⟩,ho⟩:∃z,Pq x y=z:=⟨_,rfl⟩
 unfold Kl
 rw[hp]at cp⊢
 rw[ho]at co⊢
 simp only[Ug,si,II]at cp co
 simp only[si,II,Vc,zN,XM]at c1 c3 c5
 by_cases h1:x.k=3∧y.k=2
 ·obtain⟨h1,h2⟩:=h1
  by_cases h3:x.lv=y.lv
  ·simp only[F68,si,II,Vc,noR,p0,zN,h1,h2,h3,c1,Int.reduceEq,not_true_eq_false,nxB,evO,simprocAttr]
  ·simp only[F68,si,II,Vc,noR,p0,zN,h1,h2,h3,c1,Int.reduceEq,not_true_eq_false,nxB,evO,simprocAttr]
 by_cases h2:x.k=9∧y.k=8
 ·obtain⟨h2,h3⟩:=h2
  rw[h2,h3]at cp
  simp only[F68,si,II,Vc,noR,p0,zN,h2,h3,cp,Int.reduceEq,not_true_eq_false,nxB,evO,simprocAttr]
 by_cases h3:x.k=11∧y.k=10
 ·obtain⟨h3,h4⟩:=h3
  simp only[F68,si,II,Vc,noR,p0,zN,h3,h4,c3,Int.reduceEq,not_true_eq_false,nxB,evO,simprocAttr]
 by_cases h4:x.k=12∧y.k=10
 ·obtain⟨h4,h5⟩:=h4
  rw[h4,h5]at co
  simp only[F68,si,II,Vc,noR,p0,zN,h4,h5,co,Int.reduceEq,not_true_eq_false,nxB,evO,simprocAttr]
 have g1:(decide (x.k=3)&&decide (y.k=2))=false:=by simpa using h1
 have g2:(decide (x.k=9)&&decide (y.k=8))=false:=by simpa using h2
 have g3:(decide (x.k=11)&&decide (y.k=10))=false:=by simpa using h3
 have g4:(decide (x.k=12)&&decide (y.k=10))=false:=by simpa using h4
 simp only[F68,si,II,Vc,noR,p0,zN,h1,h2,h3,h4,g1,g2,g3,g4,c5,Int.reduceEq,not_true_eq_false,nxB,evO,simprocAttr]
theorem HU(i j:Int)(a b:Nd)(ka kb:Key)(σ:St)(ha:σ.bs ka=some (.var ((Ug a).map .p)))(hb:σ.bs kb=some (.var ((Ug b).map .p))):
  eS S (.f 62) [.a (.p (.i .i64 i)),.a (.p (.i .i64 j)),.a (.ptr ka 0 0),.a (.ptr kb 0 0)] σ=some (.a (.p (.b (decide (cls a.k=i)&&decide (cls b.k=j)))),σ):=by
 have c1:=Te a.k
 have c2:=Te b.k
 simp only[Ug,zx,XM]at ha hb
 refine kZ (fc:=F62) rfl rfl ?_
 cases h1:decide (cls a.k=i)with
 |false=>simp only[F62,ha,hb,c1,c2,h1,nxB,evO,simprocAttr]
 |true=>simp only[F62,ha,hb,c1,c2,h1,nxB,evO,simprocAttr]
theorem Bz(i:Int)(a b:Nd)(ka kb:Key)(σ:St)(ha:σ.bs ka=some (.var ((Ug a).map .p)))(hb:σ.bs kb=some (.var ((Ug b).map .p))):
  eS S (.f 64) [.a (.p (.i .i64 i)),.a (.ptr ka 0 0),.a (.ptr kb 0 0)] σ=some (.a (.p (.b (decide (cls a.k=i)||decide (cls b.k=i)))),σ):=by
 have c1:=Te a.k
 have c2:=Te b.k
 simp only[Ug,zx,XM]at ha hb
 refine kZ (fc:=F64) rfl rfl ?_
 cases h1:decide (cls a.k=i)with
 |false=>simp only[F64,ha,hb,c1,c2,h1,nxB,evO,simprocAttr]
 |true=>simp only[F64,ha,hb,c1,c2,h1,nxB,evO,simprocAttr]
theorem DH{a b:Nd}(ha:a.Ok)(hb:b.Ok):eP S 39 [.g (Ug a),.g (Ug b)]=some (si (ofR a b)):=by
 have ca:=Te a.k
 have cb:=Te b.k
 have c8:=bL 8
 have c6:=bL 6
 have cs8:=uY (Vc 8)
 have pab:=qE a b
 have pba:=qE b a
 have spba:=uY (IB b a)
 have aab:=Gv (x:=a) (y:=b) ha
 have aba:=Gv (x:=b) (y:=a) hb
 have saba:=uY (Kl b a)
 obtain⟨⟨⟨q1,q2,q3,q4,⟨q5,q6,q7,q8,q9,q10⟩⟩,qe⟩,hq⟩:∃z,IB a b=z:=⟨_,rfl⟩
 obtain⟨⟨⟨r1,r2,r3,r4,⟨r5,r6,r7,r8,r9,r10⟩⟩,re⟩,hr⟩:∃z,IB b a=z:=⟨_,rfl⟩
 obtain⟨⟨⟨s1,s2,s3,s4,⟨s5,s6,s7,s8,s9,s10⟩⟩,se⟩,hs⟩:∃z,Kl a b=z:=⟨_,rfl⟩
 obtain⟨⟨⟨t1,t2,t3,t4,⟨t5,t6,t7,t8,t9,t10⟩⟩,te⟩,ht⟩:∃z,Kl b a=z:=⟨_,rfl⟩
 rw[hq]at pab
 rw[hr]at pba spba
 rw[hs]at aab
 rw[ht]at aba saba
 obtain⟨⟨⟨u1,u2,u3,u4,⟨u5,u6,u7,u8,u9,u10⟩⟩,ue⟩,hu⟩:∃z,S2 (⟨r1,r2,r3,r4,⟨r5,r6,r7,r8,r9,r10⟩⟩,re)=z:=⟨_,rfl⟩
 obtain⟨⟨⟨w1,w2,w3,w4,⟨w5,w6,w7,w8,w9,w10⟩⟩,we⟩,hw⟩:∃z,S2 (⟨t1,t2,t3,t4,⟨t5,t6,t7,t8,t9,t10⟩⟩,te)=z:=⟨_,rfl⟩
 rw[hu]at spba
 rw[hw]at saba
 have e8:S2 (Vc 8)=(⟨8,true,0,0,zN⟩,0):=rfl
 rw[e8]at cs8
 simp only[si,II,Ug,Vc,zN,XM]at c8 c6 cs8 pab pba spba aab aba saba
 have o1:=fun i j σ (h1:σ.bs (2,0)=some (.var ((Ug a).map .p))) h2=>HU i j a b (2,0) (3,1) σ h1 h2
 have o2:=fun i σ (h1:σ.bs (2,0)=some (.var ((Ug a).map .p))) h2=>Bz i a b (2,0) (3,1) σ h1 h2
 obtain⟨σ1,hσ1⟩:∃σ1,σ1=((St.empty.add 2 (.var ((Ug a).map .p))).add 3 (.var ((Ug b).map .p))).add 4 (.var [.p (.i .i64 0),.p (.b false),.p (.i .i64 0),.p (.i .i64 0),.p (.i .i64 0),.p (.i .i64 0),.p (.i .i64 0),.p (.s []),.nil,.nil]):=⟨_,rfl⟩
 have b2:σ1.bs (2,0)=some (.var ((Ug a).map .p)):=by rw[hσ1];simp[Mq,Bv,Sx]
 have b3:σ1.bs (3,1)=some (.var ((Ug b).map .p)):=by rw[hσ1];simp[Mq,Bv,Sx]
 have k0:=o2 0 σ1 b2 b3
 have k33:=o1 3 3 σ1 b2 b3
 have k12:=o1 1 2 σ1 b2 b3
 have k21:=o1 2 1 σ1 b2 b3
 rw[hσ1]at k0 k33 k12 k21
 simp only[Ug,zx,XM]at k0 k33 k12 k21
 unfold ofR
 rw[hq,hr,hs,ht]
 refine Cf (xO (by decide)) (fc:=F39) rfl rfl ?_
 by_cases h0:cls a.k=0∨cls b.k=0
 ·have d0:(decide (cls a.k=0)||decide (cls b.k=0))=true:=by simpa using h0
  rw[d0]at k0
  simp only[F39,Wk,si,II,noR,p0,zN,h0,k0,nxB,evO,simprocAttr]
 have d0:(decide (cls a.k=0)||decide (cls b.k=0))=false:=by simpa using h0
 rw[d0]at k0
 have h0a:¬cls a.k=0:=fun h=>h0 (.inl h)
 have h0b:¬cls b.k=0:=fun h=>h0 (.inr h)
 by_cases h1:cls a.k=4
 ·simp only[F39,Wk,si,II,Vc,zN,h0a,h0b,h1,k0,ca,c8,Int.reduceEq,or_self,false_or,or_false,not_false_eq_true,not_true_eq_false,nxB,evO,simprocAttr]
 by_cases h2:cls b.k=4
 ·simp only[F39,Wk,si,II,Vc,zN,S2,h0a,h0b,h1,h2,k0,ca,cb,c8,cs8,Int.reduceEq,or_self,false_or,or_false,not_false_eq_true,not_true_eq_false,nxB,evO,simprocAttr]
 by_cases h3:cls a.k=3∧cls b.k=3∧a.lv=b.lv∧a.k=b.k
 ·obtain⟨h3,h4,h5,h6⟩:=h3
  have d3:(decide (cls a.k=3)&&decide (cls b.k=3))=true:=by simp[h3,h4]
  rw[d3]at k33
  have h43:¬(3:Int)=4:=by decide
  have h03:¬((3:Int)=0∨(3:Int)=0):=by decide
  rw[h6]at h3 ca k0 k33
  rw[h5]at k0 k33
  simp only[F39,Wk,si,II,Vc,zN,h3,h4,h5,h6,h43,h03,k0,k33,ca,cb,c6,Int.reduceEq,or_self,false_or,or_false,not_false_eq_true,not_true_eq_false,nxB,evO,simprocAttr]
 have d33:((decide (cls a.k=3)&&decide (cls b.k=3))=true∧a.lv=b.lv∧a.k=b.k)↔False:=by simp;intro x y;exact fun z w=>h3 ⟨x,y,z,w⟩
 obtain⟨v33,hv33⟩:∃v,(decide (cls a.k=3)&&decide (cls b.k=3))=v:=⟨_,rfl⟩
 rw[hv33]at k33 d33
 have g33:∀{α:Type} (x y:α),(if((decide (cls a.k=3)&&decide (cls b.k=3))&&decide (a.lv=b.lv)&&decide (a.k=b.k))=true then x else y)=y:=by
  intro α x y;rw[if_neg];simp;intro x y;exact fun z w=>h3 ⟨x,y,z,w⟩
 by_cases h4:cls a.k=3
 ·by_cases h5:cls b.k=3
  ·have hv:v33=true:=by rw[←hv33];simp[h4,h5]
   rw[hv]at k33
   by_cases h6:a.lv≤b.lv
   ·by_cases h7:a.lv=b.lv
    ·have h8:¬a.k=b.k:=fun h=>h3 ⟨h4,h5,h7,h⟩
     rw[h7]at k0 k33 pab
     simp only[F39,Wk,si,II,h0a,h0b,h1,h2,h4,h5,h7,h8,kS,k0,k33,ca,cb,pab,true_or,or_true,Int.reduceEq,or_self,false_or,or_false,not_false_eq_true,not_true_eq_false,nxB,evO,simprocAttr]
    ·simp only[F39,Wk,si,II,h0a,h0b,h1,h2,h4,h5,h6,h7,k0,k33,ca,cb,pab,true_or,or_true,Int.reduceEq,or_self,false_or,or_false,not_false_eq_true,not_true_eq_false,nxB,evO,simprocAttr]
   ·have h7:¬a.lv=b.lv:=by omega
    simp only[F39,Wk,si,II,h0a,h0b,h1,h2,h4,h5,h6,h7,hu,k0,k33,ca,cb,pba,spba,or_self,Int.reduceEq,or_self,false_or,or_false,not_false_eq_true,not_true_eq_false,nxB,evO,simprocAttr]
  ·have hv:v33=false:=by rw[←hv33];simp[h5]
   rw[hv]at k33
   simp only[F39,Wk,si,II,h0a,h0b,h1,h2,h4,h5,k0,k33,ca,cb,pab,true_or,or_true,Int.reduceEq,or_self,false_or,or_false,not_false_eq_true,not_true_eq_false,nxB,evO,simprocAttr]
 ·have hv:v33=false:=by rw[←hv33];simp[h4]
  rw[hv]at k33
  by_cases h5:cls b.k=3
  ·simp only[F39,Wk,si,II,h0a,h0b,h1,h2,h4,h5,hu,k0,k33,ca,cb,pba,spba,or_self,Int.reduceEq,or_self,false_or,or_false,not_false_eq_true,not_true_eq_false,nxB,evO,simprocAttr]
  by_cases h6:cls a.k=1∧cls b.k=2
  ·have d6:(decide (cls a.k=1)&&decide (cls b.k=2))=true:=by simpa using h6
   rw[d6]at k12
   simp only[F39,Wk,si,II,h0a,h0b,h1,h2,h4,h5,h6,k0,k33,k12,ca,cb,aab,Int.reduceEq,or_self,false_or,or_false,not_false_eq_true,not_true_eq_false,nxB,evO,simprocAttr]
  have d6:(decide (cls a.k=1)&&decide (cls b.k=2))=false:=by simpa using h6
  rw[d6]at k12
  by_cases h7:cls a.k=2∧cls b.k=1
  ·have d7:(decide (cls a.k=2)&&decide (cls b.k=1))=true:=by simpa using h7
   rw[d7]at k21
   simp only[F39,Wk,si,II,h0a,h0b,h1,h2,h4,h5,h6,h7,hw,k0,k33,k12,k21,ca,cb,aba,saba,Int.reduceEq,or_self,false_or,or_false,not_false_eq_true,not_true_eq_false,nxB,evO,simprocAttr]
  ·have d7:(decide (cls a.k=2)&&decide (cls b.k=1))=false:=by simpa using h7
   rw[d7]at k21
   simp only[F39,Wk,si,II,noR,p0,zN,h0a,h0b,h1,h2,h4,h5,h6,h7,k0,k33,k12,k21,ca,cb,Int.reduceEq,or_self,false_or,or_false,not_false_eq_true,not_true_eq_false,nxB,evO,simprocAttr]
def oth(x:Nd):Int:=max (wr ((x.to.length:Int)-1)) 0
theorem dH(x:Nd):eP S 70 [.g (Ug x)]=some (.a (.i .i64 (oth x))):=by
 refine Cf (xO (by decide)) (fc:=F70) rfl rfl ?_
 have hm:(if(0:Int)>IntKind.i64.wrap ((x.to.length:Int)-1)then 0 else IntKind.i64.wrap ((x.to.length:Int)-1))=oth x:=by unfold oth wr;omega
 simp only[F70,hm,nxB,evO,simprocAttr]
def qM(i:Int):List PV:=[.i .i64 i]
def Ei(b:Bool):List PV:=[.b b]
def Nt.step(n:Nt)(i j:Nat):Prop:=∃x q,n.ns[i]? =some x∧q∈x.to∧q.n=(j:Int)
inductive Rch(n:Nt):Nat→Prop
 |root:Rch n 0
 |step {i j:Nat}:Rch n i→n.step i j→Rch n j
def dR(l:List Bool):Nat:=l.countP fun b=> !b
theorem M8:∀{l:List Bool} {i:Nat},l[i]? =some false→dR (l.set i true)+1=dR l
 |[],i,h=>by simp at h
 |b::l,0,h=>by
  simp only[aT,Lo]at h;subst h
  simp[dR,Mp]
 |b::l,i+1,h=>by
  simp only[cw]at h
  have:=M8 h
  simp only[dR,DV,Mp]at this⊢
  omega
theorem Dy(l:List Bool):dR l≤l.length:=List.countP_le_length
def MS(rows:List (List PV))(km ks:Key)(W:List Int)(seen:List Bool)(σ:St):Prop:=
 km.2<σ.clk∧ks.2<σ.clk∧km≠ks∧σ.bs ks=some (.row 1 4 (seen.map Ei))∧
 ∃wv,σ.bs km=some (.var [.p (.l rows),.own ks 0 seen.length,wv])∧
  (wv= .nil∧W=[]∨∃(kw:Key) (full:List Int),wv= .own kw 0 W.length∧σ.bs kw=some (.row 1 3 (full.map qM))∧full.take W.length=W∧W.length≤full.length∧kw≠km∧kw≠ks∧kw.2<σ.clk)
theorem FH{rows:List (List PV)}{km ks:Key}{W:List Int}{seen:List Bool}{σ:St}(h:MS rows km ks W seen σ)(d:Nat)(k:Nat)(b b':Blk)(hk:k=σ.clk):MS rows km ks W seen ((σ.add d b).put (d,k) b'):=by
 subst hk
 obtain⟨h1,h2,h3,h4,wv,h5,h6⟩:=h
 have ne:∀s:Key,s.2<σ.clk→¬s=(d,σ.clk):=by rintro s hs rfl;exact TZ _ hs
 refine⟨by simp only[Rt,Bv];omega,by simp only[Rt,Bv];omega,h3,by simp only[xL,Mq,ne ks h2,if_false];exact h4,wv,by simp only[xL,Mq,ne km h1,if_false];exact h5,?_⟩
 rcases h6 with h6|⟨kw,full,e1,e2,e3,e4,e5,e6,e7⟩
 ·exact .inl h6
 ·exact .inr ⟨kw,full,e1,by simp only[xL,Mq,ne kw e7,if_false];exact e2,e3,e4,e5,e6,by simp only[Rt,Bv];omega⟩
theorem lP{rows:List (List PV)}{km ks:Key}{W:List Int}{seen:List Bool}{σ:St}{i:Nat}{b:Bool}(h:MS rows km ks W seen σ)(hi:seen[i]? =some b)(hb:W.length*8+8≤140737488355328):
  ∃v σ',eS S (.f 134) [.a (.ptr km 0 0),.a (.p (.i .i64 (i:Nat)))] σ=some (v,σ')∧v= .u∧MS rows km ks (if b then W else W++[(i:Int)]) (if b then seen else seen.set i true) σ':=by
 have h0:=h
 obtain⟨h1,h2,h3,h4,wv,h5,h6⟩:=h
 have hil:=(QU.1 hi).1
 have hi':=Kr Ei hi
 have hlt:((i:Nat):Int)<(seen.length:Int):=by omega
 have hge:(0:Int)≤((i:Nat):Int):=by omega
 have ne1:∀s:Key,s.2<σ.clk→∀d j,¬s=(d,σ.clk+j):=by rintro s hs d j rfl;simp at hs;omega
 have ne0:∀s:Key,s.2<σ.clk→∀d,¬s=(d,σ.clk):=by rintro s hs d rfl;simp at hs
 have h3':¬ks=km:=fun e=>h3 e.symm
 refine ZE (fc:=F134) rfl rfl ?_
 cases b with
 |true=>
  simp only[Ei]at hi'
  simp only[F134,h5,h4,hlt,hge,hi',Ci,Ei,nxB,evO,simprocAttr]
  exact h0
 |false=>
  simp only[Ei]at hi'
  have hset:(seen.map Ei).set i [.b true]=(seen.set i true).map Ei:=by rw[JV];rfl
  have hl:(seen.set i true).length=seen.length:=by simp
  rcases h6 with⟨rfl,rfl⟩|⟨kw,full,rfl,e2,e3,e4,e5,e6,e7⟩
  ·simp only[F134,h5,h4,hlt,hge,hi',hset,h3,h3',ne0 km h1,ne0 ks h2,ne1 km h1,ne1 ks h2,Ci,Ei,Fy,SZ,Nat.reduceLeDiff,PJ,SY,KA,nxB,evO,simprocAttr]
   refine⟨by simp only[Rt,Bv];omega,by simp only[Rt,Bv];omega,h3,by simp only[xL,Mq,Sn,Bv,Rt,h3',ne0 ks h2,ne1 ks h2,ME,if_false,if_true],.own (24,σ.clk+1) 0 1,by simp only[xL,if_true,hl],.inr ⟨(24,σ.clk+1),[(i:Int)],rfl,?_,rfl,by simp,?_,?_,by simp only[Rt,Bv];omega⟩⟩
   ·simp only[xL,Mq,Bv,Rt,if_true,qM,zx,XM]
    rw[if_neg (fun e=>ne1 km h1 24 1 e.symm)]
   ·exact fun e=>ne1 km h1 24 1 e.symm
   ·exact fun e=>ne1 ks h2 24 1 e.symm
  ·have htk:List.take W.length (full.map qM)=W.map qM:=by rw[←List.map_take,e3]
   have hb2:(W.length+1)*8≤140737488355328:=by omega
   have e6':¬ks=kw:=fun e=>e6 e.symm
   have e5':¬km=kw:=fun e=>e5 e.symm
   simp only[F134,h5,h4,e2,e4,htk,hb2,hlt,hge,hi',hset,h3,h3',e5,e6,e5',e6',ne0 km h1,ne0 ks h2,ne0 kw e7,ne1 km h1,ne1 ks h2,ne1 kw e7,Ci,Ei,mB,Fy,SZ,Nat.reduceLeDiff,PJ,SY,KA,nxB,evO,simprocAttr]
   refine⟨by simp only[Rt,Bv,ME];omega,by simp only[Rt,Bv,ME];omega,h3,by simp only[xL,Mq,Sn,Bv,Rt,ME,h3',e6',ne0 ks h2,ne1 ks h2,if_false,if_true],.own (24,σ.clk+1) 0 (W.length+1),by simp only[xL,if_true,hl],.inr ⟨(24,σ.clk+1),W++[(i:Int)],by simp,?_,Ea (by simp),by simp,?_,?_,by simp only[Rt,Bv,ME];omega⟩⟩
   ·simp only[xL,Mq,Bv,Rt,ME,Sn,if_true,qM,zx,XM,TU]
    rw[if_neg (fun e=>ne1 km h1 24 1 e.symm)]
   ·exact fun e=>ne1 km h1 24 1 e.symm
   ·exact fun e=>ne1 ks h2 24 1 e.symm
end Go.Proofs.YtmlhgalboabjcaaGreat
section
namespace Go.Fx
variable{S:Seat}
theorem bu{cp:FuncId→List PT→Option PT}{cs:Cal→List TV→St→Option (TV×St)}{sp:FuncId→Bool}{j k:Nat}(h:j≤k)(l:Nat)(args:List TV)(σ:St):Le (evY cp cs sp j l args σ) (evY cp cs sp k l args σ):=by
 induction h with
 |refl=>exact Le.refl _
 |step _ ih=>exact ih.trans (qO (fun _ _=>Le.refl _) (fun _ _ _=>Le.refl _) _ l args σ)
theorem PO{n l:Nat}{args:List TV}{σ:St}{x:TV×St}(h:evY (eP S) (eS S) S.sp n l args σ=some x):eS S (.y l) args σ=some x:=by
 have hl:=eC (cp:=eP S) (cs:=eS S) (sp:=S.sp) (fun f ps=>FE S f ps) (fun f vs σ=>Bh S f vs σ) n l args σ
 obtain⟨k,hk⟩:=hl.ex _ h
 refine(jk S).2 ⟨max k n+1,?_⟩
 rw[evS]
 exact bu (YK k n) l args σ _ (hl.mono (UL k n) _ hk)
theorem SF{l:Nat}{args:List TV}{σ:St}{r:LRec}(hr:σ.ls[l]? =some r)(hn:args.length=r.params.length){K:TV→St→Prop}
  (h:wp S true r.assign (J9 r.env r.params args) σ fun x e1 σ1=>x= .norm∧∃r1,σ1.ls[l]? =some r1∧r1.st= .ready∧wp S true r.body e1 (ud σ1 l {r1 with st:=.busy}) fun y e2 σ2=>
   ∃r2,σ2.ls[l]? =some r2∧(if y= .norm then K (.a (.p (.b true))) (ud σ2 l {r2 with st:=.ready,pend:=none})else K (.a (.p (.b false))) (ud σ2 l {r2 with st:=.done,pend:=some y}))):
  ∃v σ',eS S (.y l) args σ=some (v,σ')∧K v σ':=by
 obtain⟨n1,⟨x,e1,σ1⟩,h1,hx,r1,hr1,hst,n2,⟨y,e2,σ2⟩,h2,r2,hr2,hK⟩:=h
 simp only at hx hr1 hst h2 hr2 hK
 subst hx
 have a:=xc (UL n1 n2) true r.assign _ _ _ h1
 have b:=xc (YK n1 n2) true r.body _ _ _ h2
 simp only[evW]at a b
 by_cases hy:y= .norm
 ·subst hy
  rw[if_pos rfl]at hK
  refine⟨_,_,PO (n:=max n1 n2) ?_,hK⟩
  simp only[evY,hr,hn,if_true,a,wA,hr1,hst,b,hr2]
 ·rw[if_neg hy]at hK
  refine⟨_,_,PO (n:=max n1 n2) ?_,hK⟩
  simp only[evY,hr,hn,if_true,a,wA,hr1,hst,b,hr2,if_neg hy]
theorem OH{f:X}{ps:List Nat}{assign body:C}{e:Env}{σ:St}{Q:Ex→Env→St→Prop}{g:FuncId}{caps:List Key}(hf:ev e f= .a (.fn g caps))
  (h:∃v σ1,eS S (.f g) (.a (.yl σ.ls.length)::caps.map fun s=>.a (.ptr s 0 0)) {σ with ls:=σ.ls++[{env:=e,params:=ps,assign:=assign,body:=body,st:=.ready,pend:=none}]}=some (v,σ1)∧
   ∃r,σ1.ls[σ.ls.length]? =some r∧r.st≠ .busy∧Q (r.pend.getD .norm) e (ud σ1 σ.ls.length {r with st:=.gone})):wp S false (.rng f ps assign body) e σ Q:=by
 obtain⟨v,σ1,h1,r,hr,hs,hQ⟩:=h
 refine⟨1,(r.pend.getD .norm,e,ud σ1 σ.ls.length {r with st:=.gone}),?_,hQ⟩
 simp only[evW,evC,SY,if_false,hf,h1,wA,hr,if_neg hs]
theorem Ht(σ:St)(l:Nat)(r:LRec):(ud σ l r).bs=σ.bs:=rfl
theorem rf(σ:St)(l:Nat)(r:LRec):(ud σ l r).clk=σ.clk:=rfl
theorem GA(σ:St)(l:Nat)(r:LRec):(ud σ l r).ls=σ.ls.set l r:=rfl
end Go.Fx
end
namespace Go.Proofs.YtmlhgalboabjcaaGreat
open Go.Fx
def Nt.pr(n:Nt)(i:Nat):Option Pt:=if n.has ⟨i,0⟩=true∧(n.lk ⟨i,0⟩).s=0∧(i:Int)<(n.lk ⟨i,0⟩).n then some ⟨i,(n.lk ⟨i,0⟩).n⟩else none
def jY(n:Nt)(k:Nat):List Pt:=(List.range k).filterMap n.pr
def Nt.prs(n:Nt):List Pt:=jY n n.ns.length
theorem eG(n:Nt)(k:Nat):jY n (k+1)=jY n k++(n.pr k).toList:=by
 unfold jY
 rw[List.range_succ,List.filterMap_append]
 cases h:n.pr k<;>simp[h]
theorem Sy(n:Nt)(σ:St):eS S (.f 93) [.g ((Ip n).map .p)] σ=some (.a (.fn 131 [(1,σ.clk)]),σ.add 1 (.var ((Ip n).map .p))):=by
 refine kZ (fc:=F93) rfl rfl ?_
 simp only[F93,Wk,nxB,evO,simprocAttr]
theorem bY{n:Nt}(hn:n.Ok)(l:Nat)(kn:Key)(I:Nat→St→Prop)(hI:∀k σ,I k σ→σ.bs kn=some (.var ((Ip n).map .p))∧kn.2<σ.clk)
  (hadd:∀k σ c b,I k σ→c=σ.clk→I k ((σ.add 4 (.var [.p (.i .i64 0),.p (.i .i64 0)])).put (4,c) b))
  (hy:n.Good→∀k σ p,I k σ→n.prs[k]? =some p→∃σ',eS S (.y l) [.g [.p (.i .i64 p.n),.p (.i .i64 p.s)]] σ=some (.a (.p (.b true)),σ')∧I (k+1) σ') (σ:St) (h0:I 0 σ):
  ∃σ',eS S (.f 131) [.a (.yl l),.a (.ptr kn 0 0)] σ=some (.u,σ')∧I (if bool n.Good then n.prs.length else 0) σ':=by
 refine Zy (fc:=F131) rfl rfl ?_
 have c1:=Hi hn
 have hns:=hn.ns
 obtain⟨s1,hc⟩:=hI 0 σ h0
 by_cases hG:n.Good
 case neg=>
  rw[qy hG]at c1⊢
  simp only[SY,if_false,Ip,zx,XM]at c1 s1
  simp only[F131,s1,c1,Int.reduceEq,nxB,evO,simprocAttr]
  exact h0
 rw[Pb hG]at c1⊢
 simp only[if_true,Ip,zx,XM]at c1 s1
 simp only[F131,s1,c1,nxB,evO,simprocAttr]
 refine Fs n.ns.length (fun i e σ=>e 0= .a (.yl l)∧e 1= .a (.ptr kn 0 0)∧e 11= .a (.p (.i .i64 n.ns.length))∧e 12= .a (.p (.i .i64 (i:Nat)))∧I (jY n i).length σ) (i0:=0) (ji _) ?_ ?_ ?_
 ·refine⟨?_,?_,?_,?_,h0⟩<;>simp only[nxB,evO,Nat.reduceLT,Nat.reduceSub,Nat.reduceBEq,Nat.reduceEqDiff,Nat.reduceAdd,Nat.reduceLeDiff,reduceCtorEq,Nat.reduceMul]
  rfl
 ·rintro i e σ hi ⟨e0,e1,e11,e12,hIi⟩
  obtain⟨s1,hc⟩:=hI _ σ hIi
  have hlt:((i:Nat):Int)<(n.ns.length:Int):=by omega
  have c2:=pQ n ⟨i,0⟩
  have hsuc:=eG n i
  have hkn:¬kn=(4,σ.clk):=by rintro rfl;simp at hc
  rw[hsuc]
  simp only[Ip,xN,zx,XM]at s1 c2
  cases hh:n.has ⟨i,0⟩with
  |false=>
   have hp:n.pr i=none:=by unfold Nt.pr;rw[hh];simp
   rw[hh]at c2
   simp only[SY,if_false,zP]at c2
   simp only[F131b0,e0,e1,e11,e12,s1,hlt,c2,hp,Mg,Int.reduceEq,nxB,evO,simprocAttr]
   exact⟨by rw[zz i (by omega)],hadd _ σ _ _ hIi rfl⟩
  |true=>
   rw[hh]at c2
   simp only[if_true]at c2
   obtain⟨q,hq⟩:∃q,n.lk ⟨i,0⟩=q:=⟨_,rfl⟩
   rw[hq]at c2
   by_cases h1:q.s=0
   case neg=>
    have hp:n.pr i=none:=by unfold Nt.pr;rw[hq,if_neg (fun h=>h1 h.2.1)]
    simp only[F131b0,e0,e1,e11,e12,s1,hlt,c2,h1,hp,Mg,Int.reduceEq,nxB,evO,simprocAttr]
    exact⟨by rw[zz i (by omega)],hadd _ σ _ _ hIi rfl⟩
   by_cases h2:q.n≤(i:Int)
   ·have hp:n.pr i=none:=by unfold Nt.pr;rw[hq,if_neg (fun h=>by have:=h.2.2;omega)]
    rw[h1]at c2
    simp only[F131b0,e0,e1,e11,e12,s1,hlt,c2,h1,h2,hp,Mg,Int.reduceEq,nxB,evO,simprocAttr]
    exact⟨by rw[zz i (by omega)],hadd _ σ _ _ hIi rfl⟩
   ·have hp:n.pr i=some ⟨i,q.n⟩:=by unfold Nt.pr;rw[hq,if_pos ⟨hh,h1,by omega⟩]
    have hget:n.prs[(jY n i).length]? =some ⟨i,q.n⟩:=by
     have:∀k,i+1≤k→(jY n k)[(jY n i).length]? =some ⟨i,q.n⟩:=by
      intro k hk
      induction hk with
      |refl=>rw[hsuc,hp];simp
      |step hk ih=>
       rw[eG,GV]
       ·exact ih
       ·exact(QU.1 ih).1
     exact this n.ns.length (by omega)
    obtain⟨σ',hcall,hI'⟩:=hy hG _ _ _ (hadd _ σ σ.clk (.var [.p (.i .i64 q.n),.p (.i .i64 q.s)]) hIi rfl) hget
    rw[h1]at c2 hcall
    simp only[F131b0,e0,e1,e11,e12,s1,hlt,c2,h1,h2,hp,hcall,Option.toList_some,GM,Int.reduceEq,nxB,evO,simprocAttr]
    exact⟨by rw[zz i (by omega)],hI'⟩
 ·rintro e σ ⟨e0,e1,e11,e12,hIi⟩
  have hlt:¬((n.ns.length:Nat):Int)<(n.ns.length:Int):=by omega
  simp only[F131b0,e0,e1,e11,e12,hlt,nxB,evO,simprocAttr]
  exact hIi
theorem LI(n:Nt)(k:Nat):(jY n k).length≤k:=by
 unfold jY
 have:=List.length_filterMap_le n.pr (List.range k)
 simpa using this
def rdy(n:Nt)(p:Pt):Bool:=decide ((ofR (n.nd p.n) (n.nd p.s)).2=0)
theorem PC{n:Nt}{i:Nat}{p:Pt}(h:n.pr i=some p):p.n=i∧n.has ⟨i,0⟩=true∧n.lk ⟨i,0⟩=⟨p.s,0⟩∧(i:Int)<p.s:=by
 unfold Nt.pr at h
 split at h
 ·rename_i h1
  rw[←BQ h]
  refine⟨rfl,h1.1,?_,h1.2.2⟩
  obtain⟨q,hq⟩:∃q,n.lk ⟨i,0⟩=q:=⟨_,rfl⟩
  rw[hq]at h1⊢
  obtain⟨a,b⟩:=q
  have h2:b=0:=h1.2.1
  rw[h2]
 ·cases h
theorem US{n:Nt}{p:Pt}:p∈n.prs↔∃i,i<n.ns.length∧n.pr i=some p:=by
 unfold Nt.prs jY
 rw[List.mem_filterMap]
 constructor
 ·rintro⟨i,h1,h2⟩;exact⟨i,MD.1 h1,h2⟩
 ·rintro⟨i,h1,h2⟩;exact⟨i,MD.2 h1,h2⟩
theorem Uj{n:Nt}(hG:n.Good){p:Pt}(h:p∈n.prs):0≤p.n∧p.n<n.ns.length∧0≤p.s∧p.s<n.ns.length∧p.n<p.s:=by
 obtain⟨i,h1,h2⟩:=US.1 h
 obtain⟨e1,e2,e3,e4⟩:=PC h2
 have h3:=sJ.1 (aF hG e2).2.1
 rw[e3]at h3
 simp only at h3
 omega
theorem Ou{n:Nt}(hn:n.Ok){p:Pt}(hp:0≤p.n∧p.n<n.ns.length∧0≤p.s∧p.s<n.ns.length):eP S 94 [.g (Ip n),.g (xN p)]=some (.a (.b (rdy n p))):=by
 refine Cf (xO (by decide)) (fc:=F94) rfl rfl ?_
 have g1:=vH (l:=n.ns) hp.1 hp.2.1
 have g2:=vH (l:=n.ns) hp.2.2.1 hp.2.2.2
 have c1:=DH (hn.nd _ (oP hp.1 hp.2.1)) (hn.nd _ (oP hp.2.2.1 hp.2.2.2))
 obtain⟨a,ha⟩:∃a,n.nd p.n=a:=⟨_,rfl⟩
 obtain⟨b,hb⟩:∃b,n.nd p.s=b:=⟨_,rfl⟩
 have ha2:n.ns.getD p.n.toNat zN=a:=ha
 have hb2:n.ns.getD p.s.toNat zN=b:=hb
 unfold rdy
 rw[ha,hb]at c1⊢
 rw[ha2]at g1
 rw[hb2]at g2
 obtain⟨⟨r,e⟩,hr⟩:∃r,ofR a b=r:=⟨_,rfl⟩
 rw[hr]at c1⊢
 simp only[si,II,Ug]at c1
 simp only[F94,g1,g2,hp.1,hp.2.1,hp.2.2.1,hp.2.2.2,c1,nxB,evO,simprocAttr]
noncomputable def Nt.rds(n:Nt):List Pt:=if bool n.Good then n.prs.filter (rdy n)else[]
theorem UG{n:Nt}(hn:n.Ok):eP S 52 [.g (Ip n)]=some (.a (.l (n.rds.map xN))):=by
 refine Cf (xO (by decide)) (fc:=F52) rfl rfl ?_
 have hns:=hn.ns
 have hpl2:n.prs.length≤n.ns.length:=LI n n.ns.length
 have hm:=Sy n ((St.empty.add 1 (.var ((Ip n).map .p))).add 3 (.var [.nil]))
 simp only[Ip,zx,XM,Bv,Sx,Fy,Nat.reduceAdd]at hm
 simp only[F52,hm,nxB,evO,simprocAttr]
 obtain⟨E,hE⟩:∃E:Env,E=((((((Env.init [TV.g [.p (.l (n.ns.map Ug)),.p (.i .i64 n.cap)]]).put 1 (.a (.ptr (1,0) 0 0))).put 2 (.a .nil)).put 3 (.a (.ptr (3,1) 0 0))).put 5 (.g [.p (.l (n.ns.map Ug)),.p (.i .i64 n.cap)])).put 6 (.a (.fn 131 [(1,2)]))):=⟨_,rfl⟩
 have E1:E 1= .a (.ptr (1,0) 0 0):=by rw[hE];rfl
 have E3:E 3= .a (.ptr (3,1) 0 0):=by rw[hE];rfl
 refine OH (g:=131) (caps:=[(1,2)]) (by simp only[nxB,evO,simprocAttr]) ?_
 rw[←hE]
 obtain⟨r0,hr0⟩:∃r0:LRec,r0={env:=E,params:=[7],assign:=(.reg [ia 4 (.new [(.p (.i .i64 0)),(.p (.i .i64 0))]),io (.st 2 (.t 4) (.t 7))]),body:=(.block 1 (.seq (.reg [ia 8 (.ld 2 true (.t 1)),ia 9 (.ld 2 true (.t 4)),ia 10 (.call (.f 94) [(.t 8),(.t 9)])]) (.cond (.t 10) (.reg [ia 11 (.ld 1 false (.t 3)),ia 12 (.ld 2 true (.t 4)),ia 13 (.bsl 2 74 [(.p (.i .i64 0)),(.p (.i .i64 0))] 1 [(0,(.t 12))]),ia 14 (.app 2 74 16 (.t 11) (.t 13)),io (.st 1 (.t 3) (.t 14))]) .skip))),st:=.ready,pend:=none}:=⟨_,rfl⟩
 have hls0:(((St.empty.add 1 (.var [.p (.l (n.ns.map Ug)),.p (.i .i64 n.cap)])).add 3 (.var [.nil])).add 1 (.var [.p (.l (n.ns.map Ug)),.p (.i .i64 n.cap)])).ls=[]:=rfl
 rw[hls0]
 simp only[sI,Es,zx,XM]
 rw[←hr0]
 have hcall:=bY hn 0 (1,2) (fun k σ'=>(σ'.bs (1,2)=some (.var ((Ip n).map .p))∧(1,2).2<σ'.clk)∧σ'.bs (1,0)=some (.var ((Ip n).map .p))∧σ'.ls=[r0]∧∃x,σ'.bs (3,1)=some (.var [x])∧(((n.prs.take k).filter (rdy n))=[]∧x= .nil∨∃q:Nat,x= .own (14,q) 0 ((n.prs.take k).filter (rdy n)).length∧σ'.bs (14,q)=some (.row 2 74 (((n.prs.take k).filter (rdy n)).map xN))∧q<σ'.clk))
  (fun k σ' h=>h.1) (by
   rintro k σ' c b ⟨⟨h1,h2⟩,h3,h4,x,h5,h6⟩ rfl
   refine⟨⟨by simp only[xL,Mq,ZP,Nat.reduceEqDiff,false_and,if_false];exact h1,by simp only[Rt,Bv];omega⟩,by simp only[xL,Mq,ZP,Nat.reduceEqDiff,false_and,if_false];exact h3,h4,x,by simp only[xL,Mq,ZP,Nat.reduceEqDiff,false_and,if_false];exact h5,?_⟩
   rcases h6 with h6|⟨q,e1,e2,e3⟩
   ·exact .inl h6
   ·exact .inr ⟨q,e1,by simp only[xL,Mq,ZP,Nat.reduceEqDiff,false_and,if_false];exact e2,by simp only[Rt,Bv];omega⟩)
 specialize hcall (by
   rintro hG k σ' p ⟨⟨h1,h2⟩,h3,h4,x,h5,h6⟩ hp
   have hpm:=Uj hG (yu hp)
   have c1:=Ou hn (p:=p) ⟨hpm.1,hpm.2.1,hpm.2.2.1,hpm.2.2.2.1⟩
   obtain⟨v,σ2,g1,g2⟩:=SF (S:=S) (l:=0) (args:=[.g [.p (.i .i64 p.n),.p (.i .i64 p.s)]]) (σ:=σ') (r:=r0) (by rw[h4];rfl) (by rw[hr0];rfl) (K:=fun v σ2=>v= .a (.p (.b true))∧(σ2.bs (1,2)=some (.var ((Ip n).map .p))∧2<σ2.clk)∧σ2.bs (1,0)=some (.var ((Ip n).map .p))∧σ2.ls=[r0]∧∃x,σ2.bs (3,1)=some (.var [x])∧(((n.prs.take (k+1)).filter (rdy n))=[]∧x= .nil∨∃q:Nat,x= .own (14,q) 0 ((n.prs.take (k+1)).filter (rdy n)).length∧σ2.bs (14,q)=some (.row 2 74 (((n.prs.take (k+1)).filter (rdy n)).map xN))∧q<σ2.clk)) (by
    have hset:[r0].set 0 {r0 with st:=.busy}=[{r0 with st:=.busy}]:=rfl
    have hback:[{r0 with st:=LSt.busy}].set 0 {({r0 with st:=LSt.busy}:LRec)with st:=.ready,pend:=none}=[r0]:=by rw[hr0];rfl
    have ra:r0.assign=(.reg [ia 4 (.new [(.p (.i .i64 0)),(.p (.i .i64 0))]),io (.st 2 (.t 4) (.t 7))]):=by rw[hr0]
    have rb:r0.body=(.block 1 (.seq (.reg [ia 8 (.ld 2 true (.t 1)),ia 9 (.ld 2 true (.t 4)),ia 10 (.call (.f 94) [(.t 8),(.t 9)])]) (.cond (.t 10) (.reg [ia 11 (.ld 1 false (.t 3)),ia 12 (.ld 2 true (.t 4)),ia 13 (.bsl 2 74 [(.p (.i .i64 0)),(.p (.i .i64 0))] 1 [(0,(.t 12))]),ia 14 (.app 2 74 16 (.t 11) (.t 13)),io (.st 1 (.t 3) (.t 14))]) .skip))):=by rw[hr0]
    have re:r0.env=E:=by rw[hr0]
    have rp:r0.params=[7]:=by rw[hr0]
    have rs:r0.st= .ready:=by rw[hr0]
    obtain⟨L,hL⟩:∃L,(n.prs.take k).filter (rdy n)=L:=⟨_,rfl⟩
    have hLl:L.length≤n.ns.length:=by
     have h8:=zF (rdy n) (n.prs.take k)
     rw[hL]at h8
     have h9:=List.length_take_le k n.prs
     rw[Q4]at h8;omega
    have hL2:(n.prs.take (k+1)).filter (rdy n)=L++(if rdy n p then[p]else[]):=by
     rw[Oq,hp,wj,hL]
     cases h:rdy n p<;>simp[h]
    rw[hL]at h6
    rw[hL2]
    have hbb:(L.length+1)*16≤140737488355328:=by omega
    have htk2:List.take L.length (L.map xN)=L.map xN:=Ea (by simp)
    simp only[Ip,xN,zx,XM]at c1
    have h1':=h1
    have h3':=h3
    simp only[Ip,zx,XM]at h1' h3'
    have nc:¬0=σ'.clk∧¬0=σ'.clk+1∧¬1=σ'.clk:=by omega
    simp only[ra,rb,re,rp,J9,nxB,evO,simprocAttr]
    refine⟨r0,by rw[h4];rfl,rs,?_⟩
    cases hrd:rdy n p with
    |false=>
     rw[hrd]at c1
     simp only[Ht,rf,GA,E1,E3,h1',h3',h4,h5,c1,hset,aT,Qg,SY,nxB,evO,simprocAttr]
     refine⟨_,rfl,by omega,hback,?_⟩
     rcases h6 with⟨rfl,rfl⟩|⟨q,rfl,e2,e3⟩
     ·exact⟨_,rfl,.inl ⟨rfl,rfl⟩⟩
     ·exact⟨_,rfl,.inr ⟨q,rfl,e2,by omega⟩⟩
    |true=>
     rw[hrd]at c1
     rcases h6 with⟨rfl,rfl⟩|⟨q,rfl,e2,e3⟩
     ·simp only[Ht,rf,GA,E1,E3,h1',h3',h4,h5,c1,hset,aT,Fy,SZ,Nat.reduceLeDiff,PJ,nxB,evO,simprocAttr]
      refine⟨_,rfl,by omega,hback,_,rfl,.inr ⟨σ'.clk+1+1,rfl,?_,by omega⟩⟩
      simp[xN]
     ·have nq:¬q=σ'.clk∧¬q=σ'.clk+1∧¬q=σ'.clk+1+1:=by omega
      simp only[Ht,rf,GA,E1,E3,h1',h3',h4,h5,e2,c1,nq,hset,htk2,hbb,mB,nh,aT,Fy,SZ,Nat.reduceLeDiff,PJ,nxB,evO,simprocAttr]
      refine⟨_,rfl,by omega,hback,_,rfl,.inr ⟨σ'.clk+1+1,by simp,?_,by omega⟩⟩
      simp[xN])
   obtain⟨rfl,g2,g3,g4,g5⟩:=g2
   exact⟨σ2,g1,g2,g3,g4,g5⟩)
 obtain⟨σ1,hc,hI⟩:=hcall {(((St.empty.add 1 (.var [.p (.l (n.ns.map Ug)),.p (.i .i64 n.cap)])).add 3 (.var [.nil])).add 1 (.var [.p (.l (n.ns.map Ug)),.p (.i .i64 n.cap)]))with ls:=[r0]} ⟨⟨rfl,by show 2<3;omega⟩,rfl,rfl,.nil,rfl,.inl ⟨by simp,rfl⟩⟩
 obtain⟨_,_,h4,x,h5,h6⟩:=hI
 refine⟨_,σ1,hc,r0,by rw[h4];rfl,by rw[hr0];simp,?_⟩
 have hp0:r0.pend=none:=by rw[hr0]
 rw[hp0]
 have hfin:∃L,n.rds=L∧(L=[]∧x= .nil∨∃q:Nat,x= .own (14,q) 0 L.length∧σ1.bs (14,q)=some (.row 2 74 (L.map xN))):=by
  unfold Nt.rds
  by_cases hG:n.Good
  ·rw[Pb hG]at h6⊢
   simp only[if_true,QL]at h6⊢
   refine⟨_,rfl,?_⟩
   rcases h6 with h6|⟨q,e1,e2,e3⟩
   ·exact .inl h6
   ·exact .inr ⟨q,e1,e2⟩
  ·rw[qy hG]at h6⊢
   simp only[SY,if_false,om,List.filter_nil]at h6⊢
   refine⟨_,rfl,?_⟩
   rcases h6 with h6|⟨q,e1,e2,e3⟩
   ·exact .inl ⟨rfl,h6.2⟩
   ·exact .inr ⟨q,e1,e2⟩
 obtain⟨L,hL,hx⟩:=hfin
 rw[hL]
 rcases hx with⟨rfl,rfl⟩|⟨q,rfl,e2⟩
 ·simp only[EO,Ht,rf,GA,E3,h5,nxB,evO,simprocAttr]
 ·have htk2:List.take L.length (L.map xN)=L.map xN:=Ea (by simp)
  simp only[EO,Ht,rf,GA,E3,h5,e2,htk2,mB,Fy,nh,nxB,evO,simprocAttr]
def oJ(i:Int)(m:Nat):Nat:=((i.tmod m+m).tmod m).toNat
theorem Bi{n:Nt}(hn:n.Ok){i:Int}(hi:wf i):eP S 29 [.g (Ip n),.a (.i .i64 i)]=
  some (.t [(true,xN (if n.rds.length=0 then zP else n.rds.getD (oJ i n.rds.length) zP)),(false,[.b (decide (n.rds.length≠0))])]):=by
 refine Cf (xO (by decide)) (fc:=F29) rfl rfl ?_
 have hns:=hn.ns
 have c1:=UG hn
 obtain⟨L,hL⟩:∃L,n.rds=L:=⟨_,rfl⟩
 have hLl:L.length≤n.ns.length:=by
  rw[←hL];unfold Nt.rds
  split
  ·have h8:=zF (rdy n) n.prs
   have h9:n.prs.length≤n.ns.length:=LI n n.ns.length
   omega
  ·simp
 rw[hL]at c1⊢
 simp only[Ip]at c1
 by_cases h0:L.length=0
 ·have:L=[]:=eL h0
  subst this
  simp only[XM]at c1
  simp only[F29,c1,zP,Mz,Int.reduceEq,not_true_eq_false,nxB,evO,simprocAttr]
 ·have hm0:¬(L.length:Int)=0:=by omega
  obtain⟨M,hM⟩:∃M:Int,(L.length:Int)=M:=⟨_,rfl⟩
  have hMp:0<M:=by omega
  have b1:=ft i hMp
  have b0:=Int.lt_tmod_of_pos i hMp
  have hw:IntKind.i64.wrap (i.tmod M+M)=i.tmod M+M:=qI _ (by omega)
  have b2:=ft (i.tmod M+M) hMp
  have b3:0≤(i.tmod M+M).tmod M:=Int.tmod_nonneg _ (by omega)
  have g:=FA (l:=L) (i:=(i.tmod M+M).tmod M) b3 (by omega)
  have hpk:oJ i L.length=((i.tmod M+M).tmod M).toNat:=by unfold oJ;rw[hM]
  rw[hM]at hm0
  have hM2:¬M=0:=by omega
  simp only[F29,c1,hm0,hM,hM2,hw,b2,b3,g,h0,hpk,ne_eq,not_false_eq_true,nxB,evO,simprocAttr]
end Go.Proofs.YtmlhgalboabjcaaGreat
namespace Go.Proofs.YtmlhgalboabjcaaGreat.Tm
open Go.Fx
def oh(k:Int):Prop:=k=2∨k=8∨k=10∨k=13
def Ye(k:Int):Prop:=k=3∨k=9∨k=11
structure Inv(n:Nt)(L:List Pt):Prop where
 room:Room n
 semi:Semi n fun p=>p∈L
 nd:L.Nodup
 z:∀p∈L,n.lk p=zP
 pk:∀(i:Nat) (p:Pt),n.pr i=some p→i≠0→Ye (n.nd p.n).k∧oh (n.nd p.s).k∧(n.nd p.n).lv=(n.nd p.s).lv
structure Gr(n:Nt)(L:List Pt)(m:Nt)(M:List Pt):Prop where
 len:n.ns.length≤m.ns.length
 cap:m.cap=n.cap
 nd:∀i:Int,0≤i→i<n.ns.length→(m.nd i).k=(n.nd i).k∧(m.nd i).lv=(n.nd i).lv∧(m.nd i).to.length=(n.nd i).to.length
 cl:∀p,n.has p=true→p∉L→p∉M∧m.lk p=n.lk p
 op:∀p∈M,p∈L∨(n.ns.length:Int)≤p.n
theorem Gr.refl(n:Nt)(L:List Pt):Gr n L n L:=⟨nh _,rfl,fun _ _ _=>⟨rfl,rfl,rfl⟩,fun _ _ h=>⟨h,rfl⟩,fun _ h=>.inl h⟩
theorem Gr.has{n m:Nt}{L M:List Pt}(h:Gr n L m M){p:Pt}(hp:n.has p=true):m.has p=true:=by
 rw[sJ]at hp⊢
 have:=h.nd p.n hp.1 hp.2.1
 have:=h.len
 omega
theorem Gr.trans{a b c:Nt}{L M N:List Pt}(h:Gr a L b M)(g:Gr b M c N):Gr a L c N:=by
 have hl:=h.len
 refine⟨fm h.len g.len,g.cap.trans h.cap,fun i h0 h1=>?_,fun p hp hL=>?_,fun p hp=>?_⟩
 ·have a1:=h.nd i h0 h1
  have a2:=g.nd i h0 (by omega)
  exact⟨a2.1.trans a1.1,a2.2.1.trans a1.2.1,a2.2.2.trans a1.2.2⟩
 ·obtain⟨a1,a2⟩:=h.cl p hp hL
  obtain⟨b1,b2⟩:=g.cl p (h.has hp) a1
  exact⟨b1,b2.trans a2⟩
 ·rcases g.op p hp with h1|h1
  ·exact h.op p h1
  ·right;omega
theorem Gr.mem{n m:Nt}{L L' M M':List Pt}(h:Gr n L m M)(h1:∀p,p∈L↔p∈L')(h2:∀p,p∈M↔p∈M'):Gr n L' m M':=
 ⟨h.len,h.cap,h.nd,fun p hp hL=>by have:=h.cl p hp fun k=>hL ((h1 p).1 k);exact⟨fun k=>this.1 ((h2 p).2 k),this.2⟩,fun p hp=>(h.op p ((h2 p).2 hp)).imp (h1 p).1 id⟩
theorem Inv.perm{n:Nt}{L M:List Pt}(h:Inv n L)(e:L.Perm M):Inv n M:=
 ⟨h.room,h.semi.iff fun p=>e.mem_iff,e.nodup_iff.1 h.nd,fun p hp=>h.z p (e.mem_iff.2 hp),h.pk⟩
theorem Gr.perm{n m:Nt}{L L' M M':List Pt}(h:Gr n L m M)(h1:L.Perm L')(h2:M.Perm M'):Gr n L' m M':=h.mem (fun _=>h1.mem_iff) (fun _=>h2.mem_iff)
def Va(n:Nt)(i:Nat):Bool:=decide (i≠0)&&(n.pr i).isSome
def Ct(n:Nt):Nat:=(List.range n.ns.length).countP (Va n)
theorem G9{n m:Nt}{i:Nat}(h1:m.has ⟨i,0⟩=n.has ⟨i,0⟩)(h2:n.has ⟨i,0⟩=true→m.lk ⟨i,0⟩=n.lk ⟨i,0⟩):m.pr i=n.pr i:=by
 unfold Nt.pr
 rw[h1]
 by_cases h:n.has ⟨i,0⟩=true
 ·rw[h2 h]
 ·rw[if_neg fun k=>h k.1,if_neg fun k=>h k.1]
theorem bS{n:Nt}{i:Nat}(h:n.has ⟨i,0⟩=true→(n.lk ⟨i,0⟩).s=0→¬(i:Int)<(n.lk ⟨i,0⟩).n):n.pr i=none:=by
 unfold Nt.pr
 exact if_neg fun k=>h k.1 k.2.1 k.2.2
theorem Ta{n:Nt}{i:Nat}(h:n.lk ⟨i,0⟩=zP):n.pr i=none:=bS fun _ _=>by rw[h];show¬(i:Int)<0;omega
theorem pJ{n:Nt}{L:List Pt}{p q:Pt}(h:Inv n (p::q::L)):p≠q∧n.has p=true∧n.has q=true∧lnk n p q=n.ln p q:=by
 have h1:=h.semi.xs p (by simp)
 have h2:=h.semi.xs q (by simp)
 have hne:p≠q:=by have:=h.nd;simp at this;exact this.1.1
 refine⟨hne,h1,h2,?_⟩
 unfold lnk
 rw[qQ h1 h2 hne]
theorem gW{n:Nt}(hn:Room n){p:Pt}(h:n.has p=true):wf p.n∧wf p.s:=by
 rw[sJ]at h
 have h1:=hn.len;have h2:=hn.cap
 have h3:=(hn.ok.nd _ (oP h.1 h.2.1)).to
 exact⟨⟨by omega,by omega⟩,⟨by omega,by omega⟩⟩
theorem Inv.lnk0{n:Nt}{L:List Pt}{p q:Pt}(h:Inv n (p::q::L)):
  Room (lnk n p q)∧Semi (lnk n p q) (fun r=>r∈L)∧L.Nodup∧(∀r∈L,(lnk n p q).lk r=zP)∧Gr n (p::q::L) (lnk n p q) L∧Shp n (lnk n p q)∧(lnk n p q).lk p=q∧(lnk n p q).lk q=p∧(∀r,n.has r=true→r≠p→r≠q→(lnk n p q).lk r=n.lk r):=by
 obtain⟨hne,hp,hq,he⟩:=pJ h
 have hnd:=h.nd
 simp only[TL,qY,not_or]at hnd
 obtain⟨⟨_,n1⟩,n2,n3⟩:=hnd
 have s1:=(h.semi.link (p:=p) (q:=q) (by simp) (by simp) hne).2
 have shp:=zS hp hq
 have lkr:∀r,n.has r=true→r≠p→r≠q→(n.ln p q).lk r=n.lk r:=fun r hr e1 e2=>by rw[UP hp hq hr,if_neg e2,if_neg e1]
 rw[he]
 refine⟨he▸jr h.room (gW h.room hp) (gW h.room hq),s1.iff fun r=>?_,n3,fun r hr=>?_,⟨by rw[shp.1];exact nh _,shp.2.1.symm,fun i h0 h1=>?_,fun r hr hL=>?_,fun r hr=>.inl (by simp[hr])⟩,shp,?_,?_,lkr⟩
 ·constructor
  ·rintro⟨k,e1,e2⟩;simp only[qY]at k;exact(k.resolve_left e1).resolve_left e2
  ·intro k
   refine⟨by simp[k],?_,?_⟩
   ·rintro rfl;exact n1 k
   ·rintro rfl;exact n2 k
 ·rw[lkr r (h.semi.xs r (by simp[hr])) (by rintro rfl;exact n1 hr) (by rintro rfl;exact n2 hr)]
  exact h.z r (by simp[hr])
 ·have:=shp.2.2 i h0
  exact⟨this.1,this.2.1,this.2.2.2.2.2⟩
 ·simp only[qY,not_or]at hL
  exact⟨hL.2.2,lkr r hr hL.1 hL.2.1⟩
 ·rw[UP hp hq hp,if_neg hne,if_pos rfl]
 ·rw[UP hp hq hq,if_pos rfl]
theorem Inv.link{n:Nt}{L:List Pt}{p q:Pt}(h:Inv n (p::q::L))(hs:p.s≠0∨q.s≠0):
  Inv (lnk n p q) L∧Gr n (p::q::L) (lnk n p q) L∧(lnk n p q).lk p=q∧(lnk n p q).lk q=p∧Ct (lnk n p q)=Ct n:=by
 obtain⟨a1,a2,a3,a4,a5,a6,a7,a8,a9⟩:=h.lnk0
 have hpr:∀i,(lnk n p q).pr i=n.pr i:=by
  intro i
  by_cases e1:(⟨i,0⟩:Pt)=p
  ·subst e1
   rw[Ta (h.z _ (by simp))]
   refine bS fun _ k=>?_
   rw[a7]at k
   rcases hs with hs|hs
   ·exact absurd rfl hs
   ·exact absurd k hs
  by_cases e2:(⟨i,0⟩:Pt)=q
  ·subst e2
   rw[Ta (h.z _ (by simp))]
   refine bS fun _ k=>?_
   rw[a8]at k
   rcases hs with hs|hs
   ·exact absurd k hs
   ·exact absurd rfl hs
  ·exact G9 (a6.has _) fun k=>a9 _ k e1 e2
 refine⟨⟨a1,a2,a3,a4,fun i r hi h0=>?_⟩,a5,a7,a8,?_⟩
 ·rw[hpr]at hi
  have:=h.pk i r hi h0
  have hr:=PC hi
  rw[(a6.2.2 r.n (by omega)).1,(a6.2.2 r.s (by omega)).1,(a6.2.2 r.n (by omega)).2.1,(a6.2.2 r.s (by omega)).2.1]
  exact this
 ·unfold Ct
  rw[←a6.1]
  exact List.countP_congr fun i _=>by unfold Va;rw[hpr]
def xB(a:Nat)(k:Nat):List Pt:=(List.range k).map fun s=>⟨(a:Nat),(s:Nat)⟩
theorem T0{a k:Nat}{p:Pt}:p∈xB a k↔p.n=a∧0≤p.s∧p.s<k:=by
 unfold xB
 rw[Om]
 constructor
 ·rintro⟨s,hs,rfl⟩
  rw[MD]at hs
  exact⟨rfl,by show(0:Int)≤(s:Int);omega,by show(s:Int)<(k:Int);omega⟩
 ·rintro⟨h1,h2,h3⟩
  refine⟨p.s.toNat,by rw[MD];omega,?_⟩
  obtain⟨a',s'⟩:=p
  simp only at h1 h2 h3
  subst h1
  show(⟨(a:Nat),((s'.toNat:Nat):Int)⟩:Pt)=_
  congr 1
  omega
theorem iH(a k:Nat):(xB a k).Nodup:=by
 unfold xB
 refine SB _ (R:=fun a b=>a≠b) (fun x y h e=>?_) List.nodup_range
 injection e with _ e
 exact h (by omega)
theorem cQ{n:Nt}{x:Nd}{i:Int}(h0:0≤i)(h1:i<n.ns.length):(Hc n x).nd i=n.nd i:=by
 unfold Nt.nd Hc
 rw[Kh,Kh,GV (by omega)]
theorem Fp(n:Nt)(x:Nd):(Hc n x).nd (n.ns.length:Nat)=x.fresh:=by
 unfold Nt.nd Hc
 rw[Kh,KA,bO (nh _),IZ];rfl
theorem Inv.add{n:Nt}{L:List Pt}(h:Inv n L){x:Nd}(hx:x.Ok)(hm:x.may)(hk:¬x.k<2)(hr:((n.ns.length+1:Nat):Int)≤n.cap):
  Inv (Hc n x) (xB n.ns.length x.ports.toNat++L)∧Gr n L (Hc n x) (xB n.ns.length x.ports.toNat++L)∧Ct (Hc n x)=Ct n:=by
 have hf:=F1 h.room.full
 have hu:n.used<n.cap:=by unfold Nt.used;rw[eI h.room.full];omega
 have hmk:n.make x=Hc n x:=by unfold Nt.make Hc;rw[hf]
 have hat:n.at=n.ns.length:=by unfold Nt.at;rw[hf]
 have hM:=uZ h.semi x
 rw[hmk,hat]at hM
 obtain⟨_,hS⟩:=h.semi.make hx hm (by omega) (by omega) hu
 rw[hmk,hat]at hS
 have hp:=lq hx
 have hpc:(x.ports.toNat:Int)=x.ports:=by omega
 have hl:=ql n x
 have hasold:∀p,n.has p=true→(p.n:Int)<n.ns.length:=fun p hp=>(sJ.1 hp).2.1
 have hlk:∀p,n.has p=true→(Hc n x).lk p=n.lk p:=fun p hp=>(hM.lk h.semi hp).2
 have hnew:∀p:Pt,p.n=(n.ns.length:Nat)→0≤p.s→(Hc n x).lk p=zP:=fun p hp hs=>by
  unfold Nt.lk
  rw[hp,Fp]
  unfold Nd.tt Nd.fresh
  rw[Kh,Be]
  split<;>rfl
 have hhas:=fun p=>hM.has hx h.semi p
 have hpr:∀i,i<n.ns.length→(Hc n x).pr i=n.pr i:=fun i hi=>by
  refine G9 ?_ fun k=>hlk _ k
  rw[Gy,hhas]
  constructor
  ·rintro(k|k)
   ·exact k
   ·exfalso;have:=k.1;simp only at this;omega
  ·exact .inl
 have hprn:(Hc n x).pr n.ns.length=none:=Ta (hnew _ rfl (by show(0:Int)≤0;omega))
 refine⟨⟨Za h.room hx (by omega) hr,hS.iff fun r=>?_,?_,fun p hp=>?_,fun i r hi h0=>?_⟩,⟨by omega,rfl,fun i h0 h1=>by rw[cQ h0 h1];exact⟨rfl,rfl,rfl⟩,fun p hp hL=>⟨fun k=>?_,hlk p hp⟩,fun p hp=>?_⟩,?_⟩
 ·rw[Sw,T0,hpc]
  constructor
  ·rintro(k|k)
   ·exact .inr k
   ·exact .inl k
  ·rintro(k|k)
   ·exact .inr k
   ·exact .inl k
 ·rw[kE]
  refine⟨iH _ _,h.nd,fun p hp q hq e=>?_⟩
  subst e
  have:=(T0.1 hp).1
  have:=hasold _ (h.semi.xs _ hq)
  omega
 ·rcases Sw.1 hp with k|k
  ·rw[T0]at k;exact hnew p k.1 k.2.1
  ·rw[hlk p (h.semi.xs p k)];exact h.z p k
 ·have hi':i<n.ns.length:=by
   have:=(PC hi).2.1
   rw[sJ]at this
   have h2:=this.2.1
   rw[hl]at h2
   simp only at h2
   rcases N2 i n.ns.length with k|k
   ·exact k
   ·have:i=n.ns.length:=by omega
    rw[this,hprn]at hi;cases hi
  rw[hpr i hi']at hi
  have k1:=h.pk i r hi h0
  have k2:=PC hi
  have k3:=h.semi.ln ⟨i,0⟩ k2.2.1 (fun k=>by have:=h.z _ k;rw[k2.2.2.1]at this;injection this with e _;omega)
  rw[k2.2.2.1]at k3
  have k4:=(sJ.1 k3.2.1).2.1
  simp only at k4
  rw[cQ (by omega) (by omega),cQ (by omega) (by omega)]
  exact k1
 ·rcases Sw.1 k with k|k
  ·have:=(T0.1 k).1
   have:=hasold _ hp
   omega
  ·exact hL k
 ·rcases Sw.1 hp with k|k
  ·right;rw[(T0.1 k).1];exact kS _
  ·exact .inl k
 ·unfold Ct
  rw[hl,List.range_succ,UN]
  have:List.countP (Va (Hc n x)) [n.ns.length]=0:=by
   rw[List.countP_eq_zero]
   intro a ha
   rw[bK]at ha
   subst ha
   unfold Va;rw[hprn];simp
  rw[this,Ln]
  exact List.countP_congr fun i hi=>by unfold Va;rw[hpr i (MD.1 hi)]
inductive Cn(n:Nt)(L:List Pt)(a:Int):Int→Prop
 |refl:Cn n L a a
 |step {p:Pt}:Cn n L a p.n→n.has p=true→p∉L→Cn n L a (n.lk p).n
theorem Cn.trans{n:Nt}{L:List Pt}{a b c:Int}(h:Cn n L a b)(g:Cn n L b c):Cn n L a c:=by
 induction g with
 |refl=>exact h
 |step _ h1 h2 ih=>exact .step ih h1 h2
theorem Cn.mono{n m:Nt}{L M:List Pt}(g:Gr n L m M){a b:Int}(h:Cn n L a b):Cn m M a b:=by
 induction h with
 |refl=>exact .refl
 |step _ h1 h2 ih=>
  obtain⟨k1,k2⟩:=g.cl _ h1 h2
  rw[←k2]
  exact .step ih (g.has h1) k1
def Reach(n:Nt)(L:List Pt)(a:Int)(b:Nat):Prop:=∀i:Nat,b≤i→i<n.ns.length→Cn n L a i
def pts(l:List En):List Pt:=l.map (·.2)
theorem Reach.mono{n m:Nt}{L M:List Pt}(g:Gr n L m M){a:Int}{b:Nat}(h:Reach n L a b)(hn:∀i:Nat,n.ns.length≤i→i<m.ns.length→Cn m M a i):Reach m M a b:=fun i h1 h2=>by
 by_cases e:i<n.ns.length
 ·exact(h i h1 e).mono g
 ·exact hn i (by omega) h2
theorem Inv.lt{n:Nt}{L:List Pt}(h:Inv n L){p:Pt}(hp:p∈L):∃i:Nat,p.n=(i:Int)∧i<n.ns.length:=by
 have:=sJ.1 (h.semi.xs p hp)
 exact⟨p.n.toNat,by omega,by omega⟩
theorem Cn.lnk{n m:Nt}{L M:List Pt}{a:Int}{p q:Pt}(g:Gr n L m M)(hp:n.has p=true)(hM:p∉M)(hl:m.lk p=q)(h:Cn n L a p.n):Cn m M a q.n:=by
 have:=Cn.step (h.mono g) (g.has hp) hM
 rwa [hl]at this
theorem DE(x:En):∀l:List En,TD x true l=l
 |[]=>by simp[TD]
 |z::l=>by simp[TD,DE x l]
theorem Pp(x:En):∀l:List En,(TD x false l).Perm (x::l)
 |[]=>by simp[TD]
 |y::r=>by
  unfold TD
  by_cases h:y.1>x.1
  ·simp only[h,decide_true,fF,DE,and_self,if_true]
   exact .refl _
  ·simp only[h,decide_false,Bool.or_self,and_false,if_false,Es]
   exact((Pp x r).cons y).trans (.swap _ _ _)
theorem Ue{α:Type}{l:List α}{k:Nat}{y:α}(h:l[k]? =some y):l.Perm (y::l.eraseIdx k):=by
 obtain⟨hk,rfl⟩:=QU.1 h
 have e:l=l.take k++l[k]::l.drop (k+1):=by rw[←iM hk,List.take_append_drop]
 rw[Lx]
 conv=>lhs;rw[e]
 exact rT
theorem Qb{α:Type}{l:List α}{k:Nat}(h:k<l.length)(z:α):(l.set k z).Perm (z::l.eraseIdx k):=by
 rw[Lx,lV,if_pos h]
 exact rT
theorem DG{l r:List En}(h:l.Perm r):(pts l).Perm (pts r):=h.map _
theorem kv{l:List En}{v:Int}(h:dP l v<0):v∉l.map (·.1):=by
 unfold dP at h
 split at h
 ·omega
 ·rename_i hf
  rw[iU]at hf
  intro k
  obtain⟨y,hy,rfl⟩:=Om.1 k
  simpa using hf y hy
def VS(f:Int)(l:List En):Prop:=(∀e∈l,0≤e.1∧e.1<f)∧(l.map (·.1)).Nodup
theorem BS{l:List En}(h:∀e∈l,0<e.1):TT l=l.map fun x=>(x.1-1,x.2):=by
 unfold TT
 rw[pz.2 fun x hx=>by simpa using h x hx]
theorem va{l r:List En}(h:l.Perm r):(TT l).Perm (TT r):=(h.filter _).map _
theorem da{f:Int}{l:List En}(h:VS (f+1) l):VS f (TT l):=by
 refine⟨fun e he=>?_,?_⟩
 ·unfold TT at he
  obtain⟨y,hy,rfl⟩:=Om.1 he
  rw[Bo]at hy
  have h1:=h.1 y hy.1
  have h2:y.1>0:=by simpa using hy.2
  exact⟨by show 0≤y.1-1;omega,by show y.1-1<f;omega⟩
 ·unfold TT
  rw[sT]
  have e:(List.filter (fun x:En=>decide (x.1>0)) l).map ((fun x:En=>x.1)∘fun x=>(x.1-1,x.2))=((List.filter (fun x:En=>decide (x.1>0)) l).map (·.1)).map (fun z=>z-1):=by rw[sT];rfl
  rw[e]
  have h1:((List.filter (fun x:En=>decide (x.1>0)) l).map (·.1)).Nodup:=h.2.sublist ((oT (l:=l)).map _)
  exact SB _ (fun a b hab e=>hab (by omega)) h1
def Mb(lv:Int)(y:W):W:=⟨(Io lv y.l y.n).1,y.out,(Io lv y.l y.n).2⟩
def VF(k n lv:Int)(m:Nt):W:=
 if k=1 then⟨Hc m (RV 5 lv),⟨(m.ns.length:Nat),1⟩,[(n,⟨(m.ns.length:Nat),0⟩)]⟩
 else if k=7 then⟨Hc m ⟨10,lv,n,[],[],[]⟩,⟨(m.ns.length:Nat),0⟩,[]⟩
 else⟨Hc m (RV 13 lv),⟨(m.ns.length:Nat),0⟩,[]⟩
def arT(u:T):Ar:=⟨u.s,u.n⟩
def Z2(k:Int)(s:List UInt8)(l:List T)(lv:Int):Nd:=
 if k=3 then RV 3 lv else if k=4 then⟨8,lv,0,s,[],List.replicate (l.length+1) zP⟩else if k=5 then⟨9,lv,0,[],(l.drop 1).map arT,[]⟩else⟨11,lv,0,s,[],[]⟩
def Od(k:Int)(i:Nat):Nat:=if i=0∧k≠4 then 0 else i+1
def CF(k:Int):Nat:=if k=4 then 0 else 1
def ZD(k:Int)(i:Nat):Prop:=k=4∨k=3∧i=1
instance(k:Int)(i:Nat):Decidable (ZD k i):=by unfold ZD;infer_instance
def JP(k lv:Int)(a:Nat)(i:Nat)(y:W)(l:List En):Nt×List En:=C5 lv y.l l (lnk y.n y.out ⟨(a:Nat),(Od k i:Nat)⟩)
mutual
def partG:T→Int→Nt→W
 | .mk k n s l,lv,m=>
   if k=1∨k=7∨k=9 then VF k n lv m
   else if k=2 then Hr lv (headG l lv) 1 m
   else if k=6 then Hr lv (headG l lv) n.toNat m
   else⟨(kidsG l k lv m.ns.length 0 (Hc m (Z2 k s l lv),[])).1,⟨(m.ns.length:Nat),(CF k:Nat)⟩,(kidsG l k lv m.ns.length 0 (Hc m (Z2 k s l lv),[])).2⟩
def headG:List T→Int→Nt→W
 |[],_,m=>⟨m,zP,[]⟩
 |t::_,lv,m=>partG t lv m
def kidsG:List T→Int→Int→Nat→Nat→Nt×List En→Nt×List En
 |[],_,_,_,_,x=>x
 |t::r,k,lv,a,i,x=>kidsG r k lv a (i+1) (JP k lv a i (if ZD k i then Mb lv (partG t (lv+1) x.1)else partG t lv x.1) x.2)
end
def XG(k lv:Int)(i:Nat)(t:T)(m:Nt):W:=if ZD k i then Mb lv (partG t (lv+1) m)else partG t lv m
theorem U5(t:T)(r:List T)(k lv:Int)(a i:Nat)(x:Nt×List En):kidsG (t::r) k lv a i x=kidsG r k lv a (i+1) (JP k lv a i (XG k lv i t x.1) x.2):=rfl
theorem Qw(k lv:Int)(a i:Nat)(x:Nt×List En):kidsG [] k lv a i x=x:=rfl
theorem aY(k n:Int)(s:List UInt8)(l:List T)(lv:Int)(m:Nt):partG (.mk k n s l) lv m=if k=1∨k=7∨k=9 then VF k n lv m
  else if k=2 then Hr lv (headG l lv) 1 m
  else if k=6 then Hr lv (headG l lv) n.toNat m
  else⟨(kidsG l k lv m.ns.length 0 (Hc m (Z2 k s l lv),[])).1,⟨(m.ns.length:Nat),(CF k:Nat)⟩,(kidsG l k lv m.ns.length 0 (Hc m (Z2 k s l lv),[])).2⟩:=rfl
mutual
def nv:T→Nat
 | .mk k _ _ l=>(if k=1 then 1 else 0)+nvL l
def nvL:List T→Nat
 |[]=>0
 |t::r=>nv t+nvL r
end
structure Much(f:Nt→W)(B P:Nat):Prop where
 len:∀m,m.ns.length≤(f m).n.ns.length
 cap:∀m,(f m).n.cap=m.cap
 l:∀m,(f m).l.length≤B
 sum:∀m,(f m).n.ns.length+(f m).l.length≤m.ns.length+P
theorem Much.mono{f:Nt→W}{B P:Nat}(h:Much f B P):Mono f B:=⟨h.len,h.cap,h.l⟩
theorem Much.le{f:Nt→W}{B P B' P':Nat}(h:Much f B P)(h1:B≤B')(h2:P≤P'):Much f B' P':=⟨h.len,h.cap,fun m=>fm (h.l m) h1,fun m=>fm (h.sum m) (by omega)⟩
theorem Mw{l:List En}(h:dP l 0≥0):(TT l).length+1≤l.length:=by
 obtain⟨k,_,hk,y,hy,hv⟩:=Et (l:=l) (v:=0) (by omega)
 unfold TT
 rw[mB]
 have:=(Ue hy).filter (fun x:En=>decide (x.1>0))
 rw[this.length_eq,Ey (by simp[hv])]
 have h2:=zF (fun x:En=>decide (x.1>0)) (l.eraseIdx k)
 rw[List.length_eraseIdx,if_pos hk]at h2
 omega
theorem HS{lv:Int}{f:Nt→W}{B P:Nat}(hf:Much f B P):∀k,Much (Hr lv f k) B (P+2*k)
 |0=>hf
 |k+1=>by
  have ih:=HS (lv:=lv) hf k
  have mo:=Dk (lv:=lv) hf.mono (k+1)
  refine⟨mo.len,mo.cap,mo.l,fun m=>?_⟩
  have h1:=ih.sum (Hc m (RV 2 lv))
  have h2:=BA lv m.ns.length (Hr lv f k (Hc m (RV 2 lv)))
  rw[ql]at h1
  obtain⟨y,hy⟩:∃y,Hr lv f k (Hc m (RV 2 lv))=y:=⟨_,rfl⟩
  rw[hy]at h1 h2
  show(iT lv m.ns.length (Hr lv f k (Hc m (RV 2 lv)))).ns.length+(TT (Hr lv f k (Hc m (RV 2 lv))).l).length≤_
  rw[hy]
  by_cases h:dP y.l 0≥0
  ·have h3:=Mw h
   have h4:(iT lv m.ns.length y).ns.length=y.n.ns.length:=by
    unfold iT
    rw[if_pos h,(EI _ _ _).1,(EI _ _ _).1]
   omega
  ·have h3:=h2.2.2 h
   have h4:=SM y.l
   omega
theorem NJ(lv:Int):∀(r l:List En) (n:Nt),(C5 lv r l n).1.ns.length+(C5 lv r l n).2.length=n.ns.length+l.length+r.length
 |[],l,n=>rfl
 |x::r,l,n=>by
  by_cases hf:dP l x.1<0
  ·have e:C5 lv (x::r) l n=C5 lv r (TD x false l) n:=by
    show(if dP l x.1<0 then _ else _)=_
    rw[if_pos hf]
   rw[e,NJ lv r _ n,(Pp x l).length_eq]
   simp only[Ce]
   omega
  ·have e:C5 lv (x::r) l n=C5 lv r (l.set (dP l x.1).toNat ((l.getD (dP l x.1).toNat zE).1,⟨(n.ns.length:Nat),0⟩))
    (lnk (lnk (Hc n (RV 4 lv)) ⟨(n.ns.length:Nat),1⟩ (l.getD (dP l x.1).toNat zE).2) ⟨(n.ns.length:Nat),2⟩ x.2):=by
    show(if dP l x.1<0 then _ else _)=_
    rw[if_neg hf]
   rw[e,NJ lv r _ _,rm,(EI _ _ _).1,(EI _ _ _).1,ql]
   simp only[Ce]
   omega
theorem zJ{k lv:Int}{i:Nat}{t:T}{B P:Nat}(h:∀lv,Much (partG t lv) B P):Much (XG k lv i t) B (P+B):=by
 unfold XG
 by_cases hb:ZD k i
 ·simp only[if_pos hb]
  have h1:=h (lv+1)
  have bl:=fun m=>RH lv (partG t (lv+1) m).l (partG t (lv+1) m).n
  refine⟨fun m=>?_,fun m=>?_,fun m=>?_,fun m=>?_⟩
  ·show _≤(Io lv (partG t (lv+1) m).l (partG t (lv+1) m).n).1.ns.length
   have:=h1.len m;have:=(bl m).1;omega
  ·show(Io lv (partG t (lv+1) m).l (partG t (lv+1) m).n).1.cap=_
   rw[(bl m).2.1,h1.cap]
  ·show(Io lv (partG t (lv+1) m).l (partG t (lv+1) m).n).2.length≤_
   rw[(bl m).2.2];exact h1.l m
  ·show(Io lv (partG t (lv+1) m).l (partG t (lv+1) m).n).1.ns.length+(Io lv (partG t (lv+1) m).l (partG t (lv+1) m).n).2.length≤_
   have:=bl m;have:=h1.sum m;have:=h1.l m;omega
 ·simp only[if_neg hb]
  exact(h lv).le (nh _) (by omega)
theorem uN(k lv:Int)(a i:Nat)(y:W)(l:List En):(JP k lv a i y l).1.ns.length+(JP k lv a i y l).2.length=y.n.ns.length+y.l.length+l.length∧y.n.ns.length≤(JP k lv a i y l).1.ns.length∧(JP k lv a i y l).1.cap=y.n.cap∧(JP k lv a i y l).2.length≤l.length+y.l.length:=by
 unfold JP
 have h1:=NJ lv y.l l (lnk y.n y.out ⟨(a:Nat),(Od k i:Nat)⟩)
 have h2:=jH lv y.l l (lnk y.n y.out ⟨(a:Nat),(Od k i:Nat)⟩)
 have h3:=EI y.n y.out ⟨(a:Nat),(Od k i:Nat)⟩
 rw[h3.1]at h1
 rw[h3.1,h3.2]at h2
 exact⟨by omega,h2.1,h2.2.1,h2.2.2⟩
def wR(t:T):Nat:=16*(sizeZ t).toNat+nv t*dep t
theorem xH{k lv:Int}{a:Nat}:∀(l:List T) (i:Nat) (x:Nt×List En),(∀t∈l,∀lv,∃B P,Much (partG t lv) B P)→x.1.ns.length≤(kidsG l k lv a i x).1.ns.length∧(kidsG l k lv a i x).1.cap=x.1.cap
 |[],i,x,_=>⟨nh _,rfl⟩
 |t::r,i,x,h=>by
  rw[U5]
  have h1:=xH (k:=k) (lv:=lv) (a:=a) r (i+1) (JP k lv a i (XG k lv i t x.1) x.2) fun t ht=>h t (by simp[ht])
  have h2:=uN k lv a i (XG k lv i t x.1) x.2
  have h3:x.1.ns.length≤(XG k lv i t x.1).n.ns.length∧(XG k lv i t x.1).n.cap=x.1.cap:=by
   unfold XG
   by_cases hb:ZD k i
   ·simp only[if_pos hb]
    obtain⟨B,P,h4⟩:=h t (by simp) (lv+1)
    have bl:=RH lv (partG t (lv+1) x.1).l (partG t (lv+1) x.1).n
    refine⟨?_,bl.2.1.trans (h4.cap _)⟩
    show _≤(Io lv (partG t (lv+1) x.1).l (partG t (lv+1) x.1).n).1.ns.length
    have:=h4.len x.1;have:=bl.1;omega
   ·simp only[if_neg hb]
    obtain⟨B,P,h4⟩:=h t (by simp) lv
    exact⟨h4.len _,h4.cap _⟩
  exact⟨by omega,h1.2.trans (h2.2.2.1.trans h3.2)⟩
inductive Cl:Int→Bool→T→Prop
 |leaf {f k n:Int}:(k=1∧0≤n∧n<f)∨k=7∨k=9→Cl f false (.mk k n [] [])
 |lam {f:Int} {b:T}:Cl (f+1) false b→Cl f false (.mk 2 0 [] [b])
 |alt {f n:Int} {s:List UInt8} {b:T}:0≤n→n≤8→s≠[]→Cl (f+n) false b→Cl f true (.mk 6 n s [b])
 |node {f k:Int} {s:List UInt8} {l:List T}:(k=3∧s=[]∧l.length=2)∨(k=4∧s≠[]∧l.length≤8)∨(k=8∧s≠[]∧l.length=2)∨(k=5∧s=[]∧2≤l.length∧l.length≤9∧((l.drop 1).map T.s).Nodup)→
   (∀(j:Nat) (t:T),l[j]? =some t→Cl f (decide (k=5∧0<j)) t)→Cl f false (.mk k 0 s l)
theorem Cl.nn{f:Int}{a:Bool}{t:T}(h:Cl f a t):1≤dep t∧nv t+dep t≤(sizeZ t).toNat+1∧(t.k=6→a=true)∧(a=true→t.k=6):=by
 have kids:∀(l:List T),(∀t∈l,1≤dep t∧nv t+dep t≤(sizeZ t).toNat+1)→nvL l+depL l≤(sizeLZ l).toNat+1∧nvL l≤(sizeLZ l).toNat:=by
  intro l
  induction l with
  |nil=>intro _;simp[nvL,depL]
  |cons x l ih=>
   intro hl
   have h1:=hl x (by simp)
   have h2:=ih fun t ht=>hl t (by simp[ht])
   have h3:=DF x
   have h4:=V0 l
   simp only[nvL,depL,sizeLZ]
   omega
 induction h with
 | @leaf f k n h=>
   refine⟨nh _,?_,fun e=>?_,fun e=>by cases e⟩
   ·show(if k=1 then 1 else 0)+0+1≤(sizeLZ []+1).toNat+1
    simp only[sizeLZ]
    split<;>omega
   ·simp only[T.k]at e;omega
 | @lam f b h ih=>
   have:=DF b
   refine⟨by show 1≤depL [b]+1;omega,?_,fun e=>by simp[T.k]at e,fun e=>by cases e⟩
   show(if(2:Int)=1 then 1 else 0)+nvL [b]+(depL [b]+1)≤(sizeLZ [b]+1).toNat+1
   simp only[nvL,depL,sizeLZ,Int.reduceEq,if_false]
   omega
 | @alt f n s b h1 h2 h3 h ih=>
   have:=DF b
   refine⟨by show 1≤depL [b]+1;omega,?_,fun e=>rfl,fun e=>rfl⟩
   show(if(6:Int)=1 then 1 else 0)+nvL [b]+(depL [b]+1)≤(sizeLZ [b]+1).toNat+1
   simp only[nvL,depL,sizeLZ,Int.reduceEq,if_false]
   omega
 | @node f k s l hk hl ih=>
   have hk1:k≠1∧k≠6:=by omega
   have:=kids l fun t ht=>by
    obtain⟨j,hj⟩:=IL ht
    have:=ih j t hj
    exact⟨this.1,this.2.1⟩
   have h4:=V0 l
   refine⟨by show 1≤depL l+1;omega,?_,fun e=>absurd e hk1.2,fun e=>by cases e⟩
   show(if k=1 then 1 else 0)+nvL l+(depL l+1)≤(sizeLZ l+1).toNat+1
   rw[if_neg hk1.1]
   omega
theorem Si{k lv:Int}{a:Nat}:∀(l:List T) (i:Nat) (x:Nt×List En),(∀t∈l,∀lv,Much (partG t lv) (nv t) (wR t))→(∀t∈l,1≤dep t)→∀D,(∀t∈l,dep t+1≤D)→
  (kidsG l k lv a i x).1.ns.length+(kidsG l k lv a i x).2.length≤x.1.ns.length+x.2.length+16*(sizeLZ l).toNat+nvL l*D∧(kidsG l k lv a i x).2.length≤x.2.length+nvL l∧x.1.ns.length≤(kidsG l k lv a i x).1.ns.length∧(kidsG l k lv a i x).1.cap=x.1.cap
 |[],i,x,_,_,D,_=>⟨by rw[Qw];omega,by rw[Qw];omega,by rw[Qw];omega,rfl⟩
 |t::r,i,x,h,h1,D,hD=>by
  have sm:=zJ (k:=k) (lv:=lv) (i:=i) (h t (by simp))
  have ks:=uN k lv a i (XG k lv i t x.1) x.2
  have ih:=Si (k:=k) (lv:=lv) (a:=a) r (i+1) (JP k lv a i (XG k lv i t x.1) x.2) (fun t ht=>h t (by simp[ht])) (fun t ht=>h1 t (by simp[ht])) D fun t ht=>hD t (by simp[ht])
  have s1:=sm.sum x.1
  have s2:=sm.l x.1
  have s3:=sm.len x.1
  have s4:=sm.cap x.1
  have p1:=DF t
  have p2:=V0 r
  have hDt:=hD t (by simp)
  have hm:nv t*dep t+nv t≤nv t*D:=by
   have:=DX (nv t) hDt
   rw[Nat.mul_add]at this
   omega
  rw[U5]
  obtain⟨z,hz⟩:∃z,JP k lv a i (XG k lv i t x.1) x.2=z:=⟨_,rfl⟩
  rw[hz]at ks ih⊢
  unfold wR at s1
  have e1:(sizeLZ (t::r)).toNat=(sizeZ t).toNat+(sizeLZ r).toNat:=by simp only[sizeLZ];omega
  have e2:nvL (t::r)=nv t+nvL r:=rfl
  rw[e1,e2,rX]
  exact⟨by omega,by omega,by omega,ih.2.2.2.trans (ks.2.2.1.trans s4)⟩
theorem LA(k n lv:Int)(m:Nt):(VF k n lv m).n.ns.length=m.ns.length+1∧(VF k n lv m).n.cap=m.cap∧(VF k n lv m).l.length=if k=1 then 1 else 0:=by
 unfold VF
 by_cases h1:k=1
 ·simp only[if_pos h1]
  exact⟨ql _ _,tu _ _,rfl⟩
 ·simp only[if_neg h1]
  by_cases h7:k=7
  ·simp only[if_pos h7]
   exact⟨ql _ _,tu _ _,rfl⟩
  ·simp only[if_neg h7]
   exact⟨ql _ _,tu _ _,rfl⟩
theorem KE{f:Int}{a:Bool}{t:T}(h:Cl f a t):∀lv,Much (partG t lv) (nv t) (wR t):=by
 induction h with
 | @leaf f k n h=>
   intro lv
   have e:∀m,partG (.mk k n [] []) lv m=VF k n lv m:=fun m=>by rw[aY,if_pos (by omega)]
   have em:wR (.mk k n [] [])=16+(if k=1 then 1 else 0):=by
    show 16*(sizeLZ []+1).toNat+((if k=1 then 1 else 0)+nvL [])*(depL []+1)=_
    simp only[sizeLZ,nvL,depL];omega
   have en:nv (.mk k n [] [])=if k=1 then 1 else 0:=by show(if k=1 then 1 else 0)+nvL []=_;simp only[nvL];omega
   rw[em,en]
   refine⟨fun m=>?_,fun m=>?_,fun m=>?_,fun m=>?_⟩<;>rw[e]<;>have:=LA k n lv m<;>omega
 | @lam f b h ih=>
   intro lv
   have e:∀m,partG (.mk 2 0 [] [b]) lv m=Hr lv (partG b lv) 1 m:=fun m=>by rw[aY];rfl
   have e':partG (.mk 2 0 [] [b]) lv=Hr lv (partG b lv) 1:=funext e
   rw[e']
   have p:=DF b
   refine(HS (lv:=lv) (ih lv) 1).le ?_ ?_
   ·show nv b≤(if(2:Int)=1 then 1 else 0)+(nv b+0);omega
   ·show 16*(sizeZ b).toNat+nv b*dep b+2*1≤16*(sizeLZ [b]+1).toNat+((if(2:Int)=1 then 1 else 0)+(nv b+0))*(depL [b]+1)
    simp only[sizeLZ,depL,Int.reduceEq,if_false,Nat.mul_add]
    have:(0+(nv b+0))*max (dep b) 0=nv b*dep b:=by rw[Fy,Ln,Wc (ji _)]
    omega
 | @alt f n s b h1 h2 h3 h ih=>
   intro lv
   have e:∀m,partG (.mk 6 n s [b]) lv m=Hr lv (partG b lv) n.toNat m:=fun m=>by rw[aY];rfl
   have e':partG (.mk 6 n s [b]) lv=Hr lv (partG b lv) n.toNat:=funext e
   rw[e']
   have p:=DF b
   refine(HS (lv:=lv) (ih lv) n.toNat).le ?_ ?_
   ·show nv b≤(if(6:Int)=1 then 1 else 0)+(nv b+0);omega
   ·show 16*(sizeZ b).toNat+nv b*dep b+2*n.toNat≤16*(sizeLZ [b]+1).toNat+((if(6:Int)=1 then 1 else 0)+(nv b+0))*(depL [b]+1)
    simp only[sizeLZ,depL,Int.reduceEq,if_false,Nat.mul_add]
    have:(0+(nv b+0))*max (dep b) 0=nv b*dep b:=by rw[Fy,Ln,Wc (ji _)]
    omega
 | @node f k s l hk hl ih=>
   intro lv
   have hkn:¬(k=1∨k=7∨k=9)∧k≠2∧k≠6:=by omega
   have e:∀m,partG (.mk k 0 s l) lv m=⟨(kidsG l k lv m.ns.length 0 (Hc m (Z2 k s l lv),[])).1,⟨(m.ns.length:Nat),(CF k:Nat)⟩,(kidsG l k lv m.ns.length 0 (Hc m (Z2 k s l lv),[])).2⟩:=fun m=>by rw[aY,if_neg hkn.1,if_neg hkn.2.1,if_neg hkn.2.2]
   have km:=fun m:Nt=>Si (k:=k) (lv:=lv) (a:=m.ns.length) l 0 (Hc m (Z2 k s l lv),[]) (fun t ht=>by obtain⟨j,hj⟩:=IL ht;exact ih j t hj) (fun t ht=>by obtain⟨j,hj⟩:=IL ht;exact(hl j t hj).nn.1) (depL l+1) fun t ht=>by have:=Lv ht;omega
   have en:nv (.mk k 0 s l)=nvL l:=by show(if k=1 then 1 else 0)+nvL l=_;rw[if_neg (by omega)];omega
   have em:wR (.mk k 0 s l)=16*(sizeLZ l).toNat+16+nvL l*(depL l+1):=by
    unfold wR
    rw[en]
    show 16*(sizeLZ l+1).toNat+nvL l*(depL l+1)=_
    have:=V0 l
    omega
   rw[en,em]
   refine⟨fun m=>?_,fun m=>?_,fun m=>?_,fun m=>?_⟩<;>rw[e]<;>have:=km m<;>simp only[ql,tu,sI]at this⊢
   ·omega
   ·exact this.2.2.2
   ·omega
   ·omega
theorem HJ{t:T}{f:Int}{a:Bool}(h:Cl f a t)(hs:sizeZ t≤80)(hd:dep t≤50):wR t≤3000:=by
 have h1:=h.nn.2.1
 have hp:=DF t
 unfold wR
 have h2:nv t*dep t≤(81-dep t)*dep t:=rB _ (by omega)
 have h3:∀d,d<51→(81-d)*d≤1640:=by decide
 have:=h3 (dep t) (by omega)
 omega
def HP(k:Int)(m:Nat):Nat→Nat→List Pt
 |_,0=>[]
 |i,c+1=>⟨(m:Nat),(Od k i:Nat)⟩::HP k m (i+1) c
theorem mh{f k lv:Int}{s:List UInt8}{l:List T}(hlv:0≤lv∧lv≤60)(hs:s.length≤140737488355328)(hl:∀t∈l,t.s.length≤140737488355328∧wf t.n)
  (hk:(k=3∧s=[]∧l.length=2)∨(k=4∧s≠[]∧l.length≤8)∨(k=8∧s≠[]∧l.length=2)∨(k=5∧s=[]∧2≤l.length∧l.length≤9∧((l.drop 1).map T.s).Nodup)) (hc:∀(j:Nat) (t:T),l[j]? =some t→Cl f (decide (k=5∧0<j)) t):
  (Z2 k s l lv).Ok∧(Z2 k s l lv).may∧¬(Z2 k s l lv).k<2∧(Z2 k s l lv).ports=l.length+1∧(k≠4→Ye (Z2 k s l lv).k)∧(k=4→oh (Z2 k s l lv).k)∧(Z2 k s l lv).lv=lv:=by
 rcases hk with⟨rfl,h2,h3⟩|⟨rfl,h2,h3⟩|⟨rfl,h2,h3⟩|⟨rfl,h2,h3,h4,h5⟩
 ·have e:Z2 3 s l lv=RV 3 lv:=rfl
  rw[e,h3]
  exact⟨ZM (by omega) hlv,Ns hlv (by omega),by show¬(3:Int)<2;decide,rfl,fun _=>.inl rfl,fun h=>(by cases h),rfl⟩
 ·have e:Z2 4 s l lv=⟨8,lv,0,s,[],List.replicate (l.length+1) zP⟩:=rfl
  rw[e]
  refine⟨⟨⟨by show(-9223372036854775808:Int)≤8;decide,by show(8:Int)≤_;decide⟩,⟨by show _≤lv;omega,by show lv≤_;omega⟩,⟨by show _≤(0:Int);decide,by show(0:Int)≤_;decide⟩,hs,by simp,?_,by simp,?_⟩,?_,by show¬(8:Int)<2;decide,?_,fun h=>absurd rfl h,fun _=>.inr (.inl rfl),rfl⟩
  ·show(List.replicate (l.length+1) zP).length*16≤_
   rw[Eh];omega
  ·intro p hp
   have:p=zP:=Fa hp
   rw[this];exact⟨⟨by decide,by decide⟩,⟨by decide,by decide⟩⟩
  ·rw[Go.Proofs.YtmlhgalboabjcaaGreat.may_iff]
   unfold jX
   simp[h2,Eh]
   omega
  ·unfold Nd.ports;simp[Eh]
 ·have e:Z2 8 s l lv=⟨11,lv,0,s,[],[]⟩:=rfl
  rw[e,h3]
  refine⟨⟨⟨by show(-9223372036854775808:Int)≤11;decide,by show(11:Int)≤_;decide⟩,⟨by show _≤lv;omega,by show lv≤_;omega⟩,⟨by show _≤(0:Int);decide,by show(0:Int)≤_;decide⟩,hs,by simp,by simp,by simp,by simp⟩,?_,by show¬(11:Int)<2;decide,rfl,fun _=>.inr (.inr rfl),fun h=>(by cases h),rfl⟩
  rw[Go.Proofs.YtmlhgalboabjcaaGreat.may_iff]
  unfold jX
  simp[h2]
  omega
 ·have e:Z2 5 s l lv=⟨9,lv,0,[],(l.drop 1).map arT,[]⟩:=rfl
  have hal:((l.drop 1).map arT).length=l.length-1:=by simp
  have hmem:∀a∈(l.drop 1).map arT,∃t∈l,a=arT t:=fun a ha=>by
   obtain⟨t,ht,rfl⟩:=Om.1 ha
   exact⟨t,List.mem_of_mem_drop ht,rfl⟩
  rw[e]
  refine⟨⟨⟨by show(-9223372036854775808:Int)≤9;decide,by show(9:Int)≤_;decide⟩,⟨by show _≤lv;omega,by show lv≤_;omega⟩,⟨by show _≤(0:Int);decide,by show(0:Int)≤_;decide⟩,by simp,?_,by simp,?_,by simp⟩,?_,by show¬(9:Int)<2;decide,?_,fun _=>.inr (.inl rfl),fun h=>(by cases h),rfl⟩
  ·show((l.drop 1).map arT).length*_≤_
   rw[hal];omega
  ·intro a ha
   obtain⟨t,ht,rfl⟩:=hmem a ha
   exact(hl t ht).2
  ·rw[Go.Proofs.YtmlhgalboabjcaaGreat.may_iff]
   unfold jX
   have ha:BB ((l.drop 1).map arT):=by
    intro i a hi
    have hi':=hi
    rw[Qy,L9]at hi
    obtain⟨t,ht,rfl⟩:=zf.1 hi
    have hcl:=hc (1+i) t ht
    rw[decide_eq_true (by omega)]at hcl
    have hal:arT t=⟨t.s,t.n⟩:=rfl
    have h6:t.s≠[]∧0≤t.n∧t.n≤8:=by cases hcl;exact⟨by assumption,by assumption,by assumption⟩
    refine⟨h6.1,h6.2.1,h6.2.2,fun j b hj hb hs=>?_⟩
    rw[Qy]at hi' hb
    have n1:((l.drop 1).map T.s)[i]? =some t.s:=by
     obtain⟨u,hu,hue⟩:=zf.1 hi'
     rw[Qy,hu]
     have:u.s=t.s:=by have:=congrArg Ar.s hue;exact this
     simp[this]
    have n2:((l.drop 1).map T.s)[j]? =some t.s:=by
     obtain⟨u,hu,hue⟩:=zf.1 hb
     rw[Qy,hu]
     have:u.s=t.s:=by have:=congrArg Ar.s hue;exact this.trans hs
     simp[this]
    have hj1:=(QU.1 n1)
    have hj2:=(QU.1 n2)
    obtain⟨q1,q2⟩:=hj1
    obtain⟨q3,q4⟩:=hj2
    exact(List.pairwise_iff_getElem.1 h5) j i q3 q1 hj (q4.trans q2.symm)
   refine⟨⟨⟨by show(0:Int)≤9;decide,by show(9:Int)≤13;decide⟩,fun h=>absurd rfl h,fun _=>⟨ha,?_,?_⟩⟩,⟨by show(0:Int)≤lv;omega,by show lv≤(if(9:Int)=0∨(9:Int)=1 then 0 else 60);simp;omega⟩,?_,.inl rfl,.inl (by show(9:Int)≠8;decide)⟩
   ·show 1≤((((l.drop 1).map arT).length:Nat):Int);rw[hal];omega
   ·show((((l.drop 1).map arT).length:Nat):Int)≤8;rw[hal];omega
   ·show([]:List UInt8)≠[]↔_;simp
  ·unfold Nd.ports
   simp
   omega
theorem zH(k:Int)(m:Nat):∀(c i:Nat),(k=4∨0<i)→HP k m i c=(List.range' (i+1) c).map fun s=>⟨(m:Nat),(s:Nat)⟩
 |0,i,_=>rfl
 |c+1,i,h=>by
  rw[HP,zH k m c (i+1) (.inr (by omega)),Yk,zx]
  unfold Od
  rw[if_neg (by omega)]
theorem dk(k:Int)(m:Nat)(c:Nat)(h:k=4∨0<c):(xB m (c+1)).Perm (⟨(m:Nat),(CF k:Nat)⟩::HP k m 0 c):=by
 unfold xB
 rw[List.range_eq_range',Yk,zx]
 by_cases hk:k=4
 ·rw[zH k m c 0 (.inl hk)]
  unfold CF
  rw[if_pos hk]
 ·obtain⟨c,rfl⟩:∃d,c=d+1:=⟨c-1,by omega⟩
  rw[Yk,zx,HP,zH k m c 1 (.inr (by omega))]
  unfold CF Od
  rw[if_neg hk,if_pos ⟨rfl,hk⟩]
  exact List.Perm.swap _ _ _
theorem wQ{i:Int}(h:(Lit.int .i64 i).wf=true):wf i:=by
 simp only[Lit.wf,IntKind.min,IntKind.max,IntKind.bits,IntKind.signed,Cd,decide_eq_true_eq]at h
 rw[if_pos trivial,if_pos trivial]at h
 unfold wf;omega
theorem T.Ok.kids{k n:Int}{s:List UInt8}{l:List T}(h:T.Ok (.mk k n s l)):wf k∧wf n∧s.length≤140737488355328∧l.length*56≤reachBytes∧∀t∈l,T.Ok t:=by
 cases h with
 |mk _ _ _ _ h1 h2 h3 h4 h5=>exact⟨wQ h1,wQ h2,by simp only[reachBytes]at h3;omega,h4,h5⟩
theorem T.Ok.own{t:T}(h:T.Ok t):t.s.length≤140737488355328∧wf t.n:=by
 obtain⟨k,n,s,l⟩:=t
 exact⟨h.kids.2.2.1,h.kids.2.1⟩
end Go.Proofs.YtmlhgalboabjcaaGreat.Tm
namespace Go.Proofs.YtmlhgalboabjcaaGreat
open Go.Fx
theorem zI{l:List Bool}{i j:Nat}(h:l[j]? =some true):(l.set i true)[j]? =some true:=by
 rw[KC]
 have hj:=(QU.1 h).1
 split
 ·rename_i e;subst e;rw[if_pos hj]
 ·exact h
theorem bm{l:List Bool}{i j:Nat}(h:(l.set i true)[j]? =some true):i=j∨l[j]? =some true:=by
 rw[KC]at h
 split at h
 ·rename_i e;exact .inl e
 ·exact .inr h
structure RJ(n:Nt)(seen:List Bool)(W:List Int)(a:Option (Nat×Nat)):Prop where
 len:seen.length=n.ns.length
 rch:∀i,seen[i]? =some true→Rch n i
 root:seen[0]? =some true
 wt:∀w,w∈W→∃i:Nat,w=(i:Int)∧seen[i]? =some true
 cl:∀i:Nat,seen[i]? =some true→(i:Int)∉W→(∀p,a≠some (i,p))→∀j,n.step i j→seen[j]? =some true
 at1:∀i p,a=some (i,p)→seen[i]? =some true∧∀x m q,n.ns[i]? =some x→m<p→x.to[m]? =some q→∀j:Nat,q.n=(j:Int)→seen[j]? =some true
theorem RJ.mark{n:Nt}{seen:List Bool}{W:List Int}{a p j:Nat}{x:Nd}{q:Pt}{b:Bool}(h:RJ n seen W (some (a,p)))(hx:n.ns[a]? =some x)(hq:x.to[p]? =some q)(hj:q.n=(j:Int))(hb:seen[j]? =some b):
  RJ n (if b then seen else seen.set j true) (if b then W else W++[(j:Int)]) (some (a,p+1)):=by
 have hstep:n.step a j:=⟨x,q,hx,yu hq,hj⟩
 have hjl:=(QU.1 hb).1
 have hat:=(h.at1 a p rfl).1
 cases b with
 |true=>
  refine⟨h.len,h.rch,h.root,h.wt,fun i hi hw hn=>h.cl i hi hw (fun p' e=>?_),fun i p' e=>?_⟩
  ·simp only[Lo,ZP]at e;exact hn (p+1) (by rw[e.1])
  ·simp only[Lo,ZP]at e
   obtain⟨rfl,rfl⟩:=e
   refine⟨hat,fun y m r hy hm hr k hk=>?_⟩
   by_cases e:m=p
   ·subst e;rw[hx]at hy;rw[←BQ hy,hq]at hr;rw[←BQ hr,hj]at hk
    have:j=k:=by omega
    rw[←this];exact hb
   ·exact(h.at1 a p rfl).2 y m r hy (by omega) hr k hk
 |false=>
  refine⟨by simpa using h.len,fun i hi=>?_,zI h.root,fun w hw=>?_,fun i hi hw hn k hk=>?_,fun i p' e=>?_⟩
  ·rcases bm hi with rfl|hi
   ·exact .step (h.rch a hat) hstep
   ·exact h.rch i hi
  ·rcases Sw.1 hw with hw|hw
   ·obtain⟨i,e,hi⟩:=h.wt w hw;exact⟨i,e,zI hi⟩
   ·simp only[qY,oZ,or_false]at hw
    exact⟨j,hw,by simp[KC,hjl]⟩
  ·rcases bm hi with rfl|hi
   ·exact absurd (Uc _ (by simp)) hw
   ·exact zI (h.cl i hi (fun hm=>hw (uJ _ hm)) (fun p' e=>by
     simp only[Lo,ZP]at e;exact hn (p+1) (by rw[e.1])) k hk)
  ·simp only[Lo,ZP]at e
   obtain⟨rfl,rfl⟩:=e
   refine⟨zI hat,fun y m r hy hm hr k hk=>?_⟩
   by_cases e:m=p
   ·subst e;rw[hx]at hy;rw[←BQ hy,hq]at hr;rw[←BQ hr,hj]at hk
    have:j=k:=by omega
    rw[←this];simp[KC,hjl]
   ·exact zI ((h.at1 a p rfl).2 y m r hy (by omega) hr k hk)
theorem RJ.done{n:Nt}{seen:List Bool}(h:RJ n seen [] none):seen=(List.range n.ns.length).map fun i=>bool (Rch n i):=by
 have hall:∀i,Rch n i→seen[i]? =some true:=by
  intro i hi
  induction hi with
  |root=>exact h.root
  |step _ hs ih=>exact h.cl _ ih (by simp) (by simp) _ hs
 refine YR (by simp[h.len]) fun j hj=>?_
 have hj2:=h.len
 obtain⟨b,hb⟩:∃b,seen[j]? =some b:=⟨_,Xb hj⟩
 rw[hb,Qy,CY (by omega)]
 simp only[lT,Lo]
 cases b with
 |true=>exact(Pb (h.rch j hb)).symm
 |false=>exact(qy fun hr=>by rw[hall j hr]at hb;cases hb).symm
def mu(seen:List Bool)(W:List Int):Nat:=2*dR seen+W.length
theorem FV{seen:List Bool}{W:List Int}{j:Nat}{b:Bool}(hb:seen[j]? =some b):mu (if b then seen else seen.set j true) (if b then W else W++[(j:Int)])≤mu seen W:=by
 cases b with
 |true=>exact nh _
 |false=>
  have:=M8 hb
  simp only[mu,SY,if_false,GM,Ce,sI];omega
theorem Ze{n:Nt}(hG:n.Good){i p:Nat}{x:Nd}{q:Pt}(hx:n.ns[i]? =some x)(hq:x.to[p]? =some q):∃j:Nat,q.n=(j:Int)∧j<n.ns.length:=by
 have h:=sJ.1 ((hG.nds i x hx).2.2.2 p q hq).2.1
 exact⟨q.n.toNat,by omega,by omega⟩
theorem VH{n:Nt}(hn:n.Ok)(hG:n.Good){km ks:Key}{σ:St}(h:MS (n.ns.map Ug) km ks [] (List.replicate n.ns.length false) σ):
  ∃v σ',eS S (.f 96) [.a (.ptr km 0 0),.a (.p (.i .i64 0))] σ=some (v,σ')∧v= .u∧MS (n.ns.map Ug) km ks [] ((List.range n.ns.length).map fun i=>bool (Rch n i)) σ':=by
 have hns:=hn.ns
 have hl1:=hG.ln1
 have hb0:(List.replicate n.ns.length false)[0]? =some false:=by rw[Be,if_pos (by omega)]
 obtain⟨_,σ1,hc1,rfl,hM1⟩:=lP h hb0 (by simp)
 simp only[SY,if_false,Es]at hM1
 have hJ1:RJ n ((List.replicate n.ns.length false).set 0 true) [((0:Nat):Int)] none:=by
  have hf:∀i:Nat,((List.replicate n.ns.length false).set 0 true)[i]? =some true→i=0:=by
   intro i hi
   rcases bm hi with rfl|hi
   ·rfl
   ·rw[Be]at hi;split at hi<;>simp at hi
  refine⟨by simp,fun i hi=>?_,by rw[KC,if_pos rfl,if_pos (by simp;omega)],fun w hw=>?_,fun i hi hw=>?_,fun i p e=>by cases e⟩
  ·rw[hf i hi];exact .root
  ·simp only[qY,oZ,or_false]at hw
   exact⟨0,hw,by rw[KC,if_pos rfl,if_pos (by simp;omega)]⟩
  ·rw[hf i hi]at hw;simp at hw
 have hm1:mu ((List.replicate n.ns.length false).set 0 true) [((0:Nat):Int)]≤2*n.ns.length:=by
  have:=M8 hb0
  have h2:=Dy (List.replicate n.ns.length false)
  simp only[Eh]at h2
  simp only[mu,Ce,sI];omega
 refine ZE (fc:=F96) rfl rfl ?_
 have hc1:eS S (.f 134) [.a (.ptr km 0 0),.a (.p (.i .i64 0))] σ=some (.u,σ1):=hc1
 simp only[F96,hc1,iX,nxB,evO,simprocAttr]
 refine VK (fun k e σ=>∃W seen,e 0= .a (.ptr km 0 0)∧MS (n.ns.map Ug) km ks W seen σ∧RJ n seen W none∧mu seen W=k∧k≤2*n.ns.length) ?_ _ _ _ ⟨_,_,?_,hM1,hJ1,rfl,hm1⟩
 case refine_2=>simp only[nxB,evO,simprocAttr]
 rintro k e σ ⟨W,seen,e0,hM,hJ,hmu,hk⟩
 have hcat:W=[]∨∃L b,W=L++[b]:=by
  rcases List.eq_nil_or_concat W with h|⟨L,b,h⟩
  ·exact .inl h
  ·exact .inr ⟨L,b,by rw[h,List.concat_eq_append]⟩
 rcases hcat with rfl|⟨W0,w,rfl⟩
 ·have hMM:=hM
  rw[hJ.done]at hMM
  obtain⟨h1,h2,h3,h4,wv,h5,h6⟩:=hM
  have hgt:¬((0:Nat):Int)>0:=by simp
  rcases h6 with⟨rfl,_⟩|⟨kw,full,rfl,g2,g3,g4,g5,g6,g7⟩
  ·simp only[F96b0,e0,h5,hgt,nxB,evO,simprocAttr]
   exact hMM
  ·simp only[F96b0,e0,h5,hgt,sI,nxB,evO,simprocAttr]
   exact hMM
 ·obtain⟨h1,h2,h3,h4,wv,h5,h6⟩:=hM
  rcases h6 with⟨_,h6⟩|⟨kw,full,rfl,g2,g3,g4,g5,g6,g7⟩
  ·simp at h6
  obtain⟨a,rfl,ha⟩:=hJ.wt w (by simp)
  obtain⟨L,hL⟩:∃L,W0.length=L:=⟨_,rfl⟩
  have hlen:(W0++[(a:Int)]).length=L+1:=by simp[hL]
  rw[hlen]at h5 g3 g4
  have hfl:full[L]? =some (a:Int):=by
   have:(full.take (L+1))[L]? =some (a:Int):=by rw[g3,bO (by omega)];simp[hL]
   rw[Dp (by omega)]at this;exact this
  have hf0:full.take L=W0:=by
   have:(full.take (L+1)).take L=W0:=by rw[g3,←hL];simp
   rw[List.take_take]at this;rw[←this,Vi (by omega)]
  have hfl':=Kr qM hfl
  have hgt:((L+1:Nat):Int)>0:=by omega
  have hw:IntKind.i64.wrap (((L+1:Nat):Int)-1)=(L:Int):=by
   have:2*dR seen+(L+1)=k:=by rw[←hmu];simp[mu,hL]
   rw[qI _ (by omega)];omega
  have hlt:(L:Int)<((L+1:Nat):Int):=by omega
  have hle:(L:Int)≤((L+1:Nat):Int):=by omega
  have hge:(0:Int)≤(L:Int):=by omega
  have hal:a<n.ns.length:=by have:=(QU.1 ha).1;have:=hJ.len;omega
  obtain⟨x,hx⟩:∃x,n.ns[a]? =some x:=⟨_,Xb hal⟩
  have hx':=Kr Ug hx
  have hlta:(a:Int)<(n.ns.length:Int):=by omega
  have hgea:(0:Int)≤(a:Int):=by omega
  have hto:=(hn.nd x (yu hx)).to
  have g5':¬km=kw:=fun e=>g5 e.symm
  have h3':¬ks=km:=fun e=>h3 e.symm
  simp only[qM]at hfl'
  simp only[F96b0,e0,h5,g2,g5,g5',hgt,hw,hlt,hle,hge,hfl',hx',hlta,hgea,Ci,Bp,rV,kS,kR,qM,nxB,evO,simprocAttr]
  have hM2:MS (n.ns.map Ug) km ks W0 seen (σ.put km (.var [.p (.l (n.ns.map Ug)),.own ks 0 seen.length,.own kw 0 L])):=by
   refine⟨h1,h2,h3,by simp only[xL,h3',if_false];exact h4,.own kw 0 L,by simp only[xL,if_true],.inr ⟨kw,full,by rw[hL],by simp only[xL,g5,if_false];exact g2,by rw[hL];exact hf0,by omega,g5,g6,g7⟩⟩
  have hJ2:RJ n seen W0 (some (a,0)):=by
   refine⟨hJ.len,hJ.rch,hJ.root,fun w hw=>hJ.wt w (by simp[hw]),fun i hi hwi hna j hj=>hJ.cl i hi (fun hm=>?_) (by simp) j hj,fun i p e=>?_⟩
   ·rcases Sw.1 hm with hm|hm
    ·exact hwi hm
    ·simp only[qY,oZ,or_false]at hm
     exact hna 0 (by simp;omega)
   ·simp only[Lo,ZP]at e
    obtain⟨rfl,rfl⟩:=e
    exact⟨ha,fun _ _ _ _ h=>by omega⟩
  have hmu2:mu seen W0+1=k:=by rw[←hmu];simp[mu];omega
  refine Fs x.to.length (fun p e σ=>e 0= .a (.ptr km 0 0)∧e 46= .a (.p (.l (x.to.map xN)))∧e 47= .a (.p (.i .i64 x.to.length))∧e 48= .a (.p (.i .i64 (p:Nat)))∧∃W seen,MS (n.ns.map Ug) km ks W seen σ∧RJ n seen W (some (a,p))∧mu seen W+1≤k) (i0:=0) (ji _) ?_ ?_ ?_
  ·refine⟨?_,?_,?_,?_,W0,seen,hM2,hJ2,by omega⟩<;>simp only[e0,nxB,evO,Nat.reduceLT,Nat.reduceSub,Nat.reduceBEq,Nat.reduceEqDiff,Nat.reduceAdd,Nat.reduceLeDiff,reduceCtorEq,Nat.reduceMul]
   rfl
  ·rintro p e σ hp ⟨e0,e46,e47,e48,W,seen,hM,hJ,hmu⟩
   obtain⟨q,hq⟩:∃q,x.to[p]? =some q:=⟨_,Xb hp⟩
   obtain⟨j,hj,hjl⟩:=Ze hG hx hq
   obtain⟨b,hb⟩:∃b,seen[j]? =some b:=⟨_,Xb (by rw[hJ.len];exact hjl)⟩
   have hJ':=hJ.mark hx hq hj hb
   have hmu':=FV (W:=W) hb
   have hWl:W.length≤2*n.ns.length:=by have:W.length≤mu seen W:=by unfold mu;omega
                                       omega
   obtain⟨qn,qs⟩:=q
   simp only at hj
   subst hj
   obtain⟨_,σ3,hc3,rfl,hM3⟩:=lP (FH hM 7 σ.clk (.var [.p (.i .i64 0),.p (.i .i64 0)]) (.var [.p (.i .i64 (j:Int)),.p (.i .i64 qs)]) rfl) hb (by omega)
   have hq':=Kr xN hq
   have hlt2:((p:Nat):Int)<(x.to.length:Int):=by omega
   have hge2:(0:Int)≤((p:Nat):Int):=by omega
   simp only[xN]at hq'
   simp only[F96b1,e0,e46,e47,e48,hlt2,hge2,hq',hc3,iX,nxB,evO,simprocAttr]
   exact⟨by rw[zz p (by omega)],_,_,hM3,hJ',by omega⟩
  ·rintro e σ ⟨e0,e46,e47,e48,W,seen,hM,hJ,hmu⟩
   have hlt2:¬((x.to.length:Nat):Int)<(x.to.length:Int):=by omega
   simp only[F96b1,e0,e46,e47,e48,hlt2,nxB,evO,simprocAttr]
   refine⟨mu seen W,by omega,W,seen,hM,⟨hJ.len,hJ.rch,hJ.root,hJ.wt,fun i hi hwi _ j hj=>?_,fun i p e=>by cases e⟩,rfl,by omega⟩
   by_cases e:i=a
   ·subst e
    obtain⟨y,r,hy,hr,hrj⟩:=hj
    rw[hx]at hy
    rw[←BQ hy]at hr
    obtain⟨m,hm⟩:=IL hr
    exact(hJ.at1 i _ rfl).2 x m r hx (QU.1 hm).1 hm j hrj
   ·exact hJ.cl i hi hwi (fun p' e'=>by simp only[Lo,ZP]at e';exact e e'.1.symm) j hj
theorem HB{n:Nt}(hn:n.Ok)(hG:n.Good):eP S 54 [.g (Ip n)]=some (.a (.l (((List.range n.ns.length).map fun i=>bool (Rch n i)).map Ei))):=by
 refine Cf (xO (by decide)) (fc:=F54) rfl rfl ?_
 have hns:=hn.ns
 obtain⟨σ0,hσ0⟩:∃σ0,σ0=((St.empty.add 1 (.var ((Ip n).map .p))).add 9 (.row 1 4 (List.replicate n.ns.length [.b false]))).add 11 (.var [.p (.l (n.ns.map Ug)),.own (9,1) 0 n.ns.length,.nil]):=⟨_,rfl⟩
 have hM:MS (n.ns.map Ug) (11,2) (9,1) [] (List.replicate n.ns.length false) σ0:=by
  rw[hσ0]
  refine⟨by simp[Bv,Sx],by simp[Bv,Sx],by simp,by simp[Mq,Bv,Sx,Ei],.nil,by simp[Mq,Bv,Sx],.inl ⟨rfl,rfl⟩⟩
 obtain⟨_,σ1,hcall,rfl,h1,h2,h3,h4,wv,h5,h6⟩:=VH hn hG hM
 rw[hσ0]at hcall
 have hbb:(n.ns.length:Int)*1≤140737488355328:=by omega
 have hge:(0:Int)≤(n.ns.length:Int):=by omega
 have hl:((List.range n.ns.length).map fun i=>bool (Rch n i)).length=n.ns.length:=by simp
 rw[hl]at h5
 have htk:List.take n.ns.length (((List.range n.ns.length).map fun i=>bool (Rch n i)).map Ei)=((List.range n.ns.length).map fun i=>bool (Rch n i)).map Ei:=Ea (by simp)
 simp only[Ip,zx,XM]at hcall
 simp only[F54,hcall,iX,hbb,hge,h4,h5,htk,List.length_range,Mz,kS,KA,nh,nxB,evO,simprocAttr]
noncomputable def ZW(n:Nt)(k:Nat):List Int:=((List.range k).filter fun i=>bool (Rch n i)).map fun(i:Nat)=>(i:Int)
noncomputable def Nt.live(n:Nt):List Int:=ZW n n.ns.length
theorem rch_k{n:Nt}(hG:n.Good){i:Nat}(h:Rch n i):∃x,n.ns[i]? =some x∧x.k≠0:=by
 cases h with
 |root=>obtain⟨x,hx,h1⟩:=OR hG;exact⟨x,hx,by omega⟩
 |step h1 h2=>
  obtain⟨y,q,hy,hq,hj⟩:=h2
  obtain⟨p,hp⟩:=IL hq
  have h3:=sJ.1 ((hG.nds _ y hy).2.2.2 p q hp).2.1
  rw[hj]at h3
  obtain⟨x,hx⟩:∃x,n.ns[i]? =some x:=⟨_,Xb (by omega)⟩
  rw[EZ hx]at h3
  obtain⟨r,hr⟩:∃r,x.to[q.s.toNat]? =some r:=⟨_,Xb (by omega)⟩
  exact⟨x,hx,LZ hG hx hr⟩
noncomputable def XC(n:Nt)(k:Nat):List Nd:=(List.range n.ns.length).map fun i=>if k≤i∧bool (Rch n i)=false then zN else n.ns.getD i zN
noncomputable def Nt.swept(n:Nt):Nt:=⟨CV (XC n 0),n.cap⟩
theorem So(n:Nt)(k:Nat):(XC n k).length=n.ns.length:=by simp[XC]
theorem WY{n:Nt}{k i:Nat}{x:Nd}(hx:n.ns[i]? =some x):(XC n k)[i]? =some (if k≤i∧bool (Rch n i)=false then zN else x):=by
 unfold XC
 rw[Qy,CY (QU.1 hx).1]
 simp only[lT,Qv hx]
theorem Po(n:Nt):XC n n.ns.length=n.ns:=by
 refine YR (So n _) fun j hj=>?_
 rw[So]at hj
 obtain⟨x,hx⟩:∃x,n.ns[j]? =some x:=⟨_,Xb hj⟩
 rw[WY hx,if_neg (by omega),hx]
theorem dS{n:Nt}{a:Nat}{x:Nd}(hx:n.ns[a]? =some x)(h:Rch n a∨x=zN):XC n a=XC n (a+1):=by
 refine YR (by rw[So,So]) fun j hj=>?_
 rw[So]at hj
 obtain⟨y,hy⟩:∃y,n.ns[j]? =some y:=⟨_,Xb hj⟩
 rw[WY hy,WY hy]
 by_cases e:j=a
 ·subst e
  rw[hx]at hy
  rw[←BQ hy]
  rw[if_neg (c:=j+1≤j∧_) (by omega)]
  rcases h with h|h
  ·rw[Pb h,if_neg (by simp)]
  ·rw[h];simp
 ·have:(a≤j↔a+1≤j):=by omega
  simp only[this]
theorem Tp{n:Nt}{a:Nat}{x:Nd}(hx:n.ns[a]? =some x)(h:¬Rch n a):(XC n (a+1)).set a zN=XC n a:=by
 refine YR (by rw[rm,So,So]) fun j hj=>?_
 rw[rm,So]at hj
 obtain⟨y,hy⟩:∃y,n.ns[j]? =some y:=⟨_,Xb hj⟩
 rw[KC,WY hy,WY hy]
 by_cases e:a=j
 ·subst e;rw[if_pos rfl,So,if_pos hj,qy h,if_pos (by simp)]
 ·rw[if_neg e]
  have:(a≤j↔a+1≤j):=by omega
  simp only[this]
theorem c9{l:List Nd}{t:Nat}:∀k,t≤k→(∀i,t≤i→i<k→(l.getD i zN).k=0)→tl l k=tl l t
 |0,h,_=>by rw[show t=0 by omega]
 |k+1,h,hf=>by
  by_cases e:t=k+1
  ·rw[e]
  ·have:mj (l.getD k zN)=true:=by simpa [mj]using hf k (by omega) (by omega)
   rw[tl,if_pos this]
   exact c9 k (by omega) fun i h1 h2=>hf i h1 (by omega)
theorem sY{l:List Nd}{t:Nat}:∀k,k≤t→tl (l.take t) k=tl l k
 |0,_=>rfl
 |k+1,h=>by
  have:(l.take t).getD k zN=l.getD k zN:=by rw[Kh,Kh,Dp (by omega)]
  rw[tl,tl,this,sY k (by omega)]
theorem R7{l:List Nd}{t:Nat}(ht:t≤l.length)(h:∀i,t≤i→i<l.length→(l.getD i zN).k=0):CV (l.take t)=CV l:=by
 unfold CV
 rw[Q4,Vi ht,sY t (nh _),c9 l.length ht h,List.take_take,Vi (Gp l t)]
theorem oQ{l:List Nd}{a:Nat}(ha:a<(CV l).length):CV ((CV l).set a zN)=CV (l.set a zN):=by
 have e:(CV l).set a zN=(l.set a zN).take (tl l l.length):=by unfold CV;rw[List.take_set]
 rw[e]
 rw[Tz]at ha
 refine R7 (by rw[rm];exact Gp _ _) fun i h1 h2=>?_
 rw[rm]at h2
 have:=wB l l.length i h1 h2
 rw[Kh,xM (by omega),←Kh];exact this
theorem MX{l:List Nd}{a:Nat}{x:Nd}(hx:l[a]? =some x)(hk:x.k≠0):a<(CV l).length:=by
 rw[Tz]
 by_cases h:a<tl l l.length
 ·exact h
 ·exfalso
  have:=wB l l.length a (by omega) (QU.1 hx).1
  rw[Qv hx]at this;exact hk this
theorem kV{n:Nt}{k:Nat}{x:Nd}(h:x∈XC n k):x=zN∨x∈n.ns:=by
 unfold XC at h
 obtain⟨i,hi,rfl⟩:=Om.1 h
 split
 ·exact .inl rfl
 ·right
  rw[Kh,Xb (MD.1 hi)];exact xA _
theorem Dx{n:Nt}(hn:n.Ok)(k:Nat):(⟨CV (XC n k),n.cap⟩:Nt).Ok:=by
 have h1:=nO (XC n k)
 rw[So]at h1
 have h2:=hn.ns
 refine⟨?_,hn.cap,fun x hx=>?_⟩
 ·show(CV (XC n k)).length*88≤_;omega
 ·rcases kV (xw hx)with rfl|h
  ·exact RD
  ·exact hn.nd x h
theorem Tl{n:Nt}(hn:n.Ok):eP S 36 [.g (Ip n)]=some (.g (Ip (if bool n.Good then n.swept else n))):=by
 refine Cf (xO (by decide)) (fc:=F36) rfl rfl ?_
 have hns:=hn.ns
 have c1:=Hi hn
 by_cases hG:n.Good
 case neg=>
  rw[qy hG]at c1⊢
  simp only[SY,if_false,Ip]at c1
  simp only[F36,c1,Int.reduceEq,nxB,evO,simprocAttr]
 rw[Pb hG]at c1⊢
 have c2:=HB hn hG
 have hb:=W2 hG
 have hl1:=hG.ln1
 simp only[if_true,Ip]at c1 c2
 obtain⟨rows,hrows⟩:∃rows,((List.range n.ns.length).map fun i=>bool (Rch n i)).map Ei=rows:=⟨_,rfl⟩
 have hrl:rows.length=n.ns.length:=by rw[←hrows];simp
 have hrg:∀i,i<n.ns.length→rows[i]? =some [.b (bool (Rch n i))]:=by
  intro i hi;rw[←hrows,Qy,Qy,CY hi];rfl
 have hra:(rows.all fun r=>decide (r.length=1))=true:=by rw[←hrows];simp[Ei]
 have hw0:IntKind.i64.wrap ((n.ns.length:Int)-1)=(n.ns.length:Int)-1:=qI _ (by omega)
 rw[hrows]at c2
 have hsw:n.swept=⟨CV (XC n 1),n.cap⟩:=by
  obtain⟨r,hr,_⟩:=OR hG
  unfold Nt.swept;rw[dS hr (.inl .root)]
 rw[hsw]
 simp only[F36,c1,c2,hrl,hw0,nxB,evO,simprocAttr]
 refine Fs (n.ns.length-1) (fun q e σ=>e 1= .a (.ptr (1,0) 0 0)∧e 2= .a (.ptr (2,1) 0 0)∧e 3= .a (.p (.l (n.ns.map Ug)))∧e 4= .a (.p (.l rows))∧e 5= .a (.p (.i .i64 ((n.ns.length:Int)-1-(q:Nat))))∧
  σ.bs (1,0)=some (.var [.p (.l ((CV (XC n (n.ns.length-q))).map Ug)),.p (.i .i64 n.cap)])∧σ.bs (2,1)=some (.var [.nil,.p (.i .i64 0)])) (i0:=0) (ji _) ?_ ?_ ?_
 ·refine⟨?_,?_,?_,?_,?_,?_,?_⟩<;>simp only[kR,Po,bo hG,nxB,evO,simprocAttr]
  simp
 ·rintro q e σ hq ⟨e1,e2,e3,e4,e5,s1,s2⟩
  obtain⟨a,ha⟩:∃a,n.ns.length-q=a+1:=⟨n.ns.length-q-1,by omega⟩
  have ha1:1≤a:=by omega
  have ha2:n.ns.length-(q+1)=a:=by omega
  have ha3:(n.ns.length:Int)-1-(q:Nat)=(a:Int):=by omega
  have ha4:(n.ns.length:Int)-1-((q+1:Nat):Int)=(a:Int)-1:=by omega
  have hal:a<n.ns.length:=by omega
  rw[ha3]at e5
  rw[ha]at s1
  rw[ha2,ha4]
  obtain⟨x,hx⟩:∃x,n.ns[a]? =some x:=⟨_,Xb hal⟩
  have hx':=Kr Ug hx
  have hg:=hrg a hal
  have hgt:(a:Int)>0:=by omega
  have hlt:(a:Int)<(n.ns.length:Int):=by omega
  have hge:(0:Int)≤(a:Int):=by omega
  have hw:IntKind.i64.wrap ((a:Int)-1)=(a:Int)-1:=qI _ (by omega)
  by_cases hR:Rch n a
  ·rw[Pb hR]at hg
   rw[dS hx (.inl hR)]
   simp only[F36b0,e1,e2,e3,e4,e5,s1,s2,hgt,hlt,hge,hg,hrl,hra,hw,nxB,evO,simprocAttr]
  ·rw[qy hR]at hg
   by_cases hk:x.k=0
   ·have hz:=Yl (hG.nds a x hx).1 (hG.nds a x hx).2.1 hk
    rw[dS hx (.inr hz)]
    simp only[F36b0,e1,e2,e3,e4,e5,s1,s2,hgt,hlt,hge,hg,hrl,hra,hw,hx',hk,nxB,evO,simprocAttr]
   ·have hLa:(XC n (a+1))[a]? =some x:=by rw[WY hx,if_neg (by omega)]
    have hlt2:=MX hLa hk
    have hnd:(⟨CV (XC n (a+1)),n.cap⟩:Nt).nd (a:Int)=x:=by
     refine EZ ?_
     show(CV (XC n (a+1)))[a]? =some x
     rw[BE hlt2];exact hLa
    have c3:=pX (Dx hn (a+1)) (by have:=nO (XC n (a+1));rw[So]at this;show(CV (XC n (a+1))).length*88+88≤_;omega) (a:Int)
    have hfr:ti ⟨CV (XC n (a+1)),n.cap⟩ (a:Int)=(⟨CV (XC n a),n.cap⟩,0):=by
     unfold ti
     rw[hnd,if_pos ⟨by omega,by show(a:Int)≤((CV (XC n (a+1))).length:Int)-1;omega,hk⟩]
     unfold Nt.free
     simp only[KA]
     rw[oQ hlt2,Tp hx hR]
    rw[hfr]at c3
    simp only[qX,Ip]at c3
    simp only[F36b0,e1,e2,e3,e4,e5,s1,s2,hgt,hlt,hge,hg,hrl,hra,hw,hx',hk,c3,nxB,evO,simprocAttr]
 ·rintro e σ ⟨e1,e2,e3,e4,e5,s1,s2⟩
  have h1:n.ns.length-(n.ns.length-1)=1:=by omega
  have hgt:¬(n.ns.length:Int)-1-((n.ns.length-1:Nat):Int)>0:=by omega
  rw[h1]at s1
  simp only[F36b0,e1,e2,e3,e4,e5,s1,s2,hgt,nxB,evO,simprocAttr]
end Go.Proofs.YtmlhgalboabjcaaGreat
