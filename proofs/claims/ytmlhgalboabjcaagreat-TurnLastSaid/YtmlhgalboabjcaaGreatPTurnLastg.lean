/- Part 7 of what is proved for the law TurnLast: it returns true, whatever the input. No condition. -/
import Derived.Test.YtmlhgalboabjcaaGreatChecked
import Derived.Test.YtmlhgalboabjcaaGreatRows
import Derived.Test.YtmlhgalboabjcaaGreatPTurnLastf
set_option maxHeartbeats 8000000
set_option maxRecDepth 100000
set_option linter.unusedSimpArgs false
set_option linter.unusedVariables false
namespace Go.Proofs.YtmlhgalboabjcaaGreat.Tm
open Go.Fx
def fN(t:T)(lv:Int)(m:Nt):List TV:=[.g ((Ip m).map .p),.g ((enc t).map .p),.a (.p (.i .i64 lv))]
def tR(t:T)(k:Nat)(lv:Int)(m:Nt):List TV:=[.g ((Ip m).map .p),.g ((enc t).map .p),.a (.p (.i .i64 (k:Nat))),.a (.p (.i .i64 lv))]
theorem RC{l:List En}{v:Int}(h:¬dP l v≥0):dP l v= -1:=by
 unfold dP at h⊢
 split
 ·rename_i k hk;rw[hk]at h;simp at h
 ·rfl
theorem Keep.adds{c:Nat}{σ:St}(hc:c≤σ.clk)(d1 d2 d3:Nat)(x1 x2 x3:Blk):Keep c σ (((σ.add d1 x1).add d2 x2).add d3 x3):=
 (((Keep.refl c σ).add hc _ _).add (by simp only[Bv];omega) _ _).add (by simp only[Bv];omega) _ _
theorem yG{lv:Int}{t:T}{f:Nt→W}{B:Nat}(hlv:0≤lv∧lv≤60)(hB:B≤549755813888)(hM:Mono f B)(hf:qT 26 (fN t lv) f):∀k:Nat,k≤100→qT 49 (tR t k lv) (Hr lv f k)
 |0,_=>by
  intro m hm hfit
  obtain⟨g1,g2,g3,g4⟩:=hf m hm hfit
  refine⟨g1,g2,g3,fun σ=>?_⟩
  refine ZE (fc:=F49) rfl rfl ?_
  obtain⟨c0,hc0⟩:∃c0,σ.clk=c0:=⟨_,rfl⟩
  have et:=W4 t
  obtain⟨v,σ',h1,X,rfl,h2,h3⟩:=g4 (((σ.add 4 (.var [.p (.l (m.ns.map Ug)),.p (.i .i64 m.cap)])).add 5 (.var [.p (.i .i64 t.k),.p (.i .i64 t.n),.p (.s t.s),.p (.l (t.l.map enc))])).add 8 (.var [.nil,.p (.i .i64 0),.p (.i .i64 0),.p (.i .i64 0),.nil,.p (.i .i64 0)]))
  have hcl:((((σ.add 4 (.var [.p (.l (m.ns.map Ug)),.p (.i .i64 m.cap)])).add 5 (.var [.p (.i .i64 t.k),.p (.i .i64 t.n),.p (.s t.s),.p (.l (t.l.map enc))])).add 8 (.var [.nil,.p (.i .i64 0),.p (.i .i64 0),.p (.i .i64 0),.nil,.p (.i .i64 0)]))).clk=c0+3:=by simp only[Bv,hc0]
  rw[hcl]at h2 h3
  have b8:=h3.bs (8,c0+2) (by simp)
  simp only[Mq,Bv,hc0,Qp,Nat.reduceAdd,if_true]at b8
  show wp S false _ _ _ _
  unfold fN at h1
  simp only[tR,et,Ip,BU,zx,XM]at h1⊢
  have z0:((0:Nat):Int)=0:=rfl
  simp only[F49,hc0,z0,h1,b8,Qp,Nat.reduceAdd,Ce,sI,nxB,evO,simprocAttr]
  exact⟨X,rfl,(h2.putv b8 _).mono (by omega),(((Keep.adds (by omega) 4 5 8 _ _ _).trans (h3.mono (by omega))).put (k:=(8,c0+2)) (by show c0≤c0+2;omega) _)⟩
 |k+1,hk=>by
  intro m hm hfit
  have e0:Hr lv f (k+1) m=od lv m.ns.length (Hr lv f k (Hc m (RV 2 lv))):=rfl
  have ih:=yG hlv hB hM hf k (by omega)
  have mo:=Dk (lv:=lv) hM k
  have hcap:=hm.cap
  have hmo:=mo.len (Hc m (RV 2 lv))
  have hln:=BA lv m.ns.length (Hr lv f k (Hc m (RV 2 lv)))
  have hyB:=mo.l (Hc m (RV 2 lv))
  rw[e0]at hfit⊢
  have hfit':((iT lv m.ns.length (Hr lv f k (Hc m (RV 2 lv)))).ns.length:Int)≤m.cap:=hfit
  rw[ql]at hmo
  have hN2:=ZM (k:=2) (by omega) hlv
  have hrm:((m.ns.length+1:Nat):Int)≤m.cap:=by omega
  have hm1:=Za hm hN2 (by show(2:Int)≠0;decide) hrm
  have c1:=QA (x:=RV 2 lv) hm hN2 (by show¬(2:Int)<2;decide) (Ns hlv (by omega)) (by show lv≤60;omega) hrm
  obtain⟨y1,y2,y3,y4⟩:=ih (Hc m (RV 2 lv)) hm1 (by rw[tu];omega)
  obtain⟨y,hy⟩:∃y,Hr lv f k (Hc m (RV 2 lv))=y:=⟨_,rfl⟩
  rw[hy]at hln hyB hfit' hmo y1 y2 y3 y4⊢
  obtain⟨a,ha⟩:∃a,m.ns.length=a:=⟨_,rfl⟩
  rw[ha]at hln hfit' hmo c1 hrm⊢
  have wo:wf y.out.n∧wf y.out.s:=⟨⟨by omega,by omega⟩,⟨by omega,by omega⟩⟩
  have hwp:=fB a 1 (by omega) (by omega)
  have hwq:=fB a 2 (by omega) (by omega)
  have c2:=xh (p:=y.out) (q:=⟨(a:Nat),1⟩) y1.ok wo hwp
  have r1:=jr (p:=y.out) (q:=⟨(a:Nat),1⟩) y1 wo hwp
  have l1:=EI y.n y.out ⟨(a:Nat),1⟩
  obtain⟨n1,hn1⟩:∃n1,lnk y.n y.out ⟨(a:Nat),1⟩=n1:=⟨_,rfl⟩
  rw[hn1]at c2 r1 l1
  have fd:=cU (l:=y.l) (v:=0) (by omega)
  have a1:=DJ (a:Nat) 1
  have a0:=DJ (a:Nat) 0
  have a2:=DJ (a:Nat) 2
  have q3:(0≤(od lv a y).out.n∧(od lv a y).out.n≤5000)∧(0≤(od lv a y).out.s∧(od lv a y).out.s≤100):=⟨⟨by show(0:Int)≤(a:Nat);omega,by show((a:Nat):Int)≤5000;omega⟩,⟨by show(0:Int)≤0;decide,by show(0:Int)≤100;decide⟩⟩
  have q2:∀x∈(od lv a y).l,OkE x:=Fe y2
  have et:=W4 t
  unfold tR at y4⊢
  simp only[et,Ip,BU,zx,XM]at y4
  have hk1:IntKind.i64.wrap (((k+1:Nat):Int)-1)=((k:Nat):Int):=by rw[qI _ (by omega)];omega
  have hk0:¬((k+1:Nat):Int)=0:=by omega
  by_cases hfz:dP y.l 0≥0
  ·obtain⟨j,hj,hjl,x,hx,hxv⟩:=Et (l:=y.l) (v:=0) (by omega)
   have hgd:y.l.getD (dP y.l 0).toNat zE=x:=by rw[hj,KA,Kh,hx];rfl
   have en:iT lv a y=lnk n1 x.2 ⟨(a:Nat),2⟩:=by unfold iT;rw[if_pos hfz,hgd,hn1]
   have hxE:=y2 x (yu hx)
   have hx':=cL hx
   have c3:=xh (p:=x.2) (q:=⟨(a:Nat),2⟩) r1.ok hxE.wf hwq
   have r2:=jr (p:=x.2) (q:=⟨(a:Nat),2⟩) r1 hxE.wf hwq
   rw[←en]at c3 r2
   refine⟨r2,q2,q3,fun σ=>?_⟩
   refine ZE (fc:=F49) rfl rfl ?_
   obtain⟨c0,hc0⟩:∃c0,σ.clk=c0:=⟨_,rfl⟩
   rw[hc0]
   have ge:(0:Int)≤(j:Int):=by omega
   simp only[Ip,xN,RV,Ug,XM]at c1 c2 c3 y4
   simp only[F49,hc0,et,Ip,c1,hk1,hk0,zx,XM,Qp,Nat.reduceAdd,Ce,sI,Hh,Es,nxB,evO,simprocAttr]
   obtain⟨σ1,hσ1⟩:∃s,((((σ.add 4 (.var [.p (.l (m.ns.map Ug)),.p (.i .i64 m.cap)])).add 5 (.var [.p (.i .i64 t.k),.p (.i .i64 t.n),.p (.s t.s),.p (.l (t.l.map enc))])).add 8 (.var [.nil,.p (.i .i64 0),.p (.i .i64 0),.p (.i .i64 0),.nil,.p (.i .i64 0)])).put (4,c0) (.var [.p (.l ((Hc m ⟨2,lv,0,[],[],[]⟩).ns.map Ug)),.p (.i .i64 (Hc m ⟨2,lv,0,[],[],[]⟩).cap)]))=s:=⟨_,rfl⟩
   rw[hσ1]
   have hcl:σ1.clk=c0+3:=by rw[←hσ1];simp only[Rt,Bv,hc0]
   have hK1:Keep c0 σ σ1:=by rw[←hσ1];exact(Keep.adds (by omega) 4 5 8 _ _ _).put (k:=(4,c0)) (nh c0) _
   have b8:σ1.bs (8,c0+2)=some (.var [.nil,.p (.i .i64 0),.p (.i .i64 0),.p (.i .i64 0),.nil,.p (.i .i64 0)]):=by
    rw[←hσ1]
    have:¬((8,c0+2):Key)=(4,c0):=by intro e;injection e with e _;omega
    simp only[xL,this,if_false,Mq,Bv,hc0,Qp,Nat.reduceAdd,if_true]
   obtain⟨v,σ2,g1,X,rfl,g2,g3⟩:=y4 σ1
   rw[hcl]at g2 g3
   have b8':=(g3.bs (8,c0+2) (by show c0+2<c0+3;omega)).trans b8
   obtain⟨c1',hc1'⟩:∃c,σ2.clk=c:=⟨_,rfl⟩
   have hclk2:=g3.clk
   rw[hcl,hc1']at hclk2
   rcases g2 with⟨rfl,hnil⟩|⟨d,q,rfl,hXb,hX0,hX1⟩
   ·rw[hnil]at hjl;simp at hjl
   have q0:¬q=c1'∧¬c1'=q∧¬q=c1'+1:=by omega
   have hjl':(j:Int)<(y.l.length:Int):=by omega
   have htk:List.take y.l.length (y.l.map xu)=y.l.map xu:=Ea (by simp)
   rw[hj]at fd
   simp only[g1,c2,c3,htk,fd,hj,ge,hjl',a0,a1,a2,hXb,hx',q0,hc1',Ci,CC,KA,mB,Ce,sI,Hh,Es,nh,Fy,SZ,nxB,evO,simprocAttr]
   have kk:∀v1 v2 v3 v4 v5,Keep (c0+3) σ1 ((((((σ2.add 11 v1).put (11,c1') v2).put (11,c1') v3).put (11,c1') v4).put (11,c1') v5).add 94 (.row 3 104 [])):=fun v1 v2 v3 v4 v5=>
    ((((((g3.add (by omega) 11 v1).put (k:=(11,c1')) (by show c0+3≤c1';omega) v2).put (k:=(11,c1')) (by show c0+3≤c1';omega) v3).put (k:=(11,c1')) (by show c0+3≤c1';omega) v4).put (k:=(11,c1')) (by show c0+3≤c1';omega) v5).add (by show c0+3≤σ2.clk+1;omega) 94 _)
   refine Go.Fx.wp_mono (zr (l:=y.l) (m:=iT lv a y) (out:=⟨(a:Nat),0⟩) (X:=.own (d,q) 0 y.l.length) (c:=c0) (c1:=c1') (q0:=c1'+1) (by omega) y2 ?_ ⟨by omega,?_⟩ ?_ ?_ ?_ _ ?_ ?_ ?_) ?_
   ·refine .inr ⟨d,q,rfl,?_,by omega,?_⟩
    ·simp only[xL,Mq,Rt,Bv,hc1',ZP,q0,and_false,if_false];exact hXb
    ·show q<σ2.clk+1+1;omega
   ·show c1'+1<σ2.clk+1+1;omega
   ·have:¬c1'=c1'+1:=by omega
    simp only[xL,Mq,Rt,Bv,hc1',ZP,this,and_false,if_false,and_self,if_true,BU]
   ·simp only[Mq,Rt,Bv,hc1',if_true]
   ·intro d' q' h
    injection h with h _ _
    injection h with _ h
    omega
   ·simp only[nxB,evO,simprocAttr]
   ·simp only[nxB,evO,simprocAttr]
   ·simp only[nxB,evO,simprocAttr]
   ·rintro z e' τ ⟨rfl,f11,f8,⟨Y,f16,hY⟩,hK2⟩
    simp only[nxB,evO,simprocAttr]at f8
    have t11:=hK2.bs (11,c1') (by show c1'<c1'+1;omega)
    have t8:=(hK2.bs (8,c0+2) (by show c0+2<c1'+1;omega)).trans (((kk _ _ _ _ _).bs (8,c0+2) (by show c0+2<c0+3;omega)).trans b8)
    have n11:¬c1'=c1'+1:=by omega
    simp only[xL,Mq,Rt,Bv,hc1',ZP,n11,and_false,if_false,and_self,if_true]at t11
    have n8:¬(8,c0+2)=((11,c1'):Key):=by intro e;injection e with e _;omega
    simp only[f8,f11,f16,t11,t8,n8,od,BU,nxB,evO,simprocAttr]
    have hK3:=(hK1.trans ((kk _ _ _ _ _).mono (by omega))).trans (hK2.mono (by omega))
    refine⟨Y,rfl,((hY.putv t11 _).putv (k:=(8,c0+2)) (v:=[.nil,.p (.i .i64 0),.p (.i .i64 0),.p (.i .i64 0),.nil,.p (.i .i64 0)]) ?_ _).mono (by omega),(hK3.put (k:=(11,c1')) (by show c0≤c1';omega) _).put (k:=(8,c0+2)) (by show c0≤c0+2;omega) _⟩
    simp only[xL,n8,if_false];exact t8
  ·have hfn:=RC hfz
   have en:iT lv a y=lnk (Hc n1 (RV 7 lv)) ⟨(y.n.ns.length:Nat),0⟩ ⟨(a:Nat),2⟩:=by unfold iT;rw[if_neg hfz,hn1]
   have hl7:=hln.2.2 hfz
   have hN7:=ZM (k:=7) (by omega) hlv
   have hycap:y.n.cap=m.cap:=by rw[←hy,mo.cap,tu]
   have hrm7:((n1.ns.length+1:Nat):Int)≤n1.cap:=by rw[l1.1,l1.2];omega
   have c4:=QA (x:=RV 7 lv) r1 hN7 (by show¬(7:Int)<2;decide) (Ns hlv (by omega)) (by show lv≤60;omega) hrm7
   have r3:=Za r1 hN7 (by show(7:Int)≠0;decide) hrm7
   rw[l1.1]at c4
   obtain⟨b,hb⟩:∃b,y.n.ns.length=b:=⟨_,rfl⟩
   rw[hb]at c4 en hl7
   have hwd:=fB b 0 (by omega) (by omega)
   have c3:=xh (p:=⟨(b:Nat),0⟩) (q:=⟨(a:Nat),2⟩) r3.ok hwd hwq
   have r2:=jr (p:=⟨(b:Nat),0⟩) (q:=⟨(a:Nat),2⟩) r3 hwd hwq
   have d0:=DJ (b:Nat) 0
   rw[←en]at c3 r2
   refine⟨r2,q2,q3,fun σ=>?_⟩
   refine ZE (fc:=F49) rfl rfl ?_
   obtain⟨c0,hc0⟩:∃c0,σ.clk=c0:=⟨_,rfl⟩
   rw[hc0]
   simp only[Ip,xN,RV,Ug,XM]at c1 c2 c3 c4 y4
   simp only[F49,hc0,et,Ip,c1,hk1,hk0,zx,XM,Qp,Nat.reduceAdd,Ce,sI,Hh,Es,nxB,evO,simprocAttr]
   obtain⟨σ1,hσ1⟩:∃s,((((σ.add 4 (.var [.p (.l (m.ns.map Ug)),.p (.i .i64 m.cap)])).add 5 (.var [.p (.i .i64 t.k),.p (.i .i64 t.n),.p (.s t.s),.p (.l (t.l.map enc))])).add 8 (.var [.nil,.p (.i .i64 0),.p (.i .i64 0),.p (.i .i64 0),.nil,.p (.i .i64 0)])).put (4,c0) (.var [.p (.l ((Hc m ⟨2,lv,0,[],[],[]⟩).ns.map Ug)),.p (.i .i64 (Hc m ⟨2,lv,0,[],[],[]⟩).cap)]))=s:=⟨_,rfl⟩
   rw[hσ1]
   have hcl:σ1.clk=c0+3:=by rw[←hσ1];simp only[Rt,Bv,hc0]
   have hK1:Keep c0 σ σ1:=by rw[←hσ1];exact(Keep.adds (by omega) 4 5 8 _ _ _).put (k:=(4,c0)) (nh c0) _
   have b8:σ1.bs (8,c0+2)=some (.var [.nil,.p (.i .i64 0),.p (.i .i64 0),.p (.i .i64 0),.nil,.p (.i .i64 0)]):=by
    rw[←hσ1]
    have:¬((8,c0+2):Key)=(4,c0):=by intro e;injection e with e _;omega
    simp only[xL,this,if_false,Mq,Bv,hc0,Qp,Nat.reduceAdd,if_true]
   obtain⟨v,σ2,g1,X,rfl,g2,g3⟩:=y4 σ1
   rw[hcl]at g2 g3
   have b8':=(g3.bs (8,c0+2) (by show c0+2<c0+3;omega)).trans b8
   obtain⟨c1',hc1'⟩:∃c,σ2.clk=c:=⟨_,rfl⟩
   have hclk2:=g3.clk
   rw[hcl,hc1']at hclk2
   rw[hfn]at fd
   have hneg:¬((-1:Int)≥0):=by decide
   have kk:∀v1 v2 v3 v4 v5 v6 v7,Keep (c0+3) σ1 ((((((((σ2.add 11 v1).put (11,c1') v2).put (11,c1') v3).put (11,c1') v4).add 13 v5).put (13,c1'+1) v6).put (11,c1') v7).add 94 (.row 3 104 [])):=fun v1 v2 v3 v4 v5 v6 v7=>
    ((((((((g3.add (by omega) 11 v1).put (k:=(11,c1')) (by show c0+3≤c1';omega) v2).put (k:=(11,c1')) (by show c0+3≤c1';omega) v3).put (k:=(11,c1')) (by show c0+3≤c1';omega) v4).add (by show c0+3≤σ2.clk+1;omega) 13 v5).put (k:=(13,c1'+1)) (by show c0+3≤c1'+1;omega) v6).put (k:=(11,c1')) (by show c0+3≤c1';omega) v7).add (by show c0+3≤σ2.clk+1+1;omega) 94 _)
   have n11:¬c1'=c1'+1+1∧¬c1'=c1'+1:=by omega
   have n13:¬((11,c1'):Key)=(13,c1'+1):=by intro e;injection e with e _;omega
   rcases g2 with⟨rfl,hnil⟩|⟨d,q,rfl,hXb,hX0,hX1⟩
   ·rw[hnil,XM]at fd
    simp only[g1,c2,c3,c4,fd,hneg,a0,a1,a2,d0,hc1',Ci,CC,KA,Int.reduceNeg,mB,Ce,sI,Hh,Es,nh,Fy,SZ,nxB,evO,simprocAttr]
    refine Go.Fx.wp_mono (zr (l:=y.l) (m:=iT lv a y) (out:=⟨(a:Nat),0⟩) (X:=.nil) (c:=c0) (c1:=c1') (q0:=c1'+1+1) (by omega) y2 ?_ ⟨by omega,?_⟩ ?_ ?_ ?_ _ ?_ ?_ ?_) ?_
    ·exact .inl ⟨rfl,hnil⟩
    ·show c1'+1+1<σ2.clk+1+1+1;omega
    ·simp only[xL,Mq,Rt,Bv,hc1',ZP,n11,and_false,if_false,and_self,if_true,BU]
    ·simp only[Mq,Rt,Bv,hc1',if_true]
    ·intro d' q' h;cases h
    ·simp only[nxB,evO,simprocAttr]
    ·simp only[nxB,evO,simprocAttr]
    ·simp only[nxB,evO,simprocAttr]
    ·rintro z e' τ ⟨rfl,f11,f8,⟨Y,f16,hY⟩,hK2⟩
     simp only[nxB,evO,simprocAttr]at f8
     have t11:=hK2.bs (11,c1') (by show c1'<c1'+1+1;omega)
     have t8:=(hK2.bs (8,c0+2) (by show c0+2<c1'+1+1;omega)).trans (((kk _ _ _ _ _ _ _).bs (8,c0+2) (by show c0+2<c0+3;omega)).trans b8)
     simp only[xL,Mq,Rt,Bv,hc1',ZP,n11,and_false,if_false,and_self,if_true]at t11
     have n8:¬(8,c0+2)=((11,c1'):Key):=by intro e;injection e with e _;omega
     simp only[f8,f11,f16,t11,t8,n8,od,BU,nxB,evO,simprocAttr]
     have hK3:=(hK1.trans ((kk _ _ _ _ _ _ _).mono (by omega))).trans (hK2.mono (by omega))
     refine⟨Y,rfl,((hY.putv t11 _).putv (k:=(8,c0+2)) (v:=[.nil,.p (.i .i64 0),.p (.i .i64 0),.p (.i .i64 0),.nil,.p (.i .i64 0)]) ?_ _).mono (by omega),(hK3.put (k:=(11,c1')) (by show c0≤c1';omega) _).put (k:=(8,c0+2)) (by show c0≤c0+2;omega) _⟩
     simp only[xL,n8,if_false];exact t8
   ·have q0:¬q=c1'∧¬c1'=q∧¬q=c1'+1∧¬q=c1'+1+1:=by omega
    have htk:List.take y.l.length (y.l.map xu)=y.l.map xu:=Ea (by simp)
    simp only[g1,c2,c3,c4,htk,fd,hneg,a0,a1,a2,d0,hXb,q0,hc1',Ci,CC,KA,Int.reduceNeg,mB,Ce,sI,Hh,Es,nh,Fy,SZ,nxB,evO,simprocAttr]
    refine Go.Fx.wp_mono (zr (l:=y.l) (m:=iT lv a y) (out:=⟨(a:Nat),0⟩) (X:=.own (d,q) 0 y.l.length) (c:=c0) (c1:=c1') (q0:=c1'+1+1) (by omega) y2 ?_ ⟨by omega,?_⟩ ?_ ?_ ?_ _ ?_ ?_ ?_) ?_
    ·refine .inr ⟨d,q,rfl,?_,by omega,?_⟩
     ·simp only[xL,Mq,Rt,Bv,hc1',ZP,q0,and_false,if_false];exact hXb
     ·show q<σ2.clk+1+1+1;omega
    ·show c1'+1+1<σ2.clk+1+1+1;omega
    ·simp only[xL,Mq,Rt,Bv,hc1',ZP,n11,and_false,if_false,and_self,if_true,BU]
    ·simp only[Mq,Rt,Bv,hc1',if_true]
    ·intro d' q' h
     injection h with h _ _
     injection h with _ h
     omega
    ·simp only[nxB,evO,simprocAttr]
    ·simp only[nxB,evO,simprocAttr]
    ·simp only[nxB,evO,simprocAttr]
    ·rintro z e' τ ⟨rfl,f11,f8,⟨Y,f16,hY⟩,hK2⟩
     simp only[nxB,evO,simprocAttr]at f8
     have t11:=hK2.bs (11,c1') (by show c1'<c1'+1+1;omega)
     have t8:=(hK2.bs (8,c0+2) (by show c0+2<c1'+1+1;omega)).trans (((kk _ _ _ _ _ _ _).bs (8,c0+2) (by show c0+2<c0+3;omega)).trans b8)
     simp only[xL,Mq,Rt,Bv,hc1',ZP,n11,and_false,if_false,and_self,if_true]at t11
     have n8:¬(8,c0+2)=((11,c1'):Key):=by intro e;injection e with e _;omega
     simp only[f8,f11,f16,t11,t8,n8,od,BU,nxB,evO,simprocAttr]
     have hK3:=(hK1.trans ((kk _ _ _ _ _ _ _).mono (by omega))).trans (hK2.mono (by omega))
     refine⟨Y,rfl,((hY.putv t11 _).putv (k:=(8,c0+2)) (v:=[.nil,.p (.i .i64 0),.p (.i .i64 0),.p (.i .i64 0),.nil,.p (.i .i64 0)]) ?_ _).mono (by omega),(hK3.put (k:=(11,c1')) (by show c0≤c1';omega) _).put (k:=(8,c0+2)) (by show c0≤c0+2;omega) _⟩
     simp only[xL,n8,if_false];exact t8
def Lg(y:W):List PV:=[.l (y.n.ns.map Ug),.i .i64 y.n.cap,.i .i64 y.out.n,.i .i64 y.out.s,.l (y.l.map xu),.i .i64 0]
structure Fit(y:W):Prop where
 room:Room y.n
 ends:∀x∈y.l,OkE x
 out:(0≤y.out.n∧y.out.n≤5000)∧(0≤y.out.s∧y.out.s≤100)
theorem K6{lv:Int}(hlv:0≤lv∧lv≤60):∀(l:List En) (n:Nt),Room n→(∀x∈l,OkE x)→((n.ns.length+l.length:Nat):Int)≤n.cap→Room (Io lv l n).1∧∀x∈(Io lv l n).2,OkE x
 |[],n,h,hE,hr=>⟨h,hE⟩
 |x::r,n,h,hE,hr=>by
  have e:Io lv (x::r) n=((Io lv r (lnk (Hc n (RV 6 lv)) ⟨(n.ns.length:Nat),1⟩ x.2)).1,(x.1,⟨(n.ns.length:Nat),0⟩)::(Io lv r (lnk (Hc n (RV 6 lv)) ⟨(n.ns.length:Nat),1⟩ x.2)).2):=rfl
  rw[e]
  simp only[Ce]at hr
  have hcap:=h.cap
  have h1:=Za h (ZM (k:=6) (by omega) hlv) (by show(6:Int)≠0;decide) (by omega)
  have h2:=jr (p:=⟨(n.ns.length:Nat),1⟩) (q:=x.2) h1 (fB n.ns.length 1 (by omega) (by omega)) (hE x (by simp)).wf
  have hl:=EI (Hc n (RV 6 lv)) ⟨(n.ns.length:Nat),1⟩ x.2
  rw[ql,tu]at hl
  obtain⟨i1,i2⟩:=K6 hlv r _ h2 (fun y hy=>hE y (by simp[hy])) (by rw[hl.1,hl.2];omega)
  refine⟨i1,fun y hy=>?_⟩
  rcases qY.1 hy with rfl|hy
  ·exact⟨(hE x (by simp)).1,⟨by show(0:Int)≤((n.ns.length:Nat):Int);omega,by show((n.ns.length:Nat):Int)≤_;omega⟩,⟨by show(0:Int)≤0;decide,by show(0:Int)≤_;decide⟩⟩
  ·exact i2 y hy
def UR(t:T)(a:Bool)(lv:Int):Prop:=if a then∃n s b,t= .mk 6 n s [b]∧0≤n∧n≤8∧qT 49 (tR b n.toNat lv) (partG t lv)else qT 26 (fN t lv) (partG t lv)
theorem oL{t x:T}{i:Nat}{lv:Int}{n:Nt}(hx:t.l[i]? =some x)(hl:t.l.length≤1000)(hlv:0≤lv∧lv≤60)(hn:Room n)(hr:((XG t.k lv i x n).n.ns.length:Int)≤n.cap)
  (hM:∀lv,∃B,Mono (partG x lv) B) (hb:ZD t.k i→qT 26 (fN x (lv+1)) (partG x (lv+1))) (hg:¬ZD t.k i→UR x (decide (t.k=5∧0<i)) lv):
  Fit (XG t.k lv i x n)∧eP S 90 [.g (Ip n),.g (enc t),.a (.i .i64 (i:Nat)),.a (.i .i64 lv)]=some (.g (Lg (XG t.k lv i x n))):=by
 have et:=W4 t
 have ex:=W4 x
 have hil:=(QU.1 hx).1
 have hx':(t.l.map enc)[i]? =some (enc x):=by simp[hx]
 have hlt:((i:Nat):Int)<(t.l.length:Int):=by omega
 have hge:(0:Int)≤((i:Nat):Int):=by omega
 have hal:((t.l.map enc).all fun r=>decide (r.length=4))=true:=PH t.l
 have hw1:IntKind.i64.wrap (lv+1)=lv+1:=qI _ (by omega)
 obtain⟨σ1,hσ1⟩:∃s,((((St.empty.add 4 (.var [.p (.l (n.ns.map Ug)),.p (.i .i64 n.cap)])).add 5 (.var [.p (.i .i64 t.k),.p (.i .i64 t.n),.p (.s t.s),.p (.l (t.l.map enc))])).add 8 (.var [.nil,.p (.i .i64 0),.p (.i .i64 0),.p (.i .i64 0),.nil,.p (.i .i64 0)])).add 9 (.var [.p (.i .i64 0),.p (.i .i64 0),.p (.s []),.nil])).put (9,3) (.var [.p (.i .i64 x.k),.p (.i .i64 x.n),.p (.s x.s),.p (.l (x.l.map enc))])=s:=⟨_,rfl⟩
 have hcl:σ1.clk=4:=by rw[←hσ1];rfl
 by_cases hbx:ZD t.k i
 ·have hg:=hb hbx
  unfold XG at hr⊢
  simp only[if_pos hbx]at hr⊢
  obtain⟨B,hM⟩:=hM (lv+1)
  have hmc:=hM.cap n
  have bl:=RH lv (partG x (lv+1) n).l (partG x (lv+1) n).n
  have hr':((Io lv (partG x (lv+1) n).l (partG x (lv+1) n).n).1.ns.length:Int)≤n.cap:=hr
  obtain⟨g1,g2,g3,g4⟩:=hg n hn (by omega)
  obtain⟨y,hy⟩:∃y,partG x (lv+1) n=y:=⟨_,rfl⟩
  rw[hy]at hmc bl hr' g1 g2 g3 g4⊢
  obtain⟨f1,f2⟩:=K6 hlv y.l y.n g1 g2 (by omega)
  refine⟨⟨f1,f2,g3⟩,?_⟩
  obtain⟨v,σ2,k1,X,rfl,k2,k3⟩:=g4 σ1
  have hclk:=k3.clk
  obtain⟨v,σ3,m1,X',rfl,m2,m3⟩:=NW (n:=y.n) (out:=y.out) (l:=y.l) (lv:=lv) g1 hlv (by omega) g2 (c:=σ1.clk) (σ:=σ2) (X:=X) hclk k2
  rw[hcl]at k2 k3 m2 m3
  simp only[fN,ex,Ip,BU,zx,XM]at k1 m1
  refine Cf (xO (by decide)) (fc:=F90) rfl rfl ?_
  unfold Lg Mb
  have b8:σ3.bs (8,2)=some (.var [.nil,.p (.i .i64 0),.p (.i .i64 0),.p (.i .i64 0),.nil,.p (.i .i64 0)]):=by
   rw[m3.bs (8,2) (by decide),k3.bs (8,2) (by decide),←hσ1];rfl
  have htk:List.take (Io lv y.l y.n).2.length ((Io lv y.l y.n).2.map xu)=(Io lv y.l y.n).2.map xu:=Ea (by simp)
  have key:∀(h4:Bool),h4=decide (t.k=4)→wp S false F90.body (Env.init [.g ((Ip n).map .p),.g ((enc t).map .p),.a (.p (.i .i64 (i:Nat))),.a (.p (.i .i64 lv))]) St.empty (zQ F90.res (.g [.l ((Io lv y.l y.n).1.ns.map Ug),.i .i64 (Io lv y.l y.n).1.cap,.i .i64 y.out.n,.i .i64 y.out.s,.l ((Io lv y.l y.n).2.map xu),.i .i64 0])):=by
   intro h4 hh
   by_cases k4:t.k=4
   ·simp only[F90,et,ex,Ip,hx',hlt,hge,hal,hw1,KA,mB,zx,XM,Ce,sI,nxB,evO,simprocAttr,k4,Int.reduceEq]
    rw[k4]at hσ1
    rw[hσ1]
    rcases m2 with⟨rfl,hnil⟩|⟨d,q,rfl,hXb,hX0,hX1⟩
    ·rw[hnil]
     simp only[k1,m1,b8,XM,nxB,evO,simprocAttr]
    ·have n8:¬((d,q):Key)=(8,2):=by rintro e;rw[e,b8]at hXb;cases hXb
     simp only[k1,m1,b8,hXb,n8,htk,mB,nh,Fy,nxB,evO,simprocAttr]
   ·have k3':t.k=3∧((i:Nat):Int)=1:=by unfold ZD at hbx;omega
    obtain⟨k30,k31⟩:=k3'
    have hi1:i=1:=by omega
    subst hi1
    have c1:((1:Nat):Int)=1:=rfl
    have hlt1:(1:Int)<(t.l.length:Int):=hlt
    have t1:Int.toNat 1=1:=rfl
    simp only[F90,et,ex,Ip,hx',hlt,hge,hal,hw1,KA,mB,zx,XM,Ce,sI,nxB,evO,simprocAttr,k30,c1,t1,hlt1,Int.reduceEq,Int.reduceLE]
    rw[k30]at hσ1
    rw[hσ1]
    rcases m2 with⟨rfl,hnil⟩|⟨d,q,rfl,hXb,hX0,hX1⟩
    ·rw[hnil]
     simp only[k1,m1,b8,XM,nxB,evO,simprocAttr]
    ·have n8:¬((d,q):Key)=(8,2):=by rintro e;rw[e,b8]at hXb;cases hXb
     simp only[k1,m1,b8,hXb,n8,htk,mB,nh,Fy,nxB,evO,simprocAttr]
  exact key _ rfl
 ·have hg:=hg hbx
  unfold XG at hr⊢
  simp only[if_neg hbx]at hr⊢
  unfold ZD at hbx
  have G:∀(P:Prop),(∀(gg:FuncId) (aa:Nt→List TV),qT gg aa (partG x lv)→((t.k=5∧0<i∧gg=49∧∃n' s' b,x= .mk 6 n' s' [b]∧0≤n'∧n'≤8∧aa=tR b n'.toNat lv)∨(¬(t.k=5∧0<i)∧gg=26∧aa=fN x lv))→P)→P:=by
   intro P hP
   unfold UR at hg
   by_cases h5:t.k=5∧0<i
   ·rw[decide_eq_true h5,if_pos rfl]at hg
    obtain⟨n',s',b,e1,e2,e3,e4⟩:=hg
    exact hP _ _ e4 (.inl ⟨h5.1,h5.2,rfl,n',s',b,e1,e2,e3,rfl⟩)
   ·rw[decide_eq_false h5]at hg
    exact hP _ _ hg (.inr ⟨h5,rfl,rfl⟩)
  refine G _ fun gg aa hgo hcase=>?_
  obtain⟨g1,g2,g3,g4⟩:=hgo n hn hr
  obtain⟨y,hy⟩:∃y,partG x lv n=y:=⟨_,rfl⟩
  rw[hy]at hr g1 g2 g3 g4⊢
  refine⟨⟨g1,g2,g3⟩,?_⟩
  obtain⟨v,σ2,k1,X,rfl,k2,k3⟩:=g4 σ1
  rw[hcl]at k2 k3
  refine Cf (xO (by decide)) (fc:=F90) rfl rfl ?_
  unfold Lg
  have b8:σ2.bs (8,2)=some (.var [.nil,.p (.i .i64 0),.p (.i .i64 0),.p (.i .i64 0),.nil,.p (.i .i64 0)]):=by
   rw[k3.bs (8,2) (by decide),←hσ1];rfl
  have htk:List.take y.l.length (y.l.map xu)=y.l.map xu:=Ea (by simp)
  have k4:¬t.k=4:=by omega
  have hk31:¬(t.k=3∧((i:Nat):Int)=1):=by omega
  rcases hcase with⟨h5,hi0,rfl,n',s',b,rfl,hn0,hn8,rfl⟩|⟨h5,rfl,rfl⟩
  ·have eb:=W4 b
   have hi0':((i:Nat):Int)>0:=by omega
   have hn':((n'.toNat:Nat):Int)=n':=by omega
   simp only[tR,hn',eb,Ip,BU,zx,XM]at k1
   have ex':enc (.mk 6 n' s' [b])=[.i .i64 6,.i .i64 n',.s s',.l [[.i .i64 b.k,.i .i64 b.n,.s b.s,.l (b.l.map enc)]]]:=by rw[←eb];rfl
   rw[ex']at hx'
   have hσ2:((((St.empty.add 4 (.var [.p (.l (n.ns.map Ug)),.p (.i .i64 n.cap)])).add 5 (.var [.p (.i .i64 5),.p (.i .i64 t.n),.p (.s t.s),.p (.l (t.l.map enc))])).add 8 (.var [.nil,.p (.i .i64 0),.p (.i .i64 0),.p (.i .i64 0),.nil,.p (.i .i64 0)])).add 9 (.var [.p (.i .i64 0),.p (.i .i64 0),.p (.s []),.nil])).put (9,3) (.var [.p (.i .i64 6),.p (.i .i64 n'),.p (.s s'),.p (.l [[.i .i64 b.k,.i .i64 b.n,.s b.s,.l (b.l.map enc)]])])=σ1:=by
    rw[←hσ1,h5,←eb];rfl
   simp only[F90,et,Ip,hx',hlt,hge,hal,hw1,KA,mB,zx,XM,Ce,sI,nxB,evO,simprocAttr,h5,hi0',Int.reduceEq]
   rw[hσ2]
   have z1:(0:Int)<((1:Nat):Int):=by decide
   have t0:Int.toNat 0=0:=rfl
   have b9:σ1.bs (9,3)=some (.var [.p (.i .i64 6),.p (.i .i64 n'),.p (.s s'),.p (.l [[.i .i64 b.k,.i .i64 b.n,.s b.s,.l (b.l.map enc)]])]):=by rw[←hσ2];rfl
   rcases k2 with⟨rfl,hnil⟩|⟨d,q,rfl,hXb,hX0,hX1⟩
   ·rw[hnil]
    simp only[kS,z1,t0,b9,aT,k1,b8,XM,nxB,evO,simprocAttr]
   ·have n8:¬((d,q):Key)=(8,2):=by rintro e;rw[e,b8]at hXb;cases hXb
    simp only[kS,z1,t0,b9,aT,k1,b8,hXb,n8,htk,mB,nh,Fy,nxB,evO,simprocAttr]
  ·simp only[fN,ex,Ip,BU,zx,XM]at k1
   by_cases k3e:t.k=3
   ·have hi1:¬((i:Nat):Int)=1:=fun h=>hk31 ⟨k3e,h⟩
    simp only[F90,et,Ip,hx',hlt,hge,hal,hw1,KA,mB,zx,XM,Ce,sI,nxB,evO,simprocAttr,ex,k3e,hi1,Int.reduceEq]
    rw[k3e]at hσ1
    rw[hσ1]
    rcases k2 with⟨rfl,hnil⟩|⟨d,q,rfl,hXb,hX0,hX1⟩
    ·rw[hnil]
     simp only[k1,b8,XM,nxB,evO,simprocAttr]
    ·have n8:¬((d,q):Key)=(8,2):=by rintro e;rw[e,b8]at hXb;cases hXb
     simp only[k1,b8,hXb,n8,htk,mB,nh,Fy,nxB,evO,simprocAttr]
   ·by_cases k5:t.k=5
    ·have hi0:¬((i:Nat):Int)>0:=by omega
     simp only[F90,et,Ip,hx',hlt,hge,hal,hw1,KA,mB,zx,XM,Ce,sI,nxB,evO,simprocAttr,ex,k5,hi0,Int.reduceEq]
     rw[k5]at hσ1
     rw[hσ1]
     rcases k2 with⟨rfl,hnil⟩|⟨d,q,rfl,hXb,hX0,hX1⟩
     ·rw[hnil]
      simp only[k1,b8,XM,nxB,evO,simprocAttr]
     ·have n8:¬((d,q):Key)=(8,2):=by rintro e;rw[e,b8]at hXb;cases hXb
      simp only[k1,b8,hXb,n8,htk,mB,nh,Fy,nxB,evO,simprocAttr]
    ·simp only[F90,et,Ip,hx',hlt,hge,hal,hw1,KA,mB,zx,XM,Ce,sI,nxB,evO,simprocAttr,ex,k3e,k4,k5]
     rw[hσ1]
     rcases k2 with⟨rfl,hnil⟩|⟨d,q,rfl,hXb,hX0,hX1⟩
     ·rw[hnil]
      simp only[k1,b8,XM,nxB,evO,simprocAttr]
     ·have n8:¬((d,q):Key)=(8,2):=by rintro e;rw[e,b8]at hXb;cases hXb
      simp only[k1,b8,hXb,n8,htk,mB,nh,Fy,nxB,evO,simprocAttr]
structure SubS(t:T)(lv:Int)(i:Nat)(x:T):Prop where
 ok:∀n:Nt,Room n→((XG t.k lv i x n).n.ns.length:Int)≤n.cap→Fit (XG t.k lv i x n)∧eP S 90 [.g (Ip n),.g (enc t),.a (.i .i64 (i:Nat)),.a (.i .i64 lv)]=some (.g (Lg (XG t.k lv i x n)))
 len:∀n:Nt,n.ns.length≤(XG t.k lv i x n).n.ns.length∧(XG t.k lv i x n).n.cap=n.cap∧(XG t.k lv i x n).l.length≤1000
theorem G8{t:T}{lv:Int}{a:Nat}:∀(l:List T) (i:Nat) (x:Nt×List En),(∀(j:Nat) (u:T),l[j]? =some u→SubS t lv (i+j) u)→x.1.ns.length≤(kidsG l t.k lv a i x).1.ns.length∧(kidsG l t.k lv a i x).1.cap=x.1.cap
 |[],i,x,_=>⟨nh _,rfl⟩
 |u::r,i,x,h=>by
  rw[U5]
  have h1:=G8 (a:=a) r (i+1) (JP t.k lv a i (XG t.k lv i u x.1) x.2) fun j v hj=>by
   have:=h (j+1) v hj
   rwa [show i+(j+1)=i+1+j by omega]at this
  have h2:=uN t.k lv a i (XG t.k lv i u x.1) x.2
  have h3:=(h 0 u rfl).len x.1
  rw[Ln]at h3
  exact⟨by omega,h1.2.trans (h2.2.2.1.trans h3.2.1)⟩
theorem JR{t:T}{lv:Int}{a:Nat}(hl:t.l.length≤1000)(hlv:0≤lv∧lv≤60)(ha:a≤4000)(hS:∀(i:Nat) (x:T),t.l[i]? =some x→SubS t lv i x)
  {N0:Nt} (hN0:Room N0) {R:Nt×List En} (hR:kidsG t.l t.k lv a 0 (N0,[])=R) (hfit:(R.1.ns.length:Int)≤N0.cap)
  {c0:Nat} {σ0:St} (hc0:c0+5≤σ0.clk) {xk xn:Int} {xs:List UInt8} {A Z:AV}
  (b4:σ0.bs (4,c0+1)=some (.var [.p (.i .i64 t.k),.p (.i .i64 t.n),.p (.s t.s),.p (.l (t.l.map enc))]))
  (b5:σ0.bs (5,c0+2)=some (.var [.p (.i .i64 xk),.p (.i .i64 lv),.p (.i .i64 xn),.p (.s xs),A,Z]))
  (b9:σ0.bs (9,c0+4)=some (.var [.p (.l (N0.ns.map Ug)),.p (.i .i64 N0.cap),.p (.i .i64 0),.p (.i .i64 0),.nil,.p (.i .i64 0)]))
  (e:Env) (e4:e 4= .a (.ptr (4,c0+1) 0 0)) (e5:e 5= .a (.ptr (5,c0+2) 0 0)) (e7:e 7= .a (.p (.i .i64 (a:Nat)))) (e9:e 9= .a (.ptr (9,c0+4) 0 0)) (e10:e 10= .a (.p (.i .i64 0))):
  wp S false (.loop F50b0) e σ0 (fun z e' σ'=>z= .exit 0∧e' 4= .a (.ptr (4,c0+1) 0 0)∧e' 6=e 6∧e' 7= .a (.p (.i .i64 (a:Nat)))∧e' 9= .a (.ptr (9,c0+4) 0 0)∧
   (∃out X,σ'.bs (9,c0+4)=some (.var (BU R.1 out X))∧TM c0 σ' X R.2)∧Keep (c0+4) σ0 σ'∧Room R.1∧∀x∈R.2,OkE x):=by
 obtain⟨u6,hu6⟩:∃z,e 6=z:=⟨_,rfl⟩
 rw[hu6]
 have hcap0:=hN0.cap
 refine Fs t.l.length (fun i e τ=>e 4= .a (.ptr (4,c0+1) 0 0)∧e 5= .a (.ptr (5,c0+2) 0 0)∧e 6=u6∧e 7= .a (.p (.i .i64 (a:Nat)))∧e 9= .a (.ptr (9,c0+4) 0 0)∧e 10= .a (.p (.i .i64 (i:Nat)))∧
  ∃(N:Nt) (E:List En) (out:Pt) (X:AV),τ.bs (9,c0+4)=some (.var (BU N out X))∧TM c0 τ X E∧Room N∧N.cap=N0.cap∧(∀x∈E,OkE x)∧E.length≤1000*i∧kidsG (t.l.drop i) t.k lv a i (N,E)=R∧Keep (c0+4) σ0 τ) (i0:=0) (ji _)
  ⟨e4,e5,hu6,e7,e9,e10,N0,[],⟨0,0⟩,.nil,b9,.inl ⟨rfl,rfl⟩,hN0,rfl,by simp,by simp,hR,Keep.refl _ _⟩ ?_ ?_
 ·rintro i e τ hi ⟨e4,e5,e6,e7,e9,e10,N,E,out,X,t9,hX,hN,hNc,hE,hEl,hK,hKe⟩
  obtain⟨x,hx⟩:∃x,t.l[i]? =some x:=⟨_,Xb hi⟩
  have hSx:=hS i x hx
  have t4:=(hKe.bs (4,c0+1) (by show c0+1<c0+4;omega)).trans b4
  have t5:=(hKe.bs (5,c0+2) (by show c0+2<c0+4;omega)).trans b5
  have hdr:t.l.drop i=x::t.l.drop (i+1):=WB hx
  rw[hdr,U5]at hK
  have hkl:=G8 (t:=t) (lv:=lv) (a:=a) (t.l.drop (i+1)) (i+1) (JP t.k lv a i (XG t.k lv i x N) E) fun j u hj=>by
   rw[L9]at hj;exact hS _ _ hj
  rw[hK]at hkl
  have hks:=uN t.k lv a i (XG t.k lv i x N) E
  have hsl:=hSx.len N
  obtain⟨s1,s2⟩:=hSx.ok N hN (by omega)
  obtain⟨y,hy⟩:∃y,XG t.k lv i x N=y:=⟨_,rfl⟩
  rw[hy]at hK hkl hks hsl s1 s2
  obtain⟨sl,hsle⟩:∃sl:Nat,Od t.k i=sl:=⟨_,rfl⟩
  have hslb:sl≤1001:=by rw[←hsle];unfold Od;split<;>omega
  have wo:wf y.out.n∧wf y.out.s:=by have:=s1.out;exact⟨⟨by omega,by omega⟩,⟨by omega,by omega⟩⟩
  have ws:wf ((a:Nat):Int)∧wf ((sl:Nat):Int):=⟨⟨by omega,by omega⟩,⟨by omega,by omega⟩⟩
  have c1:=DJ (a:Nat) (sl:Nat)
  have c2:=xh (p:=y.out) (q:=⟨(a:Nat),(sl:Nat)⟩) s1.room.ok wo ws
  have r1:=jr (p:=y.out) (q:=⟨(a:Nat),(sl:Nat)⟩) s1.room wo ws
  have l1:=EI y.n y.out ⟨(a:Nat),(sl:Nat)⟩
  have ek:JP t.k lv a i y E=C5 lv y.l E (lnk y.n y.out ⟨(a:Nat),(sl:Nat)⟩):=by unfold JP;rw[hsle]
  rw[ek]at hK hkl hks
  obtain⟨n1,hn1⟩:∃n1,lnk y.n y.out ⟨(a:Nat),(sl:Nat)⟩=n1:=⟨_,rfl⟩
  rw[hn1]at c2 r1 l1 hK hkl hks
  obtain⟨κ,hκ⟩:∃κ,τ.clk=κ:=⟨_,rfl⟩
  have hkc:=hKe.clk
  obtain⟨τ1,hτ1⟩:∃s,((τ.add 11 (.var [.nil,.p (.i .i64 0),.p (.i .i64 0),.p (.i .i64 0),.nil,.p (.i .i64 0)])).put (11,κ) (.var [.p (.l (y.n.ns.map Ug)),.p (.i .i64 y.n.cap),.p (.i .i64 y.out.n),.p (.i .i64 y.out.s),.p (.l (y.l.map xu)),.p (.i .i64 0)])).put (11,κ) (.var [.p (.l (n1.ns.map Ug)),.p (.i .i64 n1.cap),.p (.i .i64 y.out.n),.p (.i .i64 y.out.s),.p (.l (y.l.map xu)),.p (.i .i64 0)])=s:=⟨_,rfl⟩
  have hτ1c:τ1.clk=κ+1:=by rw[←hτ1];simp only[Rt,Bv,hκ]
  have hτ1k:Keep κ τ τ1:=by rw[←hτ1];exact(((Keep.refl κ τ).add (by omega) _ _).put (k:=(11,κ)) (nh κ) _).put (k:=(11,κ)) (nh κ) _
  have hX1:TM c0 τ1 X E:=hX.keep (by rw[hκ];exact hτ1k)
  obtain⟨v,τ2,m1,X',rfl,m2,m3,m4,m5⟩:=U9 (n:=n1) (out:=y.out) (yl:=y.l) (l:=E) (lv:=lv) r1 hlv (by rw[l1.2];omega) s1.ends hE (by omega) (c:=c0) (σ:=τ1) (X:=X) (by omega) hX1
  rw[hτ1c]at m3
  have t9':τ2.bs (9,c0+4)=some (.var (BU N out X)):=by
   rw[m3.bs (9,c0+4) (by show c0+4<κ+1;omega),hτ1k.bs (9,c0+4) (by show c0+4<κ;omega)];exact t9
  have t5':τ2.bs (5,c0+2)=some (.var [.p (.i .i64 xk),.p (.i .i64 lv),.p (.i .i64 xn),.p (.s xs),A,Z]):=by
   rw[m3.bs (5,c0+2) (by show c0+2<κ+1;omega),hτ1k.bs (5,c0+2) (by show c0+2<κ;omega)];exact t5
  have hlt:((i:Nat):Int)<(t.l.length:Int):=by omega
  have hge:(0:Int)≤((i:Nat):Int):=by omega
  have hw:=zz i (by omega)
  have n9:¬((9,c0+4):Key)=(11,κ):=by intro e;injection e with e _;omega
  have n4:¬((4,c0+1):Key)=(11,κ):=by intro e;injection e with e _;omega
  have n5:¬((5,c0+2):Key)=(11,κ):=by intro e;injection e with e _;omega
  have k9:¬c0+4=κ∧¬c0+2=κ∧¬c0+1=κ:=by omega
  have et:=W4 t
  unfold Lg at s2
  simp only[Ip,xN]at c2
  simp only[et,Ip]at s2
  simp only[BU]at t9 t9' m1
  obtain⟨Pm,hPm⟩:∃P,C5 lv y.l E n1=P:=⟨_,rfl⟩
  rw[hPm]at m1 m2 m4 m5 hK hkl hks
  have fin:∃(N:Nt) (E:List En) (out:Pt) (X:AV),some (Blk.var (BU Pm.1 y.out X'))=some (Blk.var (BU N out X))∧TM c0 (τ2.put (9,c0+4) (.var (BU Pm.1 y.out X'))) X E∧Room N∧N.cap=N0.cap∧(∀x∈E,OkE x)∧E.length≤1000*(i+1)∧kidsG (t.l.drop (i+1)) t.k lv a (i+1) (N,E)=R∧Keep (c0+4) σ0 (τ2.put (9,c0+4) (.var (BU Pm.1 y.out X'))):=by
   refine⟨Pm.1,Pm.2,y.out,X',rfl,m2.putv t9' _,m5,by omega,m4,by omega,hK,?_⟩
   exact((hKe.trans ((hτ1k.mono (by omega)).trans (m3.mono (by omega)))).put (k:=(9,c0+4)) (nh _) _)
  simp only[BU]at fin
  have hgo:(((i:Nat):Int)=0∧t.k≠4∧sl=0)∨(((i:Nat):Int)=0∧t.k=4∧sl=i+1)∨(¬((i:Nat):Int)=0∧sl=i+1):=by
   rw[←hsle];unfold Od;split<;>omega
  rcases hgo with⟨h1,h2,rfl⟩|⟨h1,h2,rfl⟩|⟨h1,rfl⟩
  ·have h1t:=eq_true h1
   have z0:((0:Nat):Int)=0:=rfl
   rw[z0]at c1 c2
   simp only[F50b0,e4,e5,e6,e7,e9,e10,t4,t5,t9,hlt,hw,s2,h1t,h2,c1,c2,hκ,n9,n4,n5,k9,mB,Ce,sI,Hh,Es,nxB,evO,simprocAttr]
   rw[hτ1]
   simp only[m1,t9',e4,e5,e6,e7,e9,e10,hw,n9,n4,n5,k9,Ce,sI,BU,nxB,evO,simprocAttr]
   exact fin
  ·have h1t:=eq_true h1
   have h2t:=eq_true h2
   simp only[F50b0,e4,e5,e6,e7,e9,e10,t4,t5,t9,hlt,hw,s2,h1t,h2t,not_true,c1,c2,hκ,n9,n4,n5,k9,mB,Ce,sI,Hh,Es,nxB,evO,simprocAttr]
   rw[hτ1]
   simp only[m1,t9',e4,e5,e6,e7,e9,e10,hw,n9,n4,n5,k9,Ce,sI,BU,nxB,evO,simprocAttr]
   exact fin
  ·simp only[F50b0,e4,e5,e6,e7,e9,e10,t4,t5,t9,hlt,hw,s2,h1,c1,c2,hκ,n9,n4,n5,k9,mB,Ce,sI,Hh,Es,nxB,evO,simprocAttr]
   rw[hτ1]
   simp only[m1,t9',e4,e5,e6,e7,e9,e10,hw,n9,n4,n5,k9,Ce,sI,BU,nxB,evO,simprocAttr]
   exact fin
 ·rintro e τ ⟨e4,e5,e6,e7,e9,e10,N,E,out,X,t9,hX,hN,hNc,hE,hEl,hK,hKe⟩
  have t4:=(hKe.bs (4,c0+1) (by show c0+1<c0+4;omega)).trans b4
  have hlt:¬((t.l.length:Nat):Int)<(t.l.length:Int):=by omega
  rw[Bn,Qw]at hK
  subst hK
  simp only[F50b0,e4,e5,e6,e7,e9,e10,t4,hlt,mB,nxB,evO,simprocAttr]
  exact⟨⟨out,X,t9,hX⟩,hKe,hN,hE⟩
theorem Keep.adds4{c:Nat}{σ:St}(hc:c≤σ.clk)(d1 d2 d3 d4:Nat)(x1 x2 x3 x4:Blk):Keep c σ ((((σ.add d1 x1).add d2 x2).add d3 x3).add d4 x4):=
 (Keep.adds hc d1 d2 d3 x1 x2 x3).add (by simp only[Bv];omega) _ _
theorem Oo{t:T}{lv:Int}{m:Nt}{x:Nd}(hl:t.l.length≤1000)(hlv:0≤lv∧lv≤60)(hm:Room m)(hx:x.Ok)(hmay:x.may)(hk:¬x.k<2)(hxl:x.lv=lv)(hS:∀(i:Nat) (u:T),t.l[i]? =some u→SubS t lv i u)
  (hfit:((kidsG t.l t.k lv m.ns.length 0 (Hc m x,[])).1.ns.length:Int)≤m.cap) {c:Nat} {σ:St} (hc:c≤σ.clk) {A Z:AV}
  (hA:(A= .nil∧x.al=[]∧Z= .nil∧x.to=[])∨(A= .nil∧x.al=[]∧Z= .p (.l (x.to.map xN)))∨(∃d q,A= .own (d,q) 0 x.al.length∧σ.bs (d,q)=some (.row 2 107 (x.al.map uO))∧c≤q∧q<σ.clk∧Z= .nil∧x.to=[])):
  ∃v σ',eS S (.f 50) [.g ((Ip m).map .p),.g ((enc t).map .p),.g [.p (.i .i64 x.k),.p (.i .i64 x.lv),.p (.i .i64 x.n),.p (.s x.s),A,Z]] σ=some (v,σ')∧
   ∃X,v= .g (BU (kidsG t.l t.k lv m.ns.length 0 (Hc m x,[])).1 ⟨(m.ns.length:Nat),(CF t.k:Nat)⟩ X)∧TM c σ' X (kidsG t.l t.k lv m.ns.length 0 (Hc m x,[])).2∧Keep c σ σ'∧
    Room (kidsG t.l t.k lv m.ns.length 0 (Hc m x,[])).1∧∀z∈(kidsG t.l t.k lv m.ns.length 0 (Hc m x,[])).2,OkE z:=by
 refine ZE (fc:=F50) rfl rfl ?_
 obtain⟨c0,hc0⟩:∃c0,σ.clk=c0:=⟨_,rfl⟩
 rw[hc0]at hc
 obtain⟨R,hR⟩:∃R,kidsG t.l t.k lv m.ns.length 0 (Hc m x,[])=R:=⟨_,rfl⟩
 have hcap:=hm.cap
 have kl:=G8 (t:=t) (lv:=lv) (a:=m.ns.length) t.l 0 (Hc m x,[]) fun j u hj=>by rw[Fy];exact hS j u hj
 rw[ql,tu]at kl
 rw[hR]at hfit kl⊢
 have hrm:((m.ns.length+1:Nat):Int)≤m.cap:=by omega
 have hm1:=Za hm hx (by omega) hrm
 have c1:=QA (x:=x) hm hx hk hmay (by omega) hrm
 have a1:=DJ (m.ns.length:Nat) 1
 have a0:=DJ (m.ns.length:Nat) 0
 obtain⟨a,ha⟩:∃a,m.ns.length=a:=⟨_,rfl⟩
 rw[ha]at c1 a1 a0 hR kl⊢
 have ha4:a≤4000:=by omega
 have et:=W4 t
 have n36:¬c0=c0+3∧¬c0+1=c0∧¬c0+2=c0∧¬c0+3=c0∧¬c0+4=c0∧¬c0=c0+4:=by omega
 have loop:∀(σ0:St) (e:Env),Keep c σ σ0→c0+5≤σ0.clk→σ0.bs (4,c0+1)=some (.var [.p (.i .i64 t.k),.p (.i .i64 t.n),.p (.s t.s),.p (.l (t.l.map enc))])→
   σ0.bs (5,c0+2)=some (.var [.p (.i .i64 x.k),.p (.i .i64 lv),.p (.i .i64 x.n),.p (.s x.s),A,Z])→σ0.bs (6,c0+3)=some (.var [.nil,.p (.i .i64 0),.p (.i .i64 0),.p (.i .i64 0),.nil,.p (.i .i64 0)])→
   σ0.bs (9,c0+4)=some (.var [.p (.l ((Hc m x).ns.map Ug)),.p (.i .i64 (Hc m x).cap),.p (.i .i64 0),.p (.i .i64 0),.nil,.p (.i .i64 0)])→
   e 4= .a (.ptr (4,c0+1) 0 0)→e 5= .a (.ptr (5,c0+2) 0 0)→e 6= .a (.ptr (6,c0+3) 0 0)→e 7= .a (.p (.i .i64 (a:Nat)))→e 9= .a (.ptr (9,c0+4) 0 0)→e 10= .a (.p (.i .i64 0))→
   ∀Q:Ex→Env→St→Prop,(∀(e':Env) (τ:St) (out:Pt) (X:AV),e' 4= .a (.ptr (4,c0+1) 0 0)→e' 6= .a (.ptr (6,c0+3) 0 0)→e' 7= .a (.p (.i .i64 (a:Nat)))→e' 9= .a (.ptr (9,c0+4) 0 0)→τ.bs (9,c0+4)=some (.var (BU R.1 out X))→TM c τ X R.2→Keep c σ τ→
    τ.bs (4,c0+1)=some (.var [.p (.i .i64 t.k),.p (.i .i64 t.n),.p (.s t.s),.p (.l (t.l.map enc))])→τ.bs (6,c0+3)=some (.var [.nil,.p (.i .i64 0),.p (.i .i64 0),.p (.i .i64 0),.nil,.p (.i .i64 0)])→(Room R.1∧∀x∈R.2,OkE x)→Q (.exit 0) e' τ)→
   wp S false (.loop F50b0) e σ0 Q:=by
  intro σ0 e hK hcl b4 b5 b6 b9 e4 e5 e6 e7 e9 e10 Q hQ
  refine Go.Fx.wp_mono (JR (a:=a) hl hlv ha4 hS hm1 hR (by rw[tu];exact hfit) hcl b4 b5 b9 e e4 e5 e7 e9 e10) ?_
  rintro z e' τ ⟨rfl,f4,f6,f7,f9,⟨out,X,g9,gX⟩,gK,gR,gE⟩
  exact hQ e' τ out X f4 (f6.trans e6) f7 f9 g9 (gX.mono hc) (hK.trans (gK.mono (by omega))) ((gK.bs (4,c0+1) (by show c0+1<c0+4;omega)).trans b4) ((gK.bs (6,c0+3) (by show c0+3<c0+4;omega)).trans b6) ⟨gR,gE⟩
 rcases hA with⟨rfl,hal,rfl,hto⟩|⟨rfl,hal,rfl⟩|⟨d,q,rfl,hAb,hq0,hq1,rfl,hto⟩
 ·simp only[Ip,Ug,hal,hto,hxl,XM]at c1
  simp only[F50,hc0,et,Ip,c1,n36,hxl,zx,XM,Qp,Nat.reduceAdd,Ce,sI,Hh,Es,nxB,evO,simprocAttr]
  refine loop _ _ ?_ ?_ ?_ ?_ ?_ ?_ ?_ ?_ ?_ ?_ ?_ ?_ _ fun e' τ out X f4 f6 f7 f9 g9 gX gK g4 g6 gR=>?_
  ·exact(((Keep.adds4 (by omega) 3 4 5 6 _ _ _ _).put (k:=(3,c0)) (by show c≤c0;omega) _).add (by show c≤σ.clk+1+1+1+1;omega) 9 _).put (k:=(9,c0+4)) (by show c≤c0+4;omega) _
  ·show c0+5≤σ.clk+1+1+1+1+1;omega
  ·simp only[xL,Mq,Sn,Rt,Bv,ME,hc0,ZP,Qp,Nat.reduceAdd,Nat.reduceEqDiff,false_and,and_false,if_false,and_self,if_true,n36]
  ·simp only[xL,Mq,Sn,Rt,Bv,ME,hc0,ZP,Qp,Nat.reduceAdd,Nat.reduceEqDiff,false_and,and_false,if_false,and_self,if_true,n36]
  ·simp only[xL,Mq,Sn,Rt,Bv,ME,hc0,ZP,Qp,Nat.reduceAdd,Nat.reduceEqDiff,false_and,and_false,if_false,and_self,if_true,n36]
  ·simp only[xL,Mq,Sn,Rt,Bv,ME,hc0,ZP,Qp,Nat.reduceAdd,Nat.reduceEqDiff,false_and,and_false,if_false,and_self,if_true,n36]
  ·simp only[nxB,evO,simprocAttr]
  ·simp only[nxB,evO,simprocAttr]
  ·simp only[nxB,evO,simprocAttr]
  ·simp only[nxB,evO,simprocAttr]
  ·simp only[nxB,evO,simprocAttr]
  ·simp only[nxB,evO,simprocAttr]
  simp only[BU]at g9
  have g6':∀b,(τ.put (9,c0+4) b).bs (6,c0+3)=some (.var [.nil,.p (.i .i64 0),.p (.i .i64 0),.p (.i .i64 0),.nil,.p (.i .i64 0)]):=fun b=>by
   have:¬((6,c0+3):Key)=(9,c0+4):=by intro e;injection e with e _;omega
   simp only[xL,this,if_false];exact g6
  by_cases k4:t.k=4
  ·have o4:((CF t.k:Nat):Int)=0:=by unfold CF;rw[if_pos k4];rfl
   have k4t:=eq_true k4
   have g9':∀w,(τ.put (9,c0+4) (.var w)).bs (9,c0+4)=some (.var w):=fun w=>by simp only[xL,if_true]
   have g6'':∀b b',((τ.put (9,c0+4) b).put (9,c0+4) b').bs (6,c0+3)=some (.var [.nil,.p (.i .i64 0),.p (.i .i64 0),.p (.i .i64 0),.nil,.p (.i .i64 0)]):=fun b b'=>by
    have:¬((6,c0+3):Key)=(9,c0+4):=by intro e;injection e with e _;omega
    simp only[xL,this,if_false];exact g6
   simp only[f4,f6,f7,f9,g4,g6,g9,a1,a0,k4t,o4,BU,Nat.reduceEqDiff,nxB,evO,simprocAttr]
   exact⟨X,rfl,((gX.putv g9 _).putv (g9' _) _).putv (g6'' _ _) _,((gK.put (k:=(9,c0+4)) (by show c≤c0+4;omega) _).put (k:=(9,c0+4)) (by show c≤c0+4;omega) _).put (k:=(6,c0+3)) (by show c≤c0+3;omega) _,gR⟩
  ·have o4:((CF t.k:Nat):Int)=1:=by unfold CF;rw[if_neg k4];rfl
   simp only[f4,f6,f7,f9,g4,g6,g9,a1,a0,k4,o4,BU,Nat.reduceEqDiff,nxB,evO,simprocAttr]
   exact⟨X,rfl,(gX.putv g9 _).putv (g6' _) _,(gK.put (k:=(9,c0+4)) (by show c≤c0+4;omega) _).put (k:=(6,c0+3)) (by show c≤c0+3;omega) _,gR⟩
 ·simp only[Ip,Ug,hal,hxl,XM]at c1
  simp only[F50,hc0,et,Ip,c1,n36,hxl,zx,XM,Qp,Nat.reduceAdd,Ce,sI,Hh,Es,nxB,evO,simprocAttr]
  refine loop _ _ ?_ ?_ ?_ ?_ ?_ ?_ ?_ ?_ ?_ ?_ ?_ ?_ _ fun e' τ out X f4 f6 f7 f9 g9 gX gK g4 g6 gR=>?_
  ·exact(((Keep.adds4 (by omega) 3 4 5 6 _ _ _ _).put (k:=(3,c0)) (by show c≤c0;omega) _).add (by show c≤σ.clk+1+1+1+1;omega) 9 _).put (k:=(9,c0+4)) (by show c≤c0+4;omega) _
  ·show c0+5≤σ.clk+1+1+1+1+1;omega
  ·simp only[xL,Mq,Sn,Rt,Bv,ME,hc0,ZP,Qp,Nat.reduceAdd,Nat.reduceEqDiff,false_and,and_false,if_false,and_self,if_true,n36]
  ·simp only[xL,Mq,Sn,Rt,Bv,ME,hc0,ZP,Qp,Nat.reduceAdd,Nat.reduceEqDiff,false_and,and_false,if_false,and_self,if_true,n36]
  ·simp only[xL,Mq,Sn,Rt,Bv,ME,hc0,ZP,Qp,Nat.reduceAdd,Nat.reduceEqDiff,false_and,and_false,if_false,and_self,if_true,n36]
  ·simp only[xL,Mq,Sn,Rt,Bv,ME,hc0,ZP,Qp,Nat.reduceAdd,Nat.reduceEqDiff,false_and,and_false,if_false,and_self,if_true,n36]
  ·simp only[nxB,evO,simprocAttr]
  ·simp only[nxB,evO,simprocAttr]
  ·simp only[nxB,evO,simprocAttr]
  ·simp only[nxB,evO,simprocAttr]
  ·simp only[nxB,evO,simprocAttr]
  ·simp only[nxB,evO,simprocAttr]
  simp only[BU]at g9
  have g6':∀b,(τ.put (9,c0+4) b).bs (6,c0+3)=some (.var [.nil,.p (.i .i64 0),.p (.i .i64 0),.p (.i .i64 0),.nil,.p (.i .i64 0)]):=fun b=>by
   have:¬((6,c0+3):Key)=(9,c0+4):=by intro e;injection e with e _;omega
   simp only[xL,this,if_false];exact g6
  by_cases k4:t.k=4
  ·have o4:((CF t.k:Nat):Int)=0:=by unfold CF;rw[if_pos k4];rfl
   have k4t:=eq_true k4
   have g9':∀w,(τ.put (9,c0+4) (.var w)).bs (9,c0+4)=some (.var w):=fun w=>by simp only[xL,if_true]
   have g6'':∀b b',((τ.put (9,c0+4) b).put (9,c0+4) b').bs (6,c0+3)=some (.var [.nil,.p (.i .i64 0),.p (.i .i64 0),.p (.i .i64 0),.nil,.p (.i .i64 0)]):=fun b b'=>by
    have:¬((6,c0+3):Key)=(9,c0+4):=by intro e;injection e with e _;omega
    simp only[xL,this,if_false];exact g6
   simp only[f4,f6,f7,f9,g4,g6,g9,a1,a0,k4t,o4,BU,Nat.reduceEqDiff,nxB,evO,simprocAttr]
   exact⟨X,rfl,((gX.putv g9 _).putv (g9' _) _).putv (g6'' _ _) _,((gK.put (k:=(9,c0+4)) (by show c≤c0+4;omega) _).put (k:=(9,c0+4)) (by show c≤c0+4;omega) _).put (k:=(6,c0+3)) (by show c≤c0+3;omega) _,gR⟩
  ·have o4:((CF t.k:Nat):Int)=1:=by unfold CF;rw[if_neg k4];rfl
   simp only[f4,f6,f7,f9,g4,g6,g9,a1,a0,k4,o4,BU,Nat.reduceEqDiff,nxB,evO,simprocAttr]
   exact⟨X,rfl,(gX.putv g9 _).putv (g6' _) _,(gK.put (k:=(9,c0+4)) (by show c≤c0+4;omega) _).put (k:=(6,c0+3)) (by show c≤c0+3;omega) _,gR⟩
 ·simp only[Ip,Ug,hto,hxl,XM]at c1
  have qn:¬c0=q∧¬c0+1=q∧¬c0+2=q∧¬c0+3=q∧¬c0+4=q∧¬q=c0∧¬q=c0+1∧¬q=c0+2∧¬q=c0+3:=by omega
  have hfl:∀u v w z,(PT.t [(true,[PV.l u,PV.i .i64 v]),(false,[PV.i .i64 w]),(false,[PV.i .i64 z])]).flat=false:=fun _ _ _ _=>rfl
  have htk:List.take x.al.length (x.al.map uO)=x.al.map uO:=Ea (by simp)
  simp only[F50,hc0,et,Ip,c1,n36,hxl,hAb,qn,htk,hfl,SY,mB,nh,Fy,zx,XM,Qp,Nat.reduceAdd,Ce,sI,Hh,Es,nxB,evO,simprocAttr]
  refine loop _ _ ?_ ?_ ?_ ?_ ?_ ?_ ?_ ?_ ?_ ?_ ?_ ?_ _ fun e' τ out X f4 f6 f7 f9 g9 gX gK g4 g6 gR=>?_
  ·exact((((Keep.adds4 (by omega) 3 4 5 6 _ _ _ _).kill (k:=(d,q)) hq0).put (k:=(3,c0)) (by show c≤c0;omega) _).add (by show c≤σ.clk+1+1+1+1;omega) 9 _).put (k:=(9,c0+4)) (by show c≤c0+4;omega) _
  ·show c0+5≤σ.clk+1+1+1+1+1;omega
  ·simp only[xL,Mq,Sn,Rt,Bv,ME,hc0,ZP,Qp,Nat.reduceAdd,Nat.reduceEqDiff,false_and,and_false,if_false,and_self,if_true,n36,qn]
  ·simp only[xL,Mq,Sn,Rt,Bv,ME,hc0,ZP,Qp,Nat.reduceAdd,Nat.reduceEqDiff,false_and,and_false,if_false,and_self,if_true,n36,qn]
  ·simp only[xL,Mq,Sn,Rt,Bv,ME,hc0,ZP,Qp,Nat.reduceAdd,Nat.reduceEqDiff,false_and,and_false,if_false,and_self,if_true,n36,qn]
  ·simp only[xL,Mq,Sn,Rt,Bv,ME,hc0,ZP,Qp,Nat.reduceAdd,Nat.reduceEqDiff,false_and,and_false,if_false,and_self,if_true,n36,qn]
  ·simp only[nxB,evO,simprocAttr]
  ·simp only[nxB,evO,simprocAttr]
  ·simp only[nxB,evO,simprocAttr]
  ·simp only[nxB,evO,simprocAttr]
  ·simp only[nxB,evO,simprocAttr]
  ·simp only[nxB,evO,simprocAttr]
  simp only[BU]at g9
  have g6':∀b,(τ.put (9,c0+4) b).bs (6,c0+3)=some (.var [.nil,.p (.i .i64 0),.p (.i .i64 0),.p (.i .i64 0),.nil,.p (.i .i64 0)]):=fun b=>by
   have:¬((6,c0+3):Key)=(9,c0+4):=by intro e;injection e with e _;omega
   simp only[xL,this,if_false];exact g6
  by_cases k4:t.k=4
  ·have o4:((CF t.k:Nat):Int)=0:=by unfold CF;rw[if_pos k4];rfl
   have k4t:=eq_true k4
   have g9':∀w,(τ.put (9,c0+4) (.var w)).bs (9,c0+4)=some (.var w):=fun w=>by simp only[xL,if_true]
   have g6'':∀b b',((τ.put (9,c0+4) b).put (9,c0+4) b').bs (6,c0+3)=some (.var [.nil,.p (.i .i64 0),.p (.i .i64 0),.p (.i .i64 0),.nil,.p (.i .i64 0)]):=fun b b'=>by
    have:¬((6,c0+3):Key)=(9,c0+4):=by intro e;injection e with e _;omega
    simp only[xL,this,if_false];exact g6
   simp only[f4,f6,f7,f9,g4,g6,g9,a1,a0,k4t,o4,BU,Nat.reduceEqDiff,nxB,evO,simprocAttr]
   exact⟨X,rfl,((gX.putv g9 _).putv (g9' _) _).putv (g6'' _ _) _,((gK.put (k:=(9,c0+4)) (by show c≤c0+4;omega) _).put (k:=(9,c0+4)) (by show c≤c0+4;omega) _).put (k:=(6,c0+3)) (by show c≤c0+3;omega) _,gR⟩
  ·have o4:((CF t.k:Nat):Int)=1:=by unfold CF;rw[if_neg k4];rfl
   simp only[f4,f6,f7,f9,g4,g6,g9,a1,a0,k4,o4,BU,Nat.reduceEqDiff,nxB,evO,simprocAttr]
   exact⟨X,rfl,(gX.putv g9 _).putv (g6' _) _,(gK.put (k:=(9,c0+4)) (by show c≤c0+4;omega) _).put (k:=(6,c0+3)) (by show c≤c0+3;omega) _,gR⟩
def Rc(t:T)(lv:Int)(f:Nt→W):Prop:=∀m:Nt,Room m→((f m).n.ns.length:Int)≤m.cap→
 Room (f m).n∧(∀x∈(f m).l,OkE x)∧((0≤(f m).out.n∧(f m).out.n≤5000)∧(0≤(f m).out.s∧(f m).out.s≤100))∧
 ∀(e:Env) (σ:St) (c0:Nat),e 2= .a (.p (.i .i64 lv))→e 3= .a (.ptr (3,c0) 0 0)→e 4= .a (.ptr (4,c0+1) 0 0)→e 6= .a (.ptr (6,c0+2) 0 0)→σ.clk=c0+3→
  σ.bs (3,c0)=some (.var [.p (.l (m.ns.map Ug)),.p (.i .i64 m.cap)])→σ.bs (4,c0+1)=some (.var [.p (.i .i64 t.k),.p (.i .i64 t.n),.p (.s t.s),.p (.l (t.l.map enc))])→σ.bs (6,c0+2)=some (.var [.nil,.p (.i .i64 0),.p (.i .i64 0),.p (.i .i64 0),.nil,.p (.i .i64 0)])→
  wp S false F26r0 e σ (DY [.cell 6 6 true] fun v σ'=>∃X,v= .g (BU (f m).n (f m).out X)∧TM c0 σ' X (f m).l∧Keep c0 σ σ')
theorem aH{σ:St}{s:Key}{a b:PV}(h:σ.bs s=some (.var [.p a,.p b])):fz1 σ (.a (.ptr s 0 0))=some (σ.put s (.var [.p a,.p b])):=by
 simp only[fz1,h]
 rfl
theorem O8{σ:St}{s:Key}{d q k tt:Nat}{rows:List (List PV)}{b:PV}(h:σ.bs s=some (.var [.own (d,q) 0 rows.length,.p b]))(hr:σ.bs (d,q)=some (.row k tt rows))(hne:(d,q)≠s):fz1 σ (.a (.ptr s 0 0))=some ((σ.kill (d,q)).put s (.var [.p (.l rows),.p b])):=by
 simp[fz1,h,hr,hne,frL,frA,klL,klA]
theorem DY.mono{res:List Rs}{K K':TV→St→Prop}(h:∀v σ,K v σ→K' v σ){x:Ex}{e:Env}{σ:St}(q:DY res K x e σ):DY res K' x e σ:=by
 cases x with
 |exit id=>exact q
 |norm=>obtain⟨v,h1,h2⟩:=q;exact⟨v,h1,h v σ h2⟩
 |ret=>obtain⟨v,h1,h2⟩:=q;exact⟨v,h1,h v σ h2⟩
theorem VY{t:T}{lv:Int}{f:Nt→W}(h:Rc t lv f):qT 26 (fN t lv) f:=by
 intro m hm hfit
 obtain⟨h1,h2,h3,h4⟩:=h m hm hfit
 refine⟨h1,h2,h3,fun σ=>?_⟩
 refine ZE (fc:=F26) rfl rfl ?_
 obtain⟨c0,hc0⟩:∃c0,σ.clk=c0:=⟨_,rfl⟩
 rw[hc0]
 have et:=W4 t
 have n36:¬c0=c0+1∧¬c0=c0+2∧¬c0+1=c0∧¬c0+2=c0∧¬c0+1=c0+2∧¬c0+2=c0+1:=by omega
 simp only[fN,F26,hc0,et,Ip,zx,XM,Qp,Nat.reduceAdd,Ce,sI,x_fz,fzS,nxB,evO,simprocAttr]
 rw[aH (a:=.l (m.ns.map Ug)) (b:=.i .i64 m.cap) (by simp only[Mq,Bv,hc0,Qp,Nat.reduceAdd,ZP,Nat.reduceEqDiff,false_and,if_false,and_self,if_true])]
 refine⟨_,rfl,?_⟩
 refine Go.Fx.wp_mono (h4 _ _ c0 ?_ ?_ ?_ ?_ ?_ ?_ ?_ ?_) (fun x e' τ q=>DY.mono ?_ q)
 ·simp only[nxB,evO,simprocAttr]
 ·simp only[nxB,evO,simprocAttr]
 ·simp only[nxB,evO,simprocAttr]
 ·simp only[nxB,evO,simprocAttr]
 ·simp only[Rt,Bv,hc0,Qp,Nat.reduceAdd]
 ·simp only[xL,if_true]
 ·simp only[xL,Mq,Bv,hc0,Qp,Nat.reduceAdd,ZP,Nat.reduceEqDiff,false_and,if_false,and_self,if_true]
 ·simp only[xL,Mq,Bv,hc0,Qp,Nat.reduceAdd,ZP,Nat.reduceEqDiff,false_and,if_false,and_self,if_true]
 ·rintro v τ ⟨X,rfl,k2,k3⟩
  exact⟨X,rfl,k2,((Keep.adds (by omega) 3 4 6 _ _ _).put (k:=(3,c0)) (nh c0) _).trans k3⟩
theorem N5{t:T}{lv:Int}{f:Nt→W}(h:Rc t lv f){m:Nt}(hm:Room m)(hfit:((f m).n.ns.length:Int)≤m.cap){σ:St}{d q tt:Nat}(hr:σ.bs (d,q)=some (.row 6 tt (m.ns.map Ug)))(hq:q<σ.clk):
  ∃v σ',eS S (.f 26) [.g [.own (d,q) 0 m.ns.length,.p (.i .i64 m.cap)],.g ((enc t).map .p),.a (.p (.i .i64 lv))] σ=some (v,σ')∧∃X,v= .g (BU (f m).n (f m).out X)∧TM σ.clk σ' X (f m).l∧∀s:Key,s.2<σ.clk→s≠(d,q)→σ'.bs s=σ.bs s:=by
 obtain⟨h1,h2,h3,h4⟩:=h m hm hfit
 refine ZE (fc:=F26) rfl rfl ?_
 obtain⟨c0,hc0⟩:∃c0,σ.clk=c0:=⟨_,rfl⟩
 rw[hc0]at hq⊢
 have et:=W4 t
 have hml:(m.ns.map Ug).length=m.ns.length:=mB ..
 have nq:¬q=c0∧¬q=c0+1∧¬q=c0+2∧¬c0=q∧¬c0+1=q∧¬c0+2=q:=by omega
 simp only[F26,hc0,et,zx,XM,Qp,Nat.reduceAdd,Ce,sI,x_fz,fzS,nxB,evO,simprocAttr]
 rw[O8 (d:=d) (q:=q) (k:=6) (tt:=tt) (rows:=m.ns.map Ug) (b:=.i .i64 m.cap) (by rw[hml];simp only[Mq,Bv,hc0,Qp,Nat.reduceAdd,ZP,Nat.reduceEqDiff,false_and,if_false,and_self,if_true]) (by simp only[Mq,Bv,hc0,Qp,Nat.reduceAdd,ZP,nq,and_false,if_false];exact hr) (by intro e;injection e with _ e;omega)]
 refine⟨_,rfl,?_⟩
 refine Go.Fx.wp_mono (h4 _ _ c0 ?_ ?_ ?_ ?_ ?_ ?_ ?_ ?_) (fun x e' τ q=>DY.mono ?_ q)
 ·simp only[nxB,evO,simprocAttr]
 ·simp only[nxB,evO,simprocAttr]
 ·simp only[nxB,evO,simprocAttr]
 ·simp only[nxB,evO,simprocAttr]
 ·simp only[Rt,Bv,ME,hc0,Qp,Nat.reduceAdd]
 ·simp only[xL,if_true]
 ·simp only[xL,Mq,Sn,Bv,hc0,Qp,Nat.reduceAdd,ZP,Nat.reduceEqDiff,nq,false_and,and_false,if_false,and_self,if_true]
 ·simp only[xL,Mq,Sn,Bv,hc0,Qp,Nat.reduceAdd,ZP,Nat.reduceEqDiff,nq,false_and,and_false,if_false,and_self,if_true]
 ·rintro v τ ⟨X,rfl,k2,k3⟩
  refine⟨X,rfl,k2,fun s hs hne=>?_⟩
  rw[k3.bs s hs]
  have n1:∀d' j,¬s=(d',c0+j):=by rintro d' j rfl;simp at hs;omega
  have n0:∀d',¬s=(d',c0):=by rintro d' rfl;simp at hs
  simp only[xL,Mq,Sn,Bv,hc0,Qp,Nat.reduceAdd,n0,n1,hne,if_false]
theorem Ec{f k n lv:Int}(hlv:0≤lv∧lv≤60)(hn:wf n)(hk:(k=1∧0≤n∧n<f)∨k=7∨k=9)(hf:f≤1099511627776):Rc (.mk k n [] []) lv (VF k n lv):=by
 intro m hm hfit
 have hcap:=hm.cap
 have hll:=LA k n lv m
 have hrm:((m.ns.length+1:Nat):Int)≤m.cap:=by omega
 have et:enc (.mk k n [] [])=[.i .i64 k,.i .i64 n,.s [],.l []]:=rfl
 have a1:=DJ (m.ns.length:Nat) 1
 have a0:=DJ (m.ns.length:Nat) 0
 have ho:(0:Int)≤((m.ns.length:Nat):Int)∧((m.ns.length:Nat):Int)≤5000:=by omega
 rcases hk with⟨rfl,hn0,hn1⟩|rfl|rfl
 ·have e:VF 1 n lv m=⟨Hc m (RV 5 lv),⟨(m.ns.length:Nat),1⟩,[(n,⟨(m.ns.length:Nat),0⟩)]⟩:=rfl
  have h5:=ZM (k:=5) (by omega) hlv
  have c1:=QA (x:=RV 5 lv) hm h5 (by show¬(5:Int)<2;decide) (Ns hlv (by omega)) (by show lv≤60;omega) hrm
  rw[e]
  refine⟨Za hm h5 (by show(5:Int)≠0;decide) hrm,fun x hx=>?_,⟨ho,by show(0:Int)≤1;decide,by show(1:Int)≤100;decide⟩,fun e σ c0 e2 e3 e4 e6 hc0 b3 b4 b6=>?_⟩
  ·have:x=(n,⟨(m.ns.length:Nat),0⟩):=by simpa using hx
   subst this
   exact⟨⟨hn0,by show n≤_;omega⟩,⟨ho.1,by show((m.ns.length:Nat):Int)≤_;omega⟩,⟨by show(0:Int)≤0;decide,by show(0:Int)≤_;decide⟩⟩
  have b4':σ.bs (4,c0+1)=some (.var [.p (.i .i64 1),.p (.i .i64 n),.p (.s []),.p (.l [])]):=b4
  obtain⟨a,ha⟩:∃a,m.ns.length=a:=⟨_,rfl⟩
  rw[ha]at c1 a1 a0⊢
  simp only[RV,Ip,Ug,XM]at c1
  have n36:¬c0=c0+3∧¬c0+1=c0∧¬c0+2=c0∧¬c0+3=c0∧¬c0+4=c0∧¬c0=c0+4∧¬c0+3=c0+4:=by omega
  simp only[F26r0,e2,e3,e4,e6,b3,b4',b6,hc0,Ip,Ug,c1,a1,a0,n36,Int.reduceEq,zx,XM,Qp,Nat.reduceAdd,Ce,sI,Hh,Es,nxB,evO,simprocAttr]
  refine⟨.own (50,c0+5) 0 1,rfl,.inr ⟨50,c0+5,rfl,?_,by omega,?_⟩,?_⟩
  ·simp only[xL,Mq,Rt,Bv,hc0,Qp,Nat.reduceAdd,ZP,Nat.reduceEqDiff,false_and,if_false,and_self,if_true];rfl
  ·simp only[Rt,Bv,hc0];omega
  ·repeat (first|exact Keep.refl _ _|refine Keep.put ?_ (by first|omega|(dsimp only<;>omega)) _|refine Keep.add ?_ (by simp only[Rt,Bv,hc0]<;>omega) _ _)
 ·have e:VF 7 n lv m=⟨Hc m ⟨10,lv,n,[],[],[]⟩,⟨(m.ns.length:Nat),0⟩,[]⟩:=rfl
  have h5:(⟨10,lv,n,[],[],[]⟩:Nd).Ok:=⟨⟨by show(-9223372036854775808:Int)≤10;decide,by show(10:Int)≤_;decide⟩,⟨by show _≤lv;omega,by show lv≤_;omega⟩,hn,by simp,by simp,by simp,by simp,by simp⟩
  have hmy:(⟨10,lv,n,[],[],[]⟩:Nd).may:=by
   rw[Go.Proofs.YtmlhgalboabjcaaGreat.may_iff]
   unfold jX
   simp;omega
  have c1:=QA (x:=⟨10,lv,n,[],[],[]⟩) hm h5 (by show¬(10:Int)<2;decide) hmy (by show lv≤60;omega) hrm
  rw[e]
  refine⟨Za hm h5 (by show(10:Int)≠0;decide) hrm,by simp,⟨ho,by show(0:Int)≤0;decide,by show(0:Int)≤100;decide⟩,fun e σ c0 e2 e3 e4 e6 hc0 b3 b4 b6=>?_⟩
  have b4':σ.bs (4,c0+1)=some (.var [.p (.i .i64 7),.p (.i .i64 n),.p (.s []),.p (.l [])]):=b4
  obtain⟨a,ha⟩:∃a,m.ns.length=a:=⟨_,rfl⟩
  rw[ha]at c1 a1 a0⊢
  simp only[RV,Ip,Ug,XM]at c1
  have n36:¬c0=c0+3∧¬c0+1=c0∧¬c0+2=c0∧¬c0+3=c0∧¬c0+4=c0∧¬c0=c0+4∧¬c0+3=c0+4:=by omega
  simp only[F26r0,e2,e3,e4,e6,b3,b4',b6,hc0,Ip,Ug,c1,a1,a0,n36,Int.reduceEq,zx,XM,Qp,Nat.reduceAdd,Ce,sI,Hh,Es,nxB,evO,simprocAttr]
  refine⟨.nil,rfl,.inl ⟨rfl,rfl⟩,?_⟩
  repeat (first|exact Keep.refl _ _|refine Keep.put ?_ (by first|omega|(dsimp only<;>omega)) _|refine Keep.add ?_ (by simp only[Rt,Bv,hc0]<;>omega) _ _)
 ·have e:VF 9 n lv m=⟨Hc m (RV 13 lv),⟨(m.ns.length:Nat),0⟩,[]⟩:=rfl
  have h5:((RV 13 lv):Nd).Ok:=ZM (k:=13) (by omega) hlv
  have hmy:((RV 13 lv):Nd).may:=Ns hlv (by omega)
  have c1:=QA (x:=(RV 13 lv)) hm h5 (by show¬(13:Int)<2;decide) hmy (by show lv≤60;omega) hrm
  rw[e]
  refine⟨Za hm h5 (by show(13:Int)≠0;decide) hrm,by simp,⟨ho,by show(0:Int)≤0;decide,by show(0:Int)≤100;decide⟩,fun e σ c0 e2 e3 e4 e6 hc0 b3 b4 b6=>?_⟩
  have b4':σ.bs (4,c0+1)=some (.var [.p (.i .i64 9),.p (.i .i64 n),.p (.s []),.p (.l [])]):=b4
  obtain⟨a,ha⟩:∃a,m.ns.length=a:=⟨_,rfl⟩
  rw[ha]at c1 a1 a0⊢
  simp only[RV,Ip,Ug,XM]at c1
  have n36:¬c0=c0+3∧¬c0+1=c0∧¬c0+2=c0∧¬c0+3=c0∧¬c0+4=c0∧¬c0=c0+4∧¬c0+3=c0+4:=by omega
  simp only[F26r0,e2,e3,e4,e6,b3,b4',b6,hc0,Ip,Ug,c1,a1,a0,n36,Int.reduceEq,zx,XM,Qp,Nat.reduceAdd,Ce,sI,Hh,Es,nxB,evO,simprocAttr]
  refine⟨.nil,rfl,.inl ⟨rfl,rfl⟩,?_⟩
  repeat (first|exact Keep.refl _ _|refine Keep.put ?_ (by first|omega|(dsimp only<;>omega)) _|refine Keep.add ?_ (by simp only[Rt,Bv,hc0]<;>omega) _ _)
theorem Gq{b:T}{lv:Int}(hlv:0≤lv∧lv≤60){g:Nt→W}(hg:qT 49 (tR b 1 lv) g):Rc (.mk 2 0 [] [b]) lv g:=by
 intro m hm hfit
 obtain⟨g1,g2,g3,g4⟩:=hg m hm hfit
 refine⟨g1,g2,g3,fun e σ c0 e2 e3 e4 e6 hc0 b3 b4 b6=>?_⟩
 have eb:=W4 b
 have et:enc (.mk 2 0 [] [b])=[.i .i64 2,.i .i64 0,.s [],.l [[.i .i64 b.k,.i .i64 b.n,.s b.s,.l (b.l.map enc)]]]:=by rw[←eb];rfl
 have b4':σ.bs (4,c0+1)=some (.var [.p (.i .i64 2),.p (.i .i64 0),.p (.s []),.p (.l [[.i .i64 b.k,.i .i64 b.n,.s b.s,.l (b.l.map enc)]])]):=by rw[←eb];exact b4
 have n36:¬c0=c0+3∧¬c0+1=c0∧¬c0+2=c0∧¬c0+3=c0∧¬c0+4=c0∧¬c0=c0+4∧¬c0+3=c0+4:=by omega
 obtain⟨σ1,hσ1⟩:∃s,(σ.add 7 (.var [.p (.i .i64 0),.p (.i .i64 0),.p (.i .i64 0),.p (.s []),.nil,.nil])).put (7,c0+3) (.var [.p (.i .i64 0),.p (.i .i64 lv),.p (.i .i64 0),.p (.s []),.nil,.nil])=s:=⟨_,rfl⟩
 have hK1:Keep c0 σ σ1:=by
  rw[←hσ1]
  repeat (first|exact Keep.refl _ _|refine Keep.put ?_ (by first|omega|(dsimp only<;>omega)) _|refine Keep.add ?_ (by simp only[Rt,Bv,hc0]<;>omega) _ _)
 have hcl:σ1.clk=c0+4:=by rw[←hσ1];simp only[Rt,Bv,hc0,Qp,Nat.reduceAdd]
 have b6:σ1.bs (6,c0+2)=some (.var [.nil,.p (.i .i64 0),.p (.i .i64 0),.p (.i .i64 0),.nil,.p (.i .i64 0)]):=by
  rw[←hσ1]
  simp only[xL,Mq,Rt,Bv,hc0,Qp,Nat.reduceAdd,ZP,Nat.reduceEqDiff,false_and,if_false,and_self,if_true];exact b6
 obtain⟨v,σ2,k1,X,rfl,k2,k3⟩:=g4 σ1
 rw[hcl]at k2 k3
 have b6':=(k3.bs (6,c0+2) (by show c0+2<c0+4;omega)).trans b6
 have c1:((1:Nat):Int)=1:=rfl
 have z1:(0:Int)<((1:Nat):Int):=by decide
 have t0:Int.toNat 0=0:=rfl
 simp only[tR,c1,eb,Ip,BU,zx,XM]at k1
 simp only[F26r0,e2,e3,e4,e6,b3,b4',b6,hc0,Ip,n36,z1,t0,kS,Int.reduceLT,Int.reduceEq,zx,XM,Qp,Nat.reduceAdd,Ce,sI,Hh,Es,aT,nxB,evO,simprocAttr]
 rw[hσ1]
 simp only[k1,b6',e2,e3,e4,e6,BU,nxB,evO,simprocAttr]
 exact⟨X,rfl,(k2.putv b6' _).mono (by omega),(hK1.trans (k3.mono (by omega))).put (k:=(6,c0+2)) (by show c0≤c0+2;omega) _⟩
theorem Ot{t:T}{lv:Int}(hl2:2≤t.l.length)(hl9:t.l.length≤9){c0:Nat}{σ0:St}(hc0:c0+4≤σ0.clk)
  (b4:σ0.bs (4,c0+1)=some (.var [.p (.i .i64 t.k),.p (.i .i64 t.n),.p (.s t.s),.p (.l (t.l.map enc))]))
  (b7:σ0.bs (7,c0+3)=some (.var [.p (.i .i64 9),.p (.i .i64 lv),.p (.i .i64 0),.p (.s []),.nil,.nil]))
  (e:Env) (e4:e 4= .a (.ptr (4,c0+1) 0 0)) (e7:e 7= .a (.ptr (7,c0+3) 0 0)) (e11:e 11= .a (.p (.i .i64 1))):
  wp S false (.loop F26b0) e σ0 (fun z e' σ'=>z= .exit 1∧e' 3=e 3∧e' 4= .a (.ptr (4,c0+1) 0 0)∧e' 6=e 6∧e' 7= .a (.ptr (7,c0+3) 0 0)∧
   (∃d q,σ'.bs (7,c0+3)=some (.var [.p (.i .i64 9),.p (.i .i64 lv),.p (.i .i64 0),.p (.s []),.own (d,q) 0 (t.l.length-1),.nil])∧σ'.bs (d,q)=some (.row 2 107 (((t.l.drop 1).map arT).map uO))∧c0+4≤q∧q<σ'.clk)∧Keep (c0+3) σ0 σ'):=by
 obtain⟨u3,hu3⟩:∃z,e 3=z:=⟨_,rfl⟩
 obtain⟨u6,hu6⟩:∃z,e 6=z:=⟨_,rfl⟩
 rw[hu3,hu6]
 have halen:∀j,((((t.l.drop 1).take j).map arT).map uO).length=((t.l.drop 1).take j).length:=fun j=>by simp
 refine Fs (t.l.length-1) (fun j e τ=>e 3=u3∧e 4= .a (.ptr (4,c0+1) 0 0)∧e 6=u6∧e 7= .a (.ptr (7,c0+3) 0 0)∧e 11= .a (.p (.i .i64 ((j+1:Nat):Int)))∧Keep (c0+3) σ0 τ∧
  ((j=0∧τ.bs (7,c0+3)=some (.var [.p (.i .i64 9),.p (.i .i64 lv),.p (.i .i64 0),.p (.s []),.nil,.nil]))∨∃d q,0<j∧τ.bs (7,c0+3)=some (.var [.p (.i .i64 9),.p (.i .i64 lv),.p (.i .i64 0),.p (.s []),.own (d,q) 0 j,.nil])∧τ.bs (d,q)=some (.row 2 107 ((((t.l.drop 1).take j).map arT).map uO))∧c0+4≤q∧q<τ.clk)) (i0:=0) (ji _)
  ⟨hu3,e4,hu6,e7,e11,Keep.refl _ _,.inl ⟨rfl,b7⟩⟩ ?_ ?_
 ·rintro j e τ hj ⟨e3,e4,e6,e7,e11,hK,hA⟩
  obtain⟨x,hx⟩:∃x,t.l[j+1]? =some x:=⟨_,Xb (by omega)⟩
  have ex:=W4 x
  have hx':(t.l.map enc)[j+1]? =some [.i .i64 x.k,.i .i64 x.n,.s x.s,.l (x.l.map enc)]:=by rw[Qy,hx];simp[ex]
  have t4:=(hK.bs (4,c0+1) (by show c0+1<c0+3;omega)).trans b4
  have hcl:=hK.clk
  have hlt:((j+1:Nat):Int)<(t.l.length:Int):=by omega
  have hge:(0:Int)≤((j+1:Nat):Int):=by omega
  have hw:=zz (j+1) (by omega)
  have hal:((t.l.map enc).all fun r=>decide (r.length=4))=true:=PH t.l
  have htk:(t.l.drop 1).take (j+1)=(t.l.drop 1).take j++[x]:=by
   rw[Oq,L9,show 1+j=j+1 by omega,hx];rfl
  obtain⟨κ,hκ⟩:∃κ,τ.clk=κ:=⟨_,rfl⟩
  have n7:¬c0+3=κ∧¬c0+3=κ+1∧¬κ=c0+3∧¬κ+1=c0+3:=by omega
  rcases hA with⟨rfl,t7⟩|⟨d,q,hj0,t7,hrow,hq0,hq1⟩
  ·simp only[F26b0,e3,e4,e6,e7,e11,t4,t7,hlt,hge,hw,hx',hal,hκ,n7,KA,Fy,SZ,Nat.reduceLeDiff,PJ,mB,Ce,sI,nxB,evO,Nat.reduceLT,Nat.reduceSub,Nat.reduceBEq,Nat.reduceEqDiff,Nat.reduceAdd,Nat.reduceLeDiff,reduceCtorEq,Nat.reduceMul]
   have htk1:List.take 1 (List.drop 1 t.l)=[x]:=by simpa using htk
   refine⟨((hK.add (by omega) _ _).add (by simp only[Bv];omega) _ _).put (k:=(7,c0+3)) (nh _) _,.inr ⟨108,κ+1,rfl,?_,by omega,by omega⟩⟩
   rw[if_neg (by omega),if_pos ⟨rfl,rfl⟩,htk1];rfl
  ·have hjl:(((t.l.drop 1).take j).map arT).length=j:=by simp;omega
   have htk2:List.take j ((((t.l.drop 1).take j).map arT).map uO)=(((t.l.drop 1).take j).map arT).map uO:=Ea (by rw[mB,hjl];exact nh _)
   have hbb:(j+1)*24≤140737488355328:=by omega
   have qn:¬q=κ∧¬q=κ+1∧¬c0+3=q∧¬q=c0+3:=by omega
   simp only[F26b0,e3,e4,e6,e7,e11,t4,t7,hrow,htk2,hbb,qn,hjl,hlt,hge,hw,hx',hal,hκ,n7,KA,Fy,SZ,Nat.reduceLeDiff,nh,PJ,mB,Ce,sI,nxB,evO,Nat.reduceLT,Nat.reduceSub,Nat.reduceBEq,Nat.reduceEqDiff,Nat.reduceAdd,Nat.reduceLeDiff,reduceCtorEq,Nat.reduceMul]
   refine⟨(Keep.ap hK (by omega) (k:=(d,q)) (by show c0+3≤q;omega) _ _ _ _).put (k:=(7,c0+3)) (nh _) _,.inr ⟨108,κ+1,by omega,rfl,?_,by omega,by omega⟩⟩
   rw[if_neg (by omega),if_pos ⟨rfl,rfl⟩,htk];simp[arT,uO]
 ·rintro e τ ⟨e3,e4,e6,e7,e11,hK,hA⟩
  have t4:=(hK.bs (4,c0+1) (by show c0+1<c0+3;omega)).trans b4
  have hlt:¬((t.l.length-1+1:Nat):Int)<(t.l.length:Int):=by omega
  simp only[F26b0,e3,e4,e6,e7,e11,t4,hlt,mB,nxB,evO,simprocAttr]
  rcases hA with⟨h0,_⟩|⟨d,q,hj0,t7,hrow,hq0,hq1⟩
  ·omega
  ·rw[Ea (by simp)]at hrow
   exact⟨⟨d,q,t7,hrow,hq0,hq1⟩,hK⟩
theorem gp{f k lv:Int}{s:List UInt8}{l:List T}(hlv:0≤lv∧lv≤60)(ht:T.Ok (.mk k 0 s l))(hl9:l.length≤9)
  (hk:(k=3∧s=[]∧l.length=2)∨(k=4∧s≠[]∧l.length≤8)∨(k=8∧s≠[]∧l.length=2)∨(k=5∧s=[]∧2≤l.length∧l.length≤9∧((l.drop 1).map T.s).Nodup))
  (hc:∀(j:Nat) (t:T),l[j]? =some t→Cl f (decide (k=5∧0<j)) t) (hS:∀(i:Nat) (x:T),l[i]? =some x→SubS (.mk k 0 s l) lv i x):Rc (.mk k 0 s l) lv (partG (.mk k 0 s l) lv):=by
 intro m hm hfit
 have hcap:=hm.cap
 obtain⟨x1,x2,x3,x4,x5,x6,x7⟩:=mh (f:=f) (lv:=lv) hlv ht.kids.2.2.1 (fun t h=>(ht.kids.2.2.2.2 t h).own) hk hc
 have hkn:¬(k=1∨k=7∨k=9)∧k≠2∧k≠6:=by omega
 have e:partG (.mk k 0 s l) lv m=⟨(kidsG l k lv m.ns.length 0 (Hc m (Z2 k s l lv),[])).1,⟨(m.ns.length:Nat),(CF k:Nat)⟩,(kidsG l k lv m.ns.length 0 (Hc m (Z2 k s l lv),[])).2⟩:=by rw[aY,if_neg hkn.1,if_neg hkn.2.1,if_neg hkn.2.2]
 rw[e]at hfit⊢
 have kl:=G8 (t:=.mk k 0 s l) (lv:=lv) (a:=m.ns.length) l 0 (Hc m (Z2 k s l lv),[]) fun j u hj=>by rw[Fy];exact hS j u hj
 rw[ql,tu]at kl
 have hfit':((kidsG l k lv m.ns.length 0 (Hc m (Z2 k s l lv),[])).1.ns.length:Int)≤m.cap:=hfit
 have kl1:m.ns.length+1≤(kidsG l k lv m.ns.length 0 (Hc m (Z2 k s l lv),[])).1.ns.length:=kl.1
 have ho:CF k≤1:=by unfold CF;split<;>omega
 have P:=fun(c:Nat) (σ:St) (A Z:AV) (hc:c≤σ.clk) hA=>Oo (t:=.mk k 0 s l) (lv:=lv) (m:=m) (x:=Z2 k s l lv) (by show l.length≤1000;omega) hlv hm x1 x2 x3 x7 hS hfit' (c:=c) (σ:=σ) hc (A:=A) (Z:=Z) hA
 have RE:Room (kidsG l k lv m.ns.length 0 (Hc m (Z2 k s l lv),[])).1∧∀z∈(kidsG l k lv m.ns.length 0 (Hc m (Z2 k s l lv),[])).2,OkE z:=by
  rcases hk with⟨rfl,rfl,hk1⟩|⟨rfl,hk1,hk2⟩|⟨rfl,hk1,hk2⟩|⟨rfl,rfl,hk1,hk2,hk3⟩
  ·obtain⟨v,σ',_,X,_,_,_,q1,q2⟩:=P 0 St.empty .nil .nil (ji _) (.inl ⟨rfl,rfl,rfl,rfl⟩)
   exact⟨q1,q2⟩
  ·obtain⟨v,σ',_,X,_,_,_,q1,q2⟩:=P 0 St.empty .nil _ (ji _) (.inr (.inl ⟨rfl,rfl,rfl⟩))
   exact⟨q1,q2⟩
  ·obtain⟨v,σ',_,X,_,_,_,q1,q2⟩:=P 0 St.empty .nil .nil (ji _) (.inl ⟨rfl,rfl,rfl,rfl⟩)
   exact⟨q1,q2⟩
  ·obtain⟨v,σ',_,X,_,_,_,q1,q2⟩:=P 0 (St.empty.add 5 (.row 2 107 (((l.drop 1).map arT).map uO))) (.own (5,0) 0 (Z2 5 [] l lv).al.length) .nil (ji _) (.inr (.inr ⟨5,0,rfl,rfl,ji _,by show 0<1;decide,rfl,rfl⟩))
   exact⟨q1,q2⟩
 refine⟨RE.1,RE.2,⟨⟨by show(0:Int)≤((m.ns.length:Nat):Int);omega,by show((m.ns.length:Nat):Int)≤5000;omega⟩,⟨by show(0:Int)≤((CF k:Nat):Int);omega,by show((CF k:Nat):Int)≤100;omega⟩⟩,fun e σ c0 e2 e3 e4 e6 hc0 b3 b4 b6=>?_⟩
 ·simp only[T.k,T.n,T.s,T.l]at b4
  have n36:¬c0=c0+3∧¬c0+1=c0∧¬c0+2=c0∧¬c0+3=c0∧¬c0+4=c0∧¬c0=c0+4∧¬c0+3=c0+4:=by omega
  have nt3:Z2 3 [] l lv=⟨3,lv,0,[],[],[]⟩:=rfl
  have nt8:Z2 8 s l lv=⟨11,lv,0,s,[],[]⟩:=rfl
  have nt4:Z2 4 s l lv=⟨8,lv,0,s,[],List.replicate (l.length+1) zP⟩:=rfl
  have nt5:Z2 5 [] l lv=⟨9,lv,0,[],(l.drop 1).map arT,[]⟩:=rfl
  obtain⟨K,hK⟩:∃K,kidsG l k lv m.ns.length 0 (Hc m (Z2 k s l lv),[])=K:=⟨_,rfl⟩
  simp only[T.k,T.l,hK]at P
  show wp S false F26r0 e σ (DY [.cell 6 6 true] fun v σ'=>∃X,v= .g (BU (kidsG l k lv m.ns.length 0 (Hc m (Z2 k s l lv),[])).1 ⟨(m.ns.length:Nat),(CF k:Nat)⟩ X)∧TM c0 σ' X (kidsG l k lv m.ns.length 0 (Hc m (Z2 k s l lv),[])).2∧Keep c0 σ σ')
  rw[hK]
  rcases hk with⟨rfl,rfl,hk1⟩|⟨rfl,hk1,hk2⟩|⟨rfl,hk1,hk2⟩|⟨rfl,rfl,hk1,hk2,hk3⟩
  ·have et:enc (.mk 3 0 [] l)=[.i .i64 3,.i .i64 0,.s [],.l (l.map enc)]:=by rw[enc,It]
   obtain⟨σ1,hσ1⟩:∃s',(((σ.add 7 (.var [.p (.i .i64 0),.p (.i .i64 0),.p (.i .i64 0),.p (.s []),.nil,.nil])).put (7,c0+3) (.var [.p (.i .i64 0),.p (.i .i64 lv),.p (.i .i64 0),.p (.s []),.nil,.nil])).put (7,c0+3) (.var [.p (.i .i64 3),.p (.i .i64 lv),.p (.i .i64 0),.p (.s []),.nil,.nil]))=s':=⟨_,rfl⟩
   have hK1:Keep c0 σ σ1:=by
    rw[←hσ1]
    repeat (first|exact Keep.refl _ _|refine Keep.put ?_ (by first|omega|(dsimp only<;>omega)) _|refine Keep.add ?_ (by simp only[Rt,Bv,hc0]<;>omega) _ _)
   have hcl:σ1.clk=c0+4:=by rw[←hσ1];simp only[Rt,Bv,hc0,Qp,Nat.reduceAdd]
   have s6:σ1.bs (6,c0+2)=some (.var [.nil,.p (.i .i64 0),.p (.i .i64 0),.p (.i .i64 0),.nil,.p (.i .i64 0)]):=by
    rw[←hσ1]
    simp only[xL,Mq,Rt,Bv,hc0,Qp,Nat.reduceAdd,ZP,Nat.reduceEqDiff,false_and,if_false,and_self,if_true];exact b6
   obtain⟨v,σ2,k1,X,rfl,k2,k3,k4,k5⟩:=P (c0+4) σ1 .nil .nil (by omega) (.inl ⟨rfl,rfl,rfl,rfl⟩)
   have b6':=(k3.bs (6,c0+2) (by show c0+2<c0+4;omega)).trans s6
   simp only[nt3,et,Ip,BU,zx,XM]at k1
   simp only[F26r0,e2,e3,e4,e6,b3,b4,b6,hc0,Ip,n36,Int.reduceLT,Int.reduceEq,zx,XM,Qp,Nat.reduceAdd,Ce,sI,mB,Hh,Es,nxB,evO,simprocAttr]
   rw[hσ1]
   simp only[k1,b6',e2,e3,e4,e6,BU,nxB,evO,simprocAttr]
   exact⟨X,rfl,(k2.putv b6' _).mono (by omega),(hK1.trans (k3.mono (by omega))).put (k:=(6,c0+2)) (by show c0≤c0+2;omega) _⟩
  ·have et:enc (.mk 4 0 s l)=[.i .i64 4,.i .i64 0,.s s,.l (l.map enc)]:=by rw[enc,It]
   have hrep:∀j:Nat,(List.replicate j zP).map xN=List.replicate j [.i .i64 0,.i .i64 0]:=fun j=>by rw[List.map_replicate];rfl
   have hZ:(.p (.l ([.i .i64 0,.i .i64 0]::List.replicate l.length [.i .i64 0,.i .i64 0])))=AV.p (.l ((Z2 4 s l lv).to.map xN)):=by rw[nt4];show _=AV.p (.l ((List.replicate (l.length+1) zP).map xN));rw[hrep,cj]
   have hm1:(0:Int)≤((l.length+1:Nat):Int):=by omega
   have hm2:((l.length+1:Nat):Int)*((16:Nat):Int)≤140737488355328:=by omega
   obtain⟨σ1,hσ1⟩:∃s',((((((σ.add 7 (.var [.p (.i .i64 0),.p (.i .i64 0),.p (.i .i64 0),.p (.s []),.nil,.nil])).put (7,c0+3) (.var [.p (.i .i64 0),.p (.i .i64 lv),.p (.i .i64 0),.p (.s []),.nil,.nil])).put (7,c0+3) (.var [.p (.i .i64 8),.p (.i .i64 lv),.p (.i .i64 0),.p (.s []),.nil,.nil])).put (7,c0+3) (.var [.p (.i .i64 8),.p (.i .i64 lv),.p (.i .i64 0),.p (.s s),.nil,.nil])).add 80 (.row 2 42 ([.i .i64 0,.i .i64 0]::List.replicate l.length [.i .i64 0,.i .i64 0]))).kill (80,c0+4)).put (7,c0+3) (.var [.p (.i .i64 8),.p (.i .i64 lv),.p (.i .i64 0),.p (.s s),.nil,(.p (.l ([.i .i64 0,.i .i64 0]::List.replicate l.length [.i .i64 0,.i .i64 0])))])=s':=⟨_,rfl⟩
   have hK1:Keep c0 σ σ1:=by
    rw[←hσ1]
    repeat (first|exact Keep.refl _ _|refine Keep.kill ?_ (by first|omega|(dsimp only<;>omega))|refine Keep.put ?_ (by first|omega|(dsimp only<;>omega)) _|refine Keep.add ?_ (by simp only[Rt,Bv,ME,hc0]<;>omega) _ _)
   have hcl:σ1.clk=c0+5:=by rw[←hσ1];simp only[Rt,Bv,ME,hc0,Qp,Nat.reduceAdd]
   have s6:σ1.bs (6,c0+2)=some (.var [.nil,.p (.i .i64 0),.p (.i .i64 0),.p (.i .i64 0),.nil,.p (.i .i64 0)]):=by
    rw[←hσ1]
    simp only[xL,Mq,Sn,Rt,Bv,ME,hc0,Qp,Nat.reduceAdd,ZP,Nat.reduceEqDiff,false_and,if_false,and_self,if_true];exact b6
   obtain⟨v,σ2,k1,X,rfl,k2,k3,k4,k5⟩:=P (c0+4) σ1 .nil (.p (.l ([.i .i64 0,.i .i64 0]::List.replicate l.length [.i .i64 0,.i .i64 0]))) (by omega) (.inr (.inl ⟨rfl,rfl,hZ⟩))
   have b6':=(k3.bs (6,c0+2) (by show c0+2<c0+4;omega)).trans s6
   have hlen:IntKind.i64.wrap ((l.length:Int)+1)=((l.length+1:Nat):Int):=zz _ (by omega)
   simp only[nt4,et,Ip,BU,zx,XM]at k1
   simp only[F26r0,e2,e3,e4,e6,b3,b4,b6,hc0,Ip,n36,hlen,hm1,hm2,kS,and_self,Int.reduceLT,Int.reduceEq,zx,XM,Qp,Nat.reduceAdd,Ce,sI,mB,Hh,Es,nxB,evO,Nat.reduceLT,Nat.reduceSub,Nat.reduceBEq,Nat.reduceEqDiff,Nat.reduceAdd,Nat.reduceLeDiff,reduceCtorEq,Nat.reduceMul]
   rw[hσ1]
   simp only[k1,b6',e2,e3,e4,e6,BU,nxB,evO,simprocAttr]
   exact⟨X,rfl,(k2.putv b6' _).mono (by omega),(hK1.trans (k3.mono (by omega))).put (k:=(6,c0+2)) (by show c0≤c0+2;omega) _⟩
  ·have et:enc (.mk 8 0 s l)=[.i .i64 8,.i .i64 0,.s s,.l (l.map enc)]:=by rw[enc,It]
   obtain⟨σ1,hσ1⟩:∃s',((((σ.add 7 (.var [.p (.i .i64 0),.p (.i .i64 0),.p (.i .i64 0),.p (.s []),.nil,.nil])).put (7,c0+3) (.var [.p (.i .i64 0),.p (.i .i64 lv),.p (.i .i64 0),.p (.s []),.nil,.nil])).put (7,c0+3) (.var [.p (.i .i64 11),.p (.i .i64 lv),.p (.i .i64 0),.p (.s []),.nil,.nil])).put (7,c0+3) (.var [.p (.i .i64 11),.p (.i .i64 lv),.p (.i .i64 0),.p (.s s),.nil,.nil]))=s':=⟨_,rfl⟩
   have hK1:Keep c0 σ σ1:=by
    rw[←hσ1]
    repeat (first|exact Keep.refl _ _|refine Keep.put ?_ (by first|omega|(dsimp only<;>omega)) _|refine Keep.add ?_ (by simp only[Rt,Bv,hc0]<;>omega) _ _)
   have hcl:σ1.clk=c0+4:=by rw[←hσ1];simp only[Rt,Bv,hc0,Qp,Nat.reduceAdd]
   have s6:σ1.bs (6,c0+2)=some (.var [.nil,.p (.i .i64 0),.p (.i .i64 0),.p (.i .i64 0),.nil,.p (.i .i64 0)]):=by
    rw[←hσ1]
    simp only[xL,Mq,Rt,Bv,hc0,Qp,Nat.reduceAdd,ZP,Nat.reduceEqDiff,false_and,if_false,and_self,if_true];exact b6
   obtain⟨v,σ2,k1,X,rfl,k2,k3,k4,k5⟩:=P (c0+4) σ1 .nil .nil (by omega) (.inl ⟨rfl,rfl,rfl,rfl⟩)
   have b6':=(k3.bs (6,c0+2) (by show c0+2<c0+4;omega)).trans s6
   simp only[nt8,et,Ip,BU,zx,XM]at k1
   simp only[F26r0,e2,e3,e4,e6,b3,b4,b6,hc0,Ip,n36,Int.reduceLT,Int.reduceEq,zx,XM,Qp,Nat.reduceAdd,Ce,sI,mB,Hh,Es,nxB,evO,simprocAttr]
   rw[hσ1]
   simp only[k1,b6',e2,e3,e4,e6,BU,nxB,evO,simprocAttr]
   exact⟨X,rfl,(k2.putv b6' _).mono (by omega),(hK1.trans (k3.mono (by omega))).put (k:=(6,c0+2)) (by show c0≤c0+2;omega) _⟩
  ·have et:enc (.mk 5 0 [] l)=[.i .i64 5,.i .i64 0,.s [],.l (l.map enc)]:=by rw[enc,It]
   obtain⟨σ1,hσ1⟩:∃s',(((σ.add 7 (.var [.p (.i .i64 0),.p (.i .i64 0),.p (.i .i64 0),.p (.s []),.nil,.nil])).put (7,c0+3) (.var [.p (.i .i64 0),.p (.i .i64 lv),.p (.i .i64 0),.p (.s []),.nil,.nil])).put (7,c0+3) (.var [.p (.i .i64 9),.p (.i .i64 lv),.p (.i .i64 0),.p (.s []),.nil,.nil]))=s':=⟨_,rfl⟩
   have hK1:Keep c0 σ σ1:=by
    rw[←hσ1]
    repeat (first|exact Keep.refl _ _|refine Keep.put ?_ (by first|omega|(dsimp only<;>omega)) _|refine Keep.add ?_ (by simp only[Rt,Bv,hc0]<;>omega) _ _)
   have hcl:σ1.clk=c0+4:=by rw[←hσ1];simp only[Rt,Bv,hc0,Qp,Nat.reduceAdd]
   have s3:σ1.bs (3,c0)=some (.var [.p (.l (m.ns.map Ug)),.p (.i .i64 m.cap)]):=by
    rw[←hσ1]
    simp only[xL,Mq,Rt,Bv,hc0,Qp,Nat.reduceAdd,ZP,Nat.reduceEqDiff,false_and,if_false,and_self,if_true];exact b3
   have s4:σ1.bs (4,c0+1)=some (.var [.p (.i .i64 5),.p (.i .i64 0),.p (.s []),.p (.l (l.map enc))]):=by
    rw[←hσ1]
    simp only[xL,Mq,Rt,Bv,hc0,Qp,Nat.reduceAdd,ZP,Nat.reduceEqDiff,false_and,if_false,and_self,if_true];exact b4
   have s6:σ1.bs (6,c0+2)=some (.var [.nil,.p (.i .i64 0),.p (.i .i64 0),.p (.i .i64 0),.nil,.p (.i .i64 0)]):=by
    rw[←hσ1]
    simp only[xL,Mq,Rt,Bv,hc0,Qp,Nat.reduceAdd,ZP,Nat.reduceEqDiff,false_and,if_false,and_self,if_true];exact b6
   have s7:σ1.bs (7,c0+3)=some (.var [.p (.i .i64 9),.p (.i .i64 lv),.p (.i .i64 0),.p (.s []),.nil,.nil]):=by
    rw[←hσ1]
    simp only[xL,Mq,Rt,Bv,hc0,Qp,Nat.reduceAdd,ZP,Nat.reduceEqDiff,false_and,if_false,and_self,if_true]
   simp only[F26r0,e2,e3,e4,e6,b3,b4,b6,hc0,Ip,n36,Int.reduceLT,Int.reduceEq,zx,XM,Qp,Nat.reduceAdd,Ce,sI,mB,Hh,Es,nxB,evO,simprocAttr]
   rw[hσ1]
   refine Go.Fx.wp_mono (Ot (t:=.mk 5 0 [] l) (lv:=lv) (c0:=c0) hk1 hk2 (by omega) s4 s7 _ ?_ ?_ ?_) ?_
   ·simp only[e2,e3,e4,e6,nxB,evO,simprocAttr]
   ·simp only[e2,e3,e4,e6,nxB,evO,simprocAttr]
   ·simp only[e2,e3,e4,e6,nxB,evO,simprocAttr]
   rintro z e' τ ⟨rfl,f3,f4,f6,f7,⟨d,q,t7,hrow,hq0,hq1⟩,hK2⟩
   simp only[e3,e6,nxB,evO,simprocAttr]at f3 f6
   have t3:=(hK2.bs (3,c0) (by show c0<c0+3;omega)).trans s3
   have t4:=(hK2.bs (4,c0+1) (by show c0+1<c0+3;omega)).trans s4
   have t6:=(hK2.bs (6,c0+2) (by show c0+2<c0+3;omega)).trans s6
   have hc2:=hK2.clk
   have hall:((l.drop 1).map arT).length=l.length-1:=by simp
   obtain⟨v,σ2,k1,X,rfl,k2,k3,k4,k5⟩:=P (c0+4) τ (.own (d,q) 0 (l.length-1)) .nil (by omega) (.inr (.inr ⟨d,q,by rw[nt5];show _=AV.own (d,q) 0 ((l.drop 1).map arT).length;rw[hall],hrow,hq0,hq1,rfl,rfl⟩))
   have b6':=(k3.bs (6,c0+2) (by show c0+2<c0+4;omega)).trans t6
   simp only[nt5,et,Ip,BU,zx,XM]at k1
   have t7':τ.bs (7,c0+3)=some (.var [.p (.i .i64 9),.p (.i .i64 lv),.p (.i .i64 0),.p (.s []),.own (d,q) 0 (l.length-1),.nil]):=t7
   simp only[f3,f4,f6,f7,t3,t4,t7',k1,b6',BU,nxB,evO,simprocAttr]
   exact⟨X,rfl,(k2.putv b6' _).mono (by omega),((hK1.trans (hK2.mono (by omega))).trans (k3.mono (by omega))).put (k:=(6,c0+2)) (by show c0≤c0+2;omega) _⟩
theorem Ma{f:Int}{a:Bool}{t:T}(h:Cl f a t):T.Ok t→f+8*dep t≤100000→sizeZ t≤1000→∀lv:Int,0≤lv→lv+dep t≤60→(a=false→Rc t lv (partG t lv))∧UR t a lv:=by
 induction h with
 | @leaf f k n h=>
   intro ht hf hs lv h0 h1
   have e:partG (.mk k n [] []) lv=VF k n lv:=funext fun m=>by rw[aY,if_pos (by omega)]
   have hd:dep (.mk k n [] [])=1:=rfl
   have hR:Rc (.mk k n [] []) lv (partG (.mk k n [] []) lv):=by rw[e];exact Ec (by omega) ht.kids.2.1 h (by omega)
   exact⟨fun _=>hR,VY hR⟩
 | @lam f b h ih=>
   intro ht hf hs lv h0 h1
   have hd:dep (.mk 2 0 [] [b])=dep b+1:=by show max (dep b) 0+1=_;rw[Wc (ji _)]
   have hsz:sizeZ (.mk 2 0 [] [b])=sizeZ b+0+1:=rfl
   have e:partG (.mk 2 0 [] [b]) lv=Hr lv (partG b lv) 1:=funext fun m=>by rw[aY];rfl
   have hn:=h.nn.2.1
   have hd1:=h.nn.1
   have hb:qT 26 (fN b lv) (partG b lv):=(ih (ht.kids.2.2.2.2 b (by simp)) (by omega) (by omega) lv h0 (by omega)).2
   have hR:Rc (.mk 2 0 [] [b]) lv (partG (.mk 2 0 [] [b]) lv):=by rw[e];exact Gq (by omega) (yG (B:=nv b) (by omega) (by omega) (KE h lv).mono hb 1 (by omega))
   exact⟨fun _=>hR,VY hR⟩
 | @alt f n s b hn0 hn8 hsne h ih=>
   intro ht hf hs lv h0 h1
   have hd:dep (.mk 6 n s [b])=dep b+1:=by show max (dep b) 0+1=_;rw[Wc (ji _)]
   have hsz:sizeZ (.mk 6 n s [b])=sizeZ b+0+1:=rfl
   have e:partG (.mk 6 n s [b]) lv=Hr lv (partG b lv) n.toNat:=funext fun m=>by rw[aY];rfl
   have hn:=h.nn.2.1
   have hd1:=h.nn.1
   have hb:qT 26 (fN b lv) (partG b lv):=(ih (ht.kids.2.2.2.2 b (by simp)) (by omega) (by omega) lv h0 (by omega)).2
   refine⟨fun h=>(by cases h),n,s,b,rfl,hn0,hn8,?_⟩
   rw[e]
   exact yG (B:=nv b) (by omega) (by omega) (KE h lv).mono hb n.toNat (by omega)
 | @node f k s l hk hl ih=>
   intro ht hf hs lv h0 h1
   have hd:dep (.mk k 0 s l)=depL l+1:=rfl
   have hsz:sizeZ (.mk k 0 s l)=sizeLZ l+1:=rfl
   have hlv:0≤lv∧lv≤60:=by omega
   have hl9:l.length≤9:=by omega
   suffices hR:Rc (.mk k 0 s l) lv (partG (.mk k 0 s l) lv) from⟨fun _=>hR,VY hR⟩
   refine gp (f:=f) hlv ht hl9 hk hl fun i x hx=>?_
   have hmem:=yu hx
   have hxd:=Lv hmem
   have hxs:=Tu hmem
   have hx1:=(hl i x hx).nn
   have hxM:=KE (hl i x hx)
   have sm:=zJ (k:=k) (lv:=lv) (i:=i) hxM
   refine⟨fun n hn hr=>?_,fun n=>⟨sm.len n,sm.cap n,by have:=sm.l n;show(XG k lv i x n).l.length≤1000;omega⟩⟩
   refine oL (t:=.mk k 0 s l) (x:=x) (i:=i) hx (by show l.length≤1000;omega) hlv hn hr (fun lv=>⟨_,(hxM lv).mono⟩) (fun hb=>?_) (fun hb=>?_)
   ·have ha:decide (k=5∧0<i)=false:=by
     have hb':ZD k i:=hb
     unfold ZD at hb';simp;omega
    have:=(ih i x hx (ht.kids.2.2.2.2 x hmem) (by omega) (by omega) (lv+1) (by omega) (by omega)).2
    rw[ha]at this
    exact this
   ·exact(ih i x hx (ht.kids.2.2.2.2 x hmem) (by omega) (by omega) lv h0 (by omega)).2
theorem l6{t:T}(ht:T.Ok t)(h:Cl 0 false t)(hmay:may t 0 false=true)(hs:sizeZ t≤80)(hd:dep t≤50):eP S 11 [.g (enc t),.a (.i .i64 4000)]=some (.t [(true,Ip (D0 t)),(false,[.i .i64 0])]):=by
 have hM:=sS ht 0
 rw[hmay]at hM
 have hR:Rc t 0 (partG t 0):=(Ma h ht (by omega) (by omega) 0 (kS _) (by omega)).1 rfl
 have et:=W4 t
 have er:Lc.ns.map Ug=[[.i .i64 1,.i .i64 0,.i .i64 0,.s [],.l [],.l [[.i .i64 0,.i .i64 0]]]]:=rfl
 obtain⟨σ1,hσ1⟩:∃s,(((((St.empty.add 2 (.var [.p (.i .i64 t.k),.p (.i .i64 t.n),.p (.s t.s),.p (.l (t.l.map enc))])).add 4 (.var [.nil,.p (.i .i64 0)])).add 21 (.row 2 42 [[.i .i64 0,.i .i64 0]])).kill (21,2)).add 23 (.row 6 46 [[.i .i64 1,.i .i64 0,.i .i64 0,.s [],.l [],.l [[.i .i64 0,.i .i64 0]]]]))=s:=⟨_,rfl⟩
 have hcl:σ1.clk=4:=by rw[←hσ1];rfl
 obtain⟨v,σ2,k1,X,rfl,k2,k3⟩:=N5 hR YJ.room (JJ h hs hd) (σ:=σ1) (d:=23) (q:=3) (tt:=46) (by rw[er,←hσ1];rfl) (by rw[hcl];decide)
 rw[hcl]at k2 k3
 obtain⟨g1,g2,g3,_⟩:=hR Lc YJ.room (JJ h hs hd)
 have b2:σ2.bs (2,0)=some (.var [.p (.i .i64 t.k),.p (.i .i64 t.n),.p (.s t.s),.p (.l (t.l.map enc))]):=by rw[k3 (2,0) (by decide) (by decide),←hσ1];rfl
 have b4:σ2.bs (4,1)=some (.var [.nil,.p (.i .i64 0)]):=by rw[k3 (4,1) (by decide) (by decide),←hσ1];rfl
 have wo:wf (partG t 0 Lc).out.n∧wf (partG t 0 Lc).out.s:=⟨⟨by omega,by omega⟩,⟨by omega,by omega⟩⟩
 have c1:=xh (p:=(partG t 0 Lc).out) (q:=zP) g1.ok wo ⟨⟨by decide,by decide⟩,⟨by decide,by decide⟩⟩
 have a0:=DJ 0 0
 have ew:lnk (partG t 0 Lc).n (partG t 0 Lc).out zP=D0 t:=rfl
 rw[ew]at c1
 obtain⟨y,hy⟩:∃y,partG t 0 Lc=y:=⟨_,rfl⟩
 obtain⟨n,hn⟩:∃n,D0 t=n:=⟨_,rfl⟩
 rw[hy]at k1 k2 c1
 rw[hn]at c1⊢
 have z1:zP.n=0:=rfl
 have z2:zP.s=0:=rfl
 have rl:Lc.ns.length=1:=rfl
 have rc:Lc.cap=4000:=rfl
 simp only[Ip,xN,z1,z2]at c1
 simp only[et,BU,rl,rc,zx,XM]at k1
 refine Cf (xO (by decide)) (fc:=F11) rfl rfl ?_
 simp only[et]at hM
 simp only[F11,et,hM,Int.reduceLT,Int.reduceGT,Int.reduceEq,nxB,evO,simprocAttr]
 rw[hσ1]
 obtain⟨c',hc'⟩:∃c,σ2.clk=c:=⟨_,rfl⟩
 have hX:∀d q,X= .own (d,q) 0 y.l.length→q<c'∧4≤q:=fun d q e=>by
  rcases k2 with⟨h,_⟩|⟨d',q',h,_,h3,h4⟩
  ·rw[h]at e;cases e
  ·rw[h]at e;injection e with e1 _ _;injection e1 with _ e2;omega
 simp only[k1,c1,a0,b2,b4,hc',Ip,Ce,sI,Hh,Es,nxB,evO,simprocAttr]
theorem My:con []=false:=by
 have h1:=ZF [] (by simp[reachBytes])
 have h2:eP S 86 [.a (.s [])]=some (.a (.b false)):=by
  refine Cf (xO (by decide)) (fc:=F86) rfl rfl ?_
  simp only[F86,nxB,evO,simprocAttr]
 rw[h2]at h1
 injection h1 with h1
 injection h1 with h1
 injection h1 with h1
 exact h1.symm
theorem Dq{k n:Int}{s:List UInt8}{l:List T}{f:Int}{a:Bool}(h:Qf (.mk k n s l) f a=true):
  (a=true∧k=6∧0≤n∧n≤8∧s≠[]∧l.length=1)∨(a=false∧((((k=1∧0≤n∧n<f)∨k=7∨k=9)∧s=[]∧l=[])∨(k=2∧n=0∧s=[]∧l.length=1)∨
   (n=0∧((k=3∧s=[]∧l.length=2)∨(k=4∧s≠[]∧l.length≤8)∨(k=8∧s≠[]∧l.length=2)∨(k=5∧s=[]∧2≤l.length∧l.length≤9))))):=by
 have e:Qf (.mk k n s l) f a=CU k n s l.length f a:=rfl
 have hc:con s=true→s≠[]:=by rintro h rfl;rw[My]at h;cases h
 have ho:G6 s=true→s≠[]:=by rintro h rfl;simp[G6]at h
 have hl:((l.length:Nat):Int)=0→l=[]:=fun h=>eL (by omega)
 rw[e]at h
 unfold CU at h
 cases a with
 |true=>
  simp only[if_true,Cd,decide_eq_true_eq]at h
  exact .inl ⟨rfl,h.1.1.1.1,h.1.1.2,h.1.2,hc h.1.1.1.2,by omega⟩
 |false=>
  refine .inr ⟨rfl,?_⟩
  simp only[SY,if_false]at h
  by_cases h1:k=1
  ·rw[if_pos h1]at h;simp only[Cd,decide_eq_true_eq]at h
   exact .inl ⟨.inl ⟨h1,h.1.2,h.2⟩,h.1.1.1,hl h.1.1.2⟩
  rw[if_neg h1]at h
  by_cases h2:k=2
  ·rw[if_pos h2]at h;simp only[Cd,decide_eq_true_eq]at h
   exact .inr (.inl ⟨h2,h.1.2,h.1.1,by omega⟩)
  rw[if_neg h2]at h
  by_cases h3:k=3
  ·rw[if_pos h3]at h;simp only[Cd,decide_eq_true_eq]at h
   exact .inr (.inr ⟨h.1.2,.inl ⟨h3,h.1.1,by omega⟩⟩)
  rw[if_neg h3]at h
  by_cases h4:k=4
  ·rw[if_pos h4]at h;simp only[Cd,decide_eq_true_eq]at h
   exact .inr (.inr ⟨h.1.2,.inr (.inl ⟨h4,hc h.1.1,by omega⟩)⟩)
  rw[if_neg h4]at h
  by_cases h5:k=5
  ·rw[if_pos h5]at h;simp only[Cd,decide_eq_true_eq]at h
   exact .inr (.inr ⟨h.1.1.2,.inr (.inr (.inr ⟨h5,h.1.1.1,by omega,by omega⟩))⟩)
  rw[if_neg h5]at h
  by_cases h7:k=7
  ·rw[if_pos h7]at h;simp only[Cd,decide_eq_true_eq]at h
   exact .inl ⟨.inr (.inl h7),h.1,hl h.2⟩
  rw[if_neg h7]at h
  by_cases h8:k=8
  ·rw[if_pos h8]at h;simp only[Cd,decide_eq_true_eq]at h
   exact .inr (.inr ⟨h.1.2,.inr (.inr (.inl ⟨h8,ho h.1.1,by omega⟩))⟩)
  rw[if_neg h8]at h
  by_cases h9:k=9
  ·rw[if_pos h9]at h;simp only[Cd,decide_eq_true_eq]at h
   exact .inl ⟨.inr (.inr h9),h.1.1,hl h.2⟩
  rw[if_neg h9]at h;cases h
theorem H6:∀(t:T) (f:Int) (a:Bool),0≤f→f+8*dep t≤100000→may t f a=true→Cl f a t:=by
 intro t
 induction t using T.ind with
 |h k n s l ih=>
  intro f a hf hd hm
  rw[may_iff hf (by omega)]at hm
  obtain⟨hh,hl⟩:=hm
  have hdl:dep (.mk k n s l)=depL l+1:=rfl
  rcases Dq hh with⟨rfl,rfl,h1,h2,h3,h4⟩|⟨rfl,h|h|h⟩
  ·obtain⟨b,rfl⟩:=ZA.1 h4
   have hb:=(hl 0 b rfl).1
   have hdb:depL [b]=dep b:=Wc (ji _)
   refine .alt h1 h2 h3 (ih b (by simp) (f+n) false (by omega) (by omega) ?_)
   exact hb
  ·obtain⟨h1,rfl,rfl⟩:=h
   exact .leaf h1
  ·obtain⟨rfl,rfl,rfl,h4⟩:=h
   obtain⟨b,rfl⟩:=ZA.1 h4
   have hb:=(hl 0 b rfl).1
   have hdb:depL [b]=dep b:=Wc (ji _)
   refine .lam (ih b (by simp) (f+1) false (by omega) (by omega) ?_)
   exact hb
  ·obtain⟨rfl,h⟩:=h
   have hk:k≠2∧k≠6:=by omega
   have hmore:T.more (.mk k 0 s l)=0:=by show(if k=2 then 1 else if k=6 then 0 else 0)=_;rw[if_neg hk.1,if_neg hk.2]
   refine .node ?_ fun j t hj=>?_
   ·rcases h with h|h|h|⟨rfl,h2,h3,h4⟩
    ·exact .inl h
    ·exact .inr (.inl h)
    ·exact .inr (.inr (.inl h))
    ·refine .inr (.inr (.inr ⟨rfl,h2,h3,h4,?_⟩))
     unfold List.Nodup
     rw[List.pairwise_iff_getElem]
     intro i j hi hj hij e
     rw[mB,z5]at hi hj
     obtain⟨u,hu⟩:∃u,l[1+j]? =some u:=⟨_,Xb (by omega)⟩
     obtain⟨v,hv⟩:∃v,l[1+i]? =some v:=⟨_,Xb (by omega)⟩
     have hdup:=(hl (1+j) u hu).2 rfl
     unfold dup at hdup
     rw[GL]at hdup
     have hvm:v∈(l.take (1+j)).drop 1:=by
      refine yu (i:=i) ?_
      rw[L9,XL,if_pos (by omega)];exact hv
     have:=hdup v hvm
     simp only[decide_eq_true_eq]at this
     apply this
     have g1:((l.drop 1).map T.s)[i]? =some v.s:=by rw[Qy,L9,hv];rfl
     have g2:((l.drop 1).map T.s)[j]? =some u.s:=by rw[Qy,L9,hu];rfl
     rw[Xb (by rw[mB,z5];omega)]at g1 g2
     rw[←BQ g1,←BQ g2];exact e
   ·have h1:=(hl j t hj).1
    rw[hmore,aE]at h1
    have hmem:=yu hj
    have:=Lv hmem
    refine ih t hmem f _ hf (by omega) ?_
    have e:decide (k=5∧0<j)=(decide (k=5)&&decide (((j:Nat):Int)>0)):=by
     rw[Gy];simp
    rw[e];exact h1
end Go.Proofs.YtmlhgalboabjcaaGreat.Tm
namespace Go.Proofs.YtmlhgalboabjcaaGreat
open Go.Fx
theorem QN{n:Nt}{i:Int}(hn:n.Ok):eP S 19 [.g (Ip n),.a (.i .i64 i)]=some (B9 (QQ n i)):=by
 refine Cf (xO (by decide)) (fc:=F19) rfl rfl ?_
 have c1:=BY (i:=i) hn
 have c2:=Tl hn
 obtain⟨m,hm⟩:∃m,(if bool n.Good then n.swept else n)=m:=⟨_,rfl⟩
 have hmo:m.Ok:=by
  rw[←hm];split
  ·exact Fu hn
  ·exact hn
 have c3:=BY (i:=i) hmo
 unfold QQ
 rw[hm]at c2⊢
 obtain⟨⟨a,p,e⟩,hr⟩:∃r,doR n i=r:=⟨_,rfl⟩
 obtain⟨⟨b,q,f⟩,hs⟩:∃r,doR m i=r:=⟨_,rfl⟩
 rw[hr]at c1⊢
 rw[hs]at c3⊢
 simp only[B9,Ip,II,Ug]at c1 c3
 simp only[Ip]at c2
 by_cases he:e=121
 ·subst he
  by_cases hf:f=0
  ·subst hf
   simp only[F19,c1,c2,c3,B9,Ip,II,Ug,Int.reduceEq,ne_eq,not_true_eq_false,not_false_eq_true,nxB,evO,simprocAttr]
  ·simp only[F19,c1,c2,c3,hf,B9,Ip,II,Ug,p0,zN,XM,Int.reduceEq,ne_eq,not_true_eq_false,not_false_eq_true,nxB,evO,simprocAttr]
 ·simp only[F19,c1,he,B9,Ip,II,Ug,Int.reduceEq,ne_eq,not_true_eq_false,not_false_eq_true,nxB,evO,simprocAttr]
def ia1(x:Int):PV:=.i .i64 x
def mch(n:Nt)(t:List Int)(d:Int):List PV:=.l (n.ns.map Ug):: .i .i64 n.cap::(t.map ia1++[.i .i64 d])
structure MG(ks:Key)(n:Nt)(t:List Int)(d:Int)(σ:St):Prop where
 bs:σ.bs ks=some (.var ((mch n t d).map .p))
 lt:ks.2<σ.clk
theorem MG.add{ks:Key}{n:Nt}{t:List Int}{d:Int}{σ:St}(h:MG ks n t d σ)(e:Nat)(x:Blk):MG ks n t d (σ.add e x):=by
 have hl:=h.lt
 have:¬ks=(e,σ.clk):=by rintro rfl;simp at hl
 exact⟨by simp only[Mq,this,if_false];exact h.bs,by simp only[Bv];omega⟩
theorem MG.put{ks:Key}{n:Nt}{t:List Int}{d:Int}{σ:St}(h:MG ks n t d σ){k:Key}(hk:¬ks=k)(x:Blk):MG ks n t d (σ.put k x):=
 ⟨by simp only[xL,hk,if_false];exact h.bs,h.lt⟩
theorem MG.kill{ks:Key}{n:Nt}{t:List Int}{d:Int}{σ:St}(h:MG ks n t d σ){k:Key}(hk:¬ks=k):MG ks n t d (σ.kill k):=
 ⟨by simp only[Sn,hk,if_false];exact h.bs,h.lt⟩
theorem MG.set{ks:Key}{n:Nt}{t:List Int}{d:Int}{σ:St}(h:ks.2<σ.clk):MG ks n t d (σ.put ks (.var ((mch n t d).map .p))):=
 ⟨by simp only[xL,if_true],h⟩
theorem Pr{t:List Int}(h:t.length=9):∃a0 a1 a2 a3 a4 a5 a6 a7 a8,t=[a0,a1,a2,a3,a4,a5,a6,a7,a8]:=by
 match t,h with
 |[a0,a1,a2,a3,a4,a5,a6,a7,a8],_=>exact⟨_,_,_,_,_,_,_,_,_,rfl⟩
noncomputable def XD(n:Nt)(t:List Int)(i:Int):List Int:=if(QQ n i).2.2=0 then bump t (QQ n i).2.1.k else t
theorem MC{ks:Key}{n:Nt}{t:List Int}{d i:Int}{σ:St}(hn:n.Ok)(hG:n.Good)(hC:Cnt t d)(hd:d≤200000)(h:MG ks n t d σ):
  ∃σ',eS S (.f 30) [.a (.ptr ks 0 0),.a (.p (.i .i64 i))] σ=some (.a (.p (.i .i64 (QQ n i).2.2)),σ')∧MG ks (QQ n i).1 (XD n t i) (if(QQ n i).2.2=0 then d+1 else d) σ'∧Fr ks σ σ':=by
 refine Zy (fc:=F30) rfl rfl ?_
 have c1:=QN (i:=i) hn
 have hT:=Px hn hG i
 have hno:=hT.no
 have hk:=hT.k
 unfold XD
 obtain⟨⟨m,p,e⟩,hr⟩:∃r,QQ n i=r:=⟨_,rfl⟩
 rw[hr]at c1 hno hk⊢
 simp only at hno hk⊢
 have s1:=h.bs
 have hlt:=h.lt
 have hle:=KJ hC.pos
 rw[hC.sum]at hle
 have hpos:=hC.pos
 have hd0:0≤d:=by rw[←hC.sum];exact KJ.sum_nn hC.pos
 obtain⟨a0,a1,a2,a3,a4,a5,a6,a7,a8,rfl⟩:=Pr hC.len
 simp only[qY,oZ,or_false,forall_eq_or_imp,forall_eq]at hle hpos
 have ne0:∀d,¬ks=(d,σ.clk):=by rintro d rfl;simp at hlt
 have ne1:∀d,¬ks=(d,σ.clk+1):=by rintro d rfl;simp at hlt;omega
 have ne2:∀d,¬(d,σ.clk)=ks:=fun d h=>ne0 d h.symm
 have ne3:∀d,¬(d,σ.clk+1)=ks:=fun d h=>ne1 d h.symm
 simp only[B9,Ip,II,Ug]at c1
 simp only[mch,ia1,zx,XM,Hh,Es]at s1
 by_cases he:e=0
 ·subst he
  have hk:=hk rfl
  have w9:IntKind.i64.wrap (d+1)=d+1:=qI _ (by omega)
  obtain⟨q,hq⟩:∃q,p.k=q:=⟨_,rfl⟩
  rw[hq]at c1 hk⊢
  have w0:∀x:Int,0≤x→x≤d→IntKind.i64.wrap (x+1)=x+1:=fun x h1 h2=>qI _ (by omega)
  have v1:=w0 a1 (by omega) (by omega)
  have v2:=w0 a2 (by omega) (by omega)
  have v3:=w0 a3 (by omega) (by omega)
  have v4:=w0 a4 (by omega) (by omega)
  have v5:=w0 a5 (by omega) (by omega)
  have v6:=w0 a6 (by omega) (by omega)
  have v7:=w0 a7 (by omega) (by omega)
  have v8:=w0 a8 (by omega) (by omega)
  obtain rfl|rfl|rfl|rfl|rfl|rfl|rfl|rfl:q=1∨q=2∨q=3∨q=4∨q=5∨q=6∨q=7∨q=8:=by omega
  all_goals
   simp only[F30,s1,c1,ne0,ne1,ne2,ne3,v1,v2,v3,v4,v5,v6,v7,v8,w9,Mz,Int.reduceLE,Int.reduceLT,Int.reduceToNat,Int.reduceAdd,Int.reduceSub,Int.reduceNeg,nxB,evO,simprocAttr]
   exact⟨⟨by simp only[xL,if_true];rfl,by simp only[Rt,Bv];omega⟩,((((((((Fr.refl ks σ).add _ _).add _ _).put (.inr (nh _)) _).put (.inr (ZY _)) _).put (.inl rfl) _).put (.inl rfl) _).put (.inl rfl) _)⟩
 ·simp only[F30,s1,c1,he,ne0,ne1,ne2,ne3,nxB,evO,simprocAttr]
  rw[(hno he).1]
  exact⟨(((h.add _ _).add _ _).put (ne0 _) _).put (ne1 _) _,((((Fr.refl ks σ).add _ _).add _ _).put (.inr (nh _)) _).put (.inr (ZY _)) _⟩
theorem xf{ks:Key}{n:Nt}{t:List Int}{d:Int}{k:Nat}{p:Pt}{σ:St}(hp:wf p.n∧wf p.s)(hn:n.Ok)(hG:n.Good)(hC:Cnt t d)(hd:d+k≤200000)(h:MG ks n t d σ):
  ∃σ',eS S (.f 31) [.a (.ptr ks 0 0),.g [.p (.i .i64 p.n),.p (.i .i64 p.s)],.a (.p (.i .i64 (d+k)))] σ=some (.t [(false,[.p (.i .i64 (gq p k n t).at_)]),(false,[.p (.i .i64 (gq p k n t).e)])],σ')∧(∃d',MG ks (gq p k n t).n (gq p k n t).t d' σ')∧Fr ks σ σ':=by
 refine Zy (fc:=F31) rfl rfl ?_
 have hlt:=h.lt
 have ne0:¬ks=(4,σ.clk):=by rintro rfl;simp at hlt
 simp only[F31,nxB,evO,simprocAttr]
 obtain⟨R,hR⟩:∃R,gq p k n t=R:=⟨_,rfl⟩
 obtain⟨fuel,hf⟩:∃f,d+(k:Int)=f:=⟨_,rfl⟩
 rw[hR,hf]
 refine VK (fun k e τ=>∃(n:Nt) (t:List Int) (d:Int),n.Ok∧n.Good∧Cnt t d∧d+(k:Int)=fuel∧MG ks n t d τ∧Fr ks σ τ∧σ.clk<τ.clk∧τ.bs (4,σ.clk)=some (.var [.p (.i .i64 p.n),.p (.i .i64 p.s)])∧e 0= .a (.ptr ks 0 0)∧e 2= .a (.p (.i .i64 fuel))∧e 4= .a (.ptr (4,σ.clk) 0 0)∧gq p k n t=R) (fun k e τ hI=>?_) k _ _ ⟨n,t,d,hn,hG,hC,hf,h.add _ _,(Fr.refl ks σ).add _ _,by simp only[Bv];omega,by simp only[Mq,if_true],rfl,rfl,rfl,hR⟩
 obtain⟨n,t,d,hn,hG,hC,hdf,hS,hF,hclk,hb,e0,e2,e4,hR⟩:=hI
 have c1:=PU hn hp
 have s1:=hS.bs
 have hT:=Px hn hG (DR n p).en
 have hd0:0≤d:=by rw[←hC.sum];exact KJ.sum_nn hC.pos
 obtain⟨tl,htl⟩:∃tl,t.map ia1++[.i .i64 d]=tl:=⟨_,rfl⟩
 simp only[Ip,xN]at c1
 have e11:((mch n t d).map AV.p).length=12:=by simp[mch,hC.len]
 have g11:((((mch n t d).map AV.p).drop 11).take 1)=[.p (.i .i64 d)]:=by
  obtain⟨a0,a1,a2,a3,a4,a5,a6,a7,a8,rfl⟩:=Pr hC.len
  rfl
 have g0:(((mch n t d).map AV.p).take 2)=[.p (.l (n.ns.map Ug)),.p (.i .i64 n.cap)]:=by
  rfl
 by_cases h1:(DR n p).e=0
 case neg=>
  have hR2:R=⟨n,0,t,(DR n p).e⟩:=by
   rw[←hR];unfold gq;cases k<;>simp only[ne_eq,h1,not_false_eq_true,if_true]
  rw[hR2]
  simp only[F31b0,e0,e2,e4,s1,hb,c1,h1,e11,g0,nxB,evO,simprocAttr]
  exact⟨⟨_,hS⟩,hF⟩
 cases h2:(DR n p).is with
 |false=>
  have hR2:R=⟨n,(DR n p).en,t,0⟩:=by
   rw[←hR];unfold gq;cases k<;>simp only[ne_eq,h1,h2,not_true_eq_false,if_true,if_false]
  rw[hR2]
  rw[h2]at c1
  simp only[F31b0,e0,e2,e4,s1,hb,c1,h1,e11,g0,nxB,evO,simprocAttr]
  exact⟨⟨_,hS⟩,hF⟩
 |true=>
  rw[h2]at c1
  cases k with
  |zero=>
   have hR2:R=⟨n,0,t,90⟩:=by
    rw[←hR];unfold gq;simp only[ne_eq,h1,h2,not_true_eq_false,if_true,if_false,U8]
   rw[hR2]
   obtain rfl:fuel=d:=by omega
   simp only[F31b0,e0,e2,e4,s1,hb,c1,h1,e11,g0,g11,nxB,evO,simprocAttr]
   exact⟨⟨_,hS⟩,hF⟩
  |succ k=>
   have hne:¬d=fuel:=by omega
   obtain⟨τ1,c2,hS1,hF1⟩:=MC (i:=(DR n p).en) hn hG hC (by omega) hS
   unfold XD at hS1
   have hb1:=(hF1.bs (4,σ.clk) (by simpa using hclk) (Mu ne0)).trans hb
   have hc1:=hF1.clk
   by_cases h3:(QQ n (DR n p).en).2.2=0
   ·rw[h3,if_pos rfl,if_pos rfl]at hS1
    rw[h3]at c2
    have hR2:R=gq p k (QQ n (DR n p).en).1 (bump t (QQ n (DR n p).en).2.1.k):=by
     rw[←hR];conv=>lhs;unfold gq
     simp only[ne_eq,h1,h2,h3,not_true_eq_false,if_true,if_false,U8]
    simp only[F31b0,e0,e2,e4,s1,hb,c1,c2,iX,h1,e11,g0,g11,hne,nxB,evO,simprocAttr]
    exact⟨k,by omega,_,_,_,hT.ok,hT.good,hC.bump (hT.k h3),by omega,hS1,hF.trans hF1,by omega,hb1,hR2.symm⟩
   ·rw[if_neg h3,if_neg h3]at hS1
    have hR2:R=⟨n,0,t,(QQ n (DR n p).en).2.2⟩:=by
     rw[←hR];unfold gq
     simp only[ne_eq,h1,h2,h3,not_true_eq_false,not_false_eq_true,if_true,if_false,U8]
    rw[(hT.no h3).1]at hS1
    rw[hR2]
    simp only[F31b0,e0,e2,e4,s1,hb,c1,c2,iX,h1,h3,e11,g0,g11,hne,nxB,evO,simprocAttr]
    exact⟨⟨_,hS1⟩,hF.trans hF1⟩
def SS(r:HR):PT:=.t [(true,Ip r.n),(false,[.i .i64 r.at_]),(true,r.t.map ia1),(false,[.i .i64 r.e])]
theorem qz{n:Nt}{p:Pt}{f:Int}(hp:wf p.n∧wf p.s)(hn:n.Ok)(hG:n.Good)(hf:0≤f∧f≤100000):eP S 13 [.g (Ip n),.g (xN p),.a (.i .i64 f)]=some (SS (gq p f.toNat n tz)):=by
 refine Cf (xO (by decide)) (fc:=F13) rfl rfl ?_
 have h1:¬f<0:=by omega
 have h2:¬f>100000:=by omega
 obtain⟨τ,c1,⟨d',hS⟩,hF⟩:=xf (ks:=(23,4)) (k:=f.toNat) (d:=0) (σ:=((((St.empty.add 3 (.var [.p (.l (n.ns.map Ug)),.p (.i .i64 n.cap)])).add 4 (.var [.p (.i .i64 p.n),.p (.i .i64 p.s)])).add 6 (.var [.nil,.p (.i .i64 0)])).add 8 (.var [.p (.i .i64 0),.p (.i .i64 0),.p (.i .i64 0),.p (.i .i64 0),.p (.i .i64 0),.p (.i .i64 0),.p (.i .i64 0),.p (.i .i64 0),.p (.i .i64 0)])).add 23 (.var ((mch n tz 0).map .p))) hp hn hG Ut (by omega) ⟨rfl,by show 4<5;omega⟩
 rw[show(0:Int)+(f.toNat:Int)=f by omega]at c1
 have hR:=head_ok p f.toNat hn hG Ut
 obtain⟨R,hRe⟩:∃R,gq p f.toNat n tz=R:=⟨_,rfl⟩
 rw[hRe]at c1 hS hR⊢
 obtain⟨d2,hC,_,_,_⟩:=hR.cnt
 have s1:=hS.bs
 obtain⟨m,at_,t,e⟩:=R
 simp only at c1 s1 hC⊢
 obtain⟨a0,a1,a2,a3,a4,a5,a6,a7,a8,rfl⟩:=Pr hC.len
 have b6:=hF.bs (6,2) (by show 2<5;omega) (by simp)
 have b8:=hF.bs (8,3) (by show 3<5;omega) (by simp)
 simp only[mch,tz,ia1,zx,XM,Hh,Es]at c1 s1 b6 b8
 simp only[F13,h1,h2,Ip,xN,SS,ia1,c1,s1,b6,b8,iX,zx,XM,nxB,evO,simprocAttr]
theorem rU(l:List Int):(l.map qM).all (fun r=>decide (r.length=1))=true:=by simp[qM]
def fe(r:PR):PT:=.t [(true,Ip r.n),(true,r.t.map ia1),(false,[.i .i64 r.e])]
theorem Wn{n:Nt}{l:List Int}(hn:n.Ok)(hG:n.Good)(hl:l.length≤100000)(hw:∀i∈l,wf i):eP S 12 [.g (Ip n),.a (.l (l.map qM))]=some (fe (vK l n tz)):=by
 refine Cf (xO (by decide)) (fc:=F12) rfl rfl ?_
 obtain⟨σ0,hσ⟩:∃σ,σ=(((St.empty.add 2 (.var [.p (.l (n.ns.map Ug)),.p (.i .i64 n.cap)])).add 4 (.var [.nil,.p (.i .i64 0)])).add 5 (.var [.p (.i .i64 0),.p (.i .i64 0),.p (.i .i64 0),.p (.i .i64 0),.p (.i .i64 0),.p (.i .i64 0),.p (.i .i64 0),.p (.i .i64 0),.p (.i .i64 0)])).add 15 (.var ((mch n tz 0).map .p)):=⟨_,rfl⟩
 have b4:σ0.bs (4,1)=some (.var [.nil,.p (.i .i64 0)]):=by rw[hσ];rfl
 have b5:σ0.bs (5,2)=some (.var [.p (.i .i64 0),.p (.i .i64 0),.p (.i .i64 0),.p (.i .i64 0),.p (.i .i64 0),.p (.i .i64 0),.p (.i .i64 0),.p (.i .i64 0),.p (.i .i64 0)]):=by rw[hσ];rfl
 have hclk:σ0.clk=4:=by rw[hσ];rfl
 have hS0:MG (15,3) n tz 0 σ0:=⟨by rw[hσ];rfl,by rw[hclk];show 3<4;omega⟩
 have hσ':=hσ
 simp only[mch,tz,ia1,zx,XM,Hh,Es]at hσ'
 simp only[F12,Ip,fxa,fxc,fxE,fxL,fxI,nxE,evO,evR,dV,cM,mkT,lenA,mE,Env.init,JC,O2,frT,klT,PZ,mO,O.adds,MQ,B2,over,eh,yQ,J8,ne_eq,if_true,if_false,ite_self,Nat.reduceLT,Nat.reduceSub,Nat.reduceBEq,Nat.reduceEqDiff,Nat.reduceAdd,Nat.reduceLeDiff,reduceCtorEq,Nat.reduceMul]
 rw[←hσ']
 obtain⟨R,hR⟩:∃R,vK l n tz=R:=⟨_,rfl⟩
 rw[hR]
 refine VK (fun k e τ=>∃(i:Nat) (n:Nt) (t:List Int) (d:Int),i+k=l.length∧n.Ok∧n.Good∧Cnt t d∧d≤i∧MG (15,3) n t d τ∧Fr (15,3) σ0 τ∧e 4= .a (.ptr (4,1) 0 0)∧e 5= .a (.ptr (5,2) 0 0)∧e 7= .a (.ptr (15,3) 0 0)∧e 16= .a (.p (.l (l.map qM)))∧e 17= .a (.p (.i .i64 (l.length:Nat)))∧e 18= .a (.p (.i .i64 (i:Nat)))∧vK (l.drop i) n t=R) (fun k e τ hI=>?_) l.length _ _ ⟨0,n,tz,0,by omega,hn,hG,Ut,by omega,hS0,Fr.refl _ _,rfl,rfl,rfl,rfl,by simp only[mB,fxa,fxc,fxE,fxL,fxI,nxE,evO,evR,dV,cM,mkT,lenA,mE,Env.init,JC,O2,frT,klT,PZ,mO,O.adds,MQ,B2,over,eh,yQ,J8,ne_eq,if_true,if_false,ite_self,Nat.reduceLT,Nat.reduceSub,Nat.reduceBEq,Nat.reduceEqDiff,Nat.reduceAdd,Nat.reduceLeDiff,reduceCtorEq,Nat.reduceMul],rfl,hR⟩
 obtain⟨i,n,t,d,hik,hn,hG,hC,hdi,hS,hF,e4,e5,e7,e16,e17,e18,hR⟩:=hI
 have s1:=hS.bs
 have t4:=(hF.bs (4,1) (by rw[hclk];show 1<4;omega) (by simp)).trans b4
 have t5:=(hF.bs (5,2) (by rw[hclk];show 2<4;omega) (by simp)).trans b5
 have hge:=hF.clk
 have e11:((mch n t d).map AV.p).length=12:=by simp[mch,hC.len]
 have g2:((((mch n t d).map AV.p).drop 2).take 9)=(t.map ia1).map AV.p:=by
  obtain⟨a0,a1,a2,a3,a4,a5,a6,a7,a8,rfl⟩:=Pr hC.len
  rfl
 have g0:(((mch n t d).map AV.p).take 2)=[.p (.l (n.ns.map Ug)),.p (.i .i64 n.cap)]:=by
  rfl
 have hlt9:((t.map ia1).map AV.p).length=9:=by simp[hC.len]
 have tk9:List.take 9 ((t.map ia1).map AV.p)=(t.map ia1).map AV.p:=Ea (by omega)
 have fr9:∀τ:St,frL τ ((t.map ia1).map AV.p)=some (t.map ia1):=fun τ=>Zs τ _
 by_cases hi:i<l.length
 case neg=>
  have hd:l.drop i=[]:=nZ (by omega)
  rw[hd]at hR
  have hR:(⟨n,t,0⟩:PR)=R:=hR
  rw[←hR]
  have hlt:¬((i:Nat):Int)<(l.length:Int):=by omega
  simp only[F12b0,e4,e5,e7,e16,e17,e18,hlt,s1,t4,t5,e11,g0,g2,hlt9,tk9,fr9,fe,Ip,fxa,fxc,fxE,fxL,fxI,nxE,evO,evR,dV,cM,mkT,lenA,mE,Env.init,JC,O2,frT,klT,PZ,mO,O.adds,MQ,B2,over,eh,yQ,J8,ne_eq,if_true,if_false,ite_self,Nat.reduceLT,Nat.reduceSub,Nat.reduceBEq,Nat.reduceEqDiff,Nat.reduceAdd,Nat.reduceLeDiff,reduceCtorEq,Nat.reduceMul]
 obtain⟨x,hx⟩:∃x,l[i]? =some x:=⟨_,Xb hi⟩
 have hxw:=hw x (yu hx)
 have gx:=Kr qM hx
 rw[UO hx]at hR
 have hlt:((i:Nat):Int)<(l.length:Int):=by omega
 have hge0:(0:Int)≤((i:Nat):Int):=by omega
 have hws:IntKind.i64.wrap ((i:Int)+1)=((i+1:Nat):Int):=zz i (by omega)
 have c1:=Bi hn hxw
 simp only[qM]at gx
 simp only[Ip,xN]at c1
 by_cases h0:n.rds.length=0
 ·have hR2:(⟨n,t,0⟩:PR)=R:=by
   rw[←hR];show _=(if _ then _ else _);rw[if_pos h0]
  rw[←hR2]
  have hd0:decide (n.rds.length≠0)=false:=by simp[h0]
  rw[hd0,if_pos h0]at c1
  simp only[zP]at c1
  simp only[F12b0,e4,e5,e7,e16,e17,e18,hlt,hge0,gx,rU,c1,s1,t4,t5,e11,g0,g2,hlt9,tk9,fr9,fe,Ip,KA,mB,fxa,fxc,fxE,fxL,fxI,nxE,evO,evR,dV,cM,mkT,lenA,mE,Env.init,JC,O2,frT,klT,PZ,mO,O.adds,MQ,B2,over,eh,yQ,J8,ne_eq,if_true,if_false,ite_self,Nat.reduceLT,Nat.reduceSub,Nat.reduceBEq,Nat.reduceEqDiff,Nat.reduceAdd,Nat.reduceLeDiff,reduceCtorEq,Nat.reduceMul]
 ·have hd0:decide (n.rds.length≠0)=true:=by simp[h0]
  rw[hd0,if_neg h0]at c1
  obtain⟨p,hp⟩:∃p,n.rds.getD (oJ x n.rds.length) zP=p:=⟨_,rfl⟩
  rw[hp]at c1
  have hT:=Px hn hG p.n
  have ne0:¬((15,3):Key)=(10,τ.clk):=by simp
  obtain⟨τ1,c2,hS1,hF1⟩:=MC (i:=p.n) hn hG hC (by omega) ((hS.add 10 (.var [.p (.i .i64 0),.p (.i .i64 0)])).put (k:=(10,τ.clk)) ne0 (.var [.p (.i .i64 p.n),.p (.i .i64 p.s)]))
  have hF2:=(((hF.add 10 (.var [.p (.i .i64 0),.p (.i .i64 0)])).put (k:=(10,τ.clk)) (.inr (by exact hge)) (.var [.p (.i .i64 p.n),.p (.i .i64 p.s)]))).trans hF1
  unfold XD at hS1
  have u4:=(hF2.bs (4,1) (by rw[hclk];show 1<4;omega) (by simp)).trans b4
  have u5:=(hF2.bs (5,2) (by rw[hclk];show 2<4;omega) (by simp)).trans b5
  by_cases h3:(QQ n p.n).2.2=0
  ·rw[h3,if_pos rfl,if_pos rfl]at hS1
   rw[h3]at c2
   have hR2:vK (l.drop (i+1)) (QQ n p.n).1 (bump t (QQ n p.n).2.1.k)=R:=by
    rw[←hR,←hp];show _=(if _ then _ else _);rw[if_neg h0,hp,if_neg (by rw[h3];simp)]
   simp only[F12b0,e4,e5,e7,e16,e17,e18,hlt,hge0,hws,gx,rU,c1,c2,iX,s1,t4,t5,e11,g0,g2,Ip,KA,mB,fxa,fxc,fxE,fxL,fxI,nxE,evO,evR,dV,cM,mkT,lenA,mE,Env.init,JC,O2,frT,klT,PZ,mO,O.adds,MQ,B2,over,eh,yQ,J8,ne_eq,if_true,if_false,ite_self,Nat.reduceLT,Nat.reduceSub,Nat.reduceBEq,Nat.reduceEqDiff,Nat.reduceAdd,Nat.reduceLeDiff,reduceCtorEq,Nat.reduceMul]
   exact⟨k-1,by omega,i+1,_,_,_,by omega,hT.ok,hT.good,hC.bump (hT.k h3),by omega,hS1,hF2,rfl,hR2⟩
  ·rw[if_neg h3,if_neg h3]at hS1
   have hR2:(⟨n,t,(QQ n p.n).2.2⟩:PR)=R:=by
    rw[←hR,←hp];show _=(if _ then _ else _);rw[if_neg h0,hp,if_pos h3]
   rw[(hT.no h3).1]at hS1
   have s2:=hS1.bs
   rw[←hR2]
   simp only[F12b0,e4,e5,e7,e16,e17,e18,hlt,hge0,hws,gx,rU,c1,c2,iX,h3,s1,s2,t4,t5,u4,u5,e11,g0,g2,hlt9,tk9,fr9,fe,Ip,KA,mB,fxa,fxc,fxE,fxL,fxI,nxE,evO,evR,dV,cM,mkT,lenA,mE,Env.init,JC,O2,frT,klT,PZ,mO,O.adds,MQ,B2,over,eh,yQ,J8,ne_eq,if_true,if_false,ite_self,Nat.reduceLT,Nat.reduceSub,Nat.reduceBEq,Nat.reduceEqDiff,Nat.reduceAdd,Nat.reduceLeDiff,reduceCtorEq,Nat.reduceMul]
theorem YF{t:List Int}{d:Int}(hC:Cnt t d)(hd:d≤200000):eP S 16 [.g (t.map ia1)]=some (.a (.i .i64 d)):=by
 refine Cf (xO (by decide)) (fc:=F16) rfl rfl ?_
 have hs:=hC.sum
 have hpos:=hC.pos
 obtain⟨a0,a1,a2,a3,a4,a5,a6,a7,a8,rfl⟩:=Pr hC.len
 simp only[qY,oZ,or_false,forall_eq_or_imp,forall_eq]at hpos
 simp only[xQ,List.sum_nil]at hs
 simp only[F16,ia1,zx,XM,nxB,evO,simprocAttr]
 refine Fs 9 (fun i e τ=>τ=St.empty.add 1 (.var [.p (.i .i64 a0),.p (.i .i64 a1),.p (.i .i64 a2),.p (.i .i64 a3),.p (.i .i64 a4),.p (.i .i64 a5),.p (.i .i64 a6),.p (.i .i64 a7),.p (.i .i64 a8)])∧e 1= .a (.ptr (1,0) 0 0)∧e 3= .a (.p (.i .i64 (([a0,a1,a2,a3,a4,a5,a6,a7,a8].take i).sum)))∧e 4= .a (.p (.i .i64 (i:Nat)))) (i0:=0) (by omega) ⟨rfl,rfl,rfl,rfl⟩ ?_ ?_
 ·rintro i e τ hi ⟨rfl,e1,e3,e4⟩
  obtain rfl|rfl|rfl|rfl|rfl|rfl|rfl|rfl|rfl:i=0∨i=1∨i=2∨i=3∨i=4∨i=5∨i=6∨i=7∨i=8:=by omega
  all_goals
   simp only[Rw,om,xQ,List.sum_nil,Mz,aE]at e3 e4⊢
   simp only[F16b0,e1,e3,e4,Mz,Int.reduceLE,Int.reduceLT,Int.reduceToNat,Int.reduceAdd,Int.reduceSub,Int.reduceNeg,Nat.reduceMul,Nat.reduceAdd,nxB,evO,simprocAttr]
   exact⟨by rw[qI _ (by omega)];try exact congrArg (fun z=>TV.a (.p (.i .i64 z))) (by omega),by rw[qI _ (by omega)]⟩
 ·rintro e τ ⟨rfl,e1,e3,e4⟩
  simp only[Rw,List.take_nil,om,xQ,List.sum_nil,Mz,aE]at e3 e4⊢
  simp only[F16b0,e1,e3,e4,Mz,Int.reduceLE,Int.reduceLT,Int.reduceToNat,Int.reduceAdd,Int.reduceSub,Int.reduceNeg,nxB,evO,simprocAttr]
  exact congrArg (fun z=>some (PT.a (PV.i .i64 z))) (by omega)
theorem f20o0:eP S 23 [.a (.s [40,92,120,46,32,120,41,32,55]),.a (.i .i64 99)]=some (.g [(.l [[(.i .i64 1),(.i .i64 0),(.i .i64 0),(.s []),(.l []),(.l [[(.i .i64 1),(.i .i64 1)]])],[(.i .i64 3),(.i .i64 0),(.i .i64 0),(.s []),(.l []),(.l [[(.i .i64 2),(.i .i64 0)],[(.i .i64 0),(.i .i64 0)],[(.i .i64 4),(.i .i64 0)]])],[(.i .i64 2),(.i .i64 0),(.i .i64 0),(.s []),(.l []),(.l [[(.i .i64 1),(.i .i64 0)],[(.i .i64 3),(.i .i64 1)],[(.i .i64 3),(.i .i64 0)]])],[(.i .i64 5),(.i .i64 0),(.i .i64 0),(.s []),(.l []),(.l [[(.i .i64 2),(.i .i64 2)],[(.i .i64 2),(.i .i64 1)]])],[(.i .i64 10),(.i .i64 1),(.i .i64 7),(.s []),(.l []),(.l [[(.i .i64 1),(.i .i64 2)]])]]),(.i .i64 99)]):=(oW S).2 ⟨300,by kernel_rfl⟩
theorem f20o1:eP S 23 [.a (.s [50,32,43,32,51]),.a (.i .i64 99)]=some (.g [(.l [[(.i .i64 1),(.i .i64 0),(.i .i64 0),(.s []),(.l []),(.l [[(.i .i64 1),(.i .i64 1)]])],[(.i .i64 11),(.i .i64 0),(.i .i64 0),(.s [43]),(.l []),(.l [[(.i .i64 2),(.i .i64 0)],[(.i .i64 0),(.i .i64 0)],[(.i .i64 3),(.i .i64 0)]])],[(.i .i64 10),(.i .i64 0),(.i .i64 2),(.s []),(.l []),(.l [[(.i .i64 1),(.i .i64 0)]])],[(.i .i64 10),(.i .i64 0),(.i .i64 3),(.s []),(.l []),(.l [[(.i .i64 1),(.i .i64 2)]])]]),(.i .i64 99)]):=(oW S).2 ⟨300,by kernel_rfl⟩
theorem f20o2:eP S 23 [.a (.s [49,32,43,32,40,50,32,43,32,51,41]),.a (.i .i64 99)]=some (.g [(.l [[(.i .i64 1),(.i .i64 0),(.i .i64 0),(.s []),(.l []),(.l [[(.i .i64 1),(.i .i64 1)]])],[(.i .i64 11),(.i .i64 0),(.i .i64 0),(.s [43]),(.l []),(.l [[(.i .i64 2),(.i .i64 0)],[(.i .i64 0),(.i .i64 0)],[(.i .i64 3),(.i .i64 1)]])],[(.i .i64 10),(.i .i64 0),(.i .i64 1),(.s []),(.l []),(.l [[(.i .i64 1),(.i .i64 0)]])],[(.i .i64 11),(.i .i64 0),(.i .i64 0),(.s [43]),(.l []),(.l [[(.i .i64 4),(.i .i64 0)],[(.i .i64 1),(.i .i64 2)],[(.i .i64 5),(.i .i64 0)]])],[(.i .i64 10),(.i .i64 0),(.i .i64 2),(.s []),(.l []),(.l [[(.i .i64 3),(.i .i64 0)]])],[(.i .i64 10),(.i .i64 0),(.i .i64 3),(.s []),(.l []),(.l [[(.i .i64 3),(.i .i64 2)]])]]),(.i .i64 99)]):=(oW S).2 ⟨300,by kernel_rfl⟩
theorem f20o3:eP S 23 [.a (.s [99,97,115,101,32,65,32,111,102,32,123,32,65,32,45,62,32,49,32,47,32,48,32,125]),.a (.i .i64 99)]=some (.g [(.l [[(.i .i64 1),(.i .i64 0),(.i .i64 0),(.s []),(.l []),(.l [[(.i .i64 1),(.i .i64 1)]])],[(.i .i64 9),(.i .i64 0),(.i .i64 0),(.s []),(.l [[(.s [65]),(.i .i64 0)]]),(.l [[(.i .i64 2),(.i .i64 0)],[(.i .i64 0),(.i .i64 0)],[(.i .i64 3),(.i .i64 1)]])],[(.i .i64 8),(.i .i64 0),(.i .i64 0),(.s [65]),(.l []),(.l [[(.i .i64 1),(.i .i64 0)]])],[(.i .i64 11),(.i .i64 0),(.i .i64 0),(.s [47]),(.l []),(.l [[(.i .i64 4),(.i .i64 0)],[(.i .i64 1),(.i .i64 2)],[(.i .i64 5),(.i .i64 0)]])],[(.i .i64 10),(.i .i64 0),(.i .i64 1),(.s []),(.l []),(.l [[(.i .i64 3),(.i .i64 0)]])],[(.i .i64 10),(.i .i64 0),(.i .i64 0),(.s []),(.l []),(.l [[(.i .i64 3),(.i .i64 2)]])]]),(.i .i64 99)]):=(oW S).2 ⟨300,by kernel_rfl⟩
theorem f20c0:eP S 13 [(.g [(.l [[(.i .i64 1),(.i .i64 0),(.i .i64 0),(.s []),(.l []),(.l [[(.i .i64 1),(.i .i64 1)]])],[(.i .i64 3),(.i .i64 0),(.i .i64 0),(.s []),(.l []),(.l [[(.i .i64 2),(.i .i64 0)],[(.i .i64 0),(.i .i64 0)],[(.i .i64 4),(.i .i64 0)]])],[(.i .i64 2),(.i .i64 0),(.i .i64 0),(.s []),(.l []),(.l [[(.i .i64 1),(.i .i64 0)],[(.i .i64 3),(.i .i64 1)],[(.i .i64 3),(.i .i64 0)]])],[(.i .i64 5),(.i .i64 0),(.i .i64 0),(.s []),(.l []),(.l [[(.i .i64 2),(.i .i64 2)],[(.i .i64 2),(.i .i64 1)]])],[(.i .i64 10),(.i .i64 1),(.i .i64 7),(.s []),(.l []),(.l [[(.i .i64 1),(.i .i64 2)]])]]),(.i .i64 99)]),.g [.i .i64 0,.i .i64 0],.a (.i .i64 9)]=some (.t [(true,[(.l [[(.i .i64 1),(.i .i64 0),(.i .i64 0),(.s []),(.l []),(.l [[(.i .i64 1),(.i .i64 0)]])],[(.i .i64 10),(.i .i64 0),(.i .i64 7),(.s []),(.l []),(.l [[(.i .i64 0),(.i .i64 0)]])]]),(.i .i64 99)]),(false,[(.i .i64 1)]),(true,[(.i .i64 0),(.i .i64 1),(.i .i64 0),(.i .i64 0),(.i .i64 0),(.i .i64 0),(.i .i64 0),(.i .i64 1),(.i .i64 0)]),(false,[(.i .i64 0)])]):=(oW S).2 ⟨300,by kernel_rfl⟩
theorem f20c1:eP S 13 [(.g [(.l [[(.i .i64 1),(.i .i64 0),(.i .i64 0),(.s []),(.l []),(.l [[(.i .i64 1),(.i .i64 1)]])],[(.i .i64 11),(.i .i64 0),(.i .i64 0),(.s [43]),(.l []),(.l [[(.i .i64 2),(.i .i64 0)],[(.i .i64 0),(.i .i64 0)],[(.i .i64 3),(.i .i64 0)]])],[(.i .i64 10),(.i .i64 0),(.i .i64 2),(.s []),(.l []),(.l [[(.i .i64 1),(.i .i64 0)]])],[(.i .i64 10),(.i .i64 0),(.i .i64 3),(.s []),(.l []),(.l [[(.i .i64 1),(.i .i64 2)]])]]),(.i .i64 99)]),.g [.i .i64 0,.i .i64 0],.a (.i .i64 1)]=some (.t [(true,[(.l [[(.i .i64 1),(.i .i64 0),(.i .i64 0),(.s []),(.l []),(.l [[(.i .i64 4),(.i .i64 1)]])],[(.i .i64 0),(.i .i64 0),(.i .i64 0),(.s []),(.l []),(.l [])],[(.i .i64 0),(.i .i64 0),(.i .i64 0),(.s []),(.l []),(.l [])],[(.i .i64 10),(.i .i64 0),(.i .i64 3),(.s []),(.l []),(.l [[(.i .i64 4),(.i .i64 0)]])],[(.i .i64 12),(.i .i64 0),(.i .i64 2),(.s [43]),(.l []),(.l [[(.i .i64 3),(.i .i64 0)],[(.i .i64 0),(.i .i64 0)]])]]),(.i .i64 99)]),(false,[(.i .i64 0)]),(true,[(.i .i64 0),(.i .i64 0),(.i .i64 0),(.i .i64 1),(.i .i64 0),(.i .i64 0),(.i .i64 0),(.i .i64 0),(.i .i64 0)]),(false,[(.i .i64 90)])]):=(oW S).2 ⟨300,by kernel_rfl⟩
theorem f20c2:eP S 13 [(.g [(.l [[(.i .i64 1),(.i .i64 0),(.i .i64 0),(.s []),(.l []),(.l [[(.i .i64 1),(.i .i64 1)]])],[(.i .i64 11),(.i .i64 0),(.i .i64 0),(.s [43]),(.l []),(.l [[(.i .i64 2),(.i .i64 0)],[(.i .i64 0),(.i .i64 0)],[(.i .i64 3),(.i .i64 0)]])],[(.i .i64 10),(.i .i64 0),(.i .i64 2),(.s []),(.l []),(.l [[(.i .i64 1),(.i .i64 0)]])],[(.i .i64 10),(.i .i64 0),(.i .i64 3),(.s []),(.l []),(.l [[(.i .i64 1),(.i .i64 2)]])]]),(.i .i64 99)]),.g [.i .i64 0,.i .i64 0],.a (.i .i64 2)]=some (.t [(true,[(.l [[(.i .i64 1),(.i .i64 0),(.i .i64 0),(.s []),(.l []),(.l [[(.i .i64 1),(.i .i64 0)]])],[(.i .i64 10),(.i .i64 0),(.i .i64 5),(.s []),(.l []),(.l [[(.i .i64 0),(.i .i64 0)]])]]),(.i .i64 99)]),(false,[(.i .i64 1)]),(true,[(.i .i64 0),(.i .i64 0),(.i .i64 0),(.i .i64 1),(.i .i64 1),(.i .i64 0),(.i .i64 0),(.i .i64 0),(.i .i64 0)]),(false,[(.i .i64 0)])]):=(oW S).2 ⟨300,by kernel_rfl⟩
theorem f20c3:eP S 13 [(.g [(.l [[(.i .i64 1),(.i .i64 0),(.i .i64 0),(.s []),(.l []),(.l [[(.i .i64 1),(.i .i64 1)]])],[(.i .i64 11),(.i .i64 0),(.i .i64 0),(.s [43]),(.l []),(.l [[(.i .i64 2),(.i .i64 0)],[(.i .i64 0),(.i .i64 0)],[(.i .i64 3),(.i .i64 0)]])],[(.i .i64 10),(.i .i64 0),(.i .i64 2),(.s []),(.l []),(.l [[(.i .i64 1),(.i .i64 0)]])],[(.i .i64 10),(.i .i64 0),(.i .i64 3),(.s []),(.l []),(.l [[(.i .i64 1),(.i .i64 2)]])]]),(.i .i64 99)]),.g [.i .i64 0,.i .i64 0],.a (.i .i64 (-1))]=some (.t [(true,[(.l [[(.i .i64 1),(.i .i64 0),(.i .i64 0),(.s []),(.l []),(.l [[(.i .i64 1),(.i .i64 1)]])],[(.i .i64 11),(.i .i64 0),(.i .i64 0),(.s [43]),(.l []),(.l [[(.i .i64 2),(.i .i64 0)],[(.i .i64 0),(.i .i64 0)],[(.i .i64 3),(.i .i64 0)]])],[(.i .i64 10),(.i .i64 0),(.i .i64 2),(.s []),(.l []),(.l [[(.i .i64 1),(.i .i64 0)]])],[(.i .i64 10),(.i .i64 0),(.i .i64 3),(.s []),(.l []),(.l [[(.i .i64 1),(.i .i64 2)]])]]),(.i .i64 99)]),(false,[(.i .i64 0)]),(true,[(.i .i64 0),(.i .i64 0),(.i .i64 0),(.i .i64 0),(.i .i64 0),(.i .i64 0),(.i .i64 0),(.i .i64 0),(.i .i64 0)]),(false,[(.i .i64 1)])]):=(oW S).2 ⟨300,by kernel_rfl⟩
theorem f20c4:eP S 12 [(.g [(.l [[(.i .i64 1),(.i .i64 0),(.i .i64 0),(.s []),(.l []),(.l [[(.i .i64 1),(.i .i64 1)]])],[(.i .i64 11),(.i .i64 0),(.i .i64 0),(.s [43]),(.l []),(.l [[(.i .i64 2),(.i .i64 0)],[(.i .i64 0),(.i .i64 0)],[(.i .i64 3),(.i .i64 1)]])],[(.i .i64 10),(.i .i64 0),(.i .i64 1),(.s []),(.l []),(.l [[(.i .i64 1),(.i .i64 0)]])],[(.i .i64 11),(.i .i64 0),(.i .i64 0),(.s [43]),(.l []),(.l [[(.i .i64 4),(.i .i64 0)],[(.i .i64 1),(.i .i64 2)],[(.i .i64 5),(.i .i64 0)]])],[(.i .i64 10),(.i .i64 0),(.i .i64 2),(.s []),(.l []),(.l [[(.i .i64 3),(.i .i64 0)]])],[(.i .i64 10),(.i .i64 0),(.i .i64 3),(.s []),(.l []),(.l [[(.i .i64 3),(.i .i64 2)]])]]),(.i .i64 99)]),.a (.l [[.i .i64 4],[.i .i64 (-3)],[.i .i64 0],[.i .i64 9],[.i .i64 9],[.i .i64 9]])]=some (.t [(true,[(.l [[(.i .i64 1),(.i .i64 0),(.i .i64 0),(.s []),(.l []),(.l [[(.i .i64 1),(.i .i64 0)]])],[(.i .i64 10),(.i .i64 0),(.i .i64 6),(.s []),(.l []),(.l [[(.i .i64 0),(.i .i64 0)]])]]),(.i .i64 99)]),(true,[(.i .i64 0),(.i .i64 0),(.i .i64 0),(.i .i64 2),(.i .i64 2),(.i .i64 0),(.i .i64 0),(.i .i64 0),(.i .i64 0)]),(false,[(.i .i64 0)])]):=(oW S).2 ⟨300,by kernel_rfl⟩
theorem f20c5:eP S 13 [(.g [(.l [[(.i .i64 1),(.i .i64 0),(.i .i64 0),(.s []),(.l []),(.l [[(.i .i64 1),(.i .i64 1)]])],[(.i .i64 9),(.i .i64 0),(.i .i64 0),(.s []),(.l [[(.s [65]),(.i .i64 0)]]),(.l [[(.i .i64 2),(.i .i64 0)],[(.i .i64 0),(.i .i64 0)],[(.i .i64 3),(.i .i64 1)]])],[(.i .i64 8),(.i .i64 0),(.i .i64 0),(.s [65]),(.l []),(.l [[(.i .i64 1),(.i .i64 0)]])],[(.i .i64 11),(.i .i64 0),(.i .i64 0),(.s [47]),(.l []),(.l [[(.i .i64 4),(.i .i64 0)],[(.i .i64 1),(.i .i64 2)],[(.i .i64 5),(.i .i64 0)]])],[(.i .i64 10),(.i .i64 0),(.i .i64 1),(.s []),(.l []),(.l [[(.i .i64 3),(.i .i64 0)]])],[(.i .i64 10),(.i .i64 0),(.i .i64 0),(.s []),(.l []),(.l [[(.i .i64 3),(.i .i64 2)]])]]),(.i .i64 99)]),.g [.i .i64 0,.i .i64 0],.a (.i .i64 99)]=some (.t [(true,[(.l [[(.i .i64 1),(.i .i64 0),(.i .i64 0),(.s []),(.l []),(.l [[(.i .i64 2),(.i .i64 0)]])],[(.i .i64 0),(.i .i64 0),(.i .i64 0),(.s []),(.l []),(.l [])],[(.i .i64 13),(.i .i64 0),(.i .i64 0),(.s []),(.l []),(.l [[(.i .i64 0),(.i .i64 0)]])]]),(.i .i64 99)]),(false,[(.i .i64 2)]),(true,[(.i .i64 0),(.i .i64 0),(.i .i64 1),(.i .i64 1),(.i .i64 0),(.i .i64 1),(.i .i64 0),(.i .i64 0),(.i .i64 0)]),(false,[(.i .i64 0)])]):=(oW S).2 ⟨300,by kernel_rfl⟩
theorem f20s0:eP S 16 [.g [.i .i64 0,.i .i64 1,.i .i64 0,.i .i64 0,.i .i64 0,.i .i64 0,.i .i64 0,.i .i64 1,.i .i64 0]]=some (.a (.i .i64 2)):=(oW S).2 ⟨60,by kernel_rfl⟩
theorem f20s1:eP S 16 [.g [.i .i64 0,.i .i64 0,.i .i64 0,.i .i64 2,.i .i64 2,.i .i64 0,.i .i64 0,.i .i64 0,.i .i64 0]]=some (.a (.i .i64 4)):=(oW S).2 ⟨60,by kernel_rfl⟩
theorem Ih:eP S 7 []=some (.a (.b true)):=by
 refine Cf (xO (by decide)) (fc:=F7) rfl rfl ?_
 simp only[F7,f20o0,f20o1,f20o2,f20o3,f20c0,f20c1,f20c2,f20c3,f20c4,f20c5,f20s0,f20s1,PT.flat,PV.flat,KF,List.all_nil,Bool.and_true,Pn,iS,Bool.and_false,SY,Mz,Int.reduceLE,Int.reduceLT,Int.reduceToNat,Int.reduceAdd,Int.reduceSub,Int.reduceNeg,Int.reduceEq,Int.reduceNe,decide_true,decide_false,gt_iff_lt,ge_iff_le,nxB,evO,simprocAttr]
def mixT(i:Nat)(s t:List Int):List Int:=(YY s t).take i++s.drop i
theorem JR{s t:List Int}{k9 k17:Key}(hs:s.length=9)(ht:t.length=9)(bs:∀x∈s,0≤x∧x≤200000)(bt:∀x∈t,0≤x∧x≤200000)(hk:k9≠k17){σ:St}(h9:σ.bs k9=some (.var ((t.map ia1).map .p)))(h17:σ.bs k17=some (.var ((s.map ia1).map .p)))(e:Env)
  (e9:e 9= .a (.ptr k9 0 0)) (e17:e 17= .a (.ptr k17 0 0)) (e19:e 19= .a (.p (.i .i64 0))):
  wp S false (.loop F5b0) e σ (fun z e' σ'=>z= .exit 0∧σ'.bs k17=some (.var (((YY s t).map ia1).map .p))∧(∀k,k≠k17→σ'.bs k=σ.bs k)∧e' 1=e 1∧e' 9=e 9∧e' 11=e 11∧e' 12=e 12∧e' 13=e 13∧e' 14=e 14∧e' 15=e 15∧e' 16=e 16∧e' 17=e 17∧e' 18=e 18):=by
 obtain⟨a0,a1,a2,a3,a4,a5,a6,a7,a8,rfl⟩:=Pr hs
 obtain⟨b0,b1,b2,b3,b4,b5,b6,b7,b8,rfl⟩:=Pr ht
 simp only[qY,oZ,or_false,forall_eq_or_imp,forall_eq]at bs bt
 obtain⟨u1,hu1⟩:∃z,e 1=z:=⟨_,rfl⟩
 obtain⟨u11,hu11⟩:∃z,e 11=z:=⟨_,rfl⟩
 obtain⟨u12,hu12⟩:∃z,e 12=z:=⟨_,rfl⟩
 obtain⟨u13,hu13⟩:∃z,e 13=z:=⟨_,rfl⟩
 obtain⟨u14,hu14⟩:∃z,e 14=z:=⟨_,rfl⟩
 obtain⟨u15,hu15⟩:∃z,e 15=z:=⟨_,rfl⟩
 obtain⟨u16,hu16⟩:∃z,e 16=z:=⟨_,rfl⟩
 obtain⟨u18,hu18⟩:∃z,e 18=z:=⟨_,rfl⟩
 rw[e9,e17,hu1,hu11,hu12,hu13,hu14,hu15,hu16,hu18]
 refine Fs 9 (fun i e τ=>τ.bs k17=some (.var (((mixT i [a0,a1,a2,a3,a4,a5,a6,a7,a8] [b0,b1,b2,b3,b4,b5,b6,b7,b8]).map ia1).map .p))∧(∀k,k≠k17→τ.bs k=σ.bs k)∧e 19= .a (.p (.i .i64 (i:Nat)))∧e 1=u1∧e 9= .a (.ptr k9 0 0)∧e 11=u11∧e 12=u12∧e 13=u13∧e 14=u14∧e 15=u15∧e 16=u16∧e 17= .a (.ptr k17 0 0)∧e 18=u18) (i0:=0) (by omega) ⟨h17,fun _ _=>rfl,e19,hu1,e9,hu11,hu12,hu13,hu14,hu15,hu16,e17,hu18⟩ ?_ ?_
 ·rintro i e τ hi ⟨t17,tk,e19,e1,e9,e11,e12,e13,e14,e15,e16,e17,e18⟩
  have t9:=(tk k9 hk).trans h9
  have w:∀x y:Int,0≤x∧x≤200000→0≤y∧y≤200000→IntKind.i64.wrap (x+y)=x+y:=fun x y h1 h2=>qI _ (by omega)
  obtain rfl|rfl|rfl|rfl|rfl|rfl|rfl|rfl|rfl:i=0∨i=1∨i=2∨i=3∨i=4∨i=5∨i=6∨i=7∨i=8:=by omega
  all_goals
   simp only[mixT,YY,ia1,Rw,om,Bg,yA,Es,Hh,zx,XM,Mz]at t17 t9 e19⊢
   simp only[F5b0,e1,e9,e11,e12,e13,e14,e15,e16,e17,e18,e19,t17,t9,bs,bt,w,Mz,Int.reduceLE,Int.reduceLT,Int.reduceToNat,Int.reduceAdd,Int.reduceSub,Int.reduceNeg,Nat.reduceMul,Nat.reduceAdd,nxB,evO,simprocAttr]
   exact⟨fun k hk'=>by rw[if_neg hk'];exact tk k hk',by rw[qI _ (by omega)]⟩
 ·rintro e τ ⟨t17,tk,e19,e1,e9,e11,e12,e13,e14,e15,e16,e17,e18⟩
  simp only[F5b0,e1,e9,e11,e12,e13,e14,e15,e16,e17,e18,e19,Mz,Int.reduceLE,Int.reduceLT,Int.reduceToNat,Int.reduceAdd,Int.reduceSub,Int.reduceNeg,nxB,evO,simprocAttr]
  exact⟨t17,tk⟩
end Go.Proofs.YtmlhgalboabjcaaGreat
namespace Go.Proofs.YtmlhgalboabjcaaGreat.Tm
open Go.Fx
theorem Mn{k:Int}(h:B0 k):eP S 14 [.a (.i .i64 k)]=some (.a (.b true)):=by
 refine Cf (xO (by decide)) (fc:=F14) rfl rfl ?_
 unfold B0 at h
 rcases h with rfl|rfl|rfl|rfl<;>simp only[F14,Int.reduceEq,or_self,or_true,true_or,nxB,evO,simprocAttr]
theorem turnLast_law{t:T}{l:List Int}{fuel:Int}(ht:T.Ok t)(hw:∀i∈l,wf i):eP S 3 [.g (enc t),.a (.l (l.map qM)),.a (.i .i64 fuel)]=some (.a (.b true)):=by
 have f0:=Ih
 have a1:=ON ht 60
 have a3:=sS ht 0
 have et:=W4 t
 refine Cf (xO (by decide)) (fc:=F3) rfl rfl ?_
 cases h1:small t 60 with
 |false=>
  rw[h1]at a1
  simp only[et]at a1
  simp only[F3,et,f0,a1,fxa,fxc,fxE,fxL,fxI,nxE,evO,evR,dV,cM,mkT,lenA,mE,Env.init,JC,O2,frT,klT,PZ,mO,O.adds,MQ,B2,over,eh,yQ,J8,ne_eq,if_true,if_false,ite_self,Nat.reduceLT,Nat.reduceSub,Nat.reduceBEq,Nat.reduceEqDiff,Nat.reduceAdd,Nat.reduceLeDiff,reduceCtorEq,Nat.reduceMul]
 |true=>
  obtain⟨hd6,hs⟩:=O7 (by decide) h1
  have a2:=Ch ht (by omega)
  rw[h1]at a1
  simp only[et]at a1 a2 a3
  by_cases hd:(dep t:Int)>30
  ·simp only[F3,et,f0,a1,a2,hd,fxa,fxc,fxE,fxL,fxI,nxE,evO,evR,dV,cM,mkT,lenA,mE,Env.init,JC,O2,frT,klT,PZ,mO,O.adds,MQ,B2,over,eh,yQ,J8,ne_eq,if_true,if_false,ite_self,Nat.reduceLT,Nat.reduceSub,Nat.reduceBEq,Nat.reduceEqDiff,Nat.reduceAdd,Nat.reduceLeDiff,reduceCtorEq,Nat.reduceMul]
  cases h3:may t 0 false with
  |false=>
   rw[h3]at a3
   simp only[F3,et,f0,a1,a2,a3,hd,fxa,fxc,fxE,fxL,fxI,nxE,evO,evR,dV,cM,mkT,lenA,mE,Env.init,JC,O2,frT,klT,PZ,mO,O.adds,MQ,B2,over,eh,yQ,J8,ne_eq,if_true,if_false,ite_self,Nat.reduceLT,Nat.reduceSub,Nat.reduceBEq,Nat.reduceEqDiff,Nat.reduceAdd,Nat.reduceLeDiff,reduceCtorEq,Nat.reduceMul]
  |true=>
   rw[h3]at a3
   by_cases h4:(l.length:Int)>10
   ·simp only[F3,et,f0,a1,a2,a3,hd,h4,mB,fxa,fxc,fxE,fxL,fxI,nxE,evO,evR,dV,cM,mkT,lenA,mE,Env.init,JC,O2,frT,klT,PZ,mO,O.adds,MQ,B2,over,eh,yQ,J8,ne_eq,if_true,if_false,ite_self,Nat.reduceLT,Nat.reduceSub,Nat.reduceBEq,Nat.reduceEqDiff,Nat.reduceAdd,Nat.reduceLeDiff,reduceCtorEq,Nat.reduceMul]
   by_cases h5:fuel<0
   ·simp only[F3,et,f0,a1,a2,a3,hd,h4,h5,mB,fxa,fxc,fxE,fxL,fxI,nxE,evO,evR,dV,cM,mkT,lenA,mE,Env.init,JC,O2,frT,klT,PZ,mO,O.adds,MQ,B2,over,eh,yQ,J8,ne_eq,if_true,if_false,ite_self,Nat.reduceLT,Nat.reduceSub,Nat.reduceBEq,Nat.reduceEqDiff,Nat.reduceAdd,Nat.reduceLeDiff,reduceCtorEq,Nat.reduceMul]
   by_cases h6:fuel>60
   ·simp only[F3,et,f0,a1,a2,a3,hd,h4,h5,h6,mB,fxa,fxc,fxE,fxL,fxI,nxE,evO,evR,dV,cM,mkT,lenA,mE,Env.init,JC,O2,frT,klT,PZ,mO,O.adds,MQ,B2,over,eh,yQ,J8,ne_eq,if_true,if_false,ite_self,Nat.reduceLT,Nat.reduceSub,Nat.reduceBEq,Nat.reduceEqDiff,Nat.reduceAdd,Nat.reduceLeDiff,reduceCtorEq,Nat.reduceMul]
   have hc:=H6 t 0 false (by omega) (by omega) h3
   have c1:=l6 ht hc h3 (by omega) (by omega)
   have hW:=RZ hc ht (by omega) (by omega)
   have hO:=Xr hc ht (by omega) (by omega)
   obtain⟨n,hn⟩:∃n,D0 t=n:=⟨_,rfl⟩
   rw[hn]at c1 hW hO
   have hG:=hW.good
   have c2:=Wn (l:=l) hW.ok hG (by omega) hw
   have P1:=XJ l hW.ok hG Ut
   have P2:=Vf l (t:=tz) hW.ok hG hO
   obtain⟨ra,hra⟩:∃r,vK l n tz=r:=⟨_,rfl⟩
   rw[hra]at c2 P1 P2
   obtain⟨m,u,e⟩:=ra
   have hmo:=P1.ok
   have hmg:=P1.good
   obtain⟨d1,hC1,_,hd1⟩:=P1.cnt
   simp only at hmo hmg hC1 P2
   have c3:=qz (p:=zP) (f:=fuel) ⟨L2,L2⟩ hmo hmg (by omega)
   have H1:=Go.Proofs.YtmlhgalboabjcaaGreat.head_ok zP fuel.toNat hmo hmg Ut
   have H2:=ZL fuel.toNat (t:=tz) hmo hmg P2.1
   obtain⟨rb,hrb⟩:∃r,gq zP fuel.toNat m tz=r:=⟨_,rfl⟩
   rw[hrb]at c3 H1 H2
   obtain⟨a,i,v,g⟩:=rb
   have hao:=H1.ok
   have hag:=H1.good
   obtain⟨d2,hC2,_,hd2,_⟩:=H1.cnt
   have he:=H2.e
   have hat:=H2.at_
   have hokn:=H2.okn
   simp only at hao hag hC2 he hat hokn
   have hp2:=P2.2
   have lt1:((u.map ia1).map AV.p).length=9:=by simp[hC1.len]
   have tk1:List.take 9 ((u.map ia1).map AV.p)=(u.map ia1).map AV.p:=Ea (by omega)
   have lt2:((v.map ia1).map AV.p).length=9:=by simp[hC2.len]
   have tk2:List.take 9 ((v.map ia1).map AV.p)=(v.map ia1).map AV.p:=Ea (by omega)
   have z1:zP.n=0:=rfl
   have z2:zP.s=0:=rfl
   simp only[et,Ip]at c1
   simp only[fe,Ip]at c2
   simp only[SS,Ip,xN,z1,z2]at c3
   rcases hp2 with rfl|rfl
   case inr=>
    simp only[F3,et,f0,a1,a2,a3,hd,h4,h5,h6,c1,c2,c3,lt1,tk1,lt2,tk2,Int.reduceEq,mB,fxa,fxc,fxE,fxL,fxI,nxE,evO,evR,dV,cM,mkT,lenA,mE,Env.init,JC,O2,frT,klT,PZ,mO,O.adds,MQ,B2,over,eh,yQ,J8,ne_eq,if_true,if_false,ite_self,Nat.reduceLT,Nat.reduceSub,Nat.reduceBEq,Nat.reduceEqDiff,Nat.reduceAdd,Nat.reduceLeDiff,reduceCtorEq,Nat.reduceMul]
   rcases he with rfl|rfl|rfl|rfl
   case inr.inl=>simp only[F3,et,f0,a1,a2,a3,hd,h4,h5,h6,c1,c2,c3,lt1,tk1,lt2,tk2,Int.reduceEq,mB,fxa,fxc,fxE,fxL,fxI,nxE,evO,evR,dV,cM,mkT,lenA,mE,Env.init,JC,O2,frT,klT,PZ,mO,O.adds,MQ,B2,over,eh,yQ,J8,ne_eq,if_true,if_false,ite_self,Nat.reduceLT,Nat.reduceSub,Nat.reduceBEq,Nat.reduceEqDiff,Nat.reduceAdd,Nat.reduceLeDiff,reduceCtorEq,Nat.reduceMul]
   case inr.inr.inl=>simp only[F3,et,f0,a1,a2,a3,hd,h4,h5,h6,c1,c2,c3,lt1,tk1,lt2,tk2,Int.reduceEq,mB,fxa,fxc,fxE,fxL,fxI,nxE,evO,evR,dV,cM,mkT,lenA,mE,Env.init,JC,O2,frT,klT,PZ,mO,O.adds,MQ,B2,over,eh,yQ,J8,ne_eq,if_true,if_false,ite_self,Nat.reduceLT,Nat.reduceSub,Nat.reduceBEq,Nat.reduceEqDiff,Nat.reduceAdd,Nat.reduceLeDiff,reduceCtorEq,Nat.reduceMul]
   case inr.inr.inr=>simp only[F3,et,f0,a1,a2,a3,hd,h4,h5,h6,c1,c2,c3,lt1,tk1,lt2,tk2,Int.reduceEq,mB,fxa,fxc,fxE,fxL,fxI,nxE,evO,evR,dV,cM,mkT,lenA,mE,Env.init,JC,O2,frT,klT,PZ,mO,O.adds,MQ,B2,over,eh,yQ,J8,ne_eq,if_true,if_false,ite_self,Nat.reduceLT,Nat.reduceSub,Nat.reduceBEq,Nat.reduceEqDiff,Nat.reduceAdd,Nat.reduceLeDiff,reduceCtorEq,Nat.reduceMul]
   obtain⟨w1,w2,w3⟩:=hat rfl
   have C:=(VZ hag hokn).told w2
   rw[w3]at C
   obtain⟨C1,C2,C3⟩:=C
   have c4:=qz (p:=zP) (f:=0) ⟨L2,L2⟩ hao hag (by omega)
   have ea:gq zP (Int.toNat 0) a tz=⟨a,i,tz,0⟩:=by
    show gq zP 0 a tz=_
    unfold gq
    rw[if_neg (by rw[w1];decide),if_pos w2,w3]
   rw[ea]at c4
   simp only[SS,Ip,xN,z1,z2]at c4
   obtain⟨x,hx⟩:∃x,a.nd i=x:=⟨_,rfl⟩
   have hix:=OA (n:=a) (i:=i) (by omega) C3
   rw[hx]at hix C1
   have hix':=Kr Ug hix
   have c5:=Mn C1
   have c6:=QS (b:=a) hao
   rw[Pb rfl]at c6
   have c7:=YF Ut (by omega)
   have ltz:((tz.map ia1).map AV.p).length=9:=by simp[Ut.len]
   have tkz:List.take 9 ((tz.map ia1).map AV.p)=(tz.map ia1).map AV.p:=Ea (by omega)
   have frz:∀τ:St,frL τ ((tz.map ia1).map AV.p)=some (tz.map ia1):=fun τ=>Zs τ _
   simp only[Ip]at c6
   simp only[Ug]at hix'
   have g1:¬i<1:=by omega
   have g2:¬i≥(a.ns.length:Int):=by omega
   have g3:(0:Int)≤i:=by omega
   simp only[F3,et,f0,a1,a2,a3,hd,h4,h5,h6,c1,c2,c3,c4,c5,c6,c7,lt1,tk1,lt2,tk2,ltz,tkz,frz,g1,g2,g3,C3,hix',Int.reduceEq,mB,fxa,fxc,fxE,fxL,fxI,nxE,evO,evR,dV,cM,mkT,lenA,mE,Env.init,JC,O2,frT,klT,PZ,mO,O.adds,MQ,B2,over,eh,yQ,J8,ne_eq,if_true,if_false,ite_self,Nat.reduceLT,Nat.reduceSub,Nat.reduceBEq,Nat.reduceEqDiff,Nat.reduceAdd,Nat.reduceLeDiff,reduceCtorEq,Nat.reduceMul]
end Go.Proofs.YtmlhgalboabjcaaGreat.Tm
namespace Go.Proofs.YtmlhgalboabjcaaGreat
open Go.Fx
theorem Dh:Tryz.prog.cellsOf 3=1:=by kernel_rfl
theorem nJ:Tryz.prog.cellsOf 9=1:=by kernel_rfl
theorem len4{α:Type}{l:List α}(h:l.length=4):∃a b c d,l=[a,b,c,d]:=by
 match l,h with
 |[a,b,c,d],_=>exact⟨a,b,c,d,rfl⟩
theorem LM{i:Int}(h:(Lit.int .i64 i).wf=true):wf i:=by
 simp only[Lit.wf,IntKind.min,IntKind.max,IntKind.bits,IntKind.signed,Cd,decide_eq_true_eq]at h
 rw[if_pos trivial,if_pos trivial]at h
 unfold wf;omega
theorem By{n:Nat}{qs:List PV}(h:CT Tryz.prog n 3 qs):∃i,qs=[.i .i64 i]∧wf i:=by
 cases n with
 |zero=>exact h.elim
 |succ n=>simp only[CT,Tryz.underlying3]at h;obtain⟨i,h1,h2⟩:=h;exact⟨i,h1,LM h2⟩
theorem Uw{α:Type}{t k:Nat}{n:Nat}{f:α→List PV}{R:α→Prop}(h:∀qs,CT Tryz.prog n t qs→∃x,R x∧qs=f x):∀(rows:List (List PV)),(∀r,r∈rows→r.length=k∧CT Tryz.prog n t r)→∃l:List α,rows=l.map f∧∀x,x∈l→R x:=by
 intro rows
 induction rows with
 |nil=>intro _;exact⟨[],rfl,fun t ht=>by simp at ht⟩
 |cons r rows ihr=>
  intro h2
  obtain⟨x,hx,rfl⟩:=h r (h2 r (by simp)).2
  obtain⟨l,rfl,hl⟩:=ihr fun r hr=>h2 r (by simp[hr])
  exact⟨x::l,rfl,fun u hu=>by rcases qY.1 hu with rfl|hu;exact hx;exact hl u hu⟩
theorem aggI:sP Tryz.prog 3=false:=by simp only[sP,Tryz.underlying3,L7]
theorem OJ{p:PT}(h:AT Tryz.prog 3 p∧p.isG=sP Tryz.prog 3):∃i,wf i∧p= .a (.i .i64 i):=by
 obtain⟨h1,h2⟩:=h
 rw[aggI]at h2
 cases p with
 |a q=>obtain⟨n,hn⟩:=h1;obtain⟨i,e,hi⟩:=By hn;simp only[KB,and_true]at e;subst e;exact⟨i,hi,rfl⟩
 |g qs=>simp[PT.isG]at h2
 |_=>exact h1.elim
theorem own:ownKnob Tryz.prog.godebug=none:=by kernel_rfl
theorem Tv:laidOutB Tryz.prog=true:=by kernel_rfl
end Go.Proofs.YtmlhgalboabjcaaGreat
namespace Go.Proofs.YtmlhgalboabjcaaGreat.Tm
open Go.Fx
theorem po:Tryz.prog.cellsOf 24=4:=by kernel_rfl
theorem Qx:Tryz.prog.bytesOf 24=56:=by kernel_rfl
theorem CI:Tryz.prog.cellsOf 22=1:=by kernel_rfl
theorem R6{n:Nat}{qs:List PV}(h:CT Tryz.prog n 3 qs):∃i,qs=[.i .i64 i]∧(Lit.int .i64 i).wf=true:=by
 cases n with
 |zero=>exact h.elim
 |succ n=>simp only[CT,Tryz.underlying3]at h;exact h
theorem BL:∀{n:Nat} {qs:List PV},CT Tryz.prog n 24 qs→∃t,T.Ok t∧qs=enc t:=by
 intro n
 induction n using Nat.strongRecOn with
 |_ n ih=>
  intro qs h
  cases n with
  |zero=>exact h.elim
  |succ n=>
   simp only[CT,Tryz.underlying24,po]at h
   obtain⟨hl,hf⟩:=h
   obtain⟨q0,q1,q2,q3,rfl⟩:=len4 hl
   ·have f0:CT Tryz.prog n 3 (List.take (Tryz.prog.cellsOf 3) [q0,q1,q2,q3]):=hf _ (mX (i:=0) rfl)
    have f1:CT Tryz.prog n 3 (List.take (Tryz.prog.cellsOf 3) [q1,q2,q3]):=hf _ (mX (i:=1) rfl)
    have f2:CT Tryz.prog n 9 (List.take (Tryz.prog.cellsOf 9) [q2,q3]):=hf _ (mX (i:=2) rfl)
    have f3:CT Tryz.prog n 22 (List.take (Tryz.prog.cellsOf 22) [q3]):=hf _ (mX (i:=3) rfl)
    rw[Dh]at f0 f1
    rw[nJ]at f2
    rw[CI]at f3
    have f0:CT Tryz.prog n 3 [q0]:=f0
    have f1:CT Tryz.prog n 3 [q1]:=f1
    have f2:CT Tryz.prog n 9 [q2]:=f2
    have f3:CT Tryz.prog n 22 [q3]:=f3
    obtain⟨k,e0,hk⟩:=R6 f0
    obtain⟨m,e1,hm⟩:=R6 f1
    cases n with
    |zero=>exact f0.elim
    |succ n=>
     simp only[CT,Tryz.underlying9]at f2
     simp only[CT,Tryz.underlying22,Qx]at f3
     obtain⟨s,e2,hs⟩:=f2
     obtain⟨rows,e3,hr,hrow⟩:=f3
     simp only[KB,and_true]at e0 e1 e2 e3
     subst e0 e1 e2 e3
     have:∀(rows:List (List PV)),(∀r,r∈rows→r.length=Tryz.prog.cellsOf 24∧CT Tryz.prog n 24 r)→∃l:List T,rows=l.map enc∧∀t,t∈l→T.Ok t:=by
      intro rows
      induction rows with
      |nil=>intro _;exact⟨[],rfl,fun t ht=>by simp at ht⟩
      |cons r rows ihr=>
       intro h
       obtain⟨t,ht,rfl⟩:=ih n (by omega) (h r (by simp)).2
       obtain⟨l,rfl,hl⟩:=ihr fun r hr=>h r (by simp[hr])
       exact⟨t::l,rfl,fun u hu=>by rcases qY.1 hu with rfl|hu;exact ht;exact hl u hu⟩
     obtain⟨l,rfl,hall⟩:=this rows hrow
     exact⟨.mk k m s l,.mk k m s l hk hm hs (by simpa using hr) hall,by simp[enc,It]⟩
theorem aggTm:sP Tryz.prog 24=true:=by simp only[sP,Tryz.underlying24,L7]
theorem at_term{p:PT}(h:AT Tryz.prog 24 p∧p.isG=sP Tryz.prog 24):∃t,T.Ok t∧p= .g (enc t):=by
 obtain⟨h1,h2⟩:=h
 rw[aggTm]at h2
 cases p with
 |g qs=>obtain⟨n,hn⟩:=h1;obtain⟨t,ht,rfl⟩:=BL hn;exact⟨t,ht,rfl⟩
 |_=>simp[PT.isG]at h2
end Go.Proofs.YtmlhgalboabjcaaGreat.Tm
namespace Go.Proofs.YtmlhgalboabjcaaGreat
open Go.Fx
theorem VM:Tryz.prog.bytesOf 3=8:=by kernel_rfl
theorem wx{n:Nat}{qs:List PV}(h:CT Tryz.prog n 25 qs):∃l:List Int,(l.length*8≤140737488355328∧∀i,i∈l→wf i)∧qs=[.l (l.map qM)]:=by
 cases n with
 |zero=>exact h.elim
 |succ n=>
  simp only[CT,Tryz.underlying25,VM]at h
  obtain⟨rows,e,hr,hrow⟩:=h
  obtain⟨l,rfl,hl⟩:=Uw (fun qs h=>by obtain⟨i,e,hi⟩:=By h;exact⟨i,hi,e⟩) (f:=qM) rows hrow
  exact⟨l,⟨by simp only[reachBytes,mB]at hr;omega,hl⟩,e⟩
theorem aggLI:sP Tryz.prog 25=false:=by simp only[sP,Tryz.underlying25,L7]
theorem ot{p:PT}(h:AT Tryz.prog 25 p∧p.isG=sP Tryz.prog 25):∃l:List Int,(l.length*8≤140737488355328∧∀i,i∈l→wf i)∧p= .a (.l (l.map qM)):=by
 obtain⟨h1,h2⟩:=h
 rw[aggLI]at h2
 cases p with
 |a q=>obtain⟨n,hn⟩:=h1;obtain⟨l,hl,e⟩:=wx hn;simp only[KB,and_true]at e;subst e;exact⟨l,hl,rfl⟩
 |g qs=>simp[PT.isG]at h2
 |_=>exact h1.elim
end Go.Proofs.YtmlhgalboabjcaaGreat
namespace Go.Proofs.YtmlhgalboabjcaaGreat.Tm
open Go.Fx
def lawTl:List TypeId:=[3,9,22,24,25]
theorem lawTlOk:Fo Tryz.prog lawTl=true:=by kernel_rfl
end Go.Proofs.YtmlhgalboabjcaaGreat.Tm
namespace Go.Proofs.YtmlhgalboabjcaaGreat.turnLast
open Go.Fx Go.ChangeShapes Go.WideShapes Go.ChangeAt Go.RowKit
theorem law(ps:List PT)(h:F2 (fun t p=>AT Tryz.checked.prog t p∧p.isG=sP Tryz.checked.prog t) Tryz.f3.params.toList ps):eP S 3 ps=some (.a (.b true)):=by
 have h':F2 (fun t p=>AT Tryz.prog t p∧p.isG=sP Tryz.prog t) [24,25,3] ps:=by rw[Tryz.params3]at h;exact h
 obtain _|⟨h1,r1⟩:=h'
 obtain _|⟨h2,r2⟩:=r1
 obtain _|⟨h3,r3⟩:=r2
 obtain _|_:=r3
 obtain⟨a1,k1,rfl⟩:=Tm.at_term h1
 obtain⟨a2,k2,rfl⟩:=ot h2
 obtain⟨a3,k3,rfl⟩:=OJ h3
 exact Tm.turnLast_law k1 k2.2
set_option maxRecDepth 100000 in
theorem lifted(os:Os)(started:os.Started)(H:Type)(enc:TypeId×Value→H):
  ReturnsInHanded {} Tryz.checked os 3 .any (Rows.turnLastSpec.pre6 enc Tryz.prog Tryz.f3 Rows.turnLastRow.domain false) (Rows.turnLastSpec.post enc Tryz.prog Tryz.f3 false true false false):=by
 refine MK (C:=Tryz.checked) (eqs:=[(42,[0,0]),(107,[1,0]),(74,[0,0]),(36,[0,0,0,0,0,0,0,0,0]),(160,[0,0]),(42,[9]),(105,[8]),(107,[8]),(75,[8]),(106,[8]),(79,[8])]) (S:=S) (ts:=Tm.lawTl) (tb:=4) own started (by kernel_rfl) Tryz.func3 Tv
  (ChangeSpec.witness6 (enc:=enc) (C:=Tryz.checked) false ⟨#[],#[.agg #[.int .i64 0,.int .i64 0,.string ByteArray.empty,.slice none 0 0],.slice none 0 0,.int .i64 0],[]⟩ 8 (by kernel_rfl) (by kernel_rfl) (by kernel_rfl) (by kernel_rfl))
  Tm.lawTlOk (by kernel_rfl) rfl Tryz.underlying4 rfl ?_ E2 law
 intro ds hd
 match ds,hd with
 |[d1,d2,d3],_=>rfl
theorem over:Rows.turnLastRow.holds Tryz.pinned (OpenSpec.ofChange Rows.turnLastSpec):=
 OpenClaim.holds_of_wide 3 Tryz.f3 rfl rfl rfl rfl rfl rfl rfl ⟨rfl,rfl,rfl,rfl,rfl⟩ rfl rfl rfl rfl rfl (by kernel_rfl) Tryz.func3 (by kernel_rfl)
  (of_decide_eq_true (by kernel_rfl)) (by unfold Func.isWrapper;first|(rw[if_pos (by decide+kernel)];kernel_rfl)|(rw[if_neg (by decide+kernel)];exact⟨rfl,rfl⟩))
  (fun os started H enc _=>lifted os started H enc)
theorem proved:Rows.TurnLastSaid:=over
#print axioms proved
end Go.Proofs.YtmlhgalboabjcaaGreat.turnLast
