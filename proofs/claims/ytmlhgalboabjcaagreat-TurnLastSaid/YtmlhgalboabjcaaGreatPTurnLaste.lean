/- Part 5 of what is proved for the law TurnLast: it returns true, whatever the input. No condition. -/
import Derived.Test.YtmlhgalboabjcaaGreatPTurnLastd
set_option maxHeartbeats 8000000
set_option maxRecDepth 100000
set_option linter.unusedSimpArgs false
set_option linter.unusedVariables false
namespace Go.Proofs.YtmlhgalboabjcaaGreat
open Go.Fx
theorem zT{n:Nt}(hG:n.Good){i:Nat}{x:Nd}(hR:Rch n i)(hx:n.ns[i]? =some x):n.swept.ns[i]? =some x:=by
 have h:=WY (k:=0) hx
 rw[Pb hR,if_neg (by simp)]at h
 obtain⟨y,hy,hk⟩:=rch_k hG hR
 rw[hx]at hy
 show(CV (XC n 0))[i]? =some x
 rw[BE (MX h (by rw[BQ hy];exact hk))];exact h
theorem Hf{n:Nt}{i:Nat}{z:Nd}(h:n.swept.ns[i]? =some z):(Rch n i∧n.ns[i]? =some z)∨(¬Rch n i∧z=zN):=by
 have h1:=(QU.1 h).1
 have h2:(CV (XC n 0))[i]? =some z:=h
 rw[BE h1]at h2
 have h3:=(QU.1 h2).1
 rw[So]at h3
 obtain⟨x,hx⟩:∃x,n.ns[i]? =some x:=⟨_,Xb h3⟩
 rw[WY hx]at h2
 by_cases hR:Rch n i
 ·rw[Pb hR,if_neg (by simp)]at h2
  exact .inl ⟨hR,by rw[hx];exact h2⟩
 ·rw[qy hR,if_pos (by simp)]at h2
  exact .inr ⟨hR,(BQ h2).symm⟩
theorem zW(n:Nt):n.swept.ns.length≤n.ns.length:=by
 have:=nO (XC n 0)
 rw[So]at this;exact this
theorem Ld{n:Nt}(hG:n.Good){i p:Nat}{x:Nd}{q:Pt}(hx:n.ns[i]? =some x)(hq:x.to[p]? =some q):∃(j s:Nat) (y:Nd),q=⟨j,s⟩∧n.ns[j]? =some y∧y.to[s]? =some ⟨i,p⟩:=by
 obtain⟨h1,h2,h3⟩:=(hG.nds i x hx).2.2.2 p q hq
 have h4:=sJ.1 h2
 obtain⟨a,ha⟩:∃a:Nat,q.n=a:=⟨q.n.toNat,by omega⟩
 obtain⟨b,hb⟩:∃b:Nat,q.s=b:=⟨q.s.toNat,by omega⟩
 have hqe:q=⟨a,b⟩:=by rw[←ha,←hb]
 obtain⟨y,hy⟩:∃y,n.ns[a]? =some y:=⟨_,Xb (by omega)⟩
 rw[ha,EZ hy]at h4
 obtain⟨r,hr⟩:∃r,y.to[b]? =some r:=⟨_,Xb (by omega)⟩
 rw[hqe,Kp hy hr]at h3
 exact⟨a,b,y,hqe,hy,by rw[hr,h3]⟩
theorem Ej{n:Nt}(hG:n.Good){i p j:Nat}{x:Nd}{q:Pt}(hx:n.ns[i]? =some x)(hq:x.to[p]? =some q)(hj:q.n=(j:Int)):Rch n j↔Rch n i:=by
 constructor
 ·intro h
  obtain⟨j',s,y,e,hy,hr⟩:=Ld hG hx hq
  have:j=j':=by rw[e]at hj;simp only at hj;omega
  subst this
  exact .step h ⟨y,_,hy,yu hr,rfl⟩
 ·intro h;exact .step h ⟨x,q,hx,yu hq,hj⟩
theorem jt:zN.may:=⟨by decide,by decide,by decide,by decide,by decide,by decide,by decide,by decide,by decide,by decide,by decide,fun i a h=>by simp[zN]at h⟩
theorem jb{n:Nt}(hG:n.Good):n.swept.Good:=by
 obtain⟨r,hr,hr1⟩:=OR hG
 have h0:=zT hG .root hr
 have hl0:=(QU.1 h0).1
 have hlen:=zW n
 refine⟨hG.cap1,hG.cap2,by omega,?_,?_,fun i x hx=>?_⟩
 ·have:=hG.ln2
  show(n.swept.ns.length:Int)≤n.cap;omega
 ·have e:n.swept.ns.length=tl (XC n 0) (XC n 0).length:=Tz _
  have h1:=L8 (XC n 0) (XC n 0).length (by omega)
  obtain⟨z,hz⟩:∃z,n.swept.ns[n.swept.ns.length-1]? =some z:=⟨_,Xb (by omega)⟩
  have h2:(CV (XC n 0))[n.swept.ns.length-1]? =some z:=hz
  rw[BE (by show _<n.swept.ns.length;omega)]at h2
  rw[←e,Qv h2]at h1
  have h3:((n.swept.ns.length:Nat):Int)-1=((n.swept.ns.length-1:Nat):Int):=by omega
  rw[h3,EZ hz];exact h1
 ·rcases Hf hx with⟨hR,hx0⟩|⟨hR,rfl⟩
  ·obtain⟨g1,g2,g3,g4⟩:=hG.nds i x hx0
   refine⟨g1,g2,g3,fun j q hq=>?_⟩
   obtain⟨h1,_,_⟩:=g4 j q hq
   obtain⟨a,s,y,e,hy,hr⟩:=Ld hG hx0 hq
   have hRa:Rch n a:=(Ej hG hx0 hq (by rw[e])).2 hR
   have hy2:=zT hG hRa hy
   refine⟨h1,?_,?_⟩
   ·rw[e];exact Hl hy2 (QU.1 hr).1
   ·rw[e,Kp hy2 hr]
  ·refine⟨jt,by decide,?_,fun j q hq=>by simp[zN]at hq⟩
   constructor
   ·intro h
    have:i=0:=by omega
    exact absurd .root (this▸hR)
   ·intro h;simp[zN]at h
theorem Qh{l:List Int}(hl:l.length*8≤140737488355328)(x:Int):eP S 165 [.a (.l (l.map qM)),.a (.i .i64 x)]=some (.a (.i .i64 (idx (fun y=>decide (y=x)) l))):=by
 refine Cf (xO (by decide)) (fc:=F165) rfl rfl ?_
 simp only[F165,nxB,evO,simprocAttr]
 refine Fs l.length (fun i e σ=>e 0= .a (.p (.l (l.map qM)))∧e 1= .a (.p (.i .i64 x))∧e 7= .a (.p (.i .i64 l.length))∧e 8= .a (.p (.i .i64 (i:Nat)))∧∀j y,j<i→l[j]? =some y→decide (y=x)=false) (i0:=0) (ji _) ?_ ?_ ?_
 ·refine⟨?_,?_,?_,?_,fun j y hj=>by omega⟩<;>simp only[nxB,evO,Nat.reduceLT,Nat.reduceSub,Nat.reduceBEq,Nat.reduceEqDiff,Nat.reduceAdd,Nat.reduceLeDiff,reduceCtorEq,Nat.reduceMul]
  rfl
 ·rintro i e σ hi ⟨e0,e1,e7,e8,hall⟩
  obtain⟨y,hy⟩:∃y,l[i]? =some y:=⟨_,Xb hi⟩
  have hy':=Kr qM hy
  have hlt:((i:Nat):Int)<(l.length:Int):=by omega
  have hge:(0:Int)≤((i:Nat):Int):=by omega
  have hra:((l.map qM).all fun r=>decide (r.length=1))=true:=by simp[qM]
  simp only[qM]at hy' hra
  by_cases e:x=y
  ·subst e
   have:l.findIdx? (fun y=>decide (y=x))=some i:=by
    rw[oO]
    refine⟨hi,?_,fun j hj=>?_⟩
    ·rw[Xb hi]at hy;rw[BQ hy];simp
    ·rw[hall j _ hj (Xb (by omega))];simp
   simp only[F165b0,e0,e1,e7,e8,hlt,hge,hy',hra,qM,idx,this,nxB,evO,simprocAttr]
  ·simp only[F165b0,e0,e1,e7,e8,hlt,hge,hy',hra,e,qM,nxB,evO,simprocAttr]
   refine⟨by rw[zz i (by omega)],fun j z hj hz=>?_⟩
   by_cases e2:j=i
   ·subst e2;rw[hy]at hz;rw[←BQ hz];simpa using fun h:y=x=>e h.symm
   ·exact hall j z (by omega) hz
 ·rintro e σ ⟨e0,e1,e7,e8,hall⟩
  have hlt:¬((l.length:Nat):Int)<(l.length:Int):=by omega
  have:l.findIdx? (fun y=>decide (y=x))=none:=by
   rw[iU]
   intro y hy
   obtain⟨j,hj⟩:=IL hy
   exact hall j y (QU.1 hj).1 hj
  simp only[F165b0,e0,e1,e7,e8,hlt,idx,this,nxB,evO,simprocAttr]
theorem RX{l:List Int}(hl:l.length*8≤140737488355328)(x:Int):eP S 132 [.a (.l (l.map qM)),.a (.i .i64 x)]=some (.a (.b (l.any fun y=>decide (y=x)))):=by
 refine Cf (xO (by decide)) (fc:=F132) rfl rfl ?_
 have c1:=Qh hl x
 simp only[F132,c1,OS,nxB,evO,simprocAttr]
def Ms(k s:Int):Bool:=
 if k=3∨k=9∨k=11∨k=12∨k=5∨k=6 then decide (s=1)else if k=4 then(decide (s=1)||decide (s=2))else false
theorem z7(x:Nd)(s:Int):eP S 133 [.g (Ug x),.a (.i .i64 s)]=some (.a (.b (Ms x.k s))):=by
 refine Cf (xO (by decide)) (fc:=F133) rfl rfl ?_
 unfold Ms
 by_cases h1:x.k=3
 ·simp only[F133,h1,Int.reduceEq,true_or,or_true,nxB,evO,simprocAttr]
 by_cases h2:x.k=9
 ·simp only[F133,h2,Int.reduceEq,true_or,or_true,nxB,evO,simprocAttr]
 by_cases h3:x.k=11
 ·simp only[F133,h3,Int.reduceEq,true_or,or_true,nxB,evO,simprocAttr]
 by_cases h4:x.k=12
 ·simp only[F133,h4,Int.reduceEq,true_or,or_true,nxB,evO,simprocAttr]
 by_cases h5:x.k=5
 ·simp only[F133,h5,Int.reduceEq,true_or,or_true,nxB,evO,simprocAttr]
 by_cases h6:x.k=6
 ·simp only[F133,h6,Int.reduceEq,true_or,or_true,nxB,evO,simprocAttr]
 by_cases h7:x.k=4
 ·cases h8:decide (s=1)with
  |true=>simp only[F133,h7,h8,Int.reduceEq,or_self,nxB,evO,simprocAttr]
  |false=>simp only[F133,h7,h8,Int.reduceEq,or_self,nxB,evO,simprocAttr]
 ·simp only[F133,h1,h2,h3,h4,h5,h6,h7,or_self,nxB,evO,simprocAttr]
structure Wy where
 l:List Int
 en:Int
 is:Bool
 e:Int
def cu(w:Wy):List PV:=[.l (w.l.map qM),.i .i64 w.en,.b w.is,.i .i64 w.e]
def WZ(n:Nt):Nat→List Int→Pt→Wy
 |0,l,p=>⟨l,p.n,false,191⟩
 |k+1,l,p=>
  if(l.any fun y=>decide (y=p.n))=true then⟨l,p.n,false,191⟩
  else if p.s=0 then⟨l++[p.n],p.n,false,0⟩
  else if Ms (n.nd p.n).k p.s=false then⟨l++[p.n],p.n,false,190⟩
  else if(n.lk ⟨p.n,0⟩).s=0 then⟨l++[p.n],p.n,true,0⟩
  else WZ n k (l++[p.n]) (n.lk ⟨p.n,0⟩)
noncomputable def DR(n:Nt)(p:Pt):Wy:=if bool n.Good then(if n.has p then WZ n (n.ns.length+1) [] (n.lk p)else⟨[],0,false,130⟩)else⟨[],0,false,120⟩
structure Passed(n:Nt)(l:List Int):Prop where
 nd:l.Nodup
 us:∀x,x∈l→∃(i:Nat) (y:Nd),x=(i:Int)∧n.ns[i]? =some y∧y.k≠0
theorem Ts{l:List Int}(h:l.Nodup)(k:Int):l.length≤(l.filter fun x=>decide (x≠k)).length+1∧(k∉l→(l.filter fun x=>decide (x≠k))=l):=by
 refine⟨?_,fun hk=>pz.2 fun x hx=>by simp;rintro rfl;exact hk hx⟩
 induction l with
 |nil=>simp
 |cons a l ih=>
  rw[TL]at h
  by_cases e:a=k
  ·subst e
   have:(l.filter fun x=>decide (x≠a))=l:=pz.2 fun x hx=>by simp;rintro rfl;exact h.1 hx
   rw[List.filter_cons,if_neg (by simp),this];simp
  ·have:=ih h.2
   simp only[List.filter_cons]
   simp[e];simpa using this
theorem yR{ns:List Nd}:∀(k:Nat),k≤ns.length→∀(l:List Int),l.Nodup→(∀x,x∈l→∃(i:Nat) (y:Nd),x=(i:Int)∧i<k∧ns[i]? =some y∧y.k≠0)→(l.length:Int)≤NH (ns.take k)
 |0,_,l,_,h=>by
  cases l with
  |nil=>simp[NH]
  |cons a l=>obtain⟨i,y,_,hi,_⟩:=h a (by simp);omega
 |k+1,hk,l,hn,h=>by
  obtain⟨z,hz⟩:∃z,ns[k]? =some z:=⟨_,Xb (by omega)⟩
  have h1:=Ts hn (k:Int)
  have h2:=yR (ns:=ns) k (by omega) (l.filter fun x=>decide (x≠(k:Int))) (hn.filter _) (fun x hx=>by
   rw[Bo]at hx
   obtain⟨i,y,e,hi,hy⟩:=h x hx.1
   have h3:x≠(k:Int):=by simpa using hx.2
   exact⟨i,y,e,by omega,hy⟩)
  rw[Jm hz]
  by_cases hm:(k:Int)∈l
  ·obtain⟨i,y,e,hi,hy,hyk⟩:=h _ hm
   have:i=k:=by omega
   subst this
   rw[hz]at hy
   rw[BQ hy,if_neg hyk]
   omega
  ·rw[h1.2 hm]at h2
   split<;>omega
theorem Passed.le{n:Nt}{l:List Int}(h:Passed n l):(l.length:Int)≤n.used:=by
 have:=yR (ns:=n.ns) n.ns.length (nh _) l h.nd (fun x hx=>by
  obtain⟨i,y,e,hy,hk⟩:=h.us x hx
  exact⟨i,y,e,(QU.1 hy).1,hy,hk⟩)
 rw[QL]at this;exact this
theorem Passed.len{n:Nt}{l:List Int}(h:Passed n l):l.length≤n.ns.length:=by
 have h1:=h.le
 have h2:=ij n.ns
 unfold Nt.used at h1;omega
theorem Passed.add{n:Nt}{l:List Int}(h:Passed n l){p:Pt}(hG:n.Good)(hp:n.has p=true)(hno:¬(l.any fun y=>decide (y=p.n))=true):Passed n (l++[p.n]):=by
 have hp':=sJ.1 hp
 have hx:=OA (n:=n) hp'.1 hp'.2.1
 have hq:=pq (x:=n.nd p.n) hp'.2.2.1 hp'.2.2.2
 refine⟨?_,fun x hx'=>?_⟩
 ·rw[kE]
  refine⟨h.nd,by simp,fun a ha b hb=>?_⟩
  simp only[qY,oZ,or_false]at hb
  rintro rfl
  apply hno
  rw[qB];exact⟨a,ha,by simp[hb]⟩
 ·rcases Sw.1 hx' with h1|h1
  ·exact h.us x h1
  ·simp only[qY,oZ,or_false]at h1
   exact⟨p.n.toNat,_,by omega,hx,LZ hG hx hq⟩
theorem Qk{n:Nt}{p:Pt}(hp:n.has p=true):n.has ⟨p.n,0⟩=true:=by
 rw[sJ]at hp⊢;simp only;omega
theorem D7{n:Nt}(hn:n.Ok){p:Pt}(hp:wf p.n∧wf p.s):eP S 95 [.g (Ip n),.g (xN p)]=some (.g (cu (DR n p))):=by
 refine Cf (xO (by decide)) (fc:=F95) rfl rfl ?_
 have c1:=Hi hn
 have hns:=hn.ns
 unfold DR
 by_cases hG:n.Good
 case neg=>
  rw[qy hG]at c1⊢
  simp only[SY,if_false,Ip]at c1
  simp only[F95,c1,cu,Int.reduceEq,nxB,evO,simprocAttr]
 rw[Pb hG]at c1⊢
 have c2:=pQ n p
 have hb:=W2 hG
 simp only[if_true,Ip,xN]at c1 c2
 cases hh:n.has p with
 |false=>
  rw[hh]at c2
  simp only[SY,if_false,zP]at c2
  simp only[F95,c1,c2,cu,Int.reduceEq,SY,nxB,evO,simprocAttr]
 |true=>
 rw[hh]at c2
 simp only[if_true]at c2
 obtain⟨g1,g2,g3⟩:=aF hG hh
 obtain⟨q,hq⟩:∃q,n.lk p=q:=⟨_,rfl⟩
 rw[hq]at c2 g2
 rw[hq]
 obtain⟨R,hR⟩:∃R,WZ n (n.ns.length+1) [] q=R:=⟨_,rfl⟩
 simp only[F95,c1,c2,nxB,evO,simprocAttr]
 rw[hR]
 refine VK (fun k e σ=>∃(l:List Int) (r:Pt) (x:AV) (w0:Nat) (en:Int),e 2= .a (.ptr (2,0) 0 0)∧e 4= .a (.ptr (4,2) 0 0)∧e 5= .a (.ptr (5,w0) 0 0)∧3≤w0∧w0<σ.clk∧σ.bs (2,0)=some (.var [.p (.l (n.ns.map Ug)),.p (.i .i64 n.cap)])∧
  σ.bs (5,w0)=some (.var [.p (.i .i64 r.n),.p (.i .i64 r.s)])∧σ.bs (4,2)=some (.var [x,.p (.i .i64 en),.p (.b false),.p (.i .i64 0)])∧(l=[]∧x= .nil∨∃q:Nat,x= .own (40,q) 0 l.length∧σ.bs (40,q)=some (.row 1 3 (l.map qM))∧q<σ.clk)∧
  Passed n l∧n.has r=true∧k+l.length=n.ns.length+1∧WZ n k l r=R) ?_ (n.ns.length+1) _ _ ⟨[],q,.nil,3,0,?_,?_,?_,nh _,?_,?_,?_,?_,.inl ⟨rfl,rfl⟩,⟨tj,fun x hx=>by simp at hx⟩,g2,rfl,hR⟩
 ·rintro k e σ ⟨l,r,x,w0,en,e2,e4,e5,hw3,hwc,s2,s5,s4,hx,hP,hr,hk,hW⟩
  have hl:=hP.len
  obtain⟨k,rfl⟩:∃j,k=j+1:=⟨k-1,by omega⟩
  rw[WZ]at hW
  have c3:=RX (l:=l) (by omega) r.n
  have hfr:frA σ x=some (.l (l.map qM)):=by
   rcases hx with⟨rfl,rfl⟩|⟨w,rfl,hw,_⟩
   ·rfl
   ·simp only[frA,hw,mB,Fy,nh,if_true,yA]
    rw[Ea (by simp)]
  have hr':=sJ.1 hr
  have hx':=vH (l:=n.ns) hr'.1 hr'.2.1
  obtain⟨y,hy⟩:∃y,n.nd r.n=y:=⟨_,rfl⟩
  have hy2:n.ns.getD r.n.toNat zN=y:=hy
  rw[hy2]at hx'
  have c4:=z7 y r.s
  have hz:=Qk hr
  have c5:=pQ n ⟨r.n,0⟩
  rw[hz]at c5
  obtain⟨z1,z2,z3⟩:=aF hG hz
  obtain⟨t,ht⟩:∃t,n.lk ⟨r.n,0⟩=t:=⟨_,rfl⟩
  rw[ht]at c5 z2 hW
  rw[hy]at hW
  simp only[if_true,Ip,Ug,xN]at c4 c5
  have ne4:¬(5,w0)=(4,2):=by simp
  have hw5:¬2=σ.clk∧¬2=σ.clk+1∧¬w0=σ.clk∧¬w0=σ.clk+1:=by omega
  by_cases hin:(l.any fun y=>decide (y=r.n))=true
  ·rw[if_pos hin]at hW
   rw[hin]at c3
   subst hW
   rcases hx with⟨rfl,rfl⟩|⟨w,rfl,hw,hwl⟩
   ·simp at hin
   ·have htk:List.take l.length (l.map qM)=l.map qM:=Ea (by simp)
    simp only[F95b0,e2,e4,e5,s2,s4,s5,hw,c3,htk,cu,mB,nh,nxB,evO,simprocAttr]
  rw[if_neg hin]at hW
  have hin':(l.any fun y=>decide (y=r.n))=false:=by
   cases h:l.any fun y=>decide (y=r.n)with
   |true=>exact absurd h hin
   |false=>rfl
  rw[hin']at c3
  have hP2:=hP.add hG hr hin
  have hbb:(l.length+1)*8≤140737488355328:=by omega
  by_cases h0:r.s=0
  ·rw[if_pos h0]at hW
   subst hW
   rcases hx with⟨rfl,rfl⟩|⟨w,rfl,hw,hwl⟩
   ·rw[XM]at c3
    simp only[F95b0,e2,e4,e5,s2,s4,s5,h0,c3,cu,qM,Fy,SZ,Nat.reduceLeDiff,PJ,XM,nxB,evO,simprocAttr]
   ·have htk:List.take l.length (l.map qM)=l.map qM:=Ea (by simp)
    have hwn:¬w=σ.clk:=by omega
    have htk2:List.take (l.length+1) (l.map qM++[[PV.i .i64 r.n]])=(l++[r.n]).map qM:=by rw[Ea (by simp)];simp[qM]
    have hle2:l.length+1≤(l.map qM++[[PV.i .i64 r.n]]).length:=by simp
    simp only[F95b0,e2,e4,e5,s2,s4,s5,hw,h0,c3,htk,htk2,hle2,hbb,hwn,cu,mB,nh,Fy,SZ,Nat.reduceLeDiff,PJ,nxB,evO,simprocAttr]
  rw[if_neg h0]at hW
  cases htl:Ms y.k r.s with
  |false=>
   rw[htl]at c4 hW
   rw[if_pos rfl]at hW
   subst hW
   rcases hx with⟨rfl,rfl⟩|⟨w,rfl,hw,hwl⟩
   ·rw[XM]at c3
    simp only[F95b0,e2,e4,e5,s2,s4,s5,h0,hr'.1,hr'.2.1,hx',c3,c4,cu,qM,Fy,SZ,Nat.reduceLeDiff,PJ,XM,nxB,evO,simprocAttr]
   ·have htk:List.take l.length (l.map qM)=l.map qM:=Ea (by simp)
    have hwn:¬w=σ.clk:=by omega
    have htk2:List.take (l.length+1) (l.map qM++[[PV.i .i64 r.n]])=(l++[r.n]).map qM:=by rw[Ea (by simp)];simp[qM]
    have hle2:l.length+1≤(l.map qM++[[PV.i .i64 r.n]]).length:=by simp
    simp only[F95b0,e2,e4,e5,s2,s4,s5,hw,h0,hr'.1,hr'.2.1,hx',c3,c4,htk,htk2,hle2,hbb,hwn,cu,mB,nh,Fy,SZ,Nat.reduceLeDiff,PJ,nxB,evO,simprocAttr]
  |true=>
   rw[htl]at c4 hW
   rw[if_neg (by simp)]at hW
   by_cases h1:t.s=0
   ·rw[if_pos h1]at hW
    subst hW
    rcases hx with⟨rfl,rfl⟩|⟨w,rfl,hw,hwl⟩
    ·rw[XM]at c3
     simp only[F95b0,e2,e4,e5,s2,s4,s5,h0,h1,hr'.1,hr'.2.1,hx',c3,c4,c5,cu,qM,Fy,SZ,Nat.reduceLeDiff,PJ,XM,nxB,evO,simprocAttr]
    ·have htk:List.take l.length (l.map qM)=l.map qM:=Ea (by simp)
     have hwn:¬w=σ.clk:=by omega
     have htk2:List.take (l.length+1) (l.map qM++[[PV.i .i64 r.n]])=(l++[r.n]).map qM:=by rw[Ea (by simp)];simp[qM]
     have hle2:l.length+1≤(l.map qM++[[PV.i .i64 r.n]]).length:=by simp
     simp only[F95b0,e2,e4,e5,s2,s4,s5,hw,h0,h1,hr'.1,hr'.2.1,hx',c3,c4,c5,htk,htk2,hle2,hbb,hwn,cu,mB,nh,Fy,SZ,Nat.reduceLeDiff,PJ,nxB,evO,simprocAttr]
   ·rw[if_neg h1]at hW
    rcases hx with⟨rfl,rfl⟩|⟨w,rfl,hw,hwl⟩
    ·rw[XM]at c3
     simp only[F95b0,e2,e4,e5,s2,s4,s5,h0,h1,hr'.1,hr'.2.1,hx',c3,c4,c5,qM,Fy,SZ,Nat.reduceLeDiff,PJ,XM,nxB,evO,simprocAttr]
     refine⟨k,by omega,[r.n],t,.own (40,σ.clk+1) 0 1,w0,r.n,rfl,hw3,by omega,?_⟩
     refine⟨by simp,rfl,.inr ⟨σ.clk+1,rfl,by simp[qM],by omega⟩,hP2,z2,?_,hW⟩
     simp only[sI,Ce]at hk⊢;omega
    ·have htk:List.take l.length (l.map qM)=l.map qM:=Ea (by simp)
     have hwn:¬w=σ.clk:=by omega
     simp only[F95b0,e2,e4,e5,s2,s4,s5,hw,h0,h1,hr'.1,hr'.2.1,hx',c3,c4,c5,htk,hbb,hwn,mB,nh,Fy,SZ,Nat.reduceLeDiff,PJ,nxB,evO,simprocAttr]
     refine⟨k,by omega,l++[r.n],t,.own (40,σ.clk+1) 0 (l.length+1),w0,r.n,rfl,hw3,by omega,?_⟩
     refine⟨by simp,rfl,.inr ⟨σ.clk+1,by simp,by simp[qM],by omega⟩,hP2,z2,?_,hW⟩
     simp only[GM,Ce,sI];omega
 all_goals simp only[nxB,evO,simprocAttr]
end Go.Proofs.YtmlhgalboabjcaaGreat
namespace Go.Proofs.YtmlhgalboabjcaaGreat.Tm
open Go.Fx
def iG:Nd:=⟨1,0,0,[],[],[zP]⟩
def Lc:Nt:=⟨[iG],4000⟩
def D0(t:T):Nt:=lnk (partG t 0 Lc).n (partG t 0 Lc).out zP
theorem fh:Lc.Ok:=by
 refine⟨by decide,⟨by decide,by decide⟩,fun x hx=>?_⟩
 have:x=iG:=by simpa [Lc]using hx
 subst this
 exact⟨⟨by decide,by decide⟩,⟨by decide,by decide⟩,⟨by decide,by decide⟩,by decide,by decide,by decide,by simp[iG],by
  intro p hp
  have:p=zP:=by simpa [iG]using hp
  subst this;exact⟨⟨by decide,by decide⟩,⟨by decide,by decide⟩⟩⟩
theorem aL{p:Pt}:Lc.has p=true↔p=zP:=by
 rw[sJ]
 constructor
 ·rintro⟨h1,h2,h3,h4⟩
  obtain⟨a,b⟩:=p
  simp only at h1 h2 h3 h4
  have ha:a=0:=by simp only[Lc,Ce,sI]at h2;omega
  subst ha
  have h4':b<((iG.to.length:Nat):Int):=h4
  have hb:b=0:=by simp only[iG,Ce,sI]at h4';omega
  subst hb;rfl
 ·rintro rfl;decide
theorem YJ:Inv Lc [zP]:=by
 refine⟨⟨fh,fun x hx=>?_,by decide,by decide,by decide⟩,⟨by decide,by decide,by decide,by decide,by decide,fun i x hx=>?_,fun p hp=>?_,fun p hp hn=>?_⟩,by decide,fun p hp=>?_,fun i p hp h0=>?_⟩
 ·have:x=iG:=by simpa [Lc]using hx
  subst this;decide
 ·have hi:=(QU.1 hx).1
  have:i=0:=by simp only[Lc,Ce,sI]at hi;omega
  subst this
  have:x=iG:=by simpa [Lc]using hx.symm
  subst this
  refine⟨?_,by decide,by decide⟩
  rw[Go.Proofs.YtmlhgalboabjcaaGreat.may_iff]
  unfold jX
  simp[iG]
 ·have:p=zP:=by simpa using hp
  rw[aL];exact this
 ·rw[aL]at hp;subst hp;simp at hn
 ·have:p=zP:=by simpa using hp
  subst this;decide
 ·have:=(PC hp).2.1
  rw[aL]at this
  injection this with e _;omega
theorem JJ{t:T}(h:Cl 0 false t)(hs:sizeZ t≤80)(hd:dep t≤50):(((partG t 0 Lc).n.ns.length:Nat):Int)≤Lc.cap:=by
 have h1:=(KE h 0).sum Lc
 have h2:=HJ h hs hd
 have:Lc.ns.length=1:=rfl
 have:Lc.cap=4000:=rfl
 omega
end Go.Proofs.YtmlhgalboabjcaaGreat.Tm
namespace Go.Proofs.YtmlhgalboabjcaaGreat
open Go.Fx
def Fb(p:Pl)(x y:Nd):Int:=
 if p.k=2 then(if p.alt<0∨p.alt≥(x.al.length:Int)then 0 else wr (wr ((x.al.getD p.alt.toNat zA).n+x.al.length)-1))
 else if p.k=3∨p.k=4 then 1
 else if p.k=5 then wr (wr (1+max (wr (oth x-1)) 0)+oth y)
 else if p.k=7 then(if x.k=4 then wr (2+oth y)else wr (1+oth y))
 else if p.k=8 then oth y else 0
def OQ(p:Pl)(a b:Nd):Int:=if p.sw=true then Fb p b a else Fb p a b
theorem LD{p:Pl}{a b:Nd}:eP S 41 [.g (II p),.g (Ug a),.g (Ug b)]=some (.a (.i .i64 (OQ p a b))):=by
 refine Cf (xO (by decide)) (fc:=F41) rfl rfl ?_
 unfold F41
 simp only[II,Ug,zx,XM,yh]
 cases hsw:p.sw with
 |true=>
  have hn:OQ p a b=Fb p b a:=by unfold OQ;rw[if_pos hsw]
  rw[hn]
  have ca:=dH a
  have cb:=dH b
  simp only[Ug]at ca cb
  unfold Fb
  by_cases k2:p.k=2
  ·by_cases h1:p.alt<0
   ·simp only[k2,h1,true_or,or_true,if_true,nxB,evO,simprocAttr]
   by_cases h2:p.alt≥(b.al.length:Int)
   ·simp only[k2,h1,h2,true_or,or_true,if_true,nxB,evO,simprocAttr]
   have g:=getA (l:=b.al) (i:=p.alt) (by omega) (by omega)
   have hge:0≤p.alt:=by omega
   have hlt:p.alt<(b.al.length:Int):=by omega
   simp only[k2,h1,h2,g,hge,hlt,or_self,wr,nxB,evO,simprocAttr]
  by_cases k3:p.k=3
  ·simp only[k3,Int.reduceEq,true_or,or_true,nxB,evO,simprocAttr]
  by_cases k4:p.k=4
  ·simp only[k4,Int.reduceEq,true_or,or_true,nxB,evO,simprocAttr]
  by_cases k5:p.k=5
  ·have hm:(if(0:Int)>IntKind.i64.wrap (oth b-1)then 0 else IntKind.i64.wrap (oth b-1))=max (IntKind.i64.wrap (oth b-1)) 0:=by omega
   simp only[k5,ca,cb,hm,wr,Int.reduceEq,or_self,nxB,evO,simprocAttr]
  by_cases k7:p.k=7
  ·by_cases h4:b.k=4
   ·simp only[k7,h4,ca,wr,Int.reduceEq,or_self,nxB,evO,simprocAttr]
   ·simp only[k7,h4,ca,wr,Int.reduceEq,or_self,nxB,evO,simprocAttr]
  by_cases k8:p.k=8
  ·simp only[k8,ca,wr,Int.reduceEq,or_self,nxB,evO,simprocAttr]
  ·simp only[k2,k3,k4,k5,k7,k8,or_self,nxB,evO,simprocAttr]
 |false=>
  have hn:OQ p a b=Fb p a b:=by unfold OQ;rw[if_neg (by simp[hsw])]
  rw[hn]
  have ca:=dH a
  have cb:=dH b
  simp only[Ug]at ca cb
  unfold Fb
  by_cases k2:p.k=2
  ·by_cases h1:p.alt<0
   ·simp only[k2,h1,true_or,or_true,if_true,nxB,evO,simprocAttr]
   by_cases h2:p.alt≥(a.al.length:Int)
   ·simp only[k2,h1,h2,true_or,or_true,if_true,nxB,evO,simprocAttr]
   have g:=getA (l:=a.al) (i:=p.alt) (by omega) (by omega)
   have hge:0≤p.alt:=by omega
   have hlt:p.alt<(a.al.length:Int):=by omega
   simp only[k2,h1,h2,g,hge,hlt,or_self,wr,nxB,evO,simprocAttr]
  by_cases k3:p.k=3
  ·simp only[k3,Int.reduceEq,true_or,or_true,nxB,evO,simprocAttr]
  by_cases k4:p.k=4
  ·simp only[k4,Int.reduceEq,true_or,or_true,nxB,evO,simprocAttr]
  by_cases k5:p.k=5
  ·have hm:(if(0:Int)>IntKind.i64.wrap (oth a-1)then 0 else IntKind.i64.wrap (oth a-1))=max (IntKind.i64.wrap (oth a-1)) 0:=by omega
   simp only[k5,ca,cb,hm,wr,Int.reduceEq,or_self,nxB,evO,simprocAttr]
  by_cases k7:p.k=7
  ·by_cases h4:a.k=4
   ·simp only[k7,h4,cb,wr,Int.reduceEq,or_self,nxB,evO,simprocAttr]
   ·simp only[k7,h4,cb,wr,Int.reduceEq,or_self,nxB,evO,simprocAttr]
  by_cases k8:p.k=8
  ·simp only[k8,cb,wr,Int.reduceEq,or_self,nxB,evO,simprocAttr]
  ·simp only[k2,k3,k4,k5,k7,k8,or_self,nxB,evO,simprocAttr]
def YZ(i:Int)(j k:Nat):List Pt:=(List.range' j (k-j)).map fun(s:Nat)=>⟨i,(s:Int)⟩
theorem Fz{i:Int}{j k:Nat}(h:j≤k):YZ i j (k+1)=YZ i j k++[⟨i,k⟩]:=by
 unfold YZ
 rw[show k+1-j=(k-j)+1 by omega,vY,TU]
 simp only[zx,XM,SZ]
 rw[show j+(k-j)=k by omega]
theorem sO{i:Int}{j k:Nat}(h:k≤j):YZ i j k=[]:=by
 unfold YZ;rw[show k-j=0 by omega];rfl
theorem VT(i:Int)(j k:Nat):(YZ i j k).length=k-j:=by simp[YZ]
theorem Jd{i:Int}{j k:Nat}{p:Pt}:p∈YZ i j k↔p.n=i∧(j:Int)≤p.s∧p.s<k:=by
 unfold YZ
 simp only[Om,bE]
 constructor
 ·rintro⟨s,h,rfl⟩;exact⟨rfl,by simp only;omega,by simp only;omega⟩
 ·rintro⟨h1,h2,h3⟩
  refine⟨p.s.toNat,by omega,?_⟩
  obtain⟨u,v⟩:=p
  simp only at h1 h2 h3⊢
  subst h1
  simp only[Pt.mk.injEq,true_and];omega
theorem Qt(i:Int)(j k:Nat):(YZ i j k).Nodup:=by
 unfold YZ List.Nodup
 rw[List.pairwise_map]
 exact(show(List.range' j (k-j)).Nodup from Ow ..).imp fun hne e=>hne (by simp only[Pt.mk.injEq,true_and]at e;omega)
theorem Ym{i:Int}{j k:Nat}(h:j<k):YZ i j k=⟨i,j⟩::YZ i (j+1) k:=by
 unfold YZ
 rw[show k-j=(k-(j+1))+1 by omega,Yk,zx]
noncomputable def Tr(n:Nt)(x:Nd):Nat→Nt×List Int
 |0=>(n,[])
 |k+1=>((wS (Tr n x k).1 x).1,(Tr n x k).2++[(wS (Tr n x k).1 x).2.1])
theorem gQ{n:Nt}{x:Nd}(hn:n.Ok)(hx:x.Ok)(hb:n.ns.length*88+88≤140737488355328):(wS n x).1.Ok∧(wS n x).1.ns.length≤n.ns.length+1:=by
 unfold wS
 split
 ·exact⟨hn,by simp only;omega⟩
 ·split
  ·exact⟨hn,by simp only;omega⟩
  ·refine⟨kT hn hx hb,?_⟩
   unfold Nt.make
   simp only
   split
   ·rw[rm];omega
   ·rw[GM];simp
theorem HV{n:Nt}{x:Nd}(hn:n.Ok)(hx:x.Ok):∀k:Nat,(n.ns.length+k)*88+88≤140737488355328→(Tr n x k).1.Ok∧(Tr n x k).1.ns.length≤n.ns.length+k∧(Tr n x k).2.length=k
 |0,_=>⟨hn,by simp only[Tr];omega,rfl⟩
 |k+1,hb=>by
  obtain⟨h1,h2,h3⟩:=HV hn hx k (by omega)
  obtain⟨g1,g2⟩:=gQ (x:=x) h1 hx (by omega)
  exact⟨g1,by simp only[Tr];omega,by simp only[Tr,GM,Ce,sI];omega⟩
inductive Op where
 |mv (p q:Pt)
 |jn (p q:Pt)
 |ln (p q:Pt)
def Op.run(n:Nt):Op→Nt
 | .mv p q=>(Qs n p q).1
 | .jn p q=>(iY n p q).1
 | .ln p q=>(KD n p q).1
def rW(n:Nt)(l:List Op):Nt:=l.foldl Op.run n
def wfP(p:Pt):Prop:=wf p.n∧wf p.s
def Op.wf:Op→Prop
 | .mv p q=>wfP p∧wfP q
 | .jn p q=>wfP p∧wfP q
 | .ln p q=>wfP p∧wfP q
theorem Op.run_Ok{n:Nt}{o:Op}(hn:n.Ok)(h:o.wf):(o.run n).Ok:=by
 cases o with
 |mv p q=>exact gN hn h.1 h.2
 |jn p q=>exact Vd hn h.1 h.2
 |ln p q=>exact Cy hn h.1 h.2
theorem ri:∀{l:List Op} {n:Nt},n.Ok→(∀o∈l,o.wf)→(rW n l).Ok
 |[],n,hn,_=>hn
 |o::l,n,hn,h=>ri (l:=l) (Op.run_Ok hn (h o (by simp))) (fun o' ho=>h o' (by simp[ho]))
theorem gn(n:Nt)(l m:List Op):rW n (l++m)=rW (rW n l) m:=by unfold rW;rw[cR]
theorem Tn(n:Nt)(o:Op)(l:List Op):rW n (o::l)=rW (o.run n) l:=rfl
theorem yE(n:Nt)(l:List Op)(o:Op):rW n (l++[o])=o.run (rW n l):=by rw[gn];rfl
def U2(l:List Pt)(ds:List Int):List Op:=List.zipWith (fun p d=>.mv p ⟨d,0⟩) l ds
def PN(z:Int):Nd:=⟨7,z,0,[],[],[]⟩
theorem OP{z:Int}(h:wf z):(PN z).Ok:=⟨by show wf 7;decide,h,by show wf 0;decide,by simp[PN],by simp[PN],by simp[PN],by simp[PN],by simp[PN]⟩
def stg(n:Nt)(p:Pl)(a b:Int):List PV:=[.l (n.ns.map Ug),.i .i64 n.cap,.i .i64 p.k,.b p.sw,.i .i64 p.lv,.i .i64 p.alt,.i .i64 p.nd.k,.i .i64 p.nd.lv,.i .i64 p.nd.n,.s p.nd.s,.l (p.nd.al.map uO),.l (p.nd.to.map xN),.i .i64 a,.i .i64 b]
structure SG(ks:Key)(n:Nt)(p:Pl)(a b:Int)(σ:St):Prop where
 bs:σ.bs ks=some (.var ((stg n p a b).map .p))
 lt:ks.2<σ.clk
structure Fr(ks:Key)(σ σ':St):Prop where
 clk:σ.clk≤σ'.clk
 ls:σ'.ls=σ.ls
 bs:∀k:Key,k.2<σ.clk→k≠ks→σ'.bs k=σ.bs k
theorem Fr.refl(ks:Key)(σ:St):Fr ks σ σ:=⟨nh _,rfl,fun _ _ _=>rfl⟩
theorem Fr.trans{ks:Key}{σ τ υ:St}(h:Fr ks σ τ)(g:Fr ks τ υ):Fr ks σ υ:=
 ⟨fm h.clk g.clk,g.ls.trans h.ls,fun k h1 h2=>(g.bs k (yz h1 h.clk) h2).trans (h.bs k h1 h2)⟩
theorem Fr.add{ks:Key}{σ τ:St}(h:Fr ks σ τ)(d:Nat)(b:Blk):Fr ks σ (τ.add d b):=
 ⟨fm h.clk (by simp only[Bv];omega),h.ls,fun k h1 h2=>by
  have h3:=h.clk
  have:¬k=(d,τ.clk):=by rintro rfl;simp at h1;omega
  simp only[Mq,this,if_false];exact h.bs k h1 h2⟩
theorem Fr.put{ks:Key}{σ τ:St}(h:Fr ks σ τ){k:Key}(hk:k=ks∨σ.clk≤k.2)(b:Blk):Fr ks σ (τ.put k b):=
 ⟨h.clk,h.ls,fun j h1 h2=>by
  have:¬j=k:=by rintro rfl;rcases hk with hk|hk;exact h2 hk;omega
  simp only[xL,this,if_false];exact h.bs j h1 h2⟩
theorem Fr.kill{ks:Key}{σ τ:St}(h:Fr ks σ τ){k:Key}(hk:σ.clk≤k.2):Fr ks σ (τ.kill k):=
 ⟨h.clk,h.ls,fun j h1 h2=>by
  have:¬j=k:=by rintro rfl;omega
  simp only[Sn,this,if_false];exact h.bs j h1 h2⟩
theorem SG.add{ks:Key}{n:Nt}{p:Pl}{a b:Int}{σ:St}(h:SG ks n p a b σ)(d:Nat)(x:Blk):SG ks n p a b (σ.add d x):=by
 have hl:=h.lt
 have:¬ks=(d,σ.clk):=by rintro rfl;simp at hl
 exact⟨by simp only[Mq,this,if_false];exact h.bs,by simp only[Bv];omega⟩
theorem SG.put{ks:Key}{n:Nt}{p:Pl}{a b:Int}{σ:St}(h:SG ks n p a b σ){k:Key}(hk:¬ks=k)(x:Blk):SG ks n p a b (σ.put k x):=
 ⟨by simp only[xL,hk,if_false];exact h.bs,h.lt⟩
theorem SG.kill{ks:Key}{n:Nt}{p:Pl}{a b:Int}{σ:St}(h:SG ks n p a b σ){k:Key}(hk:¬ks=k):SG ks n p a b (σ.kill k):=
 ⟨by simp only[Sn,hk,if_false];exact h.bs,h.lt⟩
theorem SG.set{ks:Key}{n:Nt}{p:Pl}{a b:Int}{σ:St}(h:ks.2<σ.clk):SG ks n p a b (σ.put ks (.var ((stg n p a b).map .p))):=
 ⟨by simp only[xL,if_true],h⟩
theorem Yb(i j:Int):eP S 61 [.a (.i .i64 i),.a (.i .i64 j)]=some (.g [.i .i64 i,.i .i64 j]):=by
 refine Cf (xO (by decide)) (fc:=F61) rfl rfl ?_
 simp only[F61,nxB,evO,simprocAttr]
theorem El{ks:Key}{n:Nt}{pl:Pl}{a b:Int}{p q:Pt}{σ:St}(hn:n.Ok)(hp:wf p.n∧wf p.s)(hq:wf q.n∧wf q.s)(h:SG ks n pl a b σ):
  ∃σ',eS S (.f 74) [.a (.ptr ks 0 0),.g [.p (.i .i64 p.n),.p (.i .i64 p.s)],.g [.p (.i .i64 q.n),.p (.i .i64 q.s)]] σ=some (.u,σ')∧SG ks (Qs n p q).1 pl a b σ'∧Fr ks σ σ':=by
 refine Zy (fc:=F74) rfl rfl ?_
 have c1:=cF hn hp hq
 obtain⟨⟨m,e⟩,hm⟩:∃m,Qs n p q=m:=⟨_,rfl⟩
 rw[hm]at c1⊢
 have s1:=h.bs
 have hlt:=h.lt
 have ne0:∀d,¬ks=(d,σ.clk):=by rintro d rfl;simp at hlt
 have ne1:∀d,¬ks=(d,σ.clk+1):=by rintro d rfl;simp at hlt;omega
 simp only[qX,Ip,xN]at c1
 simp only[stg,zx,XM]at s1
 simp only[F74,s1,c1,ne0,ne1,nxB,evO,simprocAttr]
 exact⟨SG.set (n:=m) (p:=pl) (a:=a) (b:=b) (by simp only[Bv];omega),(((Fr.refl ks σ).add _ _).add _ _).put (.inl rfl) _⟩
theorem kD{ks:Key}{n:Nt}{pl:Pl}{a b:Int}{p q:Pt}{σ:St}(hn:n.Ok)(hp:wf p.n∧wf p.s)(hq:wf q.n∧wf q.s)(h:SG ks n pl a b σ):
  ∃σ',eS S (.f 104) [.a (.ptr ks 0 0),.g [.p (.i .i64 p.n),.p (.i .i64 p.s)],.g [.p (.i .i64 q.n),.p (.i .i64 q.s)]] σ=some (.u,σ')∧SG ks (iY n p q).1 pl a b σ'∧Fr ks σ σ':=by
 refine Zy (fc:=F104) rfl rfl ?_
 have c1:=Bu hn hp hq
 obtain⟨⟨m,e⟩,hm⟩:∃m,iY n p q=m:=⟨_,rfl⟩
 rw[hm]at c1⊢
 have s1:=h.bs
 have hlt:=h.lt
 have ne0:∀d,¬ks=(d,σ.clk):=by rintro d rfl;simp at hlt
 have ne1:∀d,¬ks=(d,σ.clk+1):=by rintro d rfl;simp at hlt;omega
 simp only[qX,Ip,xN]at c1
 simp only[stg,zx,XM]at s1
 simp only[F104,s1,c1,ne0,ne1,nxB,evO,simprocAttr]
 exact⟨SG.set (n:=m) (p:=pl) (a:=a) (b:=b) (by simp only[Bv];omega),(((Fr.refl ks σ).add _ _).add _ _).put (.inl rfl) _⟩
theorem qm{ks:Key}{n:Nt}{pl:Pl}{a b:Int}{p q:Pt}{σ:St}(hn:n.Ok)(hp:wf p.n∧wf p.s)(hq:wf q.n∧wf q.s)(h:SG ks n pl a b σ):
  ∃σ',eS S (.f 108) [.a (.ptr ks 0 0),.g [.p (.i .i64 p.n),.p (.i .i64 p.s)],.g [.p (.i .i64 q.n),.p (.i .i64 q.s)]] σ=some (.u,σ')∧SG ks (KD n p q).1 pl a b σ'∧Fr ks σ σ':=by
 refine Zy (fc:=F108) rfl rfl ?_
 have c1:=wy hn hp hq
 obtain⟨⟨m,e⟩,hm⟩:∃m,KD n p q=m:=⟨_,rfl⟩
 rw[hm]at c1⊢
 have s1:=h.bs
 have hlt:=h.lt
 have ne0:∀d,¬ks=(d,σ.clk):=by rintro d rfl;simp at hlt
 have ne1:∀d,¬ks=(d,σ.clk+1):=by rintro d rfl;simp at hlt;omega
 simp only[qX,Ip,xN]at c1
 simp only[stg,zx,XM]at s1
 simp only[F108,s1,c1,ne0,ne1,nxB,evO,simprocAttr]
 exact⟨SG.set (n:=m) (p:=pl) (a:=a) (b:=b) (by simp only[Bv];omega),(((Fr.refl ks σ).add _ _).add _ _).put (.inl rfl) _⟩
def NC(rows:List (List PV))(z:AV):Prop:=z= .p (.l rows)∨z= .nil∧rows=[]
theorem NC.p(rows:List (List PV)):NC rows (.p (.l rows)):=.inl rfl
theorem NC.nil:NC [] .nil:=.inr ⟨rfl,rfl⟩
theorem Kg{ks:Key}{n:Nt}{pl:Pl}{a b:Int}{x:Nd}{za zt:AV}{σ:St}(hn:n.Ok)(hbig:n.ns.length*88+88≤140737488355328)(hx:x.Ok)(ha:NC (x.al.map uO) za)(ht:NC (x.to.map xN) zt)(h:SG ks n pl a b σ):
  ∃σ',eS S (.f 75) [.a (.ptr ks 0 0),.g [.p (.i .i64 x.k),.p (.i .i64 x.lv),.p (.i .i64 x.n),.p (.s x.s),za,zt]] σ=some (.a (.p (.i .i64 (wS n x).2.1)),σ')∧SG ks (wS n x).1 pl a b σ'∧Fr ks σ σ':=by
 refine Zy (fc:=F75) rfl rfl ?_
 have c1:=wU hn hbig hx
 obtain⟨⟨m,i,e⟩,hm⟩:∃m,wS n x=m:=⟨_,rfl⟩
 rw[hm]at c1⊢
 have s1:=h.bs
 have hlt:=h.lt
 have ne0:∀d,¬ks=(d,σ.clk):=by rintro d rfl;simp at hlt
 simp only[Yg,Ip,Ug]at c1
 simp only[stg,zx,XM]at s1
 rcases ha with rfl|⟨rfl,ha⟩
 all_goals rcases ht with rfl|⟨rfl,ht⟩
 all_goals first|rw[ha,ht]at c1|rw[ha]at c1|rw[ht]at c1|skip
 all_goals simp only[F75,s1,c1,ne0,Ug,zx,XM,nxB,evO,simprocAttr]
 all_goals exact⟨SG.set (n:=m) (p:=pl) (a:=a) (b:=b) (by simp only[Bv];omega),((Fr.refl ks σ).add _ _).put (.inl rfl) _⟩
theorem V5{ks:Key}{n:Nt}{pl:Pl}{a b i:Int}{σ:St}(h0:0≤i)(h1:i<n.ns.length)(h:SG ks n pl a b σ):
  ∃σ',eS S (.f 105) [.a (.ptr ks 0 0),.a (.p (.i .i64 i))] σ=some (.g ((Ug (n.nd i)).map .p),σ')∧SG ks n pl a b σ'∧Fr ks σ σ':=by
 refine Zy (fc:=F105) rfl rfl ?_
 have s1:=h.bs
 have hlt:=h.lt
 have k1:=vH (l:=n.ns) h0 h1
 obtain⟨x,hx⟩:∃x,n.nd i=x:=⟨_,rfl⟩
 have hx2:n.ns.getD i.toNat zN=x:=hx
 rw[hx2]at k1
 rw[hx]
 have ne0:∀d,¬ks=(d,σ.clk):=by rintro d rfl;simp at hlt
 simp only[stg,zx,XM]at s1
 simp only[F105,s1,k1,h0,h1,ne0,Ug,zx,XM,nxB,evO,simprocAttr]
 exact⟨((h.add _ _).put (ne0 4) _),((Fr.refl ks σ).add _ _).put (.inr (nh _)) _⟩
theorem aJ{ks:Key}{n:Nt}{pl:Pl}{a b:Int}{σ:St}(h0:0≤a)(h1:a<n.ns.length)(h:SG ks n pl a b σ):
  ∃σ',eS S (.f 107) [.a (.ptr ks 0 0)] σ=some (.a (.p (.i .i64 (n.nd a).lv)),σ')∧SG ks n pl a b σ'∧Fr ks σ σ':=by
 refine Zy (fc:=F107) rfl rfl ?_
 have s1:=h.bs
 obtain⟨σ',c1,g1,g2⟩:=V5 h0 h1 h
 simp only[stg,zx,XM]at s1
 simp only[Ug,zx,XM]at c1
 simp only[F107,s1,c1,iX,nxB,evO,simprocAttr]
 exact⟨g1,g2⟩
def SL(c0 w:Nat)(t:TypeId)(rows:List (List PV))(v:AV)(σ:St):Prop:=
 v= .nil∧rows=[]∨∃k:Key,v= .own k 0 rows.length∧σ.bs k=some (.row w t rows)∧c0≤k.2∧k.2<σ.clk
theorem SL.fr{c0 w:Nat}{t:TypeId}{rows:List (List PV)}{v:AV}{σ τ:St}{ks:Key}{n:Nt}{pl:Pl}{a b:Int}(h:SL c0 w t rows v σ)(hs:SG ks n pl a b σ)(hf:Fr ks σ τ):SL c0 w t rows v τ:=by
 rcases h with h|⟨k,h1,h2,h3,h4⟩
 ·exact .inl h
 ·have:k≠ks:=by rintro rfl;rw[hs.bs]at h2;cases h2
  exact .inr ⟨k,h1,by rw[hf.bs k h4 this];exact h2,h3,yz h4 hf.clk⟩
theorem TX{ks:Key}{n:Nt}{pl:Pl}{a b i:Int}{j:Nat}{jz:Int}{σ:St}(hjz:jz=(j:Nat))(hj:j≤100)(h0:0≤i)(h1:i<n.ns.length)(ht:(n.nd i).to.length*16≤140737488355328)(h:SG ks n pl a b σ):
  ∃σ' v,eS S (.f 79) [.a (.ptr ks 0 0),.a (.p (.i .i64 i)),.a (.p (.i .i64 jz))] σ=some (.a v,σ')∧SG ks n pl a b σ'∧Fr ks σ σ'∧
   SL σ.clk 2 42 ((YZ i j (n.nd i).to.length).map xN) v σ':=by
 subst hjz
 obtain⟨c0,hc0⟩:∃c,σ.clk=c:=⟨_,rfl⟩
 have key:∃v σ',eS S (.f 79) [.a (.ptr ks 0 0),.a (.p (.i .i64 i)),.a (.p (.i .i64 (j:Nat)))] σ=some (v,σ')∧∃x,v= .a x∧SG ks n pl a b σ'∧Fr ks σ σ'∧
   SL c0 2 42 ((YZ i j (n.nd i).to.length).map xN) x σ':=by
  refine ZE (fc:=F79) rfl rfl ?_
  simp only[F79,nxB,evO,simprocAttr]
  refine Fs (max j (n.nd i).to.length) (fun k e τ=>j≤k∧e 0= .a (.ptr ks 0 0)∧e 1= .a (.p (.i .i64 i))∧e 8= .a (.p (.i .i64 (k:Nat)))∧SG ks n pl a b τ∧Fr ks σ τ∧∃x,e 7= .a x∧SL c0 2 42 ((YZ i j k).map xN) x τ) (i0:=j) (by omega) ?_ ?_ ?_
  ·refine⟨nh _,?_,?_,?_,h,Fr.refl ks σ,.nil,?_,.inl ⟨rfl,by rw[sO (nh _)];rfl⟩⟩<;>simp only[nxB,evO,simprocAttr]
  ·rintro k e τ hk ⟨hjk,e0,e1,e8,hS,hF,x,e7,hL⟩
   obtain⟨τ',c1,hS',hF'⟩:=V5 h0 h1 hS
   have hF2:=hF.trans hF'
   have hL':=hL.fr hS hF'
   have hlt:((k:Nat):Int)<((n.nd i).to.length:Int):=by omega
   have hsu:=Fz (i:=i) hjk
   have hln:=VT i j k
   have c2:=Yb i (k:Int)
   obtain⟨y,hy⟩:∃y,n.nd i=y:=⟨_,rfl⟩
   rw[hy]at c1 hlt ht
   obtain⟨L,hLL⟩:∃L,YZ i j k=L:=⟨_,rfl⟩
   rw[hLL]at hL' hsu hln
   rw[hsu]
   simp only[Ug,zx,XM]at c1
   have hcl:=hF2.clk
   have hcl2:=hS'.lt
   rcases hL' with⟨rfl,hr⟩|⟨q,rfl,r2,r3,r4⟩
   ·have hr2:L=[]:=qL.1 hr
    subst hr2
    simp only[F79b0,e0,e1,e7,e8,c1,c2,hlt,iX,Fy,SZ,Nat.reduceLeDiff,PJ,mB,nxB,evO,simprocAttr]
    exact⟨by omega,by rw[zz k (by omega)],(hS'.add _ _).add _ _,(hF2.add _ _).add _ _,_,rfl,.inr ⟨(24,τ'.clk+1),rfl,by simp only[Mq,Bv,if_true],by simp only;omega,by simp only[Bv];omega⟩⟩
   ·have n2:¬ks=q:=by rintro rfl;rw[hS'.bs]at r2;cases r2
    have n1:∀d,¬q=(d,τ'.clk):=by rintro d rfl;simp at r4
    have htk:List.take L.length (L.map xN)=L.map xN:=Ea (by simp)
    have hbb:(L.length+1)*16≤140737488355328:=by omega
    rw[mB]at e7
    simp only[F79b0,e0,e1,e7,e8,c1,c2,r2,hlt,iX,n1,htk,hbb,nh,Fy,SZ,Nat.reduceLeDiff,PJ,mB,nxB,evO,simprocAttr]
    exact⟨by omega,by rw[zz k (by omega)],((hS'.add _ _).kill n2).add _ _,((hF2.add _ _).kill (by omega)).add _ _,_,rfl,.inr ⟨(24,τ'.clk+1),by simp,by simp only[Mq,Bv,ME,if_true,TU,zx,XM,xN],by simp only;omega,by simp only[Bv,ME];omega⟩⟩
  ·rintro e τ ⟨hjk,e0,e1,e8,hS,hF,x,e7,hL⟩
   obtain⟨τ',c1,hS',hF'⟩:=V5 h0 h1 hS
   have hF2:=hF.trans hF'
   have hL':=hL.fr hS hF'
   have hlt:¬((max j (n.nd i).to.length:Nat):Int)<((n.nd i).to.length:Int):=by omega
   obtain⟨y,hy⟩:∃y,n.nd i=y:=⟨_,rfl⟩
   rw[hy]at c1 hlt e8 hL'⊢
   have hpp:YZ i j (max j y.to.length)=YZ i j y.to.length:=by
    by_cases hjl:j≤y.to.length
    ·rw[KS hjl]
    ·rw[Wc (by omega),sO (nh _),sO (by omega)]
   rw[hpp]at hL'
   simp only[Ug,zx,XM]at c1
   simp only[F79b0,e0,e1,e7,e8,c1,hlt,iX,nxB,evO,simprocAttr]
   exact⟨x,rfl,hS',hF2,hL'⟩
 obtain⟨_,σ',g1,x,rfl,g2,g3,g4⟩:=key
 exact⟨σ',x,g1,g2,g3,hc0▸g4⟩
theorem IV{ks:Key}{n:Nt}{pl:Pl}{a b:Int}{x:Nd}{za zt:AV}{m:Nat}{σ:St}(hn:n.Ok)(hx:x.Ok)(hza:NC (x.al.map uO) za)(hzt:NC (x.to.map xN) zt)(hb:(n.ns.length+m)*88+88≤140737488355328)(h:SG ks n pl a b σ):
  ∃σ' v,eS S (.f 106) [.a (.ptr ks 0 0),.g [.p (.i .i64 x.k),.p (.i .i64 x.lv),.p (.i .i64 x.n),.p (.s x.s),za,zt],.a (.p (.i .i64 (m:Nat)))] σ=some (.a v,σ')∧SG ks (Tr n x m).1 pl a b σ'∧Fr ks σ σ'∧
   SL σ.clk 1 3 ((Tr n x m).2.map qM) v σ':=by
 obtain⟨c0,hc0⟩:∃c,σ.clk=c:=⟨_,rfl⟩
 have key:∃v σ',eS S (.f 106) [.a (.ptr ks 0 0),.g [.p (.i .i64 x.k),.p (.i .i64 x.lv),.p (.i .i64 x.n),.p (.s x.s),za,zt],.a (.p (.i .i64 (m:Nat)))] σ=some (v,σ')∧∃y,v= .a y∧SG ks (Tr n x m).1 pl a b σ'∧Fr ks σ σ'∧
   SL c0 1 3 ((Tr n x m).2.map qM) y σ':=by
  refine ZE (fc:=F106) rfl rfl ?_
  simp only[F106,Ug,zx,XM,nxB,evO,simprocAttr]
  refine Fs m (fun k e τ=>e 0= .a (.ptr ks 0 0)∧e 4= .a (.ptr (4,c0) 0 0)∧e 8= .a (.p (.i .i64 (m:Nat)))∧e 9= .a (.p (.i .i64 (k:Nat)))∧τ.bs (4,c0)=some (.var [.p (.i .i64 x.k),.p (.i .i64 x.lv),.p (.i .i64 x.n),.p (.s x.s),za,zt])∧c0<τ.clk∧SG ks (Tr n x k).1 pl a b τ∧Fr ks σ τ∧∃y,e 7= .a y∧SL c0 1 3 ((Tr n x k).2.map qM) y τ) (i0:=0) (ji _) ?_ ?_ ?_
  ·refine⟨?_,?_,?_,?_,?_,?_,h.add _ _,(Fr.refl ks σ).add _ _,.nil,?_,.inl ⟨rfl,rfl⟩⟩<;>simp only[Ug,hc0,zx,XM,nxB,evO,simprocAttr]
   all_goals first|rfl|omega|skip
  ·rintro k e τ hk ⟨e0,e4,e8,e9,s4,hc,hS,hF,y,e7,hL⟩
   obtain⟨l1,l2,l3⟩:=HV hn hx k (by omega)
   obtain⟨τ',c1,hS',hF'⟩:=Kg (x:=x) l1 (by omega) hx hza hzt hS
   have hF2:=hF.trans hF'
   have hL':=hL.fr hS hF'
   have hlt:((k:Nat):Int)<(m:Int):=by omega
   obtain⟨⟨n1,l⟩,hr⟩:∃r,Tr n x k=r:=⟨_,rfl⟩
   have hsu:Tr n x (k+1)=((wS n1 x).1,l++[(wS n1 x).2.1]):=by simp only[Tr,hr]
   rw[hr]at hL' c1 hS' l3
   rw[hsu]
   simp only at hL' c1 hS' l3
   obtain⟨⟨n2,i,ee⟩,hm⟩:∃r,wS n1 x=r:=⟨_,rfl⟩
   rw[hm]at hS' c1⊢
   simp only at hS' c1⊢
   have hcl:=hF2.clk
   have hcl2:=hS'.lt
   have hne:(4,c0)≠ks:=by rintro rfl;have:=hS.lt;have:=h.lt;simp at this;omega
   have s4':τ'.bs (4,c0)=some (.var [.p (.i .i64 x.k),.p (.i .i64 x.lv),.p (.i .i64 x.n),.p (.s x.s),za,zt]):=by rw[hF'.bs _ hc hne];exact s4
   have hc':=yz hc hF'.clk
   have nc:¬c0=τ'.clk∧¬c0=τ'.clk+1:=by omega
   rcases hL' with⟨rfl,hr⟩|⟨q,rfl,r2,r3,r4⟩
   ·have hr2:l=[]:=qL.1 hr
    subst hr2
    simp only[F106b0,e0,e4,e7,e8,e9,s4,c1,hlt,iX,Fy,SZ,Nat.reduceLeDiff,PJ,mB,nxB,evO,simprocAttr]
    refine⟨by rw[zz k (by omega)],?_,by omega,(hS'.add _ _).add _ _,(hF2.add _ _).add _ _,_,rfl,.inr ⟨(16,τ'.clk+1),rfl,by simp only[Mq,Bv,if_true,qM],by simp only;omega,by simp only[Bv];omega⟩⟩
    exact s4'
   ·have n2:¬ks=q:=by rintro rfl;rw[hS'.bs]at r2;cases r2
    have n1:∀d,¬q=(d,τ'.clk):=by rintro d rfl;simp at r4
    have n3:¬(4,c0)=q:=by rintro rfl;rw[s4']at r2;cases r2
    have htk:List.take l.length (l.map qM)=l.map qM:=Ea (by simp)
    have hbb:(l.length+1)*8≤140737488355328:=by omega
    rw[mB]at e7
    simp only[F106b0,e0,e4,e7,e8,e9,s4,c1,r2,hlt,iX,n1,n3,htk,hbb,nh,Fy,SZ,Nat.reduceLeDiff,PJ,mB,nxB,evO,simprocAttr]
    refine⟨by rw[zz k (by omega)],?_,by omega,((hS'.add _ _).kill n2).add _ _,((hF2.add _ _).kill (by omega)).add _ _,_,rfl,.inr ⟨(16,τ'.clk+1),by simp,by simp only[Mq,Bv,ME,if_true,TU,zx,XM,qM],by simp only;omega,by simp only[Bv,ME];omega⟩⟩
    exact s4'
  ·rintro e τ ⟨e0,e4,e8,e9,s4,hc,hS,hF,y,e7,hL⟩
   have hlt:¬((m:Nat):Int)<(m:Int):=by omega
   simp only[F106b0,e0,e4,e7,e8,e9,hlt,nxB,evO,simprocAttr]
   exact⟨y,rfl,hS,hF,hL⟩
 obtain⟨_,σ',g1,x,rfl,g2,g3,g4⟩:=key
 exact⟨σ',x,g1,g2,g3,hc0▸g4⟩
theorem uv{S:Seat}(d:Option Nat)(o:O)(ys:List (Nat×Nat))(ns:List Nat)(e:Env)(σ:St):evI (eP S) (eS S) S.sp ⟨d,none,o,.cl ys ns⟩ e σ=(evO (eP S) (eS S) S.sp d e σ o).bind fun x=>if Of e σ x.2 ys ns=true then some (e.putD d x.1,x.2)else none:=rfl
theorem Du{ks k0 k1 k2:Key}{n:Nt}{pl:Pl}{a b:Int}{l:List Pt}{ds:List Int}{lv dv:AV}{c0 c1:Nat}{σ:St}(hn:n.Ok)(hl:∀p∈l,wfP p)(hd:∀d∈ds,wf d)(hld:l.length≤ds.length)(hlb:l.length≤1000000000)
  (h:SG ks n pl a b σ) (s0:σ.bs k0=some (.var [lv])) (s1:σ.bs k1=some (.var [.ptr ks 0 0])) (s2:σ.bs k2=some (.var [dv])) (h0:k0.2<σ.clk) (h1:k1.2<σ.clk) (h2:k2.2<σ.clk)
  (hL:SL c0 2 42 (l.map xN) lv σ) (hD:SL c1 1 3 (ds.map qM) dv σ):
  ∃σ',eS S (.f 111) [.a (.ptr k0 0 0),.a (.ptr k1 0 0),.a (.ptr k2 0 0)] σ=some (.u,σ')∧SG ks (rW n (U2 l ds)) pl a b σ'∧Fr ks σ σ':=by
 have hz:(U2 l ds).length=l.length:=by unfold U2;rw[List.length_zipWith];omega
 have ne:∀{k:Key} {v:AV},σ.bs k=some (.var [v])→k≠ks:=by
  rintro k v hk rfl;rw[h.bs]at hk;simp[stg]at hk
 refine Zy (fc:=F111) rfl rfl ?_
 have hopn:∃cv:Nat,(lv= .nil∧l=[]∨∃q:Key,lv= .own q 0 l.length∧σ.bs q=some (.row 2 42 (l.map xN))∧q.2<σ.clk):=⟨0,by
  rcases hL with⟨e1,e2⟩|⟨q,e1,e2,e3,e4⟩
  ·exact .inl ⟨e1,qL.1 e2⟩
  ·exact .inr ⟨q,by simpa using e1,e2,e4⟩⟩
 obtain⟨_,hlv⟩:=hopn
 have go:∀(e:Env),e 0= .a (.ptr k0 0 0)→e 1= .a (.ptr k1 0 0)→e 2= .a (.ptr k2 0 0)→e 5= .a lv→e 6= .a (.p (.i .i64 (l.length:Nat)))→e 7= .a (.p (.i .i64 0))→
   wp S false (.loop F111b0) e σ (fun x e' σ'=>x= .exit 0∧SG ks (rW n (U2 l ds)) pl a b σ'∧Fr ks σ σ'):=by
  intro e e0 e1 e2 e5 e6 e7
  refine Fs l.length (fun k e τ=>e 0= .a (.ptr k0 0 0)∧e 1= .a (.ptr k1 0 0)∧e 2= .a (.ptr k2 0 0)∧e 5= .a lv∧e 6= .a (.p (.i .i64 (l.length:Nat)))∧e 7= .a (.p (.i .i64 (k:Nat)))∧SG ks (rW n ((U2 l ds).take k)) pl a b τ∧Fr ks σ τ) (i0:=0) (ji _) ⟨e0,e1,e2,e5,e6,e7,h,Fr.refl ks σ⟩ ?_ ?_
  ·rintro k e τ hk ⟨e0,e1,e2,e5,e6,e7,hS,hF⟩
   obtain⟨p,hp⟩:∃p,l[k]? =some p:=⟨_,Xb hk⟩
   obtain⟨d,hdk⟩:∃d,ds[k]? =some d:=⟨_,Xb (by omega)⟩
   have hp':=Kr xN hp
   have hd':=Kr qM hdk
   have hlt:((k:Nat):Int)<(l.length:Int):=by omega
   have hge:(0:Int)≤((k:Nat):Int):=by omega
   have hltd:((k:Nat):Int)<(ds.length:Int):=by omega
   have htk:(U2 l ds).take (k+1)=(U2 l ds).take k++[.mv p ⟨d,0⟩]:=by
    have:(U2 l ds)[k]? =some (.mv p ⟨d,0⟩):=by unfold U2;rw[List.getElem?_zipWith,hp,hdk]
    rw[Oq,this];rfl
   have wo:∀o∈(U2 l ds).take k,o.wf:=by
    intro o ho
    have:=IY ho
    unfold U2 at this
    obtain⟨i,hi⟩:=IL this
    rw[List.getElem?_zipWith]at hi
    split at hi
    ·rename_i p' d' h1 h2
     rw[←BQ hi]
     exact⟨hl _ (yu h1),hd _ (yu h2),by show wf 0;decide⟩
    ·cases hi
   rw[htk,yE]
   have hOk:=ri hn wo
   obtain⟨q,rfl,q2,q3⟩:∃q:Key,lv= .own q 0 l.length∧σ.bs q=some (.row 2 42 (l.map xN))∧q.2<σ.clk:=by
    rcases hlv with⟨_,e⟩|h
    ·rw[e]at hk;simp at hk
    ·exact h
   obtain⟨r,rfl,r2,r3,r4⟩:∃r:Key,dv= .own r 0 ds.length∧σ.bs r=some (.row 1 3 (ds.map qM))∧c1≤r.2∧r.2<σ.clk:=by
    rcases hD with⟨_,e⟩|⟨r,g1,g2,g3,g4⟩
    ·rw[qL.1 e]at hltd;simp at hltd;omega
    ·exact⟨r,by simpa using g1,g2,g3,g4⟩
   have nq:q≠ks:=by rintro rfl;rw[h.bs]at q2;cases q2
   have nr:r≠ks:=by rintro rfl;rw[h.bs]at r2;cases r2
   have t0:=(hF.bs k0 h0 (ne s0)).trans s0
   have t1:=(hF.bs k1 h1 (ne s1)).trans s1
   have t2:=(hF.bs k2 h2 (ne s2)).trans s2
   have tq:=(hF.bs q q3 nq).trans q2
   have tr:=(hF.bs r r4 nr).trans r2
   have hcl:=hF.clk
   obtain⟨b0,hb0⟩:∃b0,b0=Blk.var [.p (.i .i64 p.n),.p (.i .i64 p.s)]:=⟨_,rfl⟩
   have nn:∀{k:Key},k.2<σ.clk→∀d,¬k=(d,τ.clk):=by rintro k hk d rfl;simp at hk;omega
   have wp0:=hl p (yu hp)
   have wd0:=hd d (yu hdk)
   obtain⟨τ',c3,hS',hF'⟩:=El (p:=p) (q:=⟨d,0⟩) hOk wp0 ⟨wd0,by show wf 0;decide⟩ ((hS.add 4 (.var [.p (.i .i64 0),.p (.i .i64 0)])).put (k:=(4,τ.clk)) (by intro e;have:=hS.lt;rw[e]at this;simp at this) (Blk.var [.p (.i .i64 p.n),.p (.i .i64 p.s)]))
   have c4:=Yb d 0
   have hF2:=(((hF.add 4 (.var [.p (.i .i64 0),.p (.i .i64 0)])).put (k:=(4,τ.clk)) (.inr hcl) (Blk.var [.p (.i .i64 p.n),.p (.i .i64 p.s)]))).trans hF'
   simp only[xN]at hp'
   simp only[qM]at hd'
   simp only[F111b0,e0,e1,e2,e5,e6,e7,t0,t1,t2,tq,tr,hlt,hge,hltd,hp',hd',c3,c4,nn h0,nn h1,nn h2,nn q3,nn r4,iX,Ci,xN,qM,mB,KA,Fy,nxB,evO,simprocAttr]
   exact⟨by rw[zz k (by omega)],hS',hF2⟩
  ·rintro e τ ⟨e0,e1,e2,e5,e6,e7,hS,hF⟩
   have hlt:¬((l.length:Nat):Int)<(l.length:Int):=by omega
   rw[←hz,QL]at hS
   simp only[F111b0,e0,e1,e2,e5,e6,e7,hlt,nxB,evO,simprocAttr]
   exact⟨hS,hF⟩
 rcases hlv with⟨rfl,rfl⟩|⟨q,rfl,q2,q3⟩
 all_goals
  simp only[F111,s0,nxB,evO,simprocAttr]
  refine Go.Fx.wp_mono (go _ ?_ ?_ ?_ ?_ ?_ ?_) ?_
  all_goals first
   |(simp only[nxB,evO,simprocAttr];done)
   |(simp only[sI,nxB,evO,simprocAttr];done)
   |(rintro x e' σ' ⟨rfl,g1,g2⟩;simp only[nxB,evO,simprocAttr];exact⟨g1,g2⟩)
theorem SL.weak{c0 w:Nat}{t:TypeId}{rows:List (List PV)}{v:AV}{σ:St}(h:SL c0 w t rows v σ):SL 0 w t rows v σ:=by
 rcases h with h|⟨k,h1,h2,h3,h4⟩
 ·exact .inl h
 ·exact .inr ⟨k,h1,h2,ji _,h4⟩
theorem SL.put{c0 w:Nat}{t:TypeId}{rows:List (List PV)}{v:AV}{σ:St}(h:SL c0 w t rows v σ){k:Key}{cs:List AV}(hk:σ.bs k=some (.var cs))(b:Blk):SL c0 w t rows v (σ.put k b):=by
 rcases h with h|⟨q,h1,h2,h3,h4⟩
 ·exact .inl h
 ·have:¬q=k:=by rintro rfl;rw[hk]at h2;cases h2
  exact .inr ⟨q,h1,by simp only[xL,this,if_false];exact h2,h3,h4⟩
structure DropC(ks:Key)(l:List Pt)(ds:List Int)(f:AV)(σ:St):Prop where
 ex:∃(k0 k1 k2:Key) (lv dv:AV),f= .fn 111 [k0,k1,k2]∧σ.bs k0=some (.var [lv])∧σ.bs k1=some (.var [.ptr ks 0 0])∧σ.bs k2=some (.var [dv])∧k0.2<σ.clk∧k1.2<σ.clk∧k2.2<σ.clk∧
  SL 0 2 42 (l.map xN) lv σ∧SL 0 1 3 (ds.map qM) dv σ
theorem DropC.fr{ks:Key}{l:List Pt}{ds:List Int}{f:AV}{σ τ:St}{n:Nt}{pl:Pl}{a b:Int}(h:DropC ks l ds f σ)(hs:SG ks n pl a b σ)(hf:Fr ks σ τ):DropC ks l ds f τ:=by
 obtain⟨k0,k1,k2,lv,dv,e1,e2,e3,e4,e5,e6,e7,e8,e9⟩:=h.ex
 have ne:∀{k:Key} {v:AV},σ.bs k=some (.var [v])→k≠ks:=by
  rintro k v hk rfl;rw[hs.bs]at hk;simp[stg]at hk
 have hc:=hf.clk
 exact⟨k0,k1,k2,lv,dv,e1,(hf.bs k0 e5 (ne e2)).trans e2,(hf.bs k1 e6 (ne e3)).trans e3,(hf.bs k2 e7 (ne e4)).trans e4,by omega,by omega,by omega,e8.fr hs hf,e9.fr hs hf⟩
theorem FC{ks:Key}{n:Nt}{pl:Pl}{a b:Int}{l:List Pt}{lv:AV}{c0:Nat}{σ:St}(hn:n.Ok)(hb:(n.ns.length+l.length)*88+88≤140737488355328)(h0:0≤a)(h1:a<n.ns.length)(h:SG ks n pl a b σ)
  (hL:SL c0 2 42 (l.map xN) lv σ):
  ∃σ' f,eS S (.f 78) [.a (.ptr ks 0 0),.a lv] σ=some (.a f,σ')∧SG ks (Tr n (PN (n.nd a).lv) l.length).1 pl a b σ'∧Fr ks σ σ'∧DropC ks l (Tr n (PN (n.nd a).lv) l.length).2 f σ':=by
 obtain⟨c,hc⟩:∃c,σ.clk=c:=⟨_,rfl⟩
 have hnd:=hn.nd _ (oP h0 h1)
 have hx:=OP hnd.lv
 obtain⟨z,hz⟩:∃z,(n.nd a).lv=z:=⟨_,rfl⟩
 rw[hz]at hx⊢
 obtain⟨σ1,hσ1⟩:∃σ1,σ1=((σ.add 2 (.var [.ptr ks 0 0])).add 3 (.var [lv])).add 5 (.var [.nil]):=⟨_,rfl⟩
 have hS1:SG ks n pl a b σ1:=by rw[hσ1];exact((h.add _ _).add _ _).add _ _
 have hF1:Fr ks σ σ1:=by rw[hσ1];exact(((Fr.refl ks σ).add _ _).add _ _).add _ _
 have hL1:=hL.fr h hF1
 have hcl1:σ1.clk=c+3:=by rw[hσ1];simp only[Bv];omega
 have b2:σ1.bs (2,c)=some (.var [.ptr ks 0 0]):=by rw[hσ1];simp[Mq,Bv,hc]
 have b3:σ1.bs (3,c+1)=some (.var [lv]):=by rw[hσ1];simp[Mq,Bv,hc]
 have b5:σ1.bs (5,c+1+1)=some (.var [.nil]):=by rw[hσ1];simp[Mq,Bv,hc]
 obtain⟨σ2,q1,hS2,hF2⟩:=aJ h0 h1 hS1
 rw[hz]at q1
 have hL2:=hL1.fr hS1 hF2
 have ne:∀{d e:Nat},e=c∨e=c+1∨e=c+1+1→(d,e)≠ks:=by rintro d e he rfl;have:=h.lt;simp at this;omega
 have b2':=(hF2.bs (2,c) (by simp only;omega) (ne (.inl rfl))).trans b2
 have b3':=(hF2.bs (3,c+1) (by simp only;omega) (ne (.inr (.inl rfl)))).trans b3
 have b5':=(hF2.bs (5,c+1+1) (by simp only;omega) (ne (.inr (.inr rfl)))).trans b5
 obtain⟨σ3,v,q2,hS3,hF3,hD⟩:=IV (m:=l.length) hn hx NC.nil NC.nil hb hS2
 have hL3:=hL2.fr hS2 hF3
 have hc2:=hF2.clk
 have hc3:=hF3.clk
 have b2'':=(hF3.bs (2,c) (by simp only;omega) (ne (.inl rfl))).trans b2'
 have b3'':=(hF3.bs (3,c+1) (by simp only;omega) (ne (.inr (.inl rfl)))).trans b3'
 have b5'':=(hF3.bs (5,c+1+1) (by simp only;omega) (ne (.inr (.inr rfl)))).trans b5'
 have key:∃w σ',eS S (.f 78) [.a (.ptr ks 0 0),.a lv] σ=some (w,σ')∧∃f,w= .a f∧SG ks (Tr n (PN z) l.length).1 pl a b σ'∧Fr ks σ σ'∧DropC ks l (Tr n (PN z) l.length).2 f σ':=by
  refine ZE (fc:=F78) rfl rfl ?_
  have hF4:=(hF1.trans hF2).trans hF3
  have fin:∃f,TV.a (AV.fn 111 [(3,c+1),(2,c),(5,c+1+1)])=TV.a f∧SG ks (Tr n (PN z) l.length).1 pl a b (σ3.put (5,c+1+1) (.var [v]))∧Fr ks σ (σ3.put (5,c+1+1) (.var [v]))∧
    DropC ks l (Tr n (PN z) l.length).2 f (σ3.put (5,c+1+1) (.var [v])):=by
   refine⟨_,rfl,hS3.put (by intro e;exact ne (.inr (.inr rfl)) e.symm) _,hF4.put (.inr (by simp only;omega)) _,(3,c+1),(2,c),(5,c+1+1),lv,v,rfl,?_,?_,?_,?_,?_,?_,(hL3.put b5'' _).weak,(hD.put b5'' _).weak⟩
   ·simp[xL,b3'']
   ·simp[xL,b2'']
   ·simp[xL]
   all_goals simp only[Rt];omega
  rcases hL2 with⟨rfl,r2⟩|⟨q,rfl,r2,r3,r4⟩
  ·have hl0:l=[]:=qL.1 r2
   subst hl0
   simp only[sI,PN]at q2
   simp only[F78,hc,←hσ1,b2,b3,b5,b2',b3',b5',b5'',q1,q2,uv,Of,aV,Nl,jP,Ci,pV,Dv,zD,Vr,sameP,sameR,sameRR_rfl,decide_true,iX,Wk,nxB,evO,Nat.reduceLT,Nat.reduceSub,Nat.reduceBEq,Nat.reduceEqDiff,Nat.reduceAdd,Nat.reduceLeDiff,reduceCtorEq,Nat.reduceMul]
   exact fin
  ·simp only[mB,PN]at q2 hσ1 b3 b3'
   simp only[F78,hc,←hσ1,b2,b3,b5,b2',b3',b5',b5'',q1,q2,mB,uv,Of,aV,Nl,jP,Ci,pV,Dv,zD,Vr,sameP,sameR,sameRR_rfl,decide_true,iX,Wk,nxB,evO,simprocAttr]
   exact fin
 obtain⟨_,σ',g1,f,rfl,g2,g3,g4⟩:=key
 exact⟨σ',f,g1,g2,g3,g4⟩
theorem Y8(k:Int):cls k=1↔k=3∨k=9∨k=11∨k=12:=by
 unfold cls;repeat' split
 all_goals omega
theorem uR(k:Int):cls k=2↔k=2∨k=8∨k=10∨k=13:=by
 unfold cls;repeat' split
 all_goals omega
theorem Lq(k:Int):cls k=3↔k=4∨k=5∨k=6:=by
 unfold cls;repeat' split
 all_goals omega
theorem dB(k:Int):cls k=4↔k=7:=by
 unfold cls;repeat' split
 all_goals omega
theorem Mm(k:Int):0≤cls k∧cls k≤4:=by
 unfold cls;repeat' split
 all_goals omega
structure Pln(r:Pl×Int):Prop where
 sw:r.1.sw=false
 k6:r.1.k≠6
 er:r.2≠0→r.1=p0
theorem Yt{e:Int}:Pln (noR e):=⟨rfl,by show(0:Int)≠6;omega,fun _=>rfl⟩
theorem He{k:Int}(h:k≠6):Pln (Vc k):=⟨rfl,h,fun h=>absurd rfl h⟩
theorem Df(x y:Nd):Pln (IB x y):=by
 unfold IB
 split
 ·exact Yt
 ·split
  ·exact Yt
  ·exact⟨rfl,by show(7:Int)≠6;omega,fun h=>absurd rfl h⟩
theorem ux(x y:Nd):Pln (Kl x y):=by
 unfold Kl
 split
 ·split
  ·exact Yt
  ·exact He (by omega)
 split
 ·unfold To
  split
  ·exact Yt
  ·split
   ·exact He (by omega)
   ·exact⟨rfl,by show(2:Int)≠6;omega,fun h=>absurd rfl h⟩
 split
 ·exact He (by omega)
 split
 ·unfold Pq
  split
  ·exact He (by omega)
  ·exact⟨rfl,by show(4:Int)≠6;omega,fun h=>absurd rfl h⟩
 ·exact He (by omega)
theorem mq(z:Int):wf (wr z):=by unfold wf wr;rw[IntKind.wrap_i64];omega
theorem LS{i:Int}(h: -1000≤i∧i≤1000):wf i:=by unfold wf;omega
theorem Vy(b:Bool):(nf b).Ok:=by
 unfold nf
 cases b<;>exact⟨LS (i:=8) (by decide),LS (i:=0) (by decide),LS (i:=0) (by decide),by simp,by simp,by simp,by simp,fun p hp=>by
  simp only[qY,oZ,or_false]at hp
  rw[hp];exact⟨LS (i:=0) (by decide),LS (i:=0) (by decide)⟩⟩
theorem MB:zN.Ok:=⟨LS (i:=0) (by decide),LS (i:=0) (by decide),LS (i:=0) (by decide),by simp[zN],by simp[zN],by simp[zN],by simp[zN],by simp[zN]⟩
theorem L4{z l:Int}(h:wf z)(hl:wf l):(⟨10,l,z,[],[],[]⟩:Nd).Ok:=⟨LS (i:=10) (by decide),hl,h,by simp,by simp,by simp,by simp,by simp⟩
theorem S4{x:Nd}(h:x.Ok){l:Int}(hl:wf l):({x with lv:=l}:Nd).Ok:=⟨h.k,hl,h.n,h.s,h.al,h.to,h.ap,h.tp⟩
theorem dz(x y:Nd):(FD x y).Ok:=by
 unfold FD
 split
 ·exact L4 (mq _) (LS (by decide))
 split
 ·exact L4 (mq _) (LS (by decide))
 split
 ·exact L4 (mq _) (LS (by decide))
 split
 ·exact L4 (mq _) (LS (by decide))
 split
 ·exact Vy _
 split
 ·exact Vy _
 ·exact L4 (LS (by decide)) (LS (by decide))
theorem HD(r:Pl×Int):(S2 r).1.nd=r.1.nd:=by unfold S2;split<;>rfl
theorem eQ(x y:Nd):(IB x y).1.nd=zN:=by
 unfold IB
 split
 ·rfl
 ·split<;>rfl
theorem tS{x y:Nd}(hx:x.Ok):(Kl x y).1.nd.Ok:=by
 unfold Kl To Pq
 repeat' split
 all_goals first|exact MB|exact S4 (dz x y) hx.lv
theorem of_nd{a b:Nd}(ha:a.Ok)(hb:b.Ok):(ofR a b).1.nd.Ok:=by
 unfold ofR
 repeat' split
 all_goals first|exact MB|(rw[HD];exact MB)|(rw[eQ];exact MB)|(rw[HD,eQ];exact MB)|exact tS ha|(rw[HD];exact tS hb)
inductive Src(x y:Nd):Pl×Int→Prop
 |no:Src x y (noR 140)
 |drop:x.k=7→Src x y (Vc 8)
 |join:cls x.k=3→x.k=y.k→x.lv=y.lv→Src x y (Vc 6)
 |pass:cls x.k=3→Src x y (IB x y)
 |ask:cls x.k=1→cls y.k=2→Src x y (Kl x y)
theorem Dr(a b:Nd):Src a b (ofR a b)∨∃r,Src b a r∧ofR a b=S2 r:=by
 unfold ofR
 split
 ·exact .inl .no
 split
 ·rename_i h;exact .inl (.drop ((dB _).1 h))
 split
 ·rename_i h;exact .inr ⟨_,.drop ((dB _).1 h),rfl⟩
 split
 ·rename_i h;exact .inl (.join h.1 h.2.2.2 h.2.2.1)
 split
 ·rename_i h;exact .inl (.pass h.1)
 split
 ·rename_i h;exact .inr ⟨_,.pass h,rfl⟩
 split
 ·rename_i h;exact .inl (.ask h.1 h.2)
 split
 ·rename_i h;exact .inr ⟨_,.ask h.2 h.1,rfl⟩
 ·exact .inl .no
theorem Bf{z:Int}(h: -9223372036854775808≤z∧z≤9223372036854775807):wr z=z:=qI z h
theorem Mh{x y:Nd}(hy:0≤y.lv∧y.lv≤60):VG x y=if x.k=5 then y.lv-1 else if x.k=6 then y.lv+1 else y.lv:=by
 unfold VG
 rw[Bf (by omega),Bf (by omega)]
def iz(x y:Nd)(p:Pl):Prop:=
 (p.k=8∧x.k=7)∨(p.k=6∧cls x.k=3∧x.k=y.k∧x.lv=y.lv)∨(p.k=7∧cls x.k=3∧x.lv<y.lv∧0≤p.lv∧p.lv≤60∧x.lv≤p.lv)∨
 (p.k=4∧x.k=12∧p.nd.lv=x.lv∧p.nd.may∧(p.nd.k=10∨p.nd.to.length=1))∨(¬p.k=8∧¬p.k=6∧¬p.k=7∧¬p.k=4∧cls x.k=1∧cls y.k=2∧1≤p.k∧p.k≤5)
theorem ry{x y:Nd}(hx:x.may):({FD x y with lv:=x.lv}:Nd).may∧((FD x y).k=10∨(FD x y).to.length=1):=by
 have h0:=hx.lv0
 have h1:=hx.lv1
 have int:∀z:Int,(⟨10,x.lv,z,[],[],[]⟩:Nd).may:=fun z=>⟨by show(0:Int)≤10;omega,by show(10:Int)≤13;omega,h0,h1,fun h=>by have h:(10:Int)<2:=h;omega,by simp,fun _=>.inl rfl,fun h=>by have h:(10:Int)=8:=h;omega,fun h=>by have h:(10:Int)=9:=h;omega,fun _=>by simp,by simp,fun i a h=>by simp at h⟩
 have tr:∀b:Bool,({nf b with lv:=x.lv}:Nd).may:=fun b=>⟨by show(0:Int)≤8;omega,by show(8:Int)≤13;omega,h0,h1,fun h=>by have h:(8:Int)<2:=h;omega,by simp[nf];cases b<;>simp,fun h=>absurd rfl h,fun _=>by simp[nf],fun h=>by have h:(8:Int)=9:=h;omega,fun _=>by simp[nf],by simp[nf],fun i a h=>by simp[nf]at h⟩
 unfold FD
 split
 ·exact⟨int _,.inl rfl⟩
 split
 ·exact⟨int _,.inl rfl⟩
 split
 ·exact⟨int _,.inl rfl⟩
 split
 ·exact⟨int _,.inl rfl⟩
 split
 ·exact⟨tr _,.inr rfl⟩
 split
 ·exact⟨tr _,.inr rfl⟩
 ·exact⟨int _,.inl rfl⟩
theorem Kw{x y:Nd}(hx:x.may)(hy:y.may){r:Pl×Int}(h:Src x y r):(r.2=0∨r.2=140∨r.2=141)∧(r.2=0→iz x y r.1)∧r.1.sw=false:=by
 have y0:=hy.lv0
 have y1:=hy.lv1
 have x0:=hx.lv0
 cases h with
 |no=>exact⟨.inr (.inl rfl),fun h=>by have h:(140:Int)=0:=h;omega,rfl⟩
 |drop h=>exact⟨.inl rfl,fun _=>.inl ⟨rfl,h⟩,rfl⟩
 |join h1 h2 h3=>exact⟨.inl rfl,fun _=>.inr (.inl ⟨rfl,h1,h2,h3⟩),rfl⟩
 |pass h1=>
  unfold IB
  split
  ·exact⟨.inr (.inl rfl),fun h=>by have h:(140:Int)=0:=h;omega,rfl⟩
  split
  ·exact⟨.inr (.inr rfl),fun h=>by have h:(141:Int)=0:=h;omega,rfl⟩
  ·rename_i h2 h3
   rw[Mh ⟨y0,y1⟩]at h3⊢
   refine⟨.inl rfl,fun _=>.inr (.inr (.inl ⟨rfl,h1,by omega,?_,?_,?_⟩)),rfl⟩<;>simp only<;>split<;>first|omega|(split<;>omega)
 |ask h1 h2=>
  have oth:∀k:Int,1≤k→k≤5→¬k=4→iz x y ⟨k,false,0,0,zN⟩:=fun k a b c=>.inr (.inr (.inr (.inr ⟨by simp only;omega,by simp only;omega,by simp only;omega,c,h1,h2,a,b⟩)))
  have pl:∀k:Int,1≤k→k≤5→¬k=4→((Vc k).2=0∨(Vc k).2=140∨(Vc k).2=141)∧((Vc k).2=0→iz x y (Vc k).1)∧(Vc k).1.sw=false:=fun k a b c=>⟨.inl rfl,fun _=>oth k a b c,rfl⟩
  have no:((noR 140).2=0∨(noR 140).2=140∨(noR 140).2=141)∧((noR 140).2=0→iz x y (noR 140).1)∧(noR 140).1.sw=false:=⟨.inr (.inl rfl),fun h=>by have h:(140:Int)=0:=h;omega,rfl⟩
  unfold Kl To Pq
  split
  ·split
   ·exact no
   ·exact pl 1 (by omega) (by omega) (by omega)
  split
  ·split
   ·exact no
   ·split
    ·exact pl 5 (by omega) (by omega) (by omega)
    ·exact⟨.inl rfl,fun _=>.inr (.inr (.inr (.inr ⟨by show¬(2:Int)=8;omega,by show¬(2:Int)=6;omega,by show¬(2:Int)=7;omega,by show¬(2:Int)=4;omega,h1,h2,by show(1:Int)≤2;omega,by show(2:Int)≤5;omega⟩))),rfl⟩
  split
  ·exact pl 3 (by omega) (by omega) (by omega)
  split
  ·rename_i h12
   split
   ·exact pl 5 (by omega) (by omega) (by omega)
   ·have:=ry (y:=y) hx
    exact⟨.inl rfl,fun _=>.inr (.inr (.inr (.inl ⟨rfl,h12.1,rfl,this.1,this.2⟩))),rfl⟩
  ·exact pl 5 (by omega) (by omega) (by omega)
theorem to_le{x:Nd}(hm:x.may)(h:(x.to.length:Int)≤x.ports):(x.to.length:Int)≤10∧(cls x.k=2→(x.to.length:Int)≤9)∧0≤x.ports:=by
 have h1:=hm.to8
 have h2:=hm.al8
 have h3:=uR x.k
 have h4:x.ports≤10∧(cls x.k=2→x.ports≤9):=by
  unfold Nd.ports
  rw[h3]
  repeat' split
  all_goals omega
 omega
theorem tC{α:Type}{f:α→Bool}{l:List α}(h:¬idx f l<0):∃(i:Nat) (x:α),idx f l=(i:Int)∧l[i]? =some x:=by
 unfold idx at h⊢
 cases hf:l.findIdx? f with
 |none=>rw[hf]at h;simp at h
 |some i=>
  rw[oO]at hf
  exact⟨i,_,rfl,Xb hf.1⟩
theorem qj{x:Nd}(h:(x.to.length:Int)≤10):oth x=max ((x.to.length:Int)-1) 0:=by unfold oth;rw[Bf (by omega)]
def vQ(z:Int):Nd:=⟨3,z,0,[],[],[]⟩
def B6(z:Int):Nd:=⟨13,z,0,[],[],[]⟩
def nz(x y:Nd):Nd:=⟨12,x.lv,y.n,x.s,[],[]⟩
def Lp(a b:Int)(l:List Nat):List Op:=l.map fun(s:Nat)=>.jn ⟨a,(s:Int)⟩ ⟨b,(s:Int)⟩
def jI(n:Nt)(a b:Int):Nt:=rW n (Lp a b (List.range' 1 ((n.nd a).to.length-1)))
def pn(a b:Int):Nat→List Int→List Op
 |_,[]=>[]
 |i,[d]=>[.mv ⟨b,(i:Int)+1⟩ ⟨d,2⟩,.mv ⟨a,1⟩ ⟨d,1⟩]
 |i,d::e::r=>.mv ⟨b,(i:Int)+1⟩ ⟨d,2⟩:: .ln ⟨d,1⟩ ⟨e,0⟩::pn a b (i+1) (e::r)
def rZ(n:Nt)(a alt:Int):List Pt:=(YZ a 2 (n.nd a).to.length).filter fun r=> !decide (r=⟨a,alt+2⟩)
noncomputable def uK(n:Nt)(alt:Int)(a b:Int):Nt:=
 let k:=((n.nd a).al.getD alt.toNat zA).n.toNat
 let r1:=Tr n (vQ (n.nd a).lv) k
 let l:=rZ r1.1 a alt
 let r2:=Tr r1.1 (PN (r1.1.nd a).lv) l.length
 let m:=match r1.2 with
  |[]=>(iY r2.1 ⟨a,alt+2⟩ ⟨a,1⟩).1
  |d::_=>(Qs r2.1 ⟨a,alt+2⟩ ⟨d,0⟩).1
 rW (rW m (pn a b 0 r1.2)) (U2 l r2.2)
noncomputable def ik(n:Nt)(a b:Int):Nt:=
 let r:=wS n (nz (n.nd a) (n.nd b))
 (Qs (Qs r.1 ⟨a,2⟩ ⟨r.2.1,0⟩).1 ⟨a,1⟩ ⟨r.2.1,1⟩).1
noncomputable def bJ(n:Nt)(x:Nd)(a:Int):Nt:=
 let r:=wS n x
 (Qs r.1 ⟨a,1⟩ ⟨r.2.1,0⟩).1
noncomputable def GH(n:Nt)(a b:Int):Nt:=
 let r:=wS n (B6 (n.nd a).lv)
 let l:=YZ a 2 (r.1.nd a).to.length++YZ b 1 (r.1.nd b).to.length
 let r2:=Tr r.1 (PN (r.1.nd a).lv) l.length
 rW (Qs r2.1 ⟨a,1⟩ ⟨r.2.1,0⟩).1 (U2 l r2.2)
def tL(m:Int)(k:Nat):Nat→List Int→List Op
 |_,[]=>[]
 |i,c::r=>.ln ⟨m,(i:Int)+1⟩ ⟨c,(k:Int)+1⟩::tL m k (i+1) r
def NK(b:Int)(cs:List Int):Nat→List Int→List Op
 |_,[]=>[]
 |k,m::r=>.mv ⟨b,(k:Int)+1⟩ ⟨m,0⟩::(tL m k 0 cs++NK b cs (k+1) r)
noncomputable def Z0(n:Nt)(lv:Int)(a b:Int):Nt:=
 let x:=n.nd a
 let y:Nd:={n.nd b with lv:=lv}
 let r1:=Tr n y (x.to.length-1)
 let r2:=Tr r1.1 x (y.to.length-1)
 rW (rW r2.1 (U2 (YZ a 1 x.to.length) r1.2)) (NK b r1.2 0 r2.2)
noncomputable def Dt(n:Nt)(a b:Int):Nt:=
 let l:=YZ b 1 (n.nd b).to.length
 let r:=Tr n (PN (n.nd a).lv) l.length
 rW r.1 (U2 l r.2)
noncomputable def oq(n:Nt)(p:Pl)(a b:Int):Nt:=
 if p.k=1∨p.k=6 then jI n a b else if p.k=2 then uK n p.alt a b else if p.k=3 then ik n a b else if p.k=4 then bJ n p.nd a
 else if p.k=5 then GH n a b else if p.k=7 then Z0 n p.lv a b else if p.k=8 then Dt n a b else n
noncomputable def Ks(n:Nt)(p:Pl)(a b:Int):Nt:=(ti (ti (oq n p a b) (max a b)).1 (min a b)).1
def Ga(n:Nt)(i:Int):Int:=if n.has ⟨i,0⟩=true∧(n.lk ⟨i,0⟩).s=0 then(n.lk ⟨i,0⟩).n else-1
noncomputable def doR(n:Nt)(i:Int):Nt×Pl×Int:=
 if bool n.Good=false then(n,p0,120)else if Ga n i<0 then(n,p0,122)
 else
  let r:=ofR (n.nd i) (n.nd (Ga n i))
  if r.2≠0 then(n,p0,r.2)else if wr (n.used+OQ r.1 (n.nd i) (n.nd (Ga n i)))>n.cap then(n,p0,121)
  else(Ks n r.1 (if r.1.sw=true then Ga n i else i) (if r.1.sw=true then i else Ga n i),r.1,0)
inductive PlanX(x y:Nd)(p:Pl):Prop
 |beta (h:p.k=1) (hx:x.k=3) (hy:y.k=2)
 |pick (i:Nat) (A:Ar) (h:p.k=2) (hx:x.k=9) (hy:y.k=8) (h1:p.alt=i) (h2:x.al[i]? =some A) (h3:A.n=(y.to.length:Int)-1)
 |half (h:p.k=3) (hx:x.k=11) (hy:y.k=10)
 |out (h:p.k=4) (hx:x.k=12) (hy:y.k=10) (h1:p.nd.may) (h2:p.nd.Ok) (h3:p.nd.ports=1) (h4:p.nd.k≠0) (h5:p.nd.k≠1)
 |fail (h:p.k=5) (hx:cls x.k=1) (hy:cls y.k=2)
 |join (h:p.k=6) (hx:cls x.k=3) (hy:x.k=y.k)
 |pass (h:p.k=7) (hx:cls x.k=3) (hy:cls y.k≠0) (h1:0≤p.lv) (h2:p.lv≤60)
 |drop (h:p.k=8) (hx:x.k=7) (hy:cls y.k≠0)
theorem JB{x y:Nd}(hx:x.Ok):({FD x y with lv:=x.lv}:Nd).Ok∧({FD x y with lv:=x.lv}:Nd).ports=1∧(FD x y).k≠0∧(FD x y).k≠1:=by
 refine⟨S4 (dz x y) hx.lv,?_⟩
 unfold FD
 repeat' split
 all_goals first
  |exact⟨rfl,by show¬(10:Int)=0;omega,by show¬(10:Int)=1;omega⟩
  |exact⟨rfl,by show¬(8:Int)=0;omega,by show¬(8:Int)=1;omega⟩
theorem D1{x y:Nd}(hx:x.may)(hy:y.may)(kx:x.Ok)(ty:(y.to.length:Int)=y.ports)(cy:cls y.k≠0){r:Pl×Int}(h:Src x y r)(h0:r.2=0)(p:Pl)(hk:p.k=r.1.k)(hl:p.lv=r.1.lv)(ha:p.alt=r.1.alt)(hn:p.nd=r.1.nd):PlanX x y p:=by
 have y0:=hy.lv0
 have y1:=hy.lv1
 have x0:=hx.lv0
 cases h with
 |no=>have h0:(140:Int)=0:=h0;omega
 |drop h=>exact .drop hk h cy
 |join h1 h2 h3=>exact .join hk h1 h2
 |pass h1=>
  unfold IB at h0 hk hl ha hn
  split at h0
  ·have h0:(140:Int)=0:=h0;omega
  rename_i g1
  rw[if_neg g1]at hk hl ha hn
  split at h0
  ·have h0:(141:Int)=0:=h0;omega
  rename_i g2
  rw[if_neg g2]at hk hl ha hn
  rw[Mh ⟨y0,y1⟩]at g2 hl
  have hl:p.lv=if x.k=5 then y.lv-1 else if x.k=6 then y.lv+1 else y.lv:=hl
  refine .pass hk h1 cy ?_ ?_
  ·rw[hl];split
   ·omega
   ·split<;>omega
  ·rw[hl];omega
 |ask h1 h2=>
  unfold Kl at h0 hk hl ha hn
  by_cases c1:x.k=3∧y.k=2
  ·rw[if_pos c1]at h0 hk hl ha hn
   by_cases c2:x.lv≠y.lv
   ·rw[if_pos c2]at h0;have h0:(140:Int)=0:=h0;omega
   ·rw[if_neg c2]at hk;exact .beta hk c1.1 c1.2
  rw[if_neg c1]at h0 hk hl ha hn
  by_cases c3:x.k=9∧y.k=8
  ·rw[if_pos c3]at h0 hk hl ha hn
   unfold To at h0 hk hl ha hn
   by_cases c2:x.lv≠y.lv
   ·rw[if_pos c2]at h0;have h0:(140:Int)=0:=h0;omega
   rw[if_neg c2]at h0 hk hl ha hn
   by_cases c4:R5 x y<0
   ·rw[if_pos c4]at hk;exact .fail hk h1 h2
   rw[if_neg c4]at h0 hk hl ha hn
   have h8:=hy.to8 c3.2
   have hw:wr ((y.to.length:Int)-1)=y.to.length-1:=Bf (by omega)
   obtain⟨i,A,e1,e2⟩:=tC c4
   have e1:R5 x y=(i:Int):=e1
   refine .pick i A hk c3.1 c3.2 (by rw[ha];exact e1) e2 ?_
   have e3:=e1
   unfold R5 idx at e3
   split at e3
   ·rename_i j hj
    have:j=i:=by omega
    subst this
    rw[oO]at hj
    obtain⟨q1,q2,_⟩:=hj
    obtain⟨_,q3⟩:=QU.1 e2
    rw[q3]at q2
    simp only[Cd,decide_eq_true_eq]at q2
    rw[q2.2,hw]
   ·omega
  rw[if_neg c3]at h0 hk hl ha hn
  by_cases c5:x.k=11∧y.k=10
  ·rw[if_pos c5]at hk;exact .half hk c5.1 c5.2
  rw[if_neg c5]at h0 hk hl ha hn
  by_cases c6:x.k=12∧y.k=10
  ·rw[if_pos c6]at h0 hk hl ha hn
   unfold Pq at h0 hk hl ha hn
   by_cases c7:x.s=[47]∧y.n=0
   ·rw[if_pos c7]at hk;exact .fail hk h1 h2
   ·rw[if_neg c7]at h0 hk hl ha hn
    have e:p.nd={FD x y with lv:=x.lv}:=hn
    obtain⟨m1,m2,m3,m4⟩:=JB (y:=y) kx
    exact .out hk c6.1 c6.2 (by rw[e];exact(ry (y:=y) hx).1) (by rw[e];exact m1) (by rw[e];exact m2) (by rw[e];exact m3) (by rw[e];exact m4)
  rw[if_neg c6]at hk
  exact .fail hk h1 h2
theorem JT{a b:Nd}(ha:a.may)(hb:b.may)(ka:a.Ok)(kb:b.Ok)(ta:(a.to.length:Int)=a.ports)(tb:(b.to.length:Int)=b.ports)(h:(ofR a b).2=0):
  PlanX (if(ofR a b).1.sw=true then b else a) (if(ofR a b).1.sw=true then a else b) (ofR a b).1:=by
 have hc:¬(cls a.k=0∨cls b.k=0):=by
  intro hc
  unfold ofR at h
  rw[if_pos hc]at h
  have h:(140:Int)=0:=h
  omega
 rcases Dr a b with h1|⟨r,h1,h2⟩
 ·have:=(Kw ha hb h1).2.2
  rw[if_neg (by simp[this]),if_neg (by simp[this])]
  exact D1 ha hb ka tb (fun e=>hc (.inr e)) h1 h _ rfl rfl rfl rfl
 ·have h3:=(Kw hb ha h1).2.2
  have hr:r.2=0:=by
   rw[h2]at h;unfold S2 at h
   split at h
   ·assumption
   ·exact h
  have e:S2 r=(⟨r.1.k,true,r.1.lv,r.1.alt,r.1.nd⟩,0):=by unfold S2;rw[if_pos hr]
  rw[h2,e]
  simp only[if_true]
  exact D1 hb ha kb ta (fun e=>hc (.inl e)) h1 hr _ rfl rfl rfl rfl
theorem fB{i:Int}(h0:0≤i)(h1:i≤1000000000000000000):wf i:=by unfold wf;omega
theorem Vk{n:Nt}(hn:n.Ok){i:Int}(h0:0≤i)(h1:i<n.ns.length):wf i:=by have:=hn.ns;unfold wf;omega
theorem L2:wf 0:=by decide
theorem Gu:wf 1:=by decide
theorem zg{n:Nt}{x:Nd}(hb:n.ns.length≤100000):wf (wS n x).2.1:=by
 unfold wS
 split
 ·exact L2
 ·split
  ·exact L2
  ·refine fB (by simp only;omega) ?_
   have:n.at≤n.ns.length:=by
    unfold Nt.at
    split
    ·rename_i i hi;have:=(oO.1 hi).1;omega
    ·exact nh _
   simp only;omega
structure Two(n:Nt)(a b:Int)(B:Nat):Prop where
 ok:n.Ok
 big:n.ns.length≤B
 a0:0≤a
 a1:a<n.ns.length
 b0:0≤b
 b1:b<n.ns.length
 ta:(n.nd a).to.length≤100
 tb:(n.nd b).to.length≤100
 ka:(n.nd a).k≠0
 kb:(n.nd b).k≠0
theorem Two.pa{n:Nt}{a b:Int}{B:Nat}(h:Two n a b B){s:Int}(h0:0≤s)(h1:s≤1000):wfP ⟨a,s⟩:=⟨Vk h.ok h.a0 h.a1,fB h0 (by simp only;omega)⟩
theorem Two.pb{n:Nt}{a b:Int}{B:Nat}(h:Two n a b B){s:Int}(h0:0≤s)(h1:s≤1000):wfP ⟨b,s⟩:=⟨Vk h.ok h.b0 h.b1,fB h0 (by simp only;omega)⟩
theorem Two.xa{n:Nt}{a b:Int}{B:Nat}(h:Two n a b B):(n.nd a).Ok:=h.ok.nd _ (oP h.a0 h.a1)
theorem Two.xb{n:Nt}{a b:Int}{B:Nat}(h:Two n a b B):(n.nd b).Ok:=h.ok.nd _ (oP h.b0 h.b1)
theorem cK{n:Nt}{x:Nd}{i:Int}(h0:0≤i)(h1:i<n.ns.length)(hk:(n.nd i).k≠0):(n.make x).nd i=n.nd i∧n.ns.length≤(n.make x).ns.length:=by
 unfold Nt.make
 have g:=OA (n:=n) h0 h1
 cases hf:n.ns.findIdx? mj with
 |some j=>
  obtain⟨hi,hfi,hbef⟩:=oO.1 hf
  refine⟨?_,by simp⟩
  have hne:j≠i.toNat:=by
   rintro rfl
   obtain⟨_,g2⟩:=QU.1 g
   rw[g2]at hfi
   simp only[mj,decide_eq_true_eq]at hfi
   exact hk hfi
  unfold Nt.nd
  simp only
  rw[Kh,Kh,xM hne]
 |none=>
  refine⟨?_,by simp⟩
  unfold Nt.nd
  simp only
  rw[Kh,Kh,GV (by omega)]
theorem Km{n:Nt}(x:Nd){i:Int}(h0:0≤i)(h1:i<n.ns.length)(hk:(n.nd i).k≠0):(wS n x).1.nd i=n.nd i∧n.ns.length≤(wS n x).1.ns.length:=by
 unfold wS
 split
 ·exact⟨rfl,nh _⟩
 ·split
  ·exact⟨rfl,nh _⟩
  ·exact cK h0 h1 hk
theorem Two.make{n:Nt}{a b:Int}{B:Nat}(h:Two n a b B){x:Nd}(hx:x.Ok)(hB:B≤100000):Two (wS n x).1 a b (B+1)∧(wS n x).1.nd a=n.nd a∧(wS n x).1.nd b=n.nd b:=by
 obtain⟨e1,e2⟩:=Km x h.a0 h.a1 h.ka
 obtain⟨e3,_⟩:=Km x h.b0 h.b1 h.kb
 have hb:=h.big
 obtain⟨g1,g2⟩:=gQ h.ok hx (by omega)
 have h1:=h.a1
 have h2:=h.b1
 exact⟨⟨g1,by omega,h.a0,by omega,h.b0,by omega,by rw[e1];exact h.ta,by rw[e3];exact h.tb,by rw[e1];exact h.ka,by rw[e3];exact h.kb⟩,e1,e3⟩
theorem Two.like{n:Nt}{a b:Int}{B:Nat}(h:Two n a b B){x:Nd}(hx:x.Ok):∀k:Nat,B+k≤100000→Two (Tr n x k).1 a b (B+k)∧(Tr n x k).1.nd a=n.nd a∧(Tr n x k).1.nd b=n.nd b
 |0,_=>⟨h,rfl,rfl⟩
 |k+1,hB=>by
  obtain⟨h1,h2,h3⟩:=Two.like h hx k (by omega)
  obtain⟨g1,g2,g3⟩:=h1.make hx (by omega)
  exact⟨g1,g2.trans h2,g3.trans h3⟩
theorem rn{n:Nt}{x:Nd}(hn:n.Ok)(hx:x.Ok):∀k:Nat,n.ns.length+k≤100000→∀d∈(Tr n x k).2,wf d
 |0,_,d,hd=>by simp[Tr]at hd
 |k+1,hB,d,hd=>by
  simp only[Tr,Sw,qY,oZ,or_false]at hd
  rcases hd with hd|rfl
  ·exact rn hn hx k (by omega) d hd
  ·exact zg (by have:=(HV hn hx k (by omega)).2.1;omega)
theorem so{ks:Key}{n:Nt}{pl:Pl}{a b:Int}{B:Nat}{σ:St}(hT:Two n a b B)(hB:B≤90000)(h:SG ks n pl a b σ):
  ∃σ',eS S (.f 71) [.a (.ptr ks 0 0)] σ=some (.u,σ')∧SG ks (jI n a b) pl a b σ'∧Fr ks σ σ':=by
 have hn:=hT.ok
 obtain⟨σ1,v,q1,hS1,hF1,hL⟩:=TX (j:=1) (jz:=1) rfl (by omega) hT.a0 hT.a1 (hn.nd _ (oP hT.a0 hT.a1)).to h
 have hta:=hT.ta
 obtain⟨m,hm⟩:∃m,(n.nd a).to.length-1=m:=⟨_,rfl⟩
 have hpl:(YZ a 1 (n.nd a).to.length).length=m:=by rw[VT,hm]
 have hJ:jI n a b=rW n (Lp a b (List.range' 1 m)):=by unfold jI;rw[hm]
 rw[hJ]
 refine Zy (fc:=F71) rfl rfl ?_
 have s1:=h.bs
 simp only[stg,zx,XM]at s1
 have go:∀(e:Env),e 0= .a (.ptr ks 0 0)→e 9= .a (.p (.i .i64 (m:Nat)))→e 10= .a (.p (.i .i64 0))→
   wp S false (.loop F71b0) e σ1 (fun x e' σ'=>x= .exit 0∧SG ks (rW n (Lp a b (List.range' 1 m))) pl a b σ'∧Fr ks σ σ'):=by
  intro e e0 e9 e10
  refine Fs m (fun k e τ=>e 0= .a (.ptr ks 0 0)∧e 9= .a (.p (.i .i64 (m:Nat)))∧e 10= .a (.p (.i .i64 (k:Nat)))∧SG ks (rW n (Lp a b (List.range' 1 k))) pl a b τ∧Fr ks σ τ) (i0:=0) (ji _) ⟨e0,e9,e10,hS1,hF1⟩ ?_ ?_
  ·rintro k e τ hk ⟨e0,e9,e10,hS,hF⟩
   have hlt:((k:Nat):Int)<(m:Int):=by omega
   have hw:IntKind.i64.wrap ((k:Int)+1)=(k:Int)+1:=qI _ (by omega)
   have t1:=hS.bs
   simp only[stg,zx,XM]at t1
   have wo:∀o∈Lp a b (List.range' 1 k),o.wf:=by
    intro o ho
    unfold Lp at ho
    obtain⟨s,hs,rfl⟩:=Om.1 ho
    rw[bE]at hs
    exact⟨hT.pa (by omega) (by omega),hT.pb (by omega) (by omega)⟩
   have hsu:Lp a b (List.range' 1 (k+1))=Lp a b (List.range' 1 k)++[.jn ⟨a,(k:Int)+1⟩ ⟨b,(k:Int)+1⟩]:=by
    unfold Lp
    rw[vY,TU]
    simp only[zx,XM,SZ]
    rw[show((1+k:Nat):Int)=(k:Int)+1 by omega]
   rw[hsu,yE]
   obtain⟨τ',c1,hS',hF'⟩:=kD (p:=⟨a,(k:Int)+1⟩) (q:=⟨b,(k:Int)+1⟩) (ri hn wo) (hT.pa (by omega) (by omega)) (hT.pb (by omega) (by omega)) hS
   have p1:=Yb a ((k:Int)+1)
   have p2:=Yb b ((k:Int)+1)
   simp only[F71b0,e0,e9,e10,t1,hlt,hw,p1,p2,c1,uv,Of,aV,Nl,jP,Ci,pV,Dv,zD,Vr,sameP,sameR,sameRR_rfl,decide_true,iX,Wk,nxB,evO,simprocAttr]
   exact⟨rfl,hS',hF.trans hF'⟩
  ·rintro e τ ⟨e0,e9,e10,hS,hF⟩
   have hlt:¬((m:Nat):Int)<(m:Int):=by omega
   simp only[F71b0,e0,e9,e10,hlt,nxB,evO,simprocAttr]
   exact⟨hS,hF⟩
 rcases hL with⟨rfl,hr⟩|⟨q,rfl,r2,r3,r4⟩
 ·have hr2:YZ a 1 (n.nd a).to.length=[]:=qL.1 hr
  rw[hr2]at hpl
  have hm0:m=0:=by rw[←hpl];rfl
  subst hm0
  simp only[F71,s1,q1,uv,Of,aV,Nl,jP,Ci,pV,Dv,zD,Vr,sameP,sameR,sameRR_rfl,decide_true,iX,Wk,nxB,evO,simprocAttr]
  refine Go.Fx.wp_mono (go _ ?_ ?_ ?_) ?_
  all_goals first
   |(simp only[nxB,evO,simprocAttr];done)
   |(rintro x e' σ' ⟨rfl,g1,g2⟩;simp only[nxB,evO,simprocAttr];exact⟨g1,g2⟩)
 ·rw[mB,hpl]at q1
  simp only[F71,s1,q1,uv,Of,aV,Nl,jP,Ci,pV,Dv,zD,Vr,sameP,sameR,sameRR_rfl,decide_true,iX,Wk,nxB,evO,simprocAttr]
  refine Go.Fx.wp_mono (go _ ?_ ?_ ?_) ?_
  all_goals first
   |(simp only[nxB,evO,simprocAttr];done)
   |(rintro x e' σ' ⟨rfl,g1,g2⟩;simp only[nxB,evO,simprocAttr];exact⟨g1,g2⟩)
theorem Oc{ks:Key}{n:Nt}{pl:Pl}{a b:Int}{B:Nat}{σ:St}(hT:Two n a b B)(hB:B≤90000)(h:SG ks n pl a b σ):
  ∃σ',eS S (.f 73) [.a (.ptr ks 0 0)] σ=some (.u,σ')∧SG ks (ik n a b) pl a b σ'∧Fr ks σ σ':=by
 have hn:=hT.ok
 have hbg:n.ns.length≤100000:=by have:=hT.big;omega
 obtain⟨x,hx0⟩:∃x,n.nd a=x:=⟨_,rfl⟩
 obtain⟨y,hy0⟩:∃y,n.nd b=y:=⟨_,rfl⟩
 have hx:=hn.nd _ (oP hT.a0 hT.a1)
 have hy:=hn.nd _ (oP hT.b0 hT.b1)
 rw[hx0]at hx
 rw[hy0]at hy
 have s0:=h.bs
 simp only[stg,zx,XM]at s0
 obtain⟨σ1,q1,hS1,hF1⟩:=V5 hT.a0 hT.a1 h
 rw[hx0]at q1
 obtain⟨c1,hc1⟩:∃c,σ1.clk=c:=⟨_,rfl⟩
 obtain⟨σ2,hσ2⟩:∃σ2,σ2=(σ1.add 2 (.var [.p (.i .i64 0),.p (.i .i64 0),.p (.i .i64 0),.p (.s []),.nil,.nil])).put (2,c1) (.var ((Ug x).map .p)):=⟨_,rfl⟩
 have hlt:=h.lt
 have hcl1:=hF1.clk
 have nk:∀d,¬ks=(d,c1):=by rintro d rfl;simp at hlt;omega
 have hS2:SG ks n pl a b σ2:=by rw[hσ2];exact(hS1.add _ _).put (nk 2) _
 have hF2:Fr ks σ σ2:=by rw[hσ2];exact(hF1.add _ _).put (.inr (by simp only;omega)) _
 have hcl2:σ2.clk=c1+1:=by rw[hσ2];simp only[Rt,Bv];omega
 have b2:σ2.bs (2,c1)=some (.var ((Ug x).map .p)):=by rw[hσ2];simp only[xL,if_true]
 obtain⟨σ3,q3,hS3,hF3⟩:=V5 hT.b0 hT.b1 hS2
 rw[hy0]at q3
 have b2':σ3.bs (2,c1)=some (.var ((Ug x).map .p)):=(hF3.bs (2,c1) (by simp only;omega) (fun e=>nk 2 e.symm)).trans b2
 obtain⟨σ4,q4,hS4,hF4⟩:=Kg (x:=nz x y) hn (by omega) ⟨by show wf 12;decide,hx.lv,hy.n,hx.s,by simp[nz],by simp[nz],by simp[nz],by simp[nz]⟩ NC.nil NC.nil hS3
 have hD:ik n a b=(Qs (Qs (wS n (nz x y)).1 ⟨a,2⟩ ⟨(wS n (nz x y)).2.1,0⟩).1 ⟨a,1⟩ ⟨(wS n (nz x y)).2.1,1⟩).1:=by unfold ik;simp only[hx0,hy0]
 have hOk:=(gQ (x:=nz x y) hn ⟨by show wf 12;decide,hx.lv,hy.n,hx.s,by simp[nz],by simp[nz],by simp[nz],by simp[nz]⟩ (by omega)).1
 have hti:=zg (x:=nz x y) hbg
 obtain⟨⟨m,t,ee⟩,hmk⟩:∃r,wS n (nz x y)=r:=⟨_,rfl⟩
 rw[hD]
 rw[hmk]at q4 hS4 hOk hti⊢
 simp only at q4 hS4 hOk hti⊢
 obtain⟨σ5,q5,hS5,hF5⟩:=El (p:=⟨a,2⟩) (q:=⟨t,0⟩) hOk (hT.pa (by omega) (by omega)) ⟨hti,L2⟩ hS4
 obtain⟨σ6,q6,hS6,hF6⟩:=El (p:=⟨a,1⟩) (q:=⟨t,1⟩) (gN (q:=⟨t,0⟩) hOk (hT.pa (s:=2) (by omega) (by omega)) ⟨hti,L2⟩) (hT.pa (by omega) (by omega)) ⟨hti,Gu⟩ hS5
 have p1:=Yb a 1
 have p2:=Yb a 2
 have p3:=Yb t 0
 have p4:=Yb t 1
 have u2:=hS2.bs
 have u3:=hS3.bs
 have u4:=hS4.bs
 have u5:=hS5.bs
 simp only[stg,zx,XM]at u2 u3 u4 u5
 simp only[Ug,zx,XM]at q1 q3 b2 b2' hσ2
 simp only[nz]at q4
 refine Zy (fc:=F73) rfl rfl ?_
 simp only[F73,s0,q1,←hσ2,hc1,b2,b2',u2,q3,u3,q4,u4,q5,u5,q6,p1,p2,p3,p4,uv,Of,aV,Nl,jP,Ci,pV,Dv,zD,Vr,sameP,sameR,sameRR_rfl,decide_true,iX,Wk,nxB,evO,simprocAttr]
 exact⟨hS6,(((hF2.trans hF3).trans hF4).trans hF5).trans hF6⟩
theorem E5{n:Nt}{a b:Int}{B:Nat}(h:Two n a b B){j k:Nat}(hk:k≤1000):(∀p∈YZ a j k,wfP p)∧(∀p∈YZ b j k,wfP p):=by
 constructor
 ·intro p hp
  unfold YZ at hp
  obtain⟨s,hs,rfl⟩:=Om.1 hp
  rw[bE]at hs
  exact h.pa (by omega) (by omega)
 ·intro p hp
  unfold YZ at hp
  obtain⟨s,hs,rfl⟩:=Om.1 hp
  rw[bE]at hs
  exact h.pb (by omega) (by omega)
theorem Kk{ks:Key}{n:Nt}{pl:Pl}{a b:Int}{l:List Pt}{ds:List Int}{f:AV}{σ:St}(hn:n.Ok)(hl:∀p∈l,wfP p)(hd:∀d∈ds,wf d)(hld:l.length≤ds.length)(hlb:l.length≤1000000000)(h:SG ks n pl a b σ)(hD:DropC ks l ds f σ):
  ∃k0 k1 k2 σ',f= .fn 111 [k0,k1,k2]∧eS S (.f 111) [.a (.ptr k0 0 0),.a (.ptr k1 0 0),.a (.ptr k2 0 0)] σ=some (.u,σ')∧SG ks (rW n (U2 l ds)) pl a b σ'∧Fr ks σ σ':=by
 obtain⟨k0,k1,k2,lv,dv,e1,e2,e3,e4,e5,e6,e7,e8,e9⟩:=hD.ex
 obtain⟨σ',g1,g2,g3⟩:=Du hn hl hd hld hlb h e2 e3 e4 e5 e6 e7 e8 e9
 exact⟨k0,k1,k2,σ',e1,g1,g2,g3⟩
theorem SL.fa{c0 w:Nat}{t:TypeId}{rows:List (List PV)}{v:AV}{σ:St}(h:SL c0 w t rows v σ):frA σ v=some (.l rows):=by
 rcases h with⟨rfl,rfl⟩|⟨q,rfl,h2,_,_⟩
 ·rfl
 ·rw[Ya,h2];simp
theorem Dm{ks:Key}{n:Nt}{pl:Pl}{a b:Int}{B:Nat}{σ:St}(hT:Two n a b B)(hB:B≤90000)(h:SG ks n pl a b σ):
  ∃σ',eS S (.f 76) [.a (.ptr ks 0 0)] σ=some (.u,σ')∧SG ks (GH n a b) pl a b σ'∧Fr ks σ σ':=by
 have hn:=hT.ok
 have hbg:n.ns.length≤100000:=by have:=hT.big;omega
 have hfx:(B6 (n.nd a).lv).Ok:=⟨by show wf 13;decide,hT.xa.lv,by show wf 0;decide,by simp[B6],by simp[B6],by simp[B6],by simp[B6],by simp[B6]⟩
 obtain⟨σ1,q1,hS1,hF1⟩:=aJ hT.a0 hT.a1 h
 obtain⟨σ2,q2,hS2,hF2⟩:=Kg (x:=B6 (n.nd a).lv) hn (by omega) hfx NC.nil NC.nil hS1
 obtain⟨hT2,ea,eb⟩:=hT.make hfx (by omega)
 have hti:=zg (x:=B6 (n.nd a).lv) hbg
 have hD:GH n a b=(let r:=wS n (B6 (n.nd a).lv)
  let l:=YZ a 2 (r.1.nd a).to.length++YZ b 1 (r.1.nd b).to.length
  let r2:=Tr r.1 (PN (r.1.nd a).lv) l.length
  rW (Qs r2.1 ⟨a,1⟩ ⟨r.2.1,0⟩).1 (U2 l r2.2)):=rfl
 obtain⟨⟨m,t,ee⟩,hmk⟩:∃r,wS n (B6 (n.nd a).lv)=r:=⟨_,rfl⟩
 rw[hmk]at q2 hS2 hT2 hti ea eb hD
 simp only at q2 hS2 hT2 hti ea eb hD
 obtain⟨σ3,v1,q3,hS3,hF3,hL3⟩:=TX (j:=2) (jz:=2) rfl (by omega) hT2.a0 hT2.a1 hT2.xa.to hS2
 obtain⟨σ4,v2,q4,hS4,hF4,hL4⟩:=TX (j:=1) (jz:=1) rfl (by omega) hT2.b0 hT2.b1 hT2.xb.to hS3
 have hL3':=hL3.fr hS3 hF4
 have fa2:=hL4.fa
 obtain⟨l1,hl1⟩:∃l,YZ a 2 (m.nd a).to.length=l:=⟨_,rfl⟩
 obtain⟨l2,hl2⟩:∃l,YZ b 1 (m.nd b).to.length=l:=⟨_,rfl⟩
 have w1:∀p∈l1++l2,wfP p:=by
  intro p hp
  have:=hT2.ta
  have:=hT2.tb
  rcases Sw.1 hp with hp|hp
  ·rw[←hl1]at hp;exact(E5 hT2 (by omega)).1 p hp
  ·rw[←hl2]at hp;exact(E5 hT2 (by omega)).2 p hp
 have n1:l1.length≤100:=by rw[←hl1,VT];have:=hT2.ta;omega
 have n2:l2.length≤100:=by rw[←hl2,VT];have:=hT2.tb;omega
 rw[hl1,hl2]at hD
 rw[hl1]at hL3'
 rw[hl2]at fa2
 have key:∀σ5,SG ks m pl a b σ5→Fr ks σ σ5→SL 0 2 42 ((l1++l2).map xN) (.own (22,σ4.clk) 0 (l1.length+l2.length)) σ5→
   ∃k0 k1 k2 σ6 σ7 σ8,eS S (.f 78) [.a (.ptr ks 0 0),.a (.own (22,σ4.clk) 0 (l1.length+l2.length))] σ5=some (.a (.fn 111 [k0,k1,k2]),σ6)∧
    σ6.bs ks=some (.var ((stg (Tr m (PN (m.nd a).lv) (l1++l2).length).1 pl a b).map .p))∧
    eS S (.f 74) [.a (.ptr ks 0 0),.g [.p (.i .i64 a),.p (.i .i64 1)],.g [.p (.i .i64 t),.p (.i .i64 0)]] σ6=some (.u,σ7)∧
    eS S (.f 111) [.a (.ptr k0 0 0),.a (.ptr k1 0 0),.a (.ptr k2 0 0)] σ7=some (.u,σ8)∧SG ks (GH n a b) pl a b σ8∧Fr ks σ σ8:=by
  intro σ5 hS5 hF5 hL5
  have hb2:=hT2.big
  obtain⟨σ6,f,g1,hS6,hF6,hDC⟩:=FC (l:=l1++l2) (c0:=0) hT2.ok (by rw[GM];omega) hT2.a0 hT2.a1 hS5 hL5
  have hdx:=OP hT2.xa.lv
  obtain⟨o1,o2,o3⟩:=HV hT2.ok hdx (l1++l2).length (by rw[GM];omega)
  obtain⟨σ7,g2,hS7,hF7⟩:=El (p:=⟨a,1⟩) (q:=⟨t,0⟩) o1 (hT.pa (by omega) (by omega)) ⟨hti,L2⟩ hS6
  obtain⟨k0,k1,k2,σ8,rfl,g3,hS8,hF8⟩:=Kk (gN (p:=⟨a,1⟩) (q:=⟨t,0⟩) o1 (hT.pa (by omega) (by omega)) ⟨hti,L2⟩) w1 (rn hT2.ok hdx _ (by rw[GM];omega)) (by rw[o3];exact nh _) (by rw[GM];omega) hS7 (hDC.fr hS6 hF7)
  exact⟨k0,k1,k2,σ6,σ7,σ8,g1,hS6.bs,g2,g3,by rw[hD];exact hS8,((hF5.trans hF6).trans hF7).trans hF8⟩
 have s0:=h.bs
 have u2:=hS2.bs
 have u3:=hS3.bs
 have hF04:=((hF1.trans hF2).trans hF3).trans hF4
 have hcl4:=hS4.lt
 have n4:∀d,¬ks=(d,σ4.clk):=by rintro d rfl;simp at hcl4
 have p1:=Yb a 1
 have p3:=Yb t 0
 refine Zy (fc:=F76) rfl rfl ?_
 simp only[B6]at q2
 simp only[stg,zx,XM]at s0 u2 u3
 rcases hL3' with⟨rfl,hr⟩|⟨q,rfl,r2,r3,r4⟩
 ·have hl0:l1=[]:=qL.1 hr
  subst hl0
  obtain⟨k0,k1,k2,σ6,σ7,σ8,g1,g2,g3,g4,g5,g6⟩:=key (σ4.add 22 (.row 2 42 (l2.map xN))) (hS4.add _ _) (hF04.add _ _) (.inr ⟨(22,σ4.clk),by simp,by simp only[Mq,if_true];simp,ji _,by simp only[Bv];omega⟩)
  simp only[sI,Fy]at g1
  simp only[stg,zx,XM]at g2
  have hbb:l2.length*16≤140737488355328:=by omega
  simp only[F76,s0,q1,q2,u2,q3,u3,q4,fa2,hbb,bF,g1,g2,g3,g4,p1,p3,mB,uv,Of,aV,Nl,jP,Ci,pV,Dv,zD,Vr,sameP,sameR,sameRR_rfl,decide_true,iX,Wk,nxB,evO,simprocAttr]
  exact⟨g5,g6⟩
 ·have n5:¬ks=q:=by rintro rfl;rw[hS4.bs]at r2;cases r2
  rw[mB]at q3
  obtain⟨k0,k1,k2,σ6,σ7,σ8,g1,g2,g3,g4,g5,g6⟩:=key ((σ4.kill q).add 22 (.row 2 42 (l1.map xN++l2.map xN))) ((hS4.kill n5).add _ _) ((hF04.kill (by have:=(hF1.trans hF2).clk;omega)).add _ _) (.inr ⟨(22,σ4.clk),by simp,by simp only[Mq,ME,if_true,TU],ji _,by simp only[Bv,ME];omega⟩)
  simp only[stg,zx,XM]at g2
  have htk:List.take l1.length (l1.map xN)=l1.map xN:=Ea (by simp)
  have hbb:(l1.length+l2.length)*16≤140737488355328:=by omega
  simp only[F76,s0,q1,q2,u2,q3,u3,q4,r2,fa2,hbb,htk,bF,g1,g2,g3,g4,p1,p3,mB,uv,Of,aV,Nl,jP,Ci,pV,Dv,zD,Vr,sameP,sameR,sameRR_rfl,decide_true,iX,Wk,nxB,evO,simprocAttr]
  exact⟨g5,g6⟩
theorem Lz{ks kq:Key}{n:Nt}{pl:Pl}{a b:Int}{l:List Pt}{q:Pt}{lv:AV}{c0:Nat}{σ:St}(h:SG ks n pl a b σ)(hq:σ.bs kq=some (.var [.p (.i .i64 q.n),.p (.i .i64 q.s)]))(hkq:kq.2<σ.clk)
  (hL:SL c0 2 42 (l.map xN) lv σ) (hlen:l.length≤1000) (e:Env) (e3:e 3= .a (.ptr kq 0 0)) (e5:e 5= .a .nil) (e48:e 48= .a lv) (e49:e 49= .a (.p (.i .i64 (l.length:Nat)))) (e50:e 50= .a (.p (.i .i64 0))):
  wp S false (.loop F72b0) e σ (fun x e' σ'=>x= .exit 0∧(∃y,e' 5= .a y∧SL σ.clk 2 42 ((l.filter fun r=> !decide (r=q)).map xN) y σ')∧e' 0=e 0∧e' 2=e 2∧e' 3=e 3∧e' 4=e 4∧SG ks n pl a b σ'∧Fr ks σ σ'):=by
 obtain⟨c1,hc1⟩:∃c,σ.clk=c:=⟨_,rfl⟩
 have hqs:kq≠ks:=by rintro rfl;rw[h.bs]at hq;simp[stg]at hq
 have hlv:lv= .nil∧l=[]∨∃r:Key,lv= .own r 0 l.length∧σ.bs r=some (.row 2 42 (l.map xN))∧r.2<σ.clk:=by
  rcases hL with⟨e1,e2⟩|⟨r,e1,e2,e3,e4⟩
  ·exact .inl ⟨e1,qL.1 e2⟩
  ·exact .inr ⟨r,by simpa using e1,e2,e4⟩
 obtain⟨u0,hu0⟩:∃z,e 0=z:=⟨_,rfl⟩
 obtain⟨u2,hu2⟩:∃z,e 2=z:=⟨_,rfl⟩
 obtain⟨u4,hu4⟩:∃z,e 4=z:=⟨_,rfl⟩
 rw[hu0,hu2,hu4,e3]
 refine Fs l.length (fun k e τ=>e 0=u0∧e 2=u2∧e 4=u4∧e 3= .a (.ptr kq 0 0)∧e 48= .a lv∧e 49= .a (.p (.i .i64 (l.length:Nat)))∧e 50= .a (.p (.i .i64 (k:Nat)))∧SG ks n pl a b τ∧Fr ks σ τ∧
  ∃y,e 5= .a y∧SL c1 2 42 (((l.take k).filter fun r=> !decide (r=q)).map xN) y τ) (i0:=0) (ji _) ⟨hu0,hu2,hu4,e3,e48,e49,e50,h,Fr.refl ks σ,.nil,e5,.inl ⟨rfl,rfl⟩⟩ ?_ ?_
 ·rintro k e τ hk ⟨e0,e2,e4,e3,e48,e49,e50,hS,hF,y,e5,hy⟩
  obtain⟨p,hp⟩:∃p,l[k]? =some p:=⟨_,Xb hk⟩
  have hp':=Kr xN hp
  have hlt:((k:Nat):Int)<(l.length:Int):=by omega
  have hge:(0:Int)≤((k:Nat):Int):=by omega
  have hw:IntKind.i64.wrap ((k:Int)+1)=((k+1:Nat):Int):=zz k (by omega)
  obtain⟨r,rfl,r2,r3⟩:∃r:Key,lv= .own r 0 l.length∧σ.bs r=some (.row 2 42 (l.map xN))∧r.2<σ.clk:=by
   rcases hlv with⟨_,e⟩|h
   ·rw[e]at hk;simp at hk
   ·exact h
  have nr:r≠ks:=by rintro rfl;rw[h.bs]at r2;cases r2
  have tr:=(hF.bs r r3 nr).trans r2
  have tq:=(hF.bs kq hkq hqs).trans hq
  have hcl:=hF.clk
  have nn:∀{k:Key},k.2<σ.clk→∀d,¬k=(d,τ.clk):=by rintro k hk d rfl;simp at hk;omega
  have nq7:=nn hkq 7
  have nr7:=nn r3 7
  have htk:l.take (k+1)=l.take k++[p]:=by rw[Oq,hp];rfl
  have hd:=DP p q
  simp only[xN]at hp'
  obtain⟨fl,hfl⟩:∃fl,(l.take k).filter (fun r=> !decide (r=q))=fl:=⟨_,rfl⟩
  have hfn:fl.length≤1000:=by rw[←hfl];have:=zF (fun r=> !decide (r=q)) (l.take k);rw[Q4]at this;omega
  rw[hfl]at hy
  by_cases hpq:p=q
  ·have hd2:decide (p=q)=true:=decide_eq_true hpq
   rw[hd2]at hd
   have hsu:(l.take (k+1)).filter (fun r=> !decide (r=q))=fl:=by rw[htk,wj,hfl];simp[hpq]
   rw[hsu]
   simp only[F72b0,e0,e2,e3,e4,e5,e48,e49,e50,hlt,hge,tr,tq,hp',hw,hd,nq7,nr7,iX,Ci,KA,Fy,mB,nxB,evO,simprocAttr]
   refine⟨(hS.add _ _).put (by intro e;have:=hS.lt;rw[e]at this;simp at this) _,(hF.add _ _).put (.inr (by simp only;omega)) _,y,rfl,?_⟩
   rcases hy with hy|⟨s,s1,s2,s3,s4⟩
   ·exact .inl hy
   ·have ns:¬s=(7,τ.clk):=by rintro rfl;simp at s4
    exact .inr ⟨s,s1,by simp only[xL,Mq,ns,if_false];exact s2,s3,by simp only[Rt,Bv];omega⟩
  ·have hd2:decide (p=q)=false:=decide_eq_false hpq
   rw[hd2]at hd
   have hsu:(l.take (k+1)).filter (fun r=> !decide (r=q))=fl++[p]:=by rw[htk,wj,hfl];simp[hpq]
   rw[hsu]
   have hSn:SG ks n pl a b (((τ.add 7 (.var [.p (.i .i64 0),.p (.i .i64 0)])).put (7,τ.clk) (.var [.p (.i .i64 p.n),.p (.i .i64 p.s)])).add 59 (.row 2 42 [[.i .i64 p.n,.i .i64 p.s]])):=((hS.add _ _).put (by intro e;have:=hS.lt;rw[e]at this;simp at this) _).add _ _
   have hFn:Fr ks σ (((τ.add 7 (.var [.p (.i .i64 0),.p (.i .i64 0)])).put (7,τ.clk) (.var [.p (.i .i64 p.n),.p (.i .i64 p.s)])).add 59 (.row 2 42 [[.i .i64 p.n,.i .i64 p.s]])):=((hF.add _ _).put (.inr (by simp only;omega)) _).add _ _
   rcases hy with⟨rfl,hr⟩|⟨s,rfl,s2,s3,s4⟩
   ·have hr2:fl=[]:=qL.1 hr
    subst hr2
    simp only[F72b0,e0,e2,e3,e4,e5,e48,e49,e50,hlt,hge,tr,tq,hp',hw,hd,nq7,nr7,iX,Ci,KA,Fy,SZ,PJ,mB,nxB,evO,simprocAttr]
    exact⟨hSn.add _ _,hFn.add _ _,_,rfl,.inr ⟨(60,τ.clk+1+1),rfl,by simp only[Mq,Bv,Rt,if_true,xN,zx,XM,Es],by simp only;omega,by simp only[Bv,Rt];omega⟩⟩
   ·have ns7:¬s=(7,τ.clk):=by rintro rfl;simp at s4
    have ns59:¬s=(59,τ.clk+1):=by rintro rfl;simp at s4;omega
    have n2:¬ks=s:=by rintro rfl;rw[hS.bs]at s2;cases s2
    have htk2:List.take fl.length (fl.map xN)=fl.map xN:=Ea (by simp)
    have hbb:(fl.length+1)*16≤140737488355328:=by omega
    rw[mB]at e5
    simp only[F72b0,e0,e2,e3,e4,e5,e48,e49,e50,hlt,hge,tr,tq,hp',hw,hd,nq7,nr7,s2,ns7,ns59,htk2,hbb,iX,Ci,KA,Fy,SZ,PJ,mB,nxB,evO,simprocAttr]
    exact⟨(hSn.kill n2).add _ _,(hFn.kill (by omega)).add _ _,_,rfl,.inr ⟨(60,τ.clk+1+1),by simp,by simp only[Mq,Bv,Rt,ME,if_true,TU,zx,XM,xN],by simp only;omega,by simp only[Bv,Rt,ME];omega⟩⟩
 ·rintro e τ ⟨e0,e2,e4,e3,e48,e49,e50,hS,hF,y,e5,hy⟩
  have hlt:¬((l.length:Nat):Int)<(l.length:Int):=by omega
  rw[QL]at hy
  simp only[F72b0,e0,e2,e3,e4,e5,e48,e49,e50,hlt,nxB,evO,simprocAttr]
  exact⟨⟨y,rfl,hc1▸hy⟩,hS,hF⟩
theorem Fl{ks:Key}{n m0:Nt}{pl:Pl}{a b:Int}{B:Nat}{apps:List Int}{lv:AV}{c0:Nat}{σ:St}(hT:Two n a b B)(hm0:m0.Ok)(h:SG ks m0 pl a b σ)
  (hL:SL c0 1 3 (apps.map qM) lv σ) (hd:∀d∈apps,wf d) (hlen:apps.length≤500) (e:Env) (e0:e 0= .a (.ptr ks 0 0)) (e2:e 2= .a (.p (.i .i64 (apps.length:Nat)))) (e4:e 4= .a lv) (e82:e 82= .a lv)
  (e83:e 83= .a (.p (.i .i64 (apps.length:Nat)))) (e84:e 84= .a (.p (.i .i64 0))):
  wp S false (.loop F72b1) e σ (fun x e' σ'=>x= .exit 2∧e' 8=e 8∧SG ks (rW m0 (pn a b 0 apps)) pl a b σ'∧Fr ks σ σ'∧(rW m0 (pn a b 0 apps)).Ok):=by
 have hlv:lv= .nil∧apps=[]∨∃r:Key,lv= .own r 0 apps.length∧σ.bs r=some (.row 1 3 (apps.map qM))∧r.2<σ.clk:=by
  rcases hL with⟨e1,e2⟩|⟨r,e1,e2,e3,e4⟩
  ·exact .inl ⟨e1,qL.1 e2⟩
  ·exact .inr ⟨r,by simpa using e1,e2,e4⟩
 obtain⟨u8,hu8⟩:∃z,e 8=z:=⟨_,rfl⟩
 rw[hu8]
 refine Fs apps.length (fun i e τ=>e 8=u8∧e 0= .a (.ptr ks 0 0)∧e 2= .a (.p (.i .i64 (apps.length:Nat)))∧e 4= .a lv∧e 82= .a lv∧e 83= .a (.p (.i .i64 (apps.length:Nat)))∧e 84= .a (.p (.i .i64 (i:Nat)))∧
  ∃m,m.Ok∧SG ks m pl a b τ∧Fr ks σ τ∧rW m (pn a b i (apps.drop i))=rW m0 (pn a b 0 apps)) (i0:=0) (ji _) ⟨hu8,e0,e2,e4,e82,e83,e84,m0,hm0,h,Fr.refl ks σ,by rw[yA]⟩ ?_ ?_
 ·rintro i e τ hi ⟨e8,e0,e2,e4,e82,e83,e84,m,hm,hS,hF,hR⟩
  obtain⟨d,hdi⟩:∃d,apps[i]? =some d:=⟨_,Xb hi⟩
  have hd':=Kr qM hdi
  have wd:=hd d (yu hdi)
  have hlt:((i:Nat):Int)<(apps.length:Int):=by omega
  have hge:(0:Int)≤((i:Nat):Int):=by omega
  have hge1:(0:Int)≤((i:Nat):Int)+1:=by omega
  have hw:IntKind.i64.wrap ((i:Int)+1)=(i:Int)+1:=qI _ (by omega)
  have htn:((i:Int)+1).toNat=i+1:=by omega
  obtain⟨r,rfl,r2,r3⟩:∃r:Key,lv= .own r 0 apps.length∧σ.bs r=some (.row 1 3 (apps.map qM))∧r.2<σ.clk:=by
   rcases hlv with⟨_,e⟩|h
   ·rw[e]at hi;simp at hi
   ·exact h
  have nr:r≠ks:=by rintro rfl;rw[h.bs]at r2;cases r2
  have tr:=(hF.bs r r3 nr).trans r2
  have t1:=hS.bs
  simp only[stg,zx,XM]at t1
  obtain⟨τ1,c1,hS1,hF1⟩:=El (p:=⟨b,(i:Int)+1⟩) (q:=⟨d,2⟩) hm (hT.pb (by omega) (by omega)) ⟨wd,by show wf 2;decide⟩ hS
  have tr1:=(hF1.bs r (yz r3 hF.clk) nr).trans tr
  have t2:=hS1.bs
  simp only[stg,zx,XM]at t2
  have hm1:=gN (p:=⟨b,(i:Int)+1⟩) (q:=⟨d,2⟩) hm (hT.pb (by omega) (by omega)) ⟨wd,by show wf 2;decide⟩
  have p1:=Yb b ((i:Int)+1)
  have p2:=Yb d 2
  have p3:=Yb d 1
  have hdr:apps.drop i=d::apps.drop (i+1):=by
   rw[iM hi]
   obtain⟨_,h2⟩:=QU.1 hdi
   rw[h2]
  rw[hdr]at hR
  simp only[qM]at hd'
  by_cases hl:i+1<apps.length
  ·obtain⟨f,hfi⟩:∃f,apps[i+1]? =some f:=⟨_,Xb hl⟩
   have hf':=Kr qM hfi
   have wf':=hd f (yu hfi)
   have hlt2:((i:Nat):Int)+1<(apps.length:Int):=by omega
   have hdr2:apps.drop (i+1)=f::apps.drop (i+1+1):=by
    rw[iM hl]
    obtain⟨_,h2⟩:=QU.1 hfi
    rw[h2]
   obtain⟨τ2,c2,hS2,hF2⟩:=qm (p:=⟨d,1⟩) (q:=⟨f,0⟩) hm1 ⟨wd,Gu⟩ ⟨wf',L2⟩ hS1
   have hm2:=Cy (p:=⟨d,1⟩) (q:=⟨f,0⟩) hm1 ⟨wd,Gu⟩ ⟨wf',L2⟩
   have p4:=Yb f 0
   simp only[qM]at hf'
   simp only[F72b1,e0,e2,e4,e8,e82,e83,e84,hlt,hlt2,hge,hge1,htn,hw,tr,tr1,t1,t2,hd',hf',c1,c2,p1,p2,p3,p4,iX,Ci,KA,Fy,mB,nxB,evO,simprocAttr]
   refine⟨rfl,_,hm2,hS2,(hF.trans hF1).trans hF2,?_⟩
   rw[hdr2]at hR⊢
   exact hR
  ·have hlt2:¬((i:Nat):Int)+1<(apps.length:Int):=by omega
   have hdr2:apps.drop (i+1)=[]:=nZ (by omega)
   obtain⟨τ2,c2,hS2,hF2⟩:=El (p:=⟨a,1⟩) (q:=⟨d,1⟩) hm1 (hT.pa (by omega) (by omega)) ⟨wd,Gu⟩ hS1
   have hm2:=gN (p:=⟨a,1⟩) (q:=⟨d,1⟩) hm1 (hT.pa (by omega) (by omega)) ⟨wd,Gu⟩
   have p4:=Yb a 1
   simp only[F72b1,e0,e2,e4,e8,e82,e83,e84,hlt,hlt2,hge,hge1,htn,hw,tr,tr1,t1,t2,hd',c1,c2,p1,p2,p3,p4,iX,Ci,KA,Fy,mB,nxB,evO,simprocAttr]
   refine⟨rfl,_,hm2,hS2,(hF.trans hF1).trans hF2,?_⟩
   rw[hdr2]at hR⊢
   exact hR
 ·rintro e τ ⟨e8,e0,e2,e4,e82,e83,e84,m,hm,hS,hF,hR⟩
  have hlt:¬((apps.length:Nat):Int)<(apps.length:Int):=by omega
  rw[Bn]at hR
  simp only[F72b1,e0,e2,e4,e8,e82,e83,e84,hlt,nxB,evO,simprocAttr]
  have hR:m=rW m0 (pn a b 0 apps):=hR
  exact⟨by rw[←hR];exact hS,hF,by rw[←hR];exact hm⟩
theorem uw{ks:Key}{n:Nt}{pl:Pl}{a b:Int}{B:Nat}{i:Nat}{A:Ar}{σ:St}(hT:Two n a b B)(hB:B≤80000)(hi:pl.alt=(i:Nat))(hA:(n.nd a).al[i]? =some A)(hk0:0≤A.n)(hk1:A.n≤100)(hal:(n.nd a).al.length≤100)(h:SG ks n pl a b σ):
  ∃σ',eS S (.f 72) [.a (.ptr ks 0 0)] σ=some (.u,σ')∧SG ks (uK n pl.alt a b) pl a b σ'∧Fr ks σ σ':=by
 have hn:=hT.ok
 have hbg:=hT.big
 have hil:=(QU.1 hA).1
 obtain⟨k,hk⟩:∃k:Nat,A.n=k:=⟨A.n.toNat,by omega⟩
 obtain⟨c,hc⟩:∃c,σ.clk=c:=⟨_,rfl⟩
 have hlt:=h.lt
 have nk:∀d,¬ks=(d,c):=by rintro d rfl;simp at hlt;omega
 have s0:=h.bs
 obtain⟨σ0,hσ0⟩:∃σ0,σ0=σ.add 3 (.var [.p (.i .i64 0),.p (.i .i64 0)]):=⟨_,rfl⟩
 have hS0:SG ks n pl a b σ0:=by rw[hσ0];exact h.add _ _
 have hF0:Fr ks σ σ0:=by rw[hσ0];exact(Fr.refl ks σ).add _ _
 have hcl0:σ0.clk=c+1:=by rw[hσ0];simp only[Bv];omega
 have b3:σ0.bs (3,c)=some (.var [.p (.i .i64 0),.p (.i .i64 0)]):=by rw[hσ0];simp[Mq,hc]
 obtain⟨σ1,q1,hS1,hF1⟩:=V5 hT.a0 hT.a1 hS0
 have b31:=(hF1.bs (3,c) (by simp only;omega) (fun e=>nk 3 e.symm)).trans b3
 have hcl1:=hF1.clk
 obtain⟨σ2,hσ2⟩:∃σ2,σ2=σ1.put (3,c) (.var [.p (.i .i64 a),.p (.i .i64 ((i:Int)+2))]):=⟨_,rfl⟩
 have hS2:SG ks n pl a b σ2:=by rw[hσ2];exact hS1.put (nk 3) _
 have hF2:Fr ks σ σ2:=by rw[hσ2];exact(hF0.trans hF1).put (.inr (by simp only;omega)) _
 have b32:σ2.bs (3,c)=some (.var [.p (.i .i64 a),.p (.i .i64 ((i:Int)+2))]):=by rw[hσ2];simp[xL]
 have hcl2:σ2.clk=σ1.clk:=by rw[hσ2];rfl
 obtain⟨σ3,q3,hS3,hF3⟩:=aJ hT.a0 hT.a1 hS2
 have hax:(vQ (n.nd a).lv).Ok:=⟨by show wf 3;decide,hT.xa.lv,by show wf 0;decide,by simp[vQ],by simp[vQ],by simp[vQ],by simp[vQ],by simp[vQ]⟩
 obtain⟨σ4,v4,q4,hS4,hF4,hL4⟩:=IV (x:=vQ (n.nd a).lv) (m:=k) hn hax NC.nil NC.nil (by omega) hS3
 obtain⟨hT1,ea,eb⟩:=hT.like hax k (by omega)
 have hAD:(n.nd a).al.getD i zA=A:=by rw[Kh,hA];rfl
 have wap:=rn hn hax k (by omega)
 have lap:=(HV hn hax k (by omega)).2.2
 have hD:uK n pl.alt a b=(let r1:=Tr n (vQ (n.nd a).lv) k
  let l:=rZ r1.1 a i
  let r2:=Tr r1.1 (PN (r1.1.nd a).lv) l.length
  let m:=match r1.2 with
   |[]=>(iY r2.1 ⟨a,(i:Int)+2⟩ ⟨a,1⟩).1
   |d::_=>(Qs r2.1 ⟨a,(i:Int)+2⟩ ⟨d,0⟩).1
  rW (rW m (pn a b 0 r1.2)) (U2 l r2.2)):=by
  unfold uK;simp only[hi,KA,hAD,hk];try rfl
 obtain⟨⟨m1,apps⟩,hr⟩:∃r,Tr n (vQ (n.nd a).lv) k=r:=⟨_,rfl⟩
 rw[hr]at hS4 hL4 hT1 ea eb hD wap lap
 simp only at hS4 hL4 hT1 ea eb hD wap lap
 have hbg1:=hT1.big
 obtain⟨σ5,v5,q5,hS5,hF5,hL5⟩:=TX (j:=2) (jz:=2) rfl (by omega) hT1.a0 hT1.a1 hT1.xa.to hS4
 obtain⟨l0,hl0⟩:∃l,YZ a 2 (m1.nd a).to.length=l:=⟨_,rfl⟩
 have nl0:l0.length≤100:=by rw[←hl0,VT];have:=hT1.ta;omega
 rw[hl0]at hL5
 have hl1:rZ m1 a i=l0.filter fun r=> !decide (r=⟨a,(i:Int)+2⟩):=by unfold rZ;rw[hl0]
 obtain⟨l,hl2⟩:∃l,l0.filter (fun r=> !decide (r=⟨a,(i:Int)+2⟩))=l:=⟨_,rfl⟩
 rw[hl1,hl2]at hD
 have nl:l.length≤100:=by rw[←hl2];have:=zF (fun r=> !decide (r=(⟨a,(i:Int)+2⟩:Pt))) l0;omega
 have wl:∀p∈l,wfP p:=by
  intro p hp
  rw[←hl2]at hp
  have:=(Bo.1 hp).1
  rw[←hl0]at this
  exact(E5 hT1 (by have:=hT1.ta;omega)).1 p this
 have b34:=(hF4.bs (3,c) (by have:=hF3.clk;simp only;omega) (fun e=>nk 3 e.symm)).trans ((hF3.bs (3,c) (by simp only;omega) (fun e=>nk 3 e.symm)).trans b32)
 have b35:=(hF5.bs (3,c) (by have:=hF3.clk;have:=hF4.clk;simp only;omega) (fun e=>nk 3 e.symm)).trans b34
 have hF05:=((hF2.trans hF3).trans hF4).trans hF5
 have hc5:c<σ5.clk:=by have:=hF3.clk;have:=hF4.clk;have:=hF5.clk;omega
 have hL45:=hL4.fr hS4 hF5
 have u0:=hS0.bs
 have u1:=hS1.bs
 have u3:=hS3.bs
 have u4:=hS4.bs
 have gA:=Kr uO hA
 have p1:=Yb a ((i:Int)+2)
 have p2:=Yb a 1
 have hw:IntKind.i64.wrap ((i:Int)+2)=(i:Int)+2:=qI _ (by omega)
 have hge:(0:Int)≤(i:Int):=by omega
 have hlti:(i:Int)<((n.nd a).al.length:Int):=by omega
 obtain⟨x,hx⟩:∃x,n.nd a=x:=⟨_,rfl⟩
 rw[hx]at q1 q3 q4 gA hlti
 simp only[stg,zx,XM,hi]at s0 u0 u1 u3 u4
 simp only[Ug,zx,XM]at q1
 simp only[vQ]at q4
 simp only[uO]at gA
 refine Zy (fc:=F72) rfl rfl ?_
 have hb2:∀{τ:St},Fr ks σ5 τ→τ.bs (3,c)=some (.var [.p (.i .i64 a),.p (.i .i64 ((i:Int)+2))]):=fun hF=>(hF.bs (3,c) hc5 (fun e=>nk 3 e.symm)).trans b35
 obtain⟨Z,hZ⟩:∃Z:C,(.seq (.seq (.reg [
 ia 82 (.mv (.t 4)),ia 83 (.len false (.t 82)),ia 84 (.mv (ci 0))]) (.block 2 (.loop F72b1))) (.reg [
 ia 124 (.mv (.t 8)),ia 125 (.call (.t 124) [])]))=Z:=⟨_,rfl⟩
 have rest:∀(e:Env) (σ6:St) (y:AV),e 0= .a (.ptr ks 0 0)→e 2= .a (.p (.i .i64 (k:Nat)))→e 3= .a (.ptr (3,c) 0 0)→e 4= .a v4→e 5= .a y→SL σ5.clk 2 42 (l.map xN) y σ6→SG ks m1 pl a b σ6→Fr ks σ5 σ6→
   wp S false (.seq (.reg [
 ia 62 (.mv (.t 0)),ia 63 (.mv (.t 5)),ia 64 (.call (.f 78) [(.t 62),(.t 63)]),ia 8 (.mv (.t 64))]) (.seq (.seq (.reg [
 ia 65 (.mv (.t 2)),ia 66 (.bin .eql (.t 65) (ci 0))]) (.cond (.t 66) (.reg [
 ir 67 (.mv (.t 0)),ir 68 (.ld 2 true (.t 3)),ir 69 (.mv (.t 0)),ir 70 (.nck (.t 69)),ir 71 (.fad 12 (.t 70)),ir 72 (.ld 1 false (.t 71)),ir 73 (.call (.f 61) [(.t 72),(ci 1)]),ia 74 (.call (.f 104) [(.t 67),(.t 68),(.t 73)])]) (.reg [
 ir 75 (.mv (.t 0)),ir 76 (.ld 2 true (.t 3)),ir 77 (.mv (.t 4)),ir 78 (.ias 1 (.t 77) (ci 0)),ir 79 (.ld 1 false (.t 78)),ir 80 (.call (.f 61) [(.t 79),(ci 0)]),ia 81 (.call (.f 74) [(.t 75),(.t 76),(.t 80)])]))) Z)) e σ6 (DY [] fun v σ'=>v= .u∧SG ks (uK n pl.alt a b) pl a b σ'∧Fr ks σ σ'):=by
  intro e σ6 y e0 e2 e3 e4 e5 hy hS6 hF6
  obtain⟨σ7,f,q7,hS7,hF7,hDC⟩:=FC (l:=l) hT1.ok (by omega) hT1.a0 hT1.a1 hS6 hy
  have hdx:=OP hT1.xa.lv
  obtain⟨hOk2,o2,o3⟩:=HV hT1.ok hdx l.length (by omega)
  have wds:=rn hT1.ok hdx l.length (by omega)
  obtain⟨⟨m2,ds⟩,hr2⟩:∃r,Tr m1 (PN (m1.nd a).lv) l.length=r:=⟨_,rfl⟩
  rw[hr2]at hS7 hDC hOk2 o3 wds hD
  simp only at hS7 hDC hOk2 o3 wds hD
  have b37:=hb2 (hF6.trans hF7)
  have hL47:=(hL45.fr hS5 hF6).fr hS6 hF7
  have u7:=hS7.bs
  simp only[stg,zx,XM]at u7
  have w1:wfP ⟨a,(i:Int)+2⟩:=hT.pa (by omega) (by omega)
  have w2:wfP ⟨a,1⟩:=hT.pa (by omega) (by omega)
  have fin:∀(m3:Nt) (σ8:St) (e:Env),m3.Ok→SG ks m3 pl a b σ8→Fr ks σ7 σ8→uK n pl.alt a b=rW (rW m3 (pn a b 0 apps)) (U2 l ds)→e 0= .a (.ptr ks 0 0)→e 2= .a (.p (.i .i64 (k:Nat)))→e 4= .a v4→e 8= .a f→
    wp S false Z e σ8 (DY [] fun v σ'=>v= .u∧SG ks (uK n pl.alt a b) pl a b σ'∧Fr ks σ σ'):=by
   rw[←hZ]
   intro m3 σ8 e hm3 hS8 hF8 hD2 e0 e2 e4 e8
   have hL48:=hL47.fr hS7 hF8
   have hop:v4= .nil∧apps.length=0∨∃r:Key,v4= .own r 0 apps.length:=by
    rcases hL48 with⟨e1,e2⟩|⟨r,e1,_,_,_⟩
    ·exact .inl ⟨e1,by rw[qL.1 e2];rfl⟩
    ·exact .inr ⟨r,by simpa using e1⟩
   rcases hop with⟨rfl,ha0⟩|⟨r,rfl⟩
   all_goals
    simp only[e0,e2,e4,e8,nxB,evO,simprocAttr]
    refine Go.Fx.wp_mono (Fl (n:=n) hT hm3 hS8 hL48 wap (by omega) _ ?_ ?_ ?_ ?_ ?_ ?_) ?_
    all_goals first
     |(simp only[e0,e2,e4,lap,nxB,evO,simprocAttr];done)
     |(simp only[ha0,nxB,evO,simprocAttr];done)
     |skip
    rintro x e' σ9 ⟨rfl,g8,hS9,hF9,hm9⟩
    simp only[e8,nxB,evO,simprocAttr]at g8
    obtain⟨k0,k1,k2,σ10,rfl,q10,hS10,hF10⟩:=Kk hm9 wl wds (by omega) (by omega) hS9 (hDC.fr hS7 (hF8.trans hF9))
    simp only[g8,q10,nxB,evO,simprocAttr]
    exact⟨by rw[hD2];exact hS10,hF05.trans (hF6.trans (hF7.trans (hF8.trans (hF9.trans hF10))))⟩
  rcases apps with _|⟨d,r⟩
  ·have hk00:(((k:Nat):Int)=0)=True:=by have:k=0:=lap.symm;rw[this];simp
   obtain⟨σ8,q8,hS8,hF8⟩:=kD (p:=⟨a,(i:Int)+2⟩) (q:=⟨a,1⟩) hOk2 w1 w2 hS7
   simp only[e0,e2,e3,e4,e5,q7,b37,u7,hk00,p2,q8,uv,Of,aV,Nl,jP,Ci,pV,Dv,zD,Vr,sameP,sameR,sameRR_rfl,decide_true,iX,Wk,nxB,evO,simprocAttr]
   exact fin _ _ _ (Vd hOk2 w1 w2) hS8 hF8 hD (by simp only[e0,nxB,evO,simprocAttr]) (by simp only[e2,nxB,evO,simprocAttr]) (by simp only[e4,nxB,evO,simprocAttr]) (by simp only[nxB,evO,simprocAttr])
  ·have hk00:(((k:Nat):Int)=0)=False:=by have:r.length+1=k:=lap;simp;omega
   have wd:=wap d (by simp)
   have p5:=Yb d 0
   obtain⟨σ8,q8,hS8,hF8⟩:=El (p:=⟨a,(i:Int)+2⟩) (q:=⟨d,0⟩) hOk2 w1 ⟨wd,L2⟩ hS7
   obtain⟨r4,rfl,s4⟩:∃r4:Key,v4= .own r4 0 (r.length+1)∧σ7.bs r4=some (.row 1 3 ([.i .i64 d]::r.map qM)):=by
    rcases hL47 with⟨_,e2⟩|⟨r4,e1,e2,_,_⟩
    ·simp at e2
    ·exact⟨r4,by simpa using e1,e2⟩
   have hlt0:(0:Int)<((r.length+1:Nat):Int):=by omega
   simp only[e0,e2,e3,e4,e5,q7,b37,u7,s4,hlt0,hk00,p5,q8,rV,Int.reduceLE,kS,uv,Of,aV,Nl,jP,Ci,pV,Dv,zD,Vr,sameP,sameR,sameRR_rfl,decide_true,iX,Wk,nxB,evO,simprocAttr]
   exact fin _ _ _ (gN hOk2 w1 ⟨wd,L2⟩) hS8 hF8 hD (by simp only[e0,nxB,evO,simprocAttr]) (by simp only[e2,nxB,evO,simprocAttr]) (by simp only[e4,nxB,evO,simprocAttr]) (by simp only[nxB,evO,simprocAttr])
 have hln:v5= .nil∧l0.length=0∨∃q:Key,v5= .own q 0 l0.length:=by
  rcases hL5 with⟨e1,e2⟩|⟨r,e1,_,_,_⟩
  ·exact .inl ⟨e1,by rw[qL.1 e2];rfl⟩
  ·exact .inr ⟨r,by simpa using e1⟩
 rcases hln with⟨rfl,hn0⟩|⟨q,rfl⟩
 all_goals
  simp only[F72,hc,s0,u0,u1,u3,u4,←hσ0,←hσ2,b3,b31,b32,q1,q3,q4,q5,gA,hge,hlti,hw,hk,p1,L5,KA,mB,uv,Of,aV,Nl,jP,Ci,pV,Dv,zD,Vr,sameP,sameR,sameRR_rfl,decide_true,iX,Wk,nxB,evO,simprocAttr]
  refine Go.Fx.wp_mono (Lz (q:=⟨a,(i:Int)+2⟩) (kq:=(3,c)) hS5 b35 hc5 hL5 (by omega) _ ?_ ?_ ?_ ?_ ?_) ?_
  all_goals first
   |(simp only[nxB,evO,simprocAttr];done)
   |(simp only[hn0,nxB,evO,simprocAttr];done)
   |skip
  rintro x e' σ6 ⟨rfl,⟨y,g5,hy⟩,g0,g2,g3,g4,hS6,hF6⟩
  simp only[nxB,evO,simprocAttr]at g0 g2 g3 g4
  rw[hl2]at hy
  simp only[YA,if_true,ZH,hZ]
  exact rest e' σ6 y g0 g2 g3 g4 g5 hy hS6 hF6
theorem SL.open1{c0:Nat}{ds:List Int}{lv:AV}{σ:St}(hL:SL c0 1 3 (ds.map qM) lv σ):lv= .nil∧ds=[]∨∃r:Key,lv= .own r 0 ds.length∧σ.bs r=some (.row 1 3 (ds.map qM))∧r.2<σ.clk:=by
 rcases hL with⟨e1,e2⟩|⟨r,e1,e2,e3,e4⟩
 ·exact .inl ⟨e1,qL.1 e2⟩
 ·exact .inr ⟨r,by simpa using e1,e2,e4⟩
theorem UO{α:Type}{l:List α}{i:Nat}{d:α}(h:l[i]? =some d):l.drop i=d::l.drop (i+1):=by
 obtain⟨h1,h2⟩:=QU.1 h
 rw[iM h1,h2]
theorem sZ{ks:Key}{n m0:Nt}{pl:Pl}{a b:Int}{B:Nat}{cs:List Int}{lv:AV}{c0:Nat}{σ:St}(hT:Two n a b B)(hm0:m0.Ok)(h:SG ks m0 pl a b σ)
  (hL:SL c0 1 3 (cs.map qM) lv σ) (hd:∀d∈cs,wf d) (hlen:cs.length≤500) (e:Env) (e0:e 0= .a (.ptr ks 0 0)) (e44:e 44= .a lv) (e45:e 45= .a (.p (.i .i64 (cs.length:Nat)))) (e46:e 46= .a (.p (.i .i64 0))):
  wp S false (.loop F77b0) e σ (fun x e' σ'=>x= .exit 0∧e' 0=e 0∧e' 4=e 4∧e' 5=e 5∧SG ks (rW m0 (U2 (YZ a 1 (cs.length+1)) cs)) pl a b σ'∧Fr ks σ σ'∧(rW m0 (U2 (YZ a 1 (cs.length+1)) cs)).Ok):=by
 have hlv:=hL.open1
 obtain⟨u4,hu4⟩:∃z,e 4=z:=⟨_,rfl⟩
 obtain⟨u5,hu5⟩:∃z,e 5=z:=⟨_,rfl⟩
 rw[e0,hu4,hu5]
 refine Fs cs.length (fun i e τ=>e 4=u4∧e 5=u5∧e 0= .a (.ptr ks 0 0)∧e 44= .a lv∧e 45= .a (.p (.i .i64 (cs.length:Nat)))∧e 46= .a (.p (.i .i64 (i:Nat)))∧
  ∃m,m.Ok∧SG ks m pl a b τ∧Fr ks σ τ∧rW m (U2 (YZ a (i+1) (cs.length+1)) (cs.drop i))=rW m0 (U2 (YZ a 1 (cs.length+1)) cs)) (i0:=0) (ji _) ⟨hu4,hu5,e0,e44,e45,e46,m0,hm0,h,Fr.refl ks σ,by rw[yA]⟩ ?_ ?_
 ·rintro i e τ hi ⟨e4,e5,e0,e44,e45,e46,m,hm,hS,hF,hR⟩
  obtain⟨d,hdi⟩:∃d,cs[i]? =some d:=⟨_,Xb hi⟩
  have hd':=Kr qM hdi
  have wd:=hd d (yu hdi)
  have hlt:((i:Nat):Int)<(cs.length:Int):=by omega
  have hge:(0:Int)≤((i:Nat):Int):=by omega
  have hw:IntKind.i64.wrap ((i:Int)+1)=(i:Int)+1:=qI _ (by omega)
  obtain⟨r,rfl,r2,r3⟩:∃r:Key,lv= .own r 0 cs.length∧σ.bs r=some (.row 1 3 (cs.map qM))∧r.2<σ.clk:=by
   rcases hlv with⟨_,e⟩|h
   ·rw[e]at hi;simp at hi
   ·exact h
  have nr:r≠ks:=by rintro rfl;rw[h.bs]at r2;cases r2
  have tr:=(hF.bs r r3 nr).trans r2
  have t1:=hS.bs
  simp only[stg,zx,XM]at t1
  obtain⟨τ1,c1,hS1,hF1⟩:=El (p:=⟨a,(i:Int)+1⟩) (q:=⟨d,0⟩) hm (hT.pa (by omega) (by omega)) ⟨wd,L2⟩ hS
  have hm1:=gN (p:=⟨a,(i:Int)+1⟩) (q:=⟨d,0⟩) hm (hT.pa (by omega) (by omega)) ⟨wd,L2⟩
  have p1:=Yb a ((i:Int)+1)
  have p2:=Yb d 0
  rw[UO hdi,Ym (by omega)]at hR
  simp only[qM]at hd'
  simp only[F77b0,e0,e4,e5,e44,e45,e46,hlt,hge,hw,tr,t1,hd',c1,p1,p2,iX,Ci,KA,Fy,mB,nxB,evO,simprocAttr]
  exact⟨rfl,_,hm1,hS1,hF.trans hF1,hR⟩
 ·rintro e τ ⟨e4,e5,e0,e44,e45,e46,m,hm,hS,hF,hR⟩
  have hlt:¬((cs.length:Nat):Int)<(cs.length:Int):=by omega
  rw[Bn,sO (nh _)]at hR
  have hR:m=rW m0 (U2 (YZ a 1 (cs.length+1)) cs):=hR
  simp only[F77b0,e0,e4,e5,e44,e45,e46,hlt,nxB,evO,simprocAttr]
  exact⟨by rw[←hR];exact hS,hF,by rw[←hR];exact hm⟩
theorem Uh{ks:Key}{n m0:Nt}{pl:Pl}{a b:Int}{cs:List Int}{lv:AV}{c0 k:Nat}{t:Int}{σ:St}(hk:k≤500)(wt:wf t)(hm0:m0.Ok)(h:SG ks m0 pl a b σ)
  (hL:SL c0 1 3 (cs.map qM) lv σ) (hd:∀d∈cs,wf d) (hlen:cs.length≤500) (e:Env) (e0:e 0= .a (.ptr ks 0 0)) (e8:e 8= .a (.p (.i .i64 (k:Nat)))) (e9:e 9= .a (.p (.i .i64 t))) (e81:e 81= .a lv) (e82:e 82= .a (.p (.i .i64 (cs.length:Nat)))) (e83:e 83= .a (.p (.i .i64 0))):
  wp S false (.loop F77b2) e σ (fun x e' σ'=>x= .exit 4∧e' 0=e 0∧e' 4=e 4∧e' 63=e 63∧e' 64=e 64∧e' 65=e 65∧SG ks (rW m0 (tL t k 0 cs)) pl a b σ'∧Fr ks σ σ'∧(rW m0 (tL t k 0 cs)).Ok):=by
 have hlv:=hL.open1
 obtain⟨u4,hu4⟩:∃z,e 4=z:=⟨_,rfl⟩
 obtain⟨u63,hu63⟩:∃z,e 63=z:=⟨_,rfl⟩
 obtain⟨u64,hu64⟩:∃z,e 64=z:=⟨_,rfl⟩
 obtain⟨u65,hu65⟩:∃z,e 65=z:=⟨_,rfl⟩
 rw[e0,hu4,hu63,hu64,hu65]
 refine Fs cs.length (fun i e τ=>e 4=u4∧e 63=u63∧e 64=u64∧e 65=u65∧e 0= .a (.ptr ks 0 0)∧e 8= .a (.p (.i .i64 (k:Nat)))∧e 9= .a (.p (.i .i64 t))∧e 81= .a lv∧e 82= .a (.p (.i .i64 (cs.length:Nat)))∧e 83= .a (.p (.i .i64 (i:Nat)))∧
  ∃m,m.Ok∧SG ks m pl a b τ∧Fr ks σ τ∧rW m (tL t k i (cs.drop i))=rW m0 (tL t k 0 cs)) (i0:=0) (ji _) ⟨hu4,hu63,hu64,hu65,e0,e8,e9,e81,e82,e83,m0,hm0,h,Fr.refl ks σ,by rw[yA]⟩ ?_ ?_
 ·rintro i e τ hi ⟨e4,e63,e64,e65,e0,e8,e9,e81,e82,e83,m,hm,hS,hF,hR⟩
  obtain⟨d,hdi⟩:∃d,cs[i]? =some d:=⟨_,Xb hi⟩
  have hd':=Kr qM hdi
  have wd:=hd d (yu hdi)
  have hlt:((i:Nat):Int)<(cs.length:Int):=by omega
  have hge:(0:Int)≤((i:Nat):Int):=by omega
  have hw:IntKind.i64.wrap ((i:Int)+1)=(i:Int)+1:=qI _ (by omega)
  have hw2:IntKind.i64.wrap ((k:Int)+1)=(k:Int)+1:=qI _ (by omega)
  obtain⟨r,rfl,r2,r3⟩:∃r:Key,lv= .own r 0 cs.length∧σ.bs r=some (.row 1 3 (cs.map qM))∧r.2<σ.clk:=by
   rcases hlv with⟨_,e⟩|h
   ·rw[e]at hi;simp at hi
   ·exact h
  have nr:r≠ks:=by rintro rfl;rw[h.bs]at r2;cases r2
  have tr:=(hF.bs r r3 nr).trans r2
  obtain⟨τ1,c1,hS1,hF1⟩:=qm (p:=⟨t,(i:Int)+1⟩) (q:=⟨d,(k:Int)+1⟩) hm ⟨wt,fB (by simp only;omega) (by simp only;omega)⟩ ⟨wd,fB (by simp only;omega) (by simp only;omega)⟩ hS
  have hm1:=Cy (p:=⟨t,(i:Int)+1⟩) (q:=⟨d,(k:Int)+1⟩) hm ⟨wt,fB (by simp only;omega) (by simp only;omega)⟩ ⟨wd,fB (by simp only;omega) (by simp only;omega)⟩
  have p1:=Yb t ((i:Int)+1)
  have p2:=Yb d ((k:Int)+1)
  rw[UO hdi]at hR
  simp only[qM]at hd'
  simp only[F77b2,e0,e4,e8,e9,e63,e64,e65,e81,e82,e83,hlt,hge,hw,hw2,tr,hd',c1,p1,p2,iX,Ci,KA,Fy,mB,nxB,evO,simprocAttr]
  exact⟨rfl,_,hm1,hS1,hF.trans hF1,hR⟩
 ·rintro e τ ⟨e4,e63,e64,e65,e0,e8,e9,e81,e82,e83,m,hm,hS,hF,hR⟩
  have hlt:¬((cs.length:Nat):Int)<(cs.length:Int):=by omega
  rw[Bn]at hR
  have hR:m=rW m0 (tL t k 0 cs):=hR
  simp only[F77b2,e0,e4,e8,e9,e63,e64,e65,e81,e82,e83,hlt,nxB,evO,simprocAttr]
  exact⟨by rw[←hR];exact hS,hF,by rw[←hR];exact hm⟩
theorem ZJ{ks:Key}{n m0:Nt}{pl:Pl}{a b:Int}{B:Nat}{cs ds:List Int}{lc lv:AV}{c0 c1:Nat}{σ:St}(hT:Two n a b B)(hm0:m0.Ok)(h:SG ks m0 pl a b σ)
  (hC:SL c0 1 3 (cs.map qM) lc σ) (hL:SL c1 1 3 (ds.map qM) lv σ) (hc:∀d∈cs,wf d) (hd:∀d∈ds,wf d) (clen:cs.length≤500) (hlen:ds.length≤500) (e:Env) (e0:e 0= .a (.ptr ks 0 0)) (e4:e 4= .a lc) (e63:e 63= .a lv) (e64:e 64= .a (.p (.i .i64 (ds.length:Nat)))) (e65:e 65= .a (.p (.i .i64 0))):
  wp S false (.loop F77b1) e σ (fun x e' σ'=>x= .exit 2∧SG ks (rW m0 (NK b cs 0 ds)) pl a b σ'∧Fr ks σ σ'):=by
 have hlv:=hL.open1
 have llc:lenA false lc=some cs.length:=by
  rcases hC.open1 with⟨rfl,rfl⟩|⟨r,rfl,_,_⟩<;>rfl
 refine Fs ds.length (fun i e τ=>e 0= .a (.ptr ks 0 0)∧e 4= .a lc∧e 63= .a lv∧e 64= .a (.p (.i .i64 (ds.length:Nat)))∧e 65= .a (.p (.i .i64 (i:Nat)))∧
  ∃m,m.Ok∧SG ks m pl a b τ∧Fr ks σ τ∧rW m (NK b cs i (ds.drop i))=rW m0 (NK b cs 0 ds)) (i0:=0) (ji _) ⟨e0,e4,e63,e64,e65,m0,hm0,h,Fr.refl ks σ,by rw[yA]⟩ ?_ ?_
 ·rintro i e τ hi ⟨e0,e4,e63,e64,e65,m,hm,hS,hF,hR⟩
  obtain⟨d,hdi⟩:∃d,ds[i]? =some d:=⟨_,Xb hi⟩
  have hd':=Kr qM hdi
  have wd:=hd d (yu hdi)
  have hlt:((i:Nat):Int)<(ds.length:Int):=by omega
  have hge:(0:Int)≤((i:Nat):Int):=by omega
  have hw:IntKind.i64.wrap ((i:Int)+1)=(i:Int)+1:=qI _ (by omega)
  obtain⟨r,rfl,r2,r3⟩:∃r:Key,lv= .own r 0 ds.length∧σ.bs r=some (.row 1 3 (ds.map qM))∧r.2<σ.clk:=by
   rcases hlv with⟨_,e⟩|h
   ·rw[e]at hi;simp at hi
   ·exact h
  have nr:r≠ks:=by rintro rfl;rw[h.bs]at r2;cases r2
  have tr:=(hF.bs r r3 nr).trans r2
  have t1:=hS.bs
  simp only[stg,zx,XM]at t1
  obtain⟨τ1,c1,hS1,hF1⟩:=El (p:=⟨b,(i:Int)+1⟩) (q:=⟨d,0⟩) hm (hT.pb (by omega) (by omega)) ⟨wd,L2⟩ hS
  have hm1:=gN (p:=⟨b,(i:Int)+1⟩) (q:=⟨d,0⟩) hm (hT.pb (by omega) (by omega)) ⟨wd,L2⟩
  have hC1:=(hC.fr h hF).fr hS hF1
  have p1:=Yb b ((i:Int)+1)
  have p2:=Yb d 0
  rw[UO hdi]at hR
  simp only[NK,Tn,gn]at hR
  simp only[qM]at hd'
  rcases hC1.open1 with⟨rfl,hcs⟩|⟨rc,rfl,_,_⟩
  all_goals
   simp only[F77b1,e0,e4,e63,e64,e65,hlt,hge,hw,tr,t1,hd',c1,p1,p2,iX,Ci,KA,Fy,mB,nxB,evO,simprocAttr]
   refine Go.Fx.wp_mono (Uh (n:=n) (k:=i) (t:=d) (by omega) wd hm1 hS1 hC1 hc clen _ ?_ ?_ ?_ ?_ ?_ ?_) ?_
   all_goals first
    |(simp only[e0,nxB,evO,simprocAttr];done)
    |(simp only[hcs,sI,nxB,evO,simprocAttr];done)
    |skip
   rintro x e' τ2 ⟨rfl,g0,g4,g63,g64,g65,hS2,hF2,hm2⟩
   simp only[nxB,evO,simprocAttr]at g0 g4 g63 g64 g65
   simp only[g0,g4,g63,g64,g65,e0,e4,e63,e64,e65,hw,nxB,evO,simprocAttr]
   exact⟨rfl,_,hm2,hS2,(hF.trans hF1).trans hF2,hR⟩
 ·rintro e τ ⟨e0,e4,e63,e64,e65,m,hm,hS,hF,hR⟩
  have hlt:¬((ds.length:Nat):Int)<(ds.length:Int):=by omega
  rw[Bn]at hR
  have hR:m=rW m0 (NK b cs 0 ds):=hR
  simp only[F77b1,e0,e4,e63,e64,e65,hlt,nxB,evO,simprocAttr]
  exact⟨by rw[←hR];exact hS,hF⟩
theorem Hw{ks:Key}{n:Nt}{pl:Pl}{a b:Int}{B:Nat}{σ:St}(hT:Two n a b B)(hB:B≤80000)(hwl:wf pl.lv)(la:1≤(n.nd a).to.length)(lb:1≤(n.nd b).to.length)(h:SG ks n pl a b σ):
  ∃σ',eS S (.f 77) [.a (.ptr ks 0 0)] σ=some (.u,σ')∧SG ks (Z0 n pl.lv a b) pl a b σ'∧Fr ks σ σ':=by
 have hn:=hT.ok
 have hbg:=hT.big
 have hta:=hT.ta
 have htb:=hT.tb
 obtain⟨c,hc⟩:∃c,σ.clk=c:=⟨_,rfl⟩
 have hlt:=h.lt
 have nk:∀d,¬ks=(d,c):=by rintro d rfl;simp at hlt;omega
 have nk1:∀d,¬ks=(d,c+1):=by rintro d rfl;simp at hlt;omega
 have s0:=h.bs
 obtain⟨x,hx0⟩:∃x,n.nd a=x:=⟨_,rfl⟩
 obtain⟨y,hy0⟩:∃y,n.nd b=y:=⟨_,rfl⟩
 have hx:=hT.xa
 have hy:=hT.xb
 rw[hx0]at hx la hta
 rw[hy0]at hy lb htb
 obtain⟨σ0,hσ0⟩:∃σ0,σ0=(σ.add 2 (.var [.p (.i .i64 0),.p (.i .i64 0),.p (.i .i64 0),.p (.s []),.nil,.nil])).add 3 (.var [.p (.i .i64 0),.p (.i .i64 0),.p (.i .i64 0),.p (.s []),.nil,.nil]):=⟨_,rfl⟩
 have hS0:SG ks n pl a b σ0:=by rw[hσ0];exact(h.add _ _).add _ _
 have hF0:Fr ks σ σ0:=by rw[hσ0];exact((Fr.refl ks σ).add _ _).add _ _
 have hcl0:σ0.clk=c+2:=by rw[hσ0];simp only[Bv];omega
 have b2:σ0.bs (2,c)=some (.var [.p (.i .i64 0),.p (.i .i64 0),.p (.i .i64 0),.p (.s []),.nil,.nil]):=by rw[hσ0];simp[Mq,Bv,hc]
 have b3:σ0.bs (3,c+1)=some (.var [.p (.i .i64 0),.p (.i .i64 0),.p (.i .i64 0),.p (.s []),.nil,.nil]):=by rw[hσ0];simp[Mq,Bv,hc]
 obtain⟨σ1,q1,hS1,hF1⟩:=V5 hT.a0 hT.a1 hS0
 have b21:=(hF1.bs (2,c) (by simp only;omega) (fun e=>nk 2 e.symm)).trans b2
 have b31:=(hF1.bs (3,c+1) (by simp only;omega) (fun e=>nk1 3 e.symm)).trans b3
 have hcl1:=hF1.clk
 obtain⟨σ2,q2,hS2,hF2⟩:=V5 hT.b0 hT.b1 hS1
 have hcl2:=hF2.clk
 have b22:=(hF2.bs (2,c) (by simp only;omega) (fun e=>nk 2 e.symm)).trans b21
 have b32:=(hF2.bs (3,c+1) (by simp only;omega) (fun e=>nk1 3 e.symm)).trans b31
 rw[hx0]at q1
 rw[hy0]at q2
 obtain⟨σ3,hσ3⟩:∃σ3,σ3=(σ2.put (2,c) (.var ((Ug x).map .p))).put (3,c+1) (.var ((Ug y).map .p)):=⟨_,rfl⟩
 have hS3:SG ks n pl a b σ3:=by rw[hσ3];exact(hS2.put (nk 2) _).put (nk1 3) _
 have hF3:Fr ks σ σ3:=by rw[hσ3];exact(((hF0.trans hF1).trans hF2).put (.inr (by simp only;omega)) _).put (.inr (by simp only;omega)) _
 have b23:σ3.bs (2,c)=some (.var ((Ug x).map .p)):=by rw[hσ3];simp[xL]
 have b33:σ3.bs (3,c+1)=some (.var ((Ug y).map .p)):=by rw[hσ3];simp[xL]
 have hcl3:σ3.clk=σ2.clk:=by rw[hσ3];rfl
 obtain⟨y',hy'⟩:∃y':Nd,({y with lv:=pl.lv}:Nd)=y':=⟨_,rfl⟩
 have hyo:y'.Ok:=by rw[←hy'];exact⟨hy.k,hwl,hy.n,hy.s,hy.al,hy.to,hy.ap,hy.tp⟩
 obtain⟨σ4,hσ4⟩:∃σ4,σ4=σ3.put (3,c+1) (.var ((Ug y').map .p)):=⟨_,rfl⟩
 have hS4:SG ks n pl a b σ4:=by rw[hσ4];exact hS3.put (nk1 3) _
 have hF4:Fr ks σ σ4:=by rw[hσ4];exact hF3.put (.inr (by simp only;omega)) _
 have b24:σ4.bs (2,c)=some (.var ((Ug x).map .p)):=by rw[hσ4];simp only[xL];rw[if_neg (by simp)];exact b23
 have b34:σ4.bs (3,c+1)=some (.var ((Ug y').map .p)):=by rw[hσ4];simp[xL]
 have hcl4:σ4.clk=σ2.clk:=by rw[hσ4];exact hcl3
 obtain⟨ma,hma⟩:∃m,x.to.length-1=m:=⟨_,rfl⟩
 obtain⟨mb,hmb⟩:∃m,y.to.length-1=m:=⟨_,rfl⟩
 obtain⟨σ5,v4,q5,hS5,hF5,hL5⟩:=IV (x:=y') (m:=ma) hn hyo (NC.p _) (NC.p _) (by omega) hS4
 obtain⟨hT1,ea,eb⟩:=hT.like hyo ma (by omega)
 have wcs:=rn hn hyo ma (by omega)
 have lcs:=(HV hn hyo ma (by omega)).2.2
 have hD:Z0 n pl.lv a b=rW (rW (Tr (Tr n y' ma).1 x mb).1 (U2 (YZ a 1 x.to.length) (Tr n y' ma).2)) (NK b (Tr n y' ma).2 0 (Tr (Tr n y' ma).1 x mb).2):=by
  unfold Z0;simp only[hx0,hy0,hy',hma]
  rw[hmb]
 obtain⟨⟨m1,cs⟩,hr⟩:∃r,Tr n y' ma=r:=⟨_,rfl⟩
 rw[hr]at hS5 hL5 hT1 ea eb hD wcs lcs
 simp only at hS5 hL5 hT1 ea eb hD wcs lcs
 have hbg1:=hT1.big
 have b25:=(hF5.bs (2,c) (by simp only;omega) (fun e=>nk 2 e.symm)).trans b24
 have b35:=(hF5.bs (3,c+1) (by simp only;omega) (fun e=>nk1 3 e.symm)).trans b34
 obtain⟨σ6,v5,q6,hS6,hF6,hL6⟩:=IV (x:=x) (m:=mb) hT1.ok hx (NC.p _) (NC.p _) (by omega) hS5
 have wds:=rn hT1.ok hx mb (by omega)
 obtain⟨hOk6,_,lds⟩:=HV hT1.ok hx mb (by omega)
 obtain⟨⟨m2,ds⟩,hr2⟩:∃r,Tr m1 x mb=r:=⟨_,rfl⟩
 rw[hr2]at hS6 hL6 hD wds lds hOk6
 simp only at hS6 hL6 hD wds lds hOk6
 have hL56:=hL5.fr hS5 hF6
 have hF06:=(hF4.trans hF5).trans hF6
 have hwa:IntKind.i64.wrap ((x.to.length:Int)-1)=((ma:Nat):Int):=by rw[qI _ (by omega)];omega
 have hwb:IntKind.i64.wrap ((y'.to.length:Int)-1)=((mb:Nat):Int):=by
  have:y'.to.length=y.to.length:=by rw[←hy']
  rw[this,qI _ (by omega)];omega
 have u0:=hS0.bs
 have u1:=hS1.bs
 have u3:=hS3.bs
 simp only[stg,zx,XM]at s0 u0 u1 u3
 have ey:Ug y'=[.i .i64 y.k,.i .i64 pl.lv,.i .i64 y.n,.s y.s,.l (y.al.map uO),.l (y.to.map xN)]:=by rw[←hy'];rfl
 have ez:[AV.p (.i .i64 y'.k),.p (.i .i64 y'.lv),.p (.i .i64 y'.n),.p (.s y'.s),.p (.l (y'.al.map uO)),.p (.l (y'.to.map xN))]=(Ug y').map .p:=rfl
 rw[ez,ey]at q5
 rw[ey]at hσ4 b34 b35
 have hyt:y'.to.length=y.to.length:=by rw[←hy']
 rw[hyt]at hwb
 simp only[Ug,zx,XM]at q1 q2 q5 q6 hσ3 b23 b33 hσ4 b24 b34 b25 b35
 obtain⟨Z,hZ⟩:∃Z:C,(.seq (.reg [
 ia 63 (.mv (.t 5)),ia 64 (.len false (.t 63)),ia 65 (.mv (ci 0))]) (.block 2 (.loop F77b1)))=Z:=⟨_,rfl⟩
 have rest:∀(e:Env) (m3:Nt) (σ7:St),m3.Ok→Z0 n pl.lv a b=rW m3 (NK b cs 0 ds)→e 0= .a (.ptr ks 0 0)→e 4= .a v4→e 5= .a v5→SG ks m3 pl a b σ7→Fr ks σ6 σ7→
   wp S false Z e σ7 (DY [] fun v σ'=>v= .u∧SG ks (Z0 n pl.lv a b) pl a b σ'∧Fr ks σ σ'):=by
  intro e m3 σ7 hm3 hD3 e0 e4 e5 hS7 hF7
  rw[←hZ]
  have hC7:=hL56.fr hS6 hF7
  have hL7:=hL6.fr hS6 hF7
  have hop:v5= .nil∧ds.length=0∨∃r:Key,v5= .own r 0 ds.length:=by
   rcases hL6.open1 with⟨e1,e2⟩|⟨r,e1,_,_⟩
   ·exact .inl ⟨e1,by rw[e2];rfl⟩
   ·exact .inr ⟨r,e1⟩
  rcases hop with⟨rfl,hd0⟩|⟨r,rfl⟩
  all_goals
   simp only[e0,e4,e5,nxB,evO,simprocAttr]
   refine Go.Fx.wp_mono (ZJ (n:=n) hT hm3 hS7 hC7 hL7 wcs wds (by omega) (by omega) _ ?_ ?_ ?_ ?_ ?_) ?_
   all_goals first
    |(simp only[e0,e4,nxB,evO,simprocAttr];done)
    |(simp only[hd0,nxB,evO,simprocAttr];done)
    |skip
   rintro x e' σ8 ⟨rfl,hS8,hF8⟩
   simp only[nxB,evO,simprocAttr]
   exact⟨by rw[hD3];exact hS8,hF06.trans (hF7.trans hF8)⟩
 have hop:v4= .nil∧cs.length=0∨∃r:Key,v4= .own r 0 cs.length:=by
  rcases hL5.open1 with⟨e1,e2⟩|⟨r,e1,_,_⟩
  ·exact .inl ⟨e1,by rw[e2];rfl⟩
  ·exact .inr ⟨r,e1⟩
 refine Zy (fc:=F77) rfl rfl ?_
 rcases hop with⟨rfl,hc0⟩|⟨q,rfl⟩
 all_goals
  simp only[F77,hc,s0,u0,u1,u3,←hσ0,←hσ3,←hσ4,b2,b21,b22,b3,b31,b32,b23,b33,b24,b34,b25,b35,q1,q2,q5,q6,hwa,hwb,mB,uv,Of,aV,Nl,jP,Ci,pV,Dv,zD,Vr,sameP,sameR,sameRR_rfl,decide_true,iX,Wk,nxB,evO,simprocAttr]
  refine Go.Fx.wp_mono (sZ (n:=n) hT hOk6 hS6 hL56 wcs (by omega) _ ?_ ?_ ?_ ?_) ?_
  all_goals first
   |(simp only[nxB,evO,simprocAttr];done)
   |(simp only[hc0,nxB,evO,simprocAttr];done)
   |skip
  rintro z e' σ7 ⟨rfl,g0,g4,g5,hS7,hF7,hm7⟩
  simp only[nxB,evO,simprocAttr]at g0 g4 g5
  simp only[YA,if_true,ZH,hZ]
  refine rest e' _ σ7 hm7 ?_ g0 g4 g5 hS7 hF7
  rw[hD,lcs,show ma+1=x.to.length by omega]
theorem nT(n:Nt)(p q:Pt):Shp n (KD n p q).1:=by
 unfold KD
 split
 ·rename_i h
  simp only[Cd]at h
  exact zS h.1.1 h.1.2
 ·exact Shp.refl n
theorem OM(n:Nt)(p q:Pt):Shp n (Qs n p q).1:=by
 unfold Qs
 split
 ·split
  ·exact Shp.refl n
  ·exact nT _ _ _
 ·exact Shp.refl n
theorem mP(n:Nt)(p q:Pt):Shp n (iY n p q).1:=by
 unfold iY
 split
 ·split
  ·exact Shp.refl n
  ·exact nT _ _ _
 ·exact Shp.refl n
theorem Op.shp(n:Nt)(o:Op):Shp n (o.run n):=by
 cases o with
 |mv p q=>exact OM n p q
 |jn p q=>exact mP n p q
 |ln p q=>exact nT n p q
theorem y6:∀(l:List Op) (n:Nt),Shp n (rW n l)
 |[],n=>Shp.refl n
 |o::l,n=>(Op.shp n o).trans (y6 l (o.run n))
theorem OE{n:Nt}(hn:n.Ok)(hb:n.ns.length≤4000){p:Pt}(h:n.has p=true):wfP p:=by
 have h1:=sJ.1 h
 have:=(hn.nd _ (oP h1.1 h1.2.1)).to
 unfold wfP wf;omega
structure Run(n0:Nt)(a b:Int)(c:Int)(n:Nt)(L:List Pt):Prop where
 good:n0.Good
 nod:L.Nodup
 semi:Semi n (·∈L)
 cap:n.cap=n0.cap
 used:n.used=n0.used+c
 old:∀(i:Nat) (x:Nd),n0.ns[i]? =some x→x.k≠0→∃y,n.ns[i]? =some y∧y={x with to:=y.to}∧y.to.length=x.to.length
 keep:∀r,n0.has r=true→r.n≠a→r.n≠b→(n0.lk r).n≠a→(n0.lk r).n≠b→r∉L∧n.lk r=n0.lk r
 ok:n.Ok
section
variable{n0 n:Nt}{a b c:Int}{L:List Pt}
theorem Run.perm{M:List Pt}(h:Run n0 a b c n L)(p:L.Perm M):Run n0 a b c n M:=
 ⟨h.good,p.nodup_iff.1 h.nod,h.semi.iff fun r=>p.mem_iff,h.cap,h.used,h.old,fun r h1 h2 h3 h4 h5=>⟨fun k=>(h.keep r h1 h2 h3 h4 h5).1 (p.mem_iff.2 k),(h.keep r h1 h2 h3 h4 h5).2⟩,h.ok⟩
theorem L3{m:Nt}(h:∀(i:Nat) (x:Nd),n0.ns[i]? =some x→x.k≠0→∃y,n.ns[i]? =some y∧y={x with to:=y.to}∧y.to.length=x.to.length)(hs:Shp n m):
  ∀(i:Nat) (x:Nd),n0.ns[i]? =some x→x.k≠0→∃y,m.ns[i]? =some y∧y={x with to:=y.to}∧y.to.length=x.to.length:=by
 intro i x hx hk
 obtain⟨y,h1,h2,h3⟩:=h i x hx hk
 obtain⟨z,g1,g2,g3⟩:=hs.get' h1
 exact⟨z,g1,by rw[g2,h2],g3.trans h3⟩
theorem Run.has0(h:Run n0 a b c n L){p:Pt}(hp:n0.has p=true):n.has p=true:=by
 have h1:=sJ.1 hp
 have hk:=Ji h.good.semi hp
 obtain⟨y,g1,g2,g3⟩:=h.old _ _ (OA h1.1 h1.2.1) hk
 have:=EZ g1
 rw[show((p.n.toNat:Nat):Int)=p.n by omega]at this
 exact sJ.2 ⟨h1.1,by have:=(QU.1 g1).1;omega,h1.2.2.1,by rw[this,g3];exact h1.2.2.2⟩
theorem Run.link{p q:Pt}(h:Run n0 a b c n (p::q::L)):Run n0 a b c (KD n p q).1 L:=by
 have hnd:=h.nod
 simp only[TL,qY,not_or]at hnd
 obtain⟨⟨hpq,hpL⟩,hqL,hL⟩:=hnd
 have hp1:=h.semi.xs p (by simp)
 have hq1:=h.semi.xs q (by simp)
 obtain⟨e,hs⟩:=h.semi.link (p:=p) (q:=q) (by simp) (by simp) hpq
 have hsh:=nT n p q
 have hok:=Cy h.ok (OE h.ok (dp h.semi) hp1) (OE h.ok (dp h.semi) hq1)
 rw[e]at hsh hok⊢
 refine⟨h.good,hL,hs.iff fun r=>?_,hsh.2.1.symm.trans h.cap,hsh.used.trans h.used,L3 h.old hsh,fun r h1 h2 h3 h4 h5=>?_,hok⟩
 ·constructor
  ·rintro⟨k,k1,k2⟩
   simp only[qY]at k
   exact(k.resolve_left k1).resolve_left k2
  ·intro k
   exact⟨by simp[k],fun e=>hpL (e▸k),fun e=>hqL (e▸k)⟩
 ·obtain⟨k1,k2⟩:=h.keep r h1 h2 h3 h4 h5
  simp only[qY,not_or]at k1
  exact⟨k1.2.2,by rw[UP hp1 hq1 (h.has0 h1),if_neg k1.2.1,if_neg k1.1,k2]⟩
theorem Run.move{p q:Pt}(h:Run n0 a b c n (q::L))(hp1:n.has p=true)(hp:p∉q::L)(hab:p.n=a∨p.n=b):Run n0 a b c (Qs n p q).1 (p::L):=by
 have hnd:=h.nod
 simp only[TL]at hnd
 simp only[qY,not_or]at hp
 have hq1:=h.semi.xs q (by simp)
 obtain⟨e,hs⟩:=h.semi.move (p:=p) (q:=q) hp1 (by simp[hp]) (by simp)
 obtain⟨l1,l2,l3,l4⟩:=h.semi.ln p hp1 (by simp[hp])
 have hsh:=OM n p q
 have hok:=gN h.ok (OE h.ok (dp h.semi) hp1) (OE h.ok (dp h.semi) hq1)
 rw[e]at hsh hok⊢
 refine⟨h.good,TL.2 ⟨hp.2,hnd.2⟩,hs.iff fun r=>?_,hsh.2.1.symm.trans h.cap,hsh.used.trans h.used,L3 h.old hsh,fun r h1 h2 h3 h4 h5=>?_,hok⟩
 ·simp only[qY]
  constructor
  ·rintro(⟨k,k1⟩|k)
   ·exact .inr (k.resolve_left k1)
   ·exact .inl k
  ·rintro(k|k)
   ·exact .inr k
   ·exact .inl ⟨.inr k,fun e=>hnd.1 (e▸k)⟩
 ·obtain⟨k1,k2⟩:=h.keep r h1 h2 h3 h4 h5
  simp only[qY,not_or]at k1⊢
  have e1:r≠n.lk p:=fun e=>by
   have:n0.lk r=p:=by rw[←k2,e,l4]
   rw[this]at h4 h5
   exact hab.elim h4 h5
  exact⟨⟨fun e=>by rw[e]at h2 h3;exact hab.elim h2 h3,k1.2⟩,by rw[UP hq1 l2 (h.has0 h1),if_neg e1,if_neg k1.1,k2]⟩
theorem Run.join{p q:Pt}(h:Run n0 a b c n L)(hp1:n.has p=true)(hq1:n.has q=true)(hp:p∉L)(hq:q∉L)(hpq:p≠q)(hpa:p.n=a∨p.n=b)(hqa:q.n=a∨q.n=b):Run n0 a b c (iY n p q).1 (p::q::L):=by
 obtain⟨e,hs⟩:=h.semi.join hp1 hp hq1 hq hpq
 obtain⟨l1,l2,l3,l4⟩:=h.semi.ln p hp1 hp
 obtain⟨m1,m2,m3,m4⟩:=h.semi.ln q hq1 hq
 have hsh:=mP n p q
 have hok:=Vd h.ok (OE h.ok (dp h.semi) hp1) (OE h.ok (dp h.semi) hq1)
 rw[e]at hsh hok⊢
 refine⟨h.good,TL.2 ⟨by simp[hpq,hp],TL.2 ⟨hq,h.nod⟩⟩,hs.iff fun r=>?_,hsh.2.1.symm.trans h.cap,hsh.used.trans h.used,L3 h.old hsh,fun r h1 h2 h3 h4 h5=>?_,hok⟩
 ·simp only[qY]
  constructor
  ·rintro(k|k|k)
   ·exact .inr (.inr k)
   ·exact .inl k
   ·exact .inr (.inl k)
  ·rintro(k|k|k)
   ·exact .inr (.inl k)
   ·exact .inr (.inr k)
   ·exact .inl k
 ·obtain⟨k1,k2⟩:=h.keep r h1 h2 h3 h4 h5
  simp only[qY,not_or]
  refine⟨⟨fun e=>by rw[e]at h2 h3;exact hpa.elim h2 h3,fun e=>by rw[e]at h2 h3;exact hqa.elim h2 h3,k1⟩,?_⟩
  have e1:r≠n.lk p:=fun e=>by
   have:n0.lk r=p:=by rw[←k2,e,l4]
   rw[this]at h4 h5
   exact hpa.elim h4 h5
  have e2:r≠n.lk q:=fun e=>by
   have:n0.lk r=q:=by rw[←k2,e,m4]
   rw[this]at h4 h5
   exact hqa.elim h4 h5
  show(if n.lk p=q then n else n.ln (n.lk p) (n.lk q)).lk r=n0.lk r
  split
  ·exact k2
  ·rw[UP l2 m2 (h.has0 h1),if_neg e2,if_neg e1,k2]
def Ka(x:Nd)(t:Int):List Pt:=YZ t 0 x.ports.toNat
structure MadeQ(n:Nt)(x:Nd)(m:Nt)(t:Int):Prop where
 one:1≤t
 new:∀p,n.has p=true→p.n≠t
 has:∀p,m.has p=true↔n.has p=true∨p.n=t∧0≤p.s∧p.s<x.ports
 lk:∀p,n.has p=true→m.lk p=n.lk p
 nd:m.nd t=x.fresh
 oth:∀i:Int,0≤i→i≠t→m.nd i=n.nd i
 free:(n.nd t).k=0
theorem Run.make(h:Run n0 a b c n L){x:Nd}(hx:x.Ok)(hm:x.may)(hk0:x.k≠0)(hk1:x.k≠1)(hu:n0.used+c<n0.cap):
  ∃t,(wS n x).2=(t,0)∧MadeQ n x (wS n x).1 t∧Run n0 a b (c+1) (wS n x).1 (Ka x t++L):=by
 have hM:=uZ h.semi x
 obtain⟨e,hs⟩:=h.semi.make hx hm hk0 hk1 (by rw[h.used,h.cap];exact hu)
 have hok:=(gQ h.ok hx (by have:=dp h.semi;omega)).1
 have hus:=BM (n:=n) hk0
 rw[e]at hok⊢
 obtain⟨m,hm⟩:∃m,n.make x=m:=⟨_,rfl⟩
 obtain⟨t,ht⟩:∃t,n.at=t:=⟨_,rfl⟩
 simp only at hok⊢
 rw[hm,ht]at hM hs
 rw[hm]at hok hus⊢
 rw[ht]
 have hpb:=lq hx
 have hnew:∀p,n.has p=true→p.n≠t:=fun p hp=>(hM.lk h.semi hp).1
 have hfree:(n.nd (t:Int)).k=0:=by
  rcases N2 t n.ns.length with hl|hl
  ·obtain⟨y,hy⟩:∃y,n.ns[t]? =some y:=⟨_,Xb hl⟩
   rw[EZ hy];exact hM.was y hy
  ·unfold Nt.nd;rw[KA,Kh,eF hl];rfl
 have hmem:∀r:Pt,r∈Ka x t↔r.n=t∧0≤r.s∧r.s<x.ports:=fun r=>by
  unfold Ka;rw[Jd]
  constructor
  ·rintro⟨h1,h2,h3⟩;exact⟨h1,by omega,by omega⟩
  ·rintro⟨h1,h2,h3⟩;exact⟨h1,by omega,by omega⟩
 refine⟨t,rfl,⟨by have:=hM.one;omega,hnew,fun p=>hM.has hx h.semi p,fun p hp=>(hM.lk h.semi hp).2,hM.nd_now,fun i h0 hi=>hM.nd h0 hi,hfree⟩,?_⟩
 refine⟨h.good,?_,hs.iff fun r=>?_,hM.cap.trans h.cap,by rw[hus,h.used];omega,fun i y hy hk=>?_,fun r h1 h2 h3 h4 h5=>?_,hok⟩
 ·rw[kE]
  refine⟨Qt _ _ _,h.nod,fun p hp q hq e=>?_⟩
  subst e
  exact hnew p (h.semi.xs p hq) ((hmem p).1 hp).1
 ·rw[Sw,hmem]
  exact⟨fun k=>k.elim .inr .inl,fun k=>k.elim .inr .inl⟩
 ·obtain⟨z,g1,g2,g3⟩:=h.old i y hy hk
  have e:i≠t:=fun e=>by
   subst e
   have:=hM.was z g1
   rw[g2]at this;exact hk this
  exact⟨z,by rw[hM.rest i e];exact g1,g2,g3⟩
 ·obtain⟨k1,k2⟩:=h.keep r h1 h2 h3 h4 h5
  have hr:=h.has0 h1
  refine⟨?_,by rw[(hM.lk h.semi hr).2,k2]⟩
  rw[Sw,hmem]
  exact fun k=>k.elim (fun k=>hnew r hr k.1) k1
structure LikeQ(n:Nt)(x:Nd)(m:Nt)(ds:List Int):Prop where
 nod:ds.Nodup
 one:∀d∈ds,1≤d
 new:∀d∈ds,∀p,n.has p=true→p.n≠d
 has:∀p,m.has p=true↔n.has p=true∨p.n∈ds∧0≤p.s∧p.s<x.ports
 lk:∀p,n.has p=true→m.lk p=n.lk p
 nd:∀d∈ds,m.nd d=x.fresh
 oth:∀i:Int,0≤i→i∉ds→m.nd i=n.nd i
 free:∀d∈ds,(n.nd d).k=0
theorem Run.likes(h:Run n0 a b c n L){x:Nd}(hx:x.Ok)(hm:x.may)(hk0:x.k≠0)(hk1:x.k≠1)(hp:0<x.ports):∀k:Nat,n0.used+c+k≤n0.cap→
  LikeQ n x (Tr n x k).1 (Tr n x k).2∧(Tr n x k).2.length=k∧Run n0 a b (c+k) (Tr n x k).1 ((Tr n x k).2.flatMap (Ka x)++L)
 |0,_=>⟨⟨tj,by simp[Tr],by simp[Tr],by simp[Tr],fun _ _=>rfl,by simp[Tr],fun _ _ _=>rfl,by simp[Tr]⟩,rfl,by simpa [Tr]using h⟩
 |k+1,hu=>by
  obtain⟨h1,h2,h3⟩:=Run.likes h hx hm hk0 hk1 hp k (by omega)
  obtain⟨t,g1,g2,g3⟩:=h3.make hx hm hk0 hk1 (by omega)
  have hd:∀d∈(Tr n x k).2,d≠t:=fun d hd=>g2.new ⟨d,0⟩ ((h1.has _).2 (.inr ⟨hd,by simp,hp⟩))
  have ht:(wS (Tr n x k).1 x).2.1=t:=by rw[g1]
  simp only[Tr,ht]
  refine⟨⟨?_,?_,?_,fun p=>?_,fun p hp=>?_,fun d hd'=>?_,fun i h0 hi=>?_,fun d hd'=>?_⟩,by simp[h2],?_⟩
  ·rw[kE]
   exact⟨h1.nod,by simp,fun u hu v hv e=>by simp at hv;exact hd u hu (e.trans hv)⟩
  ·intro d hd
   rcases Sw.1 hd with hd|hd
   ·exact h1.one d hd
   ·simp at hd;rw[hd];exact g2.one
  ·intro d hd p hp
   rcases Sw.1 hd with hd|hd
   ·exact h1.new d hd p hp
   ·simp at hd;rw[hd];exact g2.new p ((h1.has p).2 (.inl hp))
  ·rw[g2.has,h1.has]
   simp only[Sw,qY,oZ,or_false]
   constructor
   ·rintro((k|⟨k1,k2⟩)|⟨k1,k2⟩)
    ·exact .inl k
    ·exact .inr ⟨.inl k1,k2⟩
    ·exact .inr ⟨.inr k1,k2⟩
   ·rintro(k|⟨k1|k1,k2⟩)
    ·exact .inl (.inl k)
    ·exact .inl (.inr ⟨k1,k2⟩)
    ·exact .inr ⟨k1,k2⟩
  ·rw[g2.lk p ((h1.has p).2 (.inl hp)),h1.lk p hp]
  ·rcases Sw.1 hd' with hd'|hd'
   ·rw[g2.oth d (by have:=h1.one d hd';omega) (hd d hd'),h1.nd d hd']
   ·simp at hd';rw[hd'];exact g2.nd
  ·simp only[Sw,qY,oZ,or_false,not_or]at hi
   rw[g2.oth i h0 hi.2,h1.oth i h0 hi.1]
  ·rcases Sw.1 hd' with hd'|hd'
   ·exact h1.free d hd'
   ·simp at hd';subst hd'
    have:=g2.free
    rw[h1.oth d (by have:=g2.one;omega) (fun k=>hd d k rfl)]at this
    exact this
  ·have e:(c+((k+1:Nat):Int))=c+k+1:=by omega
   rw[e]
   refine g3.perm ?_
   rw[List.flatMap_append,qg]
   simp only[aC,SN,Qg]
   rw[←qg,←qg]
   exact List.Perm.append_right _ List.perm_append_comm
theorem Run.moves:∀(l:List Pt) (ds:List Int) {n:Nt} {L:List Pt},Run n0 a b c n (ds.map (fun d=>⟨d,0⟩)++L)→l.length=ds.length→l.Nodup→
  (∀p∈l,n.has p=true∧p∉L∧p.n∉ds∧(p.n=a∨p.n=b))→Run n0 a b c (rW n (U2 l ds)) (l++L)
 |[],[],n,L,h,_,_,_=>h
 |[],_::_,n,L,h,hl,_,_=>by simp at hl
 |_::_,[],n,L,h,hl,_,_=>by simp at hl
 |p::l,d::ds,n,L,h,hl,hn,hp=>by
  obtain⟨p1,p2,p3,p4⟩:=hp p (by simp)
  have hn':=TL.1 hn
  simp only[qY,not_or]at p3
  have h:Run n0 a b c n (⟨d,0⟩::(ds.map (fun d=>(⟨d,0⟩:Pt))++L)):=h
  have h1:=Run.move (p:=p) h p1 (by
   simp only[qY,Sw,Om,not_or,not_exists,not_and]
   exact⟨fun e=>p3.1 (by rw[e]),fun x hx e=>p3.2 (by rw[←e];exact hx),p2⟩) p4
  have h2:=Run.moves l ds (L:=p::L) (h1.perm (by exact rT.symm)) (by simpa using hl) hn'.2 (fun q hq=>by
   obtain⟨q1,q2,q3,q4⟩:=hp q (by simp[hq])
   simp only[qY,not_or]at q3⊢
   exact⟨by rw[(OM n p ⟨d,0⟩).has];exact q1,⟨fun e=>hn'.1 (e▸hq),q2⟩,q3.2,q4⟩)
  exact h2.perm rT
end
section
variable{n0 n:Nt}{a b c:Int}{L:List Pt}
theorem Run.start(hn:n0.Ok)(hG:n0.Good)(ha:n0.has ⟨a,0⟩=true)(hlk:n0.lk ⟨a,0⟩=⟨b,0⟩)(hab:a≠b):Run n0 a b 0 n0 [⟨a,0⟩,⟨b,0⟩]:=by
 obtain⟨g1,g2,g3⟩:=aF hG ha
 rw[hlk]at g1 g2 g3
 refine⟨hG,by simp[hab],⟨hG.cap1,hG.cap2,hG.ln1,hG.ln2,hG.last,hG.semi.nds,fun p hp=>?_,fun p hp hX=>?_⟩,rfl,by omega,fun i x hx hk=>⟨x,hx,rfl,rfl⟩,fun r h1 h2 h3 h4 h5=>⟨?_,rfl⟩,hn⟩
 ·simp only[qY,oZ,or_false]at hp
  rcases hp with rfl|rfl
  ·exact ha
  ·exact g2
 ·simp only[qY,oZ,or_false,not_or]at hX⊢
  obtain⟨h1,h2,h3⟩:=aF hG hp
  refine⟨h1,h2,⟨fun e=>?_,fun e=>?_⟩,h3⟩
  ·rw[e,hlk]at h3;exact hX.2 h3.symm
  ·rw[e,g3]at h3;exact hX.1 h3.symm
 ·simp only[qY,oZ,or_false,not_or]
  exact⟨fun e=>h2 (by rw[e]),fun e=>h3 (by rw[e])⟩
theorem Run.joins(hab:a≠b):∀(l:List Nat) {n:Nt} {L:List Pt},Run n0 a b c n L→l.Nodup→(∀s∈l,n.has ⟨a,s⟩=true∧n.has ⟨b,s⟩=true∧(⟨a,s⟩:Pt)∉L∧(⟨b,s⟩:Pt)∉L)→
  Run n0 a b c (rW n (Lp a b l)) (l.map (fun s:Nat=>(⟨a,s⟩:Pt))++(l.map (fun s:Nat=>(⟨b,s⟩:Pt))++L))
 |[],n,L,h,_,_=>h
 |s::l,n,L,h,hn,hp=>by
  obtain⟨p1,p2,p3,p4⟩:=hp s (by simp)
  have hn':=TL.1 hn
  have h1:=h.join p1 p2 p3 p4 (fun e=>hab (by simpa using e)) (.inl rfl) (.inr rfl)
  have h2:=Run.joins hab l h1 hn'.2 (fun t ht=>by
   obtain⟨q1,q2,q3,q4⟩:=hp t (by simp[ht])
   have hts:¬((t:Int)=(s:Int)):=fun e=>hn'.1 (by have:t=s:=by omega
                                                 exact this▸ht)
   have hsh:=mP n ⟨a,s⟩ ⟨b,s⟩
   refine⟨by rw[hsh.has];exact q1,by rw[hsh.has];exact q2,?_,?_⟩
   ·simp only[qY,Pt.mk.injEq,hts,and_false,false_or];exact q3
   ·simp only[qY,Pt.mk.injEq,hts,and_false,false_or];exact q4)
  refine h2.perm ?_
  simp only[zx,Hh]
  rw[PB]
  intro r
  simp only[gC,J7]
  omega
theorem Z8{x:Nd}(h:x.ports=3)(t:Int):Ka x t=[⟨t,0⟩,⟨t,1⟩,⟨t,2⟩]:=by unfold Ka;rw[h];rfl
theorem Xo{x:Nd}(h:x.ports=2)(t:Int):Ka x t=[⟨t,0⟩,⟨t,1⟩]:=by unfold Ka;rw[h];rfl
theorem oE{x:Nd}(h:x.ports=1)(t:Int):Ka x t=[⟨t,0⟩]:=by unfold Ka;rw[h];rfl
theorem ep{x:Nd}(h:x.ports=1)(ds:List Int):ds.flatMap (Ka x)=ds.map fun d=>⟨d,0⟩:=by
 induction ds with
 |nil=>rfl
 |cons d ds ih=>rw[aC,oE h,ih];rfl
theorem Run.picks{apps:List Int}{lv:Int}:∀(r:List Int) (d:Int) (i:Nat) {n:Nt} {L:List Pt},Run n0 a b c n (⟨d,1⟩::⟨d,2⟩::(r.flatMap (Ka (vQ lv))++L))→
  (∀s:Nat,i<s→s≤i+1+r.length→n.has ⟨b,s⟩=true∧(⟨b,s⟩:Pt)∉L)→n.has ⟨a,1⟩=true→(⟨a,1⟩:Pt)∉L→a∉d::r→b∉d::r→a≠b→
  Run n0 a b c (rW n (pn a b i (d::r))) (⟨a,1⟩::(YZ b (i+1) (i+2+r.length)++L))
 |[],d,i,n,L,h,hb,ha,haL,had,hbd,hab=>by
  obtain⟨b1,b2⟩:=hb (i+1) (by omega) (by simp)
  rw[show((i+1:Nat):Int)=(i:Int)+1 by omega]at b1 b2
  simp only[qY,oZ,or_false]at had hbd
  have h1:=Run.move (p:=⟨b,(i:Int)+1⟩) (q:=⟨d,2⟩) (h.perm (List.Perm.swap ..)) b1 (by simpa [hbd]using b2) (.inr rfl)
  have h2:=Run.move (p:=⟨a,1⟩) (q:=⟨d,1⟩) (h1.perm (List.Perm.swap ..)) (by rw[(OM _ _ _).has];exact ha) (by simpa [had,hab]using haL) (.inl rfl)
  have e:YZ b (i+1) (i+2+0)=[⟨b,(i:Int)+1⟩]:=by
   rw[Ym (by omega),sO (by omega)];rfl
  rw[sI,e]
  exact h2
 |e::r,d,i,n,L,h,hb,ha,haL,had,hbd,hab=>by
  obtain⟨b1,b2⟩:=hb (i+1) (by omega) (by omega)
  rw[show((i+1:Nat):Int)=(i:Int)+1 by omega]at b1 b2
  simp only[qY,not_or]at had hbd
  rw[aC,Z8 rfl]at h
  have hbn:∀s:Int,(⟨b,s⟩:Pt)∉r.flatMap (Ka (vQ lv)):=fun s k=>by
   obtain⟨t,ht,hs⟩:=cP.1 k
   have e:t=b:=(Jd.1 hs).1.symm
   subst e;exact hbd.2.2 ht
  have h1:=Run.move (p:=⟨b,(i:Int)+1⟩) (q:=⟨d,2⟩) (h.perm (List.Perm.swap ..)) b1 (by
   simp only[qY,Sw,Pt.mk.injEq,hbd,false_and,oZ,or_false,false_or,not_or,Hh]
   exact⟨hbn _,b2⟩) (.inr rfl)
  have h2:=Run.link (p:=⟨d,1⟩) (q:=⟨e,0⟩) (L:=⟨b,(i:Int)+1⟩::⟨e,1⟩::⟨e,2⟩::(r.flatMap (Ka (vQ lv))++L)) (h1.perm (by
   rw[PB];intro r;simp only[Hh,Es,J7,gC];omega))
  have h3:=Run.picks (apps:=apps) (lv:=lv) r e (i+1) (L:=⟨b,(i:Int)+1⟩::L) (h2.perm (by
   rw[PB];intro r;simp only[Hh,Es,J7,gC];omega)) (fun s h1 h2=>by
    obtain⟨c1,c2⟩:=hb s (by omega) (by simp only[Ce];omega)
    refine⟨by rw[(nT _ _ _).has,(OM _ _ _).has];exact c1,?_⟩
    have:¬(s:Int)=(i:Int)+1:=by omega
    simp only[qY,Pt.mk.injEq,this,and_false,false_or];exact c2) (by rw[(nT _ _ _).has,(OM _ _ _).has];exact ha) (by
    simp only[qY,Pt.mk.injEq,hab,false_and,false_or];exact haL) (by simp only[qY,not_or];exact had.2) (by simp only[qY,not_or];exact hbd.2) hab
  have e':YZ b (i+1) (i+2+(e::r).length)=⟨b,(i:Int)+1⟩::YZ b (i+1+1) (i+1+2+r.length):=by
   rw[Ce,Ym (by omega),show i+2+(r.length+1)=i+1+2+r.length by omega];rfl
  rw[e']
  refine h3.perm ?_
  rw[PB];intro r;simp only[Hh,Es,J7,gC];omega
theorem Ki{α:Type}(f:α→Pt)(g:α→List Pt)(cs:List α):(cs.flatMap fun c=>f c::g c).Perm (cs.map f++cs.flatMap g):=by
 induction cs with
 |nil=>exact List.Perm.refl _
 |cons d cs ih=>
  rw[aC,zx,aC,Hh,Hh]
  refine List.Perm.cons _ ?_
  refine(List.Perm.append_left (g d) ih).trans ?_
  rw[PB];intro r;simp only[gC];omega
theorem Run.lns{m:Int}{k:Nat}:∀(cs:List Int) (i:Nat) {n:Nt} {L:List Pt},Run n0 a b c n (YZ m (i+1) (i+1+cs.length)++(cs.map (fun d=>(⟨d,(k:Int)+1⟩:Pt))++L))→Run n0 a b c (rW n (tL m k i cs)) L
 |[],i,n,L,h=>by rw[sO (by simp)]at h;exact h
 |d::cs,i,n,L,h=>by
  rw[Ce,Ym (by omega),show i+1+(cs.length+1)=i+1+1+cs.length by omega]at h
  have h1:=Run.link (p:=⟨m,(i:Int)+1⟩) (q:=⟨d,(k:Int)+1⟩) (L:=YZ m (i+1+1) (i+1+1+cs.length)++(cs.map (fun d=>(⟨d,(k:Int)+1⟩:Pt))++L)) (h.perm (by
   rw[PB];intro r
   simp only[zx,Hh,J7,gC,Int.natCast_add,Mz];omega))
  exact Run.lns cs (i+1) h1
theorem U6(n:Nt)(o:Op)(l:List Op):rW n (o::l)=rW (o.run n) l:=rfl
theorem Run.passes{x:Nd}{cs:List Int}(hx:x.ports.toNat=cs.length+1):∀(r:List Int) (k:Nat) {n:Nt} {L:List Pt},Run n0 a b c n (r.flatMap (Ka x)++(cs.flatMap (fun d=>YZ d (k+1) (k+1+r.length))++L))→
  (∀s:Nat,k<s→s<k+1+r.length→n.has ⟨b,s⟩=true∧(⟨b,s⟩:Pt)∉L)→b∉r→b∉cs→
  Run n0 a b c (rW n (NK b cs k r)) (YZ b (k+1) (k+1+r.length)++L)
 |[],k,n,L,h,hb,hbr,hbc=>by
  rw[sO (by simp)]
  have:(cs.flatMap fun d=>YZ d (k+1) (k+1+([]:List Int).length))=[]:=by
   rw[List.flatMap_eq_nil_iff];intro d _;exact sO (by simp)
  rw[this]at h
  exact h
 |m::r,k,n,L,h,hb,hbr,hbc=>by
  obtain⟨b1,b2⟩:=hb (k+1) (by omega) (by simp only[Ce];omega)
  rw[show((k+1:Nat):Int)=(k:Int)+1 by omega]at b1 b2
  simp only[qY,not_or]at hbr
  have hcs:∀(j u:Nat),(⟨b,(k:Int)+1⟩:Pt)∉cs.flatMap fun d=>YZ d j u:=fun j u hm=>by
   obtain⟨t,ht,hs⟩:=cP.1 hm
   have e:t=b:=(Jd.1 hs).1.symm
   subst e;exact hbc ht
  have hrn:(⟨b,(k:Int)+1⟩:Pt)∉r.flatMap (Ka x):=fun hm=>by
   obtain⟨t,ht,hs⟩:=cP.1 hm
   have e:t=b:=(Jd.1 hs).1.symm
   subst e;exact hbr.2 ht
  have e1:Ka x m=⟨m,0⟩::YZ m 1 (1+cs.length):=by
   unfold Ka;rw[hx,Ym (by omega),show cs.length+1=1+cs.length by omega];rfl
  rw[aC,e1]at h
  have h1:=Run.move (p:=⟨b,(k:Int)+1⟩) (q:=⟨m,0⟩) (by simpa only[Hh]using h) b1 (by
   have hpm:(⟨b,(k:Int)+1⟩:Pt)∉YZ m 1 (1+cs.length):=fun hm=>hbr.1 (Jd.1 hm).1
   simp only[qY,Sw,Pt.mk.injEq,hbr,false_and,not_or,not_false_eq_true,true_and]
   exact⟨⟨hpm,hrn⟩,hcs _ _,b2⟩) (.inr rfl)
  have p1:(cs.flatMap fun d=>YZ d (k+1) (k+1+(m::r).length)).Perm (cs.map (fun d=>(⟨d,(k:Int)+1⟩:Pt))++cs.flatMap fun d=>YZ d (k+1+1) (k+1+1+r.length)):=by
   have e:(fun d:Int=>YZ d (k+1) (k+1+(m::r).length))=fun d=>(⟨d,(k:Int)+1⟩:Pt)::YZ d (k+1+1) (k+1+1+r.length):=by
    funext d
    rw[Ce,Ym (by omega),show k+1+(r.length+1)=k+1+1+r.length by omega];rfl
   rw[e];exact Ki _ _ _
  have h2:=Run.lns (m:=m) (k:=k) cs 0 (L:=r.flatMap (Ka x)++((cs.flatMap fun d=>YZ d (k+1+1) (k+1+1+r.length))++⟨b,(k:Int)+1⟩::L)) (h1.perm (by
   rw[PB];intro q
   have:=(PB.1 p1) q
   simp only[Hh,J7,gC,Fy]at this⊢
   rw[this];omega))
  have h3:=Run.passes hx r (k+1) h2 (fun s h1 h2=>by
   obtain⟨c1,c2⟩:=hb s (by omega) (by simp only[Ce];omega)
   refine⟨by rw[(y6 _ _).has,(OM _ _ _).has];exact c1,?_⟩
   have:¬(s:Int)=(k:Int)+1:=by omega
   simp only[qY,Pt.mk.injEq,this,and_false,false_or];exact c2) hbr.2 hbc
  have e2:YZ b (k+1) (k+1+(m::r).length)=⟨b,(k:Int)+1⟩::YZ b (k+1+1) (k+1+1+r.length):=by
   rw[Ce,Ym (by omega),show k+1+(r.length+1)=k+1+1+r.length by omega];rfl
  have e3:rW n (NK b cs k (m::r))=rW (rW (Qs n ⟨b,(k:Int)+1⟩ ⟨m,0⟩).1 (tL m k 0 cs)) (NK b cs (k+1) r):=by
   simp only[NK,U6,gn];rfl
  rw[e2,e3]
  refine h3.perm ?_
  rw[PB];intro q;simp only[Hh,J7,gC];omega
end
structure Meet(n:Nt)(a b:Int):Prop where
 ok:n.Ok
 good:n.Good
 ab:a≠b
 a0:0≤a
 a1:a<n.ns.length
 b0:0≤b
 b1:b<n.ns.length
 ma:(n.nd a).may
 mb:(n.nd b).may
 ka:(n.nd a).Ok
 kb:(n.nd b).Ok
 pa:((n.nd a).to.length:Int)=(n.nd a).ports
 pb:((n.nd b).to.length:Int)=(n.nd b).ports
 ha:n.has ⟨a,0⟩=true
 hb:n.has ⟨b,0⟩=true
 la:n.lk ⟨a,0⟩=⟨b,0⟩
 lb:n.lk ⟨b,0⟩=⟨a,0⟩
theorem Meet.of{n:Nt}{a b:Int}(hn:n.Ok)(hG:n.Good)(ha:n.has ⟨a,0⟩=true)(hl:n.lk ⟨a,0⟩=⟨b,0⟩):Meet n a b:=by
 obtain⟨g1,g2,g3⟩:=aF hG ha
 rw[hl]at g1 g2 g3
 have h1:=sJ.1 ha
 have h2:=sJ.1 g2
 simp only at h1 h2
 have q1:=hG.nds _ _ (OA h1.1 h1.2.1)
 have q2:=hG.nds _ _ (OA h2.1 h2.2.1)
 exact⟨hn,hG,fun e=>g1 (by rw[e]),h1.1,h1.2.1,h2.1,h2.2.1,q1.1,q2.1,hn.nd _ (oP h1.1 h1.2.1),hn.nd _ (oP h2.1 h2.2.1),q1.2.1,q2.2.1,ha,g2,hl,g3⟩
theorem Meet.swap{n:Nt}{a b:Int}(h:Meet n a b):Meet n b a:=Meet.of h.ok h.good h.hb h.lb
theorem Meet.start{n:Nt}{a b:Int}(h:Meet n a b):Run n a b 0 n [⟨a,0⟩,⟨b,0⟩]:=Run.start h.ok h.good h.ha h.la h.ab
theorem Meet.hasA{n:Nt}{a b:Int}(h:Meet n a b){s:Nat}(hs:s<(n.nd a).to.length):n.has ⟨a,s⟩=true:=sJ.2 ⟨h.a0,h.a1,by simp,by simp only;omega⟩
theorem Meet.hasB{n:Nt}{a b:Int}(h:Meet n a b){s:Nat}(hs:s<(n.nd b).to.length):n.has ⟨b,s⟩=true:=sJ.2 ⟨h.b0,h.b1,by simp,by simp only;omega⟩
theorem Meet.kA{n:Nt}{a b:Int}(h:Meet n a b):(n.nd a).k≠0:=Ji h.good.semi h.ha
theorem Meet.kB{n:Nt}{a b:Int}(h:Meet n a b):(n.nd b).k≠0:=Ji h.good.semi h.hb
theorem Meet.lenA{n:Nt}{a b:Int}(h:Meet n a b):1≤(n.nd a).to.length:=by have:=sJ.1 h.ha;simp only at this;omega
theorem Meet.lenB{n:Nt}{a b:Int}(h:Meet n a b):1≤(n.nd b).to.length:=h.swap.lenA
theorem aG(a:Int){k:Nat}(h:1≤k):YZ a 0 k=⟨a,0⟩::YZ a 1 k:=by rw[Ym (by omega)];rfl
theorem iV(a:Int){k:Nat}(h:2≤k):YZ a 1 k=⟨a,1⟩::YZ a 2 k:=by rw[Ym (by omega)];rfl
theorem yf{x:Nd}{k:Nat}(h:(x.to.length:Int)=x.ports)(e:x.ports=k):x.to.length=k:=by omega
theorem RW{x:Nd}(hm:x.may)(h:(x.to.length:Int)=x.ports):x.to.length≤10:=by have:=(to_le hm (by omega)).1;omega
theorem Vw{z:Int}(h0:0≤z)(h1:z≤60):(PN z).may:=
 ⟨by show(0:Int)≤7;omega,by show(7:Int)≤13;omega,h0,h1,fun h=>by have h:(7:Int)<2:=h;omega,by simp[PN],by simp[PN],by simp[PN],by simp[PN],by simp[PN],by simp[PN],fun i a h=>by simp[PN]at h⟩
theorem SC{z:Int}(h0:0≤z)(h1:z≤60):(vQ z).may:=
 ⟨by show(0:Int)≤3;omega,by show(3:Int)≤13;omega,h0,h1,fun h=>by have h:(3:Int)<2:=h;omega,by simp[vQ],by simp[vQ],by simp[vQ],by simp[vQ],by simp[vQ],by simp[vQ],fun i a h=>by simp[vQ]at h⟩
theorem rJ{z:Int}(h0:0≤z)(h1:z≤60):(B6 z).may:=
 ⟨by show(0:Int)≤13;omega,by show(13:Int)≤13;omega,h0,h1,fun h=>by have h:(13:Int)<2:=h;omega,by simp[B6],by simp[B6],by simp[B6],by simp[B6],by simp[B6],by simp[B6],fun i a h=>by simp[B6]at h⟩
theorem sV{z:Int}(h:wf z):(vQ z).Ok:=⟨by show wf 3;decide,h,by show wf 0;decide,by simp[vQ],by simp[vQ],by simp[vQ],by simp[vQ],by simp[vQ]⟩
theorem JO{z:Int}(h:wf z):(B6 z).Ok:=⟨by show wf 13;decide,h,by show wf 0;decide,by simp[B6],by simp[B6],by simp[B6],by simp[B6],by simp[B6]⟩
theorem FZ{x y:Nd}(hx:x.may)(hk:x.k=11):(nz x y).may:=
 ⟨by show(0:Int)≤12;omega,by show(12:Int)≤13;omega,hx.lv0,hx.lv1,fun h=>by have h:(12:Int)<2:=h;omega,by simp only[nz];exact⟨fun _=>by simp,fun _=>hx.nm.2 (by simp[hk])⟩,by simp[nz],by simp[nz],by simp[nz],by simp[nz],by simp[nz],fun i a h=>by simp[nz]at h⟩
theorem ck{x y:Nd}(hx:x.Ok)(hy:y.Ok):(nz x y).Ok:=⟨by show wf 12;decide,hx.lv,hy.n,hx.s,by simp[nz],by simp[nz],by simp[nz],by simp[nz]⟩
def LF(n:Nt)(a b:Int):List Pt:=YZ a 0 (n.nd a).to.length++YZ b 0 (n.nd b).to.length
section
variable{n:Nt}{a b:Int}
theorem Sq(h:Meet n a b)(he:(n.nd a).to.length=(n.nd b).to.length):Run n a b 0 (jI n a b) (LF n a b):=by
 have hl:=h.lenA
 have h1:=Run.joins h.ab (List.range' 1 ((n.nd a).to.length-1)) h.start (Ow ..) (fun s hs=>by
  rw[bE]at hs
  have e:¬s=0:=by omega
  refine⟨h.hasA (by omega),h.hasB (by omega),?_,?_⟩<;>simp[e])
 refine h1.perm ?_
 unfold LF
 rw[←he,aG a hl,aG b hl]
 unfold YZ
 rw[PB];intro q;simp only[Hh,J7,gC,Di];omega
theorem dM(h:Meet n a b)(hx:(n.nd a).k=11)(hy:(n.nd b).k=10)(hu:n.used+1≤n.cap):Run n a b 1 (ik n a b) (LF n a b):=by
 obtain⟨t,g1,g2,g3⟩:=h.start.make (ck h.ka h.kb) (FZ (y:=n.nd b) h.ma hx) (by show¬(12:Int)=0;omega) (by show¬(12:Int)=1;omega) (by omega)
 have e3:(n.nd a).to.length=3:=yf h.pa (by unfold Nd.ports;rw[hx];rfl)
 have e1:(n.nd b).to.length=1:=yf h.pb (by unfold Nd.ports;rw[hy];rfl)
 rw[Xo rfl]at g3
 have ht:(wS n (nz (n.nd a) (n.nd b))).2.1=t:=by rw[g1]
 have a1:=h.hasA (s:=1) (by omega)
 have a2:=h.hasA (s:=2) (by omega)
 have na:a≠t:=g2.new _ a1
 have h1:=Run.move (p:=⟨a,2⟩) (q:=⟨t,0⟩) (L:=[⟨t,1⟩,⟨a,0⟩,⟨b,0⟩]) g3 ((g2.has _).2 (.inl a2)) (by simp[na]) (.inl rfl)
 have h2:=Run.move (p:=⟨a,1⟩) (q:=⟨t,1⟩) (L:=[⟨a,2⟩,⟨a,0⟩,⟨b,0⟩]) (h1.perm (List.Perm.swap ..)) (by rw[(OM _ _ _).has];exact(g2.has _).2 (.inl a1)) (by simp[na]) (.inl rfl)
 have e:ik n a b=(Qs (Qs (wS n (nz (n.nd a) (n.nd b))).1 ⟨a,2⟩ ⟨t,0⟩).1 ⟨a,1⟩ ⟨t,1⟩).1:=by unfold ik;simp only[ht]
 rw[e]
 refine h2.perm ?_
 unfold LF
 rw[e3,e1]
 show List.Perm [(⟨a,1⟩:Pt),⟨a,2⟩,⟨a,0⟩,⟨b,0⟩] [⟨a,0⟩,⟨a,1⟩,⟨a,2⟩,⟨b,0⟩]
 rw[PB];intro q;simp only[J7,Di];omega
theorem W5(h:Meet n a b)(hx:(n.nd a).k=12)(hy:(n.nd b).k=10){x:Nd}(h1:x.may)(h2:x.Ok)(h3:x.ports=1)(h4:x.k≠0)(h5:x.k≠1)(hu:n.used+1≤n.cap):Run n a b 1 (bJ n x a) (LF n a b):=by
 obtain⟨t,g1,g2,g3⟩:=h.start.make h2 h1 h4 h5 (by omega)
 have e3:(n.nd a).to.length=2:=yf h.pa (by unfold Nd.ports;rw[hx];rfl)
 have e1:(n.nd b).to.length=1:=yf h.pb (by unfold Nd.ports;rw[hy];rfl)
 rw[oE h3]at g3
 have ht:(wS n x).2.1=t:=by rw[g1]
 have a1:=h.hasA (s:=1) (by omega)
 have na:a≠t:=g2.new _ a1
 have h1:=Run.move (p:=⟨a,1⟩) (q:=⟨t,0⟩) (L:=[⟨a,0⟩,⟨b,0⟩]) g3 ((g2.has _).2 (.inl a1)) (by simp[na]) (.inl rfl)
 have e:bJ n x a=(Qs (wS n x).1 ⟨a,1⟩ ⟨t,0⟩).1:=by unfold bJ;simp only[ht]
 rw[e]
 refine h1.perm ?_
 unfold LF
 rw[e3,e1]
 show List.Perm [(⟨a,1⟩:Pt),⟨a,0⟩,⟨b,0⟩] [⟨a,0⟩,⟨a,1⟩,⟨b,0⟩]
 exact List.Perm.swap ..
theorem YP(h:Meet n a b)(hx:(n.nd a).k=7)(hu:n.used+((n.nd b).to.length-1)≤n.cap):Run n a b ((n.nd b).to.length-1) (Dt n a b) (LF n a b):=by
 have hl:=h.lenB
 have e1:(n.nd a).to.length=1:=yf h.pa (by unfold Nd.ports;rw[hx];rfl)
 have el:(YZ b 1 (n.nd b).to.length).length=(n.nd b).to.length-1:=VT _ _ _
 obtain⟨g1,g2,g3⟩:=h.start.likes (OP h.ka.lv) (Vw h.ma.lv0 h.ma.lv1) (by show¬(7:Int)=0;omega) (by show¬(7:Int)=1;omega) (by show(0:Int)<1;omega) ((YZ b 1 (n.nd b).to.length).length) (by omega)
 rw[ep rfl]at g3
 have h1:=Run.moves (YZ b 1 (n.nd b).to.length) (Tr n (PN (n.nd a).lv) (YZ b 1 (n.nd b).to.length).length).2 g3 g2.symm (Qt _ _ _) (fun p hp=>by
  obtain⟨q1,q2,q3⟩:=Jd.1 hp
  have hh:n.has p=true:=sJ.2 ⟨by rw[q1];exact h.b0,by rw[q1];exact h.b1,by omega,by rw[q1];omega⟩
  refine⟨(g1.has p).2 (.inl hh),?_,fun hd=>g1.new _ hd p hh rfl,.inr q1⟩
  have:¬p.s=0:=by omega
  simp only[qY,oZ,or_false,not_or]
  exact⟨fun e=>this (by rw[e]),fun e=>this (by rw[e])⟩)
 have e:(0:Int)+((YZ b 1 (n.nd b).to.length).length:Nat)=(n.nd b).to.length-1:=by omega
 rw[e]at h1
 refine Run.perm (n:=Dt n a b) h1 ?_
 unfold LF
 rw[aG b hl,e1]
 show List.Perm _ ([(⟨a,0⟩:Pt)]++_)
 rw[PB];intro q;simp only[Hh,J7,gC,Di];omega
theorem Bj(h:Meet n a b)(hx:2≤(n.nd a).to.length)(hu:n.used+(1+((n.nd a).to.length-2)+((n.nd b).to.length-1))≤n.cap):Run n a b (1+((n.nd a).to.length-2)+((n.nd b).to.length-1)) (GH n a b) (LF n a b):=by
 have hl:=h.lenB
 obtain⟨t,g1,g2,g3⟩:=h.start.make (JO h.ka.lv) (rJ h.ma.lv0 h.ma.lv1) (by show¬(13:Int)=0;omega) (by show¬(13:Int)=1;omega) (by omega)
 rw[oE rfl]at g3
 have ht:(wS n (B6 (n.nd a).lv)).2.1=t:=by rw[g1]
 obtain⟨m,hm⟩:∃m,(wS n (B6 (n.nd a).lv)).1=m:=⟨_,rfl⟩
 rw[hm]at g2 g3
 have na:a≠t:=g2.new _ h.ha
 have nb:b≠t:=g2.new _ h.hb
 have ea:m.nd a=n.nd a:=g2.oth a h.a0 na
 have eb:m.nd b=n.nd b:=g2.oth b h.b0 nb
 have ef:GH n a b=rW (Qs (Tr m (PN (n.nd a).lv) (YZ a 2 (n.nd a).to.length++YZ b 1 (n.nd b).to.length).length).1 ⟨a,1⟩ ⟨t,0⟩).1
   (U2 (YZ a 2 (n.nd a).to.length++YZ b 1 (n.nd b).to.length) (Tr m (PN (n.nd a).lv) (YZ a 2 (n.nd a).to.length++YZ b 1 (n.nd b).to.length).length).2):=by
  unfold GH;simp only[hm,ht,ea,eb]
 obtain⟨l,hl0⟩:∃l,YZ a 2 (n.nd a).to.length++YZ b 1 (n.nd b).to.length=l:=⟨_,rfl⟩
 rw[hl0]at ef
 have el:l.length=(n.nd a).to.length-2+((n.nd b).to.length-1):=by rw[←hl0,GM,VT,VT]
 have hmem:∀p∈l,(p.n=a∧2≤p.s∧p.s<(n.nd a).to.length)∨(p.n=b∧1≤p.s∧p.s<(n.nd b).to.length):=fun p hp=>by
  rw[←hl0,Sw,Jd,Jd]at hp;exact hp
 have hnod:l.Nodup:=by
  rw[←hl0,kE]
  refine⟨Qt _ _ _,Qt _ _ _,fun p hp q hq e=>?_⟩
  subst e
  exact h.ab ((Jd.1 hp).1.symm.trans (Jd.1 hq).1)
 obtain⟨k1,k2,k3⟩:=g3.likes (OP h.ka.lv) (Vw h.ma.lv0 h.ma.lv1) (by show¬(7:Int)=0;omega) (by show¬(7:Int)=1;omega) (by show(0:Int)<1;omega) l.length (by omega)
 rw[ep rfl]at k3
 obtain⟨⟨m2,ds⟩,hr⟩:∃r,Tr m (PN (n.nd a).lv) l.length=r:=⟨_,rfl⟩
 rw[hr]at k1 k2 k3 ef
 simp only at k1 k2 k3 ef
 have a1:=h.hasA (s:=1) (by omega)
 have a1m:m.has ⟨a,1⟩=true:=(g2.has _).2 (.inl a1)
 have had:a∉ds:=fun hd=>k1.new _ hd _ a1m rfl
 have hbd:b∉ds:=fun hd=>k1.new _ hd _ ((g2.has _).2 (.inl h.hb)) rfl
 have htd:t∉ds:=fun hd=>k1.new _ hd ⟨t,0⟩ ((g2.has _).2 (.inr ⟨rfl,by simp,by show(0:Int)<1;omega⟩)) rfl
 have h1:=Run.move (p:=⟨a,1⟩) (q:=⟨t,0⟩) (L:=ds.map (fun d=>(⟨d,0⟩:Pt))++[⟨a,0⟩,⟨b,0⟩]) (k3.perm (by
  rw[PB];intro q;simp only[Hh,J7,gC,Di,Es];omega)) ((k1.has _).2 (.inl a1m)) (by
   simp only[qY,Sw,Om,Pt.mk.injEq,na,false_and,oZ,or_false,false_or,not_or,not_exists,not_and]
   refine⟨fun x hx e=>absurd (e▸hx) had,by simp,by simp⟩) (.inl rfl)
 have h2:=Run.moves l ds (L:=[⟨a,1⟩,⟨a,0⟩,⟨b,0⟩]) (h1.perm (by
  rw[PB];intro q;simp only[Hh,J7,gC,Di,Es];omega)) k2.symm hnod (fun p hp=>by
   have hp2:=hmem p hp
   have hh:n.has p=true:=by
    rcases hp2 with⟨q1,q2,q3⟩|⟨q1,q2,q3⟩
    ·exact sJ.2 ⟨by rw[q1];exact h.a0,by rw[q1];exact h.a1,by omega,by rw[q1];omega⟩
    ·exact sJ.2 ⟨by rw[q1];exact h.b0,by rw[q1];exact h.b1,by omega,by rw[q1];omega⟩
   refine⟨by rw[(OM _ _ _).has];exact(k1.has p).2 (.inl ((g2.has p).2 (.inl hh))),?_,?_,hp2.imp (·.1) (·.1)⟩
   ·simp only[qY,oZ,or_false,not_or]
    have hab:=h.ab
    refine⟨fun e=>?_,fun e=>?_,fun e=>?_⟩<;>rw[e]at hp2<;>simp only at hp2<;>omega
   ·intro hd
    exact k1.new _ hd p ((g2.has p).2 (.inl hh)) rfl)
 rw[←ef]at h2
 have e:(0:Int)+1+(l.length:Nat)=1+((n.nd a).to.length-2)+((n.nd b).to.length-1):=by omega
 rw[e]at h2
 refine Run.perm h2 ?_
 unfold LF
 rw[aG b hl,aG a (by omega),iV a (by omega),←hl0]
 rw[PB];intro q;simp only[Hh,J7,gC,Di];omega
end
section
variable{n:Nt}{a b:Int}
theorem jl{l:List Pt}(hn:l.Nodup){q:Pt}(hq:q∈l):l.Perm (q::l.filter fun r=> !decide (r=q)):=by
 refine(List.perm_ext_iff_of_nodup hn (TL.2 ⟨by simp,hn.sublist oT⟩)).2 fun r=>?_
 simp only[qY,Bo,qp,decide_eq_false_iff_not]
 constructor
 ·intro h
  by_cases e:r=q
  ·exact .inl e
  ·exact .inr ⟨h,e⟩
 ·rintro(h|h)
  ·rw[h];exact hq
  ·exact h.1
theorem zj(h:Meet n a b)(hx:(n.nd a).k=9)(hy:(n.nd b).k=8){i:Nat}{A:Ar}(hA:(n.nd a).al[i]? =some A)(hN:A.n=((n.nd b).to.length:Int)-1)(hu:n.used+(A.n+(n.nd a).al.length-1)≤n.cap):
  Run n a b (A.n+(n.nd a).al.length-1) (uK n i a b) (LF n a b):=by
 have hl:=h.lenB
 have hil:=(QU.1 hA).1
 have e1:(n.nd a).to.length=2+(n.nd a).al.length:=by
  have:=h.pa
  unfold Nd.ports at this;rw[hx]at this
  simp at this;omega
 have hA2:(n.nd a).al.getD i zA=A:=by rw[Kh,hA];rfl
 obtain⟨k,hk⟩:∃k:Nat,A.n=k:=⟨A.n.toNat,by omega⟩
 have el:(n.nd b).to.length=k+1:=by omega
 obtain⟨g1,g2,g3⟩:=h.start.likes (sV h.ka.lv) (SC h.ma.lv0 h.ma.lv1) (by show¬(3:Int)=0;omega) (by show¬(3:Int)=1;omega) (by show(0:Int)<3;omega) k (by omega)
 obtain⟨⟨m,apps⟩,hr⟩:∃r,Tr n (vQ (n.nd a).lv) k=r:=⟨_,rfl⟩
 rw[hr]at g1 g2 g3
 simp only at g1 g2 g3
 have haa:a∉apps:=fun hd=>g1.new _ hd _ h.ha rfl
 have hba:b∉apps:=fun hd=>g1.new _ hd _ h.hb rfl
 have ea:m.nd a=n.nd a:=g1.oth a h.a0 haa
 obtain⟨l,hl0⟩:∃l,rZ m a i=l:=⟨_,rfl⟩
 have hl1:l=(YZ a 2 (n.nd a).to.length).filter fun r=> !decide (r=⟨a,(i:Int)+2⟩):=by rw[←hl0];unfold rZ;rw[ea]
 have hq2:(⟨a,(i:Int)+2⟩:Pt)∈YZ a 2 (n.nd a).to.length:=Jd.2 ⟨rfl,by simp only;omega,by simp only;omega⟩
 have hpl:=jl (Qt a 2 (n.nd a).to.length) hq2
 rw[←hl1]at hpl
 have hll:l.length=(n.nd a).al.length-1:=by
  have:=hpl.length_eq
  rw[VT,Ce]at this;omega
 have hnl:l.Nodup:=(TL.1 (hpl.nodup_iff.1 (Qt _ _ _))).2
 have hql:(⟨a,(i:Int)+2⟩:Pt)∉l:=(TL.1 (hpl.nodup_iff.1 (Qt _ _ _))).1
 have hml:∀p∈l,p.n=a∧2≤p.s∧p.s<(n.nd a).to.length∧p≠⟨a,(i:Int)+2⟩:=fun p hp=>by
  have h1:=Jd.1 (hpl.mem_iff.2 (tT _ hp))
  exact⟨h1.1,h1.2.1,h1.2.2,fun e=>hql (e▸hp)⟩
 obtain⟨k1,k2,k3⟩:=g3.likes (OP h.ka.lv) (Vw h.ma.lv0 h.ma.lv1) (by show¬(7:Int)=0;omega) (by show¬(7:Int)=1;omega) (by show(0:Int)<1;omega) l.length (by omega)
 rw[ep rfl]at k3
 obtain⟨⟨m2,ds⟩,hr2⟩:∃r,Tr m (PN (n.nd a).lv) l.length=r:=⟨_,rfl⟩
 rw[hr2]at k1 k2 k3
 simp only at k1 k2 k3
 have hm:∀p,n.has p=true→m2.has p=true:=fun p hp=>(k1.has p).2 (.inl ((g1.has p).2 (.inl hp)))
 have had:a∉ds:=fun hd=>k1.new _ hd _ ((g1.has _).2 (.inl h.ha)) rfl
 have hbd:b∉ds:=fun hd=>k1.new _ hd _ ((g1.has _).2 (.inl h.hb)) rfl
 have hdd:∀d∈apps,d∉ds:=fun d hd hd2=>k1.new _ hd2 ⟨d,0⟩ ((g1.has _).2 (.inr ⟨hd,by simp,by show(0:Int)<3;omega⟩)) rfl
 have a1:=h.hasA (s:=1) (by omega)
 have aq:n.has ⟨a,(i:Int)+2⟩=true:=by have:=h.hasA (s:=i+2) (by omega);exact this
 have nds:∀(u v:Int),u=a∨u=b→(⟨u,v⟩:Pt)∉ds.map fun d=>(⟨d,0⟩:Pt):=fun u v hu hm=>by
  simp only[Om,Pt.mk.injEq]at hm
  obtain⟨x,hx,e,_⟩:=hm
  rcases hu with hu|hu
  ·exact had (hu▸e▸hx)
  ·exact hbd (hu▸e▸hx)
 have hab:=h.ab
 have hba':¬b=a:=fun e=>hab e.symm
 have i0:¬(i:Int)+2=0:=by omega
 have i1:¬(i:Int)+2=1:=by omega
 have fin:∀(m3:Nt),(∀p,n.has p=true→m3.has p=true)→Run n a b (0+k+l.length) m3 (ds.map (fun d=>(⟨d,0⟩:Pt))++(⟨a,1⟩::⟨a,(i:Int)+2⟩::(YZ b 1 (k+1)++[⟨a,0⟩,⟨b,0⟩])))→
   Run n a b (A.n+(n.nd a).al.length-1) (rW m3 (U2 l ds)) (LF n a b):=by
  intro m3 hm3 hR
  have h2:=Run.moves l ds hR k2.symm hnl (fun p hp=>by
   obtain⟨q1,q2,q3,q4⟩:=hml p hp
   refine⟨hm3 p (sJ.2 ⟨by rw[q1];exact h.a0,by rw[q1];exact h.a1,by omega,by rw[q1];omega⟩),?_,by rw[q1];exact had,.inl q1⟩
   simp only[qY,Sw,Jd,oZ,or_false,not_or]
   refine⟨fun e=>?_,q4,fun e=>?_,fun e=>?_,fun e=>?_⟩
   ·rw[e]at q2;simp only at q2;omega
   ·rw[q1]at e;exact hab e.1
   ·rw[e]at q2;simp only at q2;omega
   ·rw[e]at q1;exact hba' q1)
  have e:(0:Int)+k+(l.length:Nat)=A.n+(n.nd a).al.length-1:=by omega
  rw[e]at h2
  refine Run.perm h2 ?_
  unfold LF
  rw[aG b hl,aG a (by omega),iV a (by omega),el]
  rw[PB];intro q
  have hc:=PB.1 hpl q
  simp only[Hh,J7,gC,Di]at hc⊢
  rw[hc];omega
 cases apps with
 |nil=>
  have hk0:k=0:=by rw[←g2];rfl
  subst hk0
  have e:uK n i a b=rW (iY m2 ⟨a,(i:Int)+2⟩ ⟨a,1⟩).1 (U2 l ds):=by
   unfold uK
   simp only[KA,hA2,hk,hr,hl0,ea,hr2]
   rfl
  rw[e]
  have h1:=k3.join (p:=⟨a,(i:Int)+2⟩) (q:=⟨a,1⟩) (hm _ aq) (hm _ a1) (by
   simp only[SN,Es,Sw,qY,Pt.mk.injEq,i0,hab,and_false,false_and,oZ,or_false];exact nds _ _ (.inl rfl)) (by
   simp only[SN,Es,Sw,qY,Pt.mk.injEq,hab,and_false,false_and,oZ,or_false,not_or];exact⟨nds _ _ (.inl rfl),by omega⟩) (by
   intro e;simp only[Pt.mk.injEq]at e;exact i1 e.2) (.inl rfl) (.inl rfl)
  refine fin _ (fun p hp=>by rw[(mP _ _ _).has];exact hm p hp) (h1.perm ?_)
  rw[sO (by omega)]
  rw[PB];intro q;simp only[SN,Es,Hh,J7,gC,Di];omega
 |cons d r=>
  have e:uK n i a b=rW (rW (Qs m2 ⟨a,(i:Int)+2⟩ ⟨d,0⟩).1 (pn a b 0 (d::r))) (U2 l ds):=by
   unfold uK
   simp only[KA,hA2,hk,hr,hl0,ea,hr2]
  rw[e]
  rw[aC,Z8 rfl]at k3
  have nrr:∀(u v:Int),u=a∨u=b→(⟨u,v⟩:Pt)∉r.flatMap (Ka (vQ (n.nd a).lv)):=fun u v hu hm=>by
   obtain⟨t,ht,hs⟩:=cP.1 hm
   have this:u=t:=(Jd.1 hs).1
   rcases hu with hu|hu
   ·exact haa (tT _ (by rw[←hu,this];exact ht))
   ·exact hba (tT _ (by rw[←hu,this];exact ht))
  have had':¬a=d:=fun e=>haa (by simp[e])
  have hbd':¬b=d:=fun e=>hba (by simp[e])
  have h1:=Run.move (p:=⟨a,(i:Int)+2⟩) (q:=⟨d,0⟩) (L:=⟨d,1⟩::⟨d,2⟩::(r.flatMap (Ka (vQ (n.nd a).lv))++(ds.map (fun d=>(⟨d,0⟩:Pt))++[⟨a,0⟩,⟨b,0⟩]))) (k3.perm (by
   rw[PB];intro q;simp only[Es,Hh,J7,gC,Di];omega)) (hm _ aq) (by
    simp only[Sw,qY,Pt.mk.injEq,i0,hab,had',and_false,false_and,oZ,or_false,false_or,not_or];exact⟨nrr _ _ (.inl rfl),nds _ _ (.inl rfl)⟩) (.inl rfl)
  have h2:=Run.picks (apps:=[]) (lv:=(n.nd a).lv) r d 0 (L:=⟨a,(i:Int)+2⟩::(ds.map (fun d=>(⟨d,0⟩:Pt))++[⟨a,0⟩,⟨b,0⟩])) (h1.perm (by
   rw[PB];intro q;simp only[Es,Hh,J7,gC,Di];omega)) (fun s s1 s2=>by
    have hlen:r.length+1=k:=by rw[←g2];rfl
    refine⟨by rw[(OM _ _ _).has];exact hm _ (h.hasB (by omega)),?_⟩
    have s0:¬(s:Int)=0:=by omega
    simp only[Sw,qY,Pt.mk.injEq,s0,hba',and_false,false_and,oZ,or_false,false_or];exact nds _ _ (.inr rfl)) (by rw[(OM _ _ _).has];exact hm _ a1) (by
    simp only[Sw,qY,Pt.mk.injEq,hab,false_and,oZ,or_false,true_and,not_or]
    exact⟨by omega,nds _ _ (.inl rfl),by omega⟩) haa hba hab
  have hlen:r.length+1=k:=by rw[←g2];rfl
  refine fin _ (fun p hp=>by rw[(y6 _ _).has,(OM _ _ _).has];exact hm p hp) (h2.perm ?_)
  rw[show 0+2+r.length=k+1 by omega]
  rw[PB];intro q;simp only[Fy,Es,Hh,J7,gC,Di];omega
theorem pS{y:Nd}(hy:y.may){lv:Int}(h0:0≤lv)(h1:lv≤60)(hk:¬y.k<2):({y with lv:=lv}:Nd).may:=
 ⟨hy.k0,hy.k1,h0,h1,fun h=>absurd h hk,hy.nm,hy.nn,hy.to8,hy.al9,hy.aln,hy.al8,hy.alt⟩
theorem Ys{k:Int}(h:cls k≠0):k≠0∧k≠1∧¬k<2:=by
 have h1:=Y8 k
 have h2:=uR k
 have h3:=Lq k
 have h4:=dB k
 have h5:=Mm k
 omega
theorem Zc(h:Meet n a b){lv:Int}(hx:cls (n.nd a).k=3)(hy:cls (n.nd b).k≠0)(h0:0≤lv)(h1:lv≤60)(hu:n.used+(((n.nd a).to.length-1:Int)+((n.nd b).to.length-1))≤n.cap):
  Run n a b (((n.nd a).to.length-1:Int)+((n.nd b).to.length-1)) (Z0 n lv a b) (LF n a b):=by
 have la:=h.lenA
 have lb:=h.lenB
 obtain⟨c0,c1,c2⟩:=Ys hy
 obtain⟨x0,x1,x2⟩:=Ys (k:=(n.nd a).k) (by omega)
 have hab:=h.ab
 have hba':¬b=a:=fun e=>hab e.symm
 obtain⟨y,hy0⟩:∃y:Nd,({n.nd b with lv:=lv}:Nd)=y:=⟨_,rfl⟩
 have yk:y.k=(n.nd b).k:=by rw[←hy0]
 have yt:y.to=(n.nd b).to:=by rw[←hy0]
 have yp:y.ports=(n.nd b).ports:=by rw[←hy0];rfl
 have ym:y.may:=by rw[←hy0];exact pS h.mb h0 h1 c2
 have yo:y.Ok:=by rw[←hy0];exact S4 h.kb (by unfold wf;omega)
 have pa:=h.pa
 have pb:=h.pb
 obtain⟨g1,g2,g3⟩:=h.start.likes yo ym (by rw[yk];exact c0) (by rw[yk];exact c1) (by rw[yp];omega) ((n.nd a).to.length-1) (by omega)
 obtain⟨⟨m,cs⟩,hr⟩:∃r,Tr n y ((n.nd a).to.length-1)=r:=⟨_,rfl⟩
 rw[hr]at g1 g2 g3
 simp only at g1 g2 g3
 obtain⟨k1,k2,k3⟩:=g3.likes h.ka h.ma x0 x1 (by omega) ((n.nd b).to.length-1) (by omega)
 obtain⟨⟨m2,ds⟩,hr2⟩:∃r,Tr m (n.nd a) ((n.nd b).to.length-1)=r:=⟨_,rfl⟩
 rw[hr2]at k1 k2 k3
 simp only at k1 k2 k3
 have hm:∀p,n.has p=true→m2.has p=true:=fun p hp=>(k1.has p).2 (.inl ((g1.has p).2 (.inl hp)))
 have hac:a∉cs:=fun hd=>g1.new _ hd _ h.ha rfl
 have hbc:b∉cs:=fun hd=>g1.new _ hd _ h.hb rfl
 have had:a∉ds:=fun hd=>k1.new _ hd _ ((g1.has _).2 (.inl h.ha)) rfl
 have hbd:b∉ds:=fun hd=>k1.new _ hd _ ((g1.has _).2 (.inl h.hb)) rfl
 have e:Z0 n lv a b=rW (rW m2 (U2 (YZ a 1 (n.nd a).to.length) cs)) (NK b cs 0 ds):=by
  unfold Z0;simp only[hy0,hr,yt,hr2]
 rw[e]
 have ey:(Ka y)=fun d=>(⟨d,0⟩:Pt)::YZ d 1 (n.nd b).to.length:=by
  funext d
  unfold Ka
  rw[yp,show(n.nd b).ports.toNat=(n.nd b).to.length by omega,aG d lb]
 have p1:=Ki (fun d:Int=>(⟨d,0⟩:Pt)) (fun d=>YZ d 1 (n.nd b).to.length) cs
 rw[ey]at k3
 have nin:∀(u v:Int) (f:Int→List Pt) (l:List Int),(∀d p,p∈f d→p.n=d)→u∉l→(⟨u,v⟩:Pt)∉l.flatMap f:=fun u v f l hf hu hm=>by
  obtain⟨t,ht,hs⟩:=cP.1 hm
  have:=hf t _ hs
  simp only at this
  exact hu (this▸ht)
 have h1:=Run.moves (YZ a 1 (n.nd a).to.length) cs (L:=ds.flatMap (Ka (n.nd a))++((cs.flatMap fun d=>YZ d 1 (n.nd b).to.length)++[⟨a,0⟩,⟨b,0⟩])) (k3.perm (by
  rw[PB];intro q
  have:=PB.1 p1 q
  simp only[Es,Hh,J7,gC,Di]at this⊢;omega)) (by rw[VT];exact g2.symm) (Qt _ _ _) (fun p hp=>by
   obtain⟨q1,q2,q3⟩:=Jd.1 hp
   obtain⟨u,v⟩:=p
   simp only at q1 q2 q3
   subst q1
   refine⟨hm _ (sJ.2 ⟨h.a0,h.a1,by simp only;omega,by simp only;omega⟩),?_,hac,.inl rfl⟩
   have v0:¬v=0:=by omega
   simp only[Sw,qY,Pt.mk.injEq,v0,and_false,oZ,or_false,not_or]
   exact⟨nin _ _ _ _ (fun d p hp=>(Jd.1 hp).1) had,nin _ _ _ _ (fun d p hp=>(Jd.1 hp).1) hac⟩)
 have h2:=Run.passes (x:=n.nd a) (cs:=cs) (by omega) ds 0 (L:=YZ a 1 (n.nd a).to.length++[⟨a,0⟩,⟨b,0⟩]) (h1.perm (by
  rw[show 0+1+ds.length=(n.nd b).to.length by omega]
  rw[PB];intro q
  simp only[Es,Hh,J7,gC,Di,Fy];omega)) (fun s s1 s2=>by
   refine⟨by rw[(y6 _ _).has];exact hm _ (h.hasB (by omega)),?_⟩
   have s0:¬(s:Int)=0:=by omega
   simp only[Sw,qY,Jd,Pt.mk.injEq,s0,hba',false_and,and_false,oZ,or_false,not_false_eq_true]) hbd hbc
 have ec:(0:Int)+(((n.nd a).to.length-1:Nat):Int)+(((n.nd b).to.length-1:Nat):Int)=((n.nd a).to.length-1:Int)+((n.nd b).to.length-1):=by omega
 rw[ec]at h2
 refine Run.perm h2 ?_
 unfold LF
 rw[aG b lb,aG a la,show 0+1+ds.length=(n.nd b).to.length by omega]
 rw[PB];intro q;simp only[Es,Hh,J7,gC,Di,Fy];omega
theorem Ny(h:Meet n a b){p:Pl}(hp:PlanX (n.nd a) (n.nd b) p)(hu:n.used+Fb p (n.nd a) (n.nd b)≤n.cap):Run n a b (Fb p (n.nd a) (n.nd b)) (oq n p a b) (LF n a b):=by
 have la:=h.lenA
 have lb:=h.lenB
 have ta:=RW h.ma h.pa
 have tb:=RW h.mb h.pb
 have oa:oth (n.nd a)=(n.nd a).to.length-1:=by rw[qj (by omega)];omega
 have ob:oth (n.nd b)=(n.nd b).to.length-1:=by rw[qj (by omega)];omega
 have pa:=h.pa
 have pb:=h.pb
 cases hp with
 |beta h1 hx hy=>
  have e:Fb p (n.nd a) (n.nd b)=0:=by unfold Fb;rw[h1];simp
  have e2:oq n p a b=jI n a b:=by unfold oq;rw[h1];simp
  rw[e,e2]
  refine Sq h ?_
  unfold Nd.ports at pa pb;rw[hx]at pa;rw[hy]at pb
  simp at pa pb;omega
 |join h1 hx hy=>
  have e:Fb p (n.nd a) (n.nd b)=0:=by unfold Fb;rw[h1];simp
  have e2:oq n p a b=jI n a b:=by unfold oq;rw[h1];simp
  rw[e,e2]
  refine Sq h ?_
  have hx2:=(Lq _).1 hx
  have e3:(n.nd a).ports=(n.nd b).ports:=by
   unfold Nd.ports;rw[←hy]
   rcases hx2 with h|h|h<;>rw[h]<;>simp
  omega
 |pick i A h1 hx hy h2 h3 h4=>
  have hil:=(QU.1 h3).1
  have hal:=h.ma.al8
  have hA2:(n.nd a).al.getD i zA=A:=by rw[Kh,h3];rfl
  have e:Fb p (n.nd a) (n.nd b)=A.n+(n.nd a).al.length-1:=by
   unfold Fb;rw[if_pos h1,if_neg (by omega),h2,KA,hA2,Bf (z:=A.n+(n.nd a).al.length) (by omega),Bf (by omega)]
  have e2:oq n p a b=uK n i a b:=by unfold oq;rw[h1,h2];simp
  rw[e]at hu⊢
  rw[e2]
  exact zj h hx hy h3 h4 hu
 |half h1 hx hy=>
  have e:Fb p (n.nd a) (n.nd b)=1:=by unfold Fb;rw[h1];simp
  have e2:oq n p a b=ik n a b:=by unfold oq;rw[h1];simp
  rw[e]at hu⊢
  rw[e2]
  exact dM h hx hy hu
 |out h1 hx hy g1 g2 g3 g4 g5=>
  have e:Fb p (n.nd a) (n.nd b)=1:=by unfold Fb;rw[h1];simp
  have e2:oq n p a b=bJ n p.nd a:=by unfold oq;rw[h1];simp
  rw[e]at hu⊢
  rw[e2]
  exact W5 h hx hy g1 g2 g3 g4 g5 hu
 |fail h1 hx hy=>
  have hx2:=(Y8 _).1 hx
  have hal:=h.ma.al8
  have l2:2≤(n.nd a).to.length:=by
   unfold Nd.ports at pa
   rcases hx2 with h|h|h|h<;>rw[h]at pa<;>simp at pa<;>omega
  have e:Fb p (n.nd a) (n.nd b)=1+((n.nd a).to.length-2)+((n.nd b).to.length-1):=by
   unfold Fb;rw[h1]
   simp only[Int.reduceEq,if_false,or_self,if_true]
   rw[oa,ob,Bf (z:=(n.nd a).to.length-1-1) (by omega),Bf (z:=1+max ((n.nd a).to.length-1-1:Int) 0) (by omega),Bf (by omega)]
   omega
  have e2:oq n p a b=GH n a b:=by unfold oq;rw[h1];simp
  rw[e]at hu⊢
  rw[e2]
  exact Bj h l2 hu
 |pass h1 hx hy g1 g2=>
  have hx2:=(Lq _).1 hx
  have e:Fb p (n.nd a) (n.nd b)=((n.nd a).to.length-1:Int)+((n.nd b).to.length-1):=by
   unfold Fb;rw[h1]
   simp only[Int.reduceEq,if_false,or_self,if_true]
   rw[ob]
   unfold Nd.ports at pa
   by_cases h4:(n.nd a).k=4
   ·rw[if_pos h4,Bf (by omega)]
    rw[h4]at pa;simp at pa;omega
   ·rw[if_neg h4,Bf (by omega)]
    rcases hx2 with h|h|h
    ·exact absurd h h4
    ·rw[h]at pa;simp at pa;omega
    ·rw[h]at pa;simp at pa;omega
  have e2:oq n p a b=Z0 n p.lv a b:=by unfold oq;rw[h1];simp
  rw[e]at hu⊢
  rw[e2]
  exact Zc h hx hy g1 g2 hu
 |drop h1 hx hy=>
  have e:Fb p (n.nd a) (n.nd b)=(n.nd b).to.length-1:=by unfold Fb;rw[h1];simp[ob]
  have e2:oq n p a b=Dt n a b:=by unfold oq;rw[h1];simp
  rw[e]at hu⊢
  rw[e2]
  exact YP h hx hu
end
theorem Meet.two{n:Nt}{a b:Int}(h:Meet n a b):Two n a b 4000:=
 ⟨h.ok,W2 h.good,h.a0,h.a1,h.b0,h.b1,by have:=RW h.ma h.pa;omega,by have:=RW h.mb h.pb;omega,h.kA,h.kB⟩
theorem BK{n:Nt}(hn:n.Ok)(i:Int):(ti n i).1.Ok∧(ti n i).1.ns.length≤n.ns.length:=by
 unfold ti
 split
 ·exact⟨Tq hn i,eB n i⟩
 ·exact⟨hn,nh _⟩
theorem jN{ks:Key}{n:Nt}{pl:Pl}{a b:Int}{σ:St}(hM:Meet n a b)(hp:PlanX (n.nd a) (n.nd b) pl)(hu:n.used+Fb pl (n.nd a) (n.nd b)≤n.cap)(h:SG ks n pl a b σ):
  ∃σ',eS S (.f 42) [.a (.ptr ks 0 0)] σ=some (.u,σ')∧SG ks (Ks n pl a b) pl a b σ'∧Fr ks σ σ':=by
 have hT:=hM.two
 have hR:=Ny hM hp hu
 have hbig:=dp hR.semi
 have s0:=h.bs
 simp only[stg,zx,XM]at s0
 have hmx:(if b>a then b else a)=max a b:=by omega
 have hmn:(if b<a then b else a)=min a b:=by omega
 obtain⟨Z,hZ⟩:∃Z:C,(.seq (.reg [
 ir 58 (.mv (.t 0)),ir 59 (.nck (.t 58)),ir 60 (.fad 12 (.t 59)),ir 61 (.ld 1 false (.t 60)),ir 62 (.mv (.t 0)),ir 63 (.nck (.t 62)),ir 64 (.fad 13 (.t 63)),ir 65 (.ld 1 false (.t 64)),ir 66 (.mx (.t 61) (.t 65)),
 ir 67 (.mv (.t 0)),ir 68 (.nck (.t 67)),ir 69 (.fad 12 (.t 68)),ir 70 (.ld 1 false (.t 69)),ir 71 (.mv (.t 0)),ir 72 (.nck (.t 71)),ir 73 (.fad 13 (.t 72)),ir 74 (.ld 1 false (.t 73)),ir 75 (.mn (.t 70) (.t 74)),
 ⟨some 76,none,.bsl 1 3 [(.p (.i .i64 0))] 2 [(0,.t 66),(1,.t 75)],.ad⟩,ir 77 (.len false (.t 76)),ir 78 (.mv (ci 0))]) (.block 1 (.loop F42b0)))=Z:=⟨_,rfl⟩
 have rest:∀(e:Env) (σ1:St),e 0= .a (.ptr ks 0 0)→SG ks (oq n pl a b) pl a b σ1→Fr ks σ σ1→wp S false Z e σ1 (DY [] fun v σ'=>v= .u∧SG ks (Ks n pl a b) pl a b σ'∧Fr ks σ σ'):=by
  intro e σ1 e0 hS hF
  rw[←hZ]
  have c1:=pX (n:=oq n pl a b) hR.ok (by omega) (max a b)
  obtain⟨o1,o2⟩:=BK hR.ok (max a b)
  have c2:=pX (n:=(ti (oq n pl a b) (max a b)).1) o1 (by omega) (min a b)
  have hst:Ks n pl a b=(ti (ti (oq n pl a b) (max a b)).1 (min a b)).1:=rfl
  rw[hst]
  obtain⟨m,hm⟩:∃m,oq n pl a b=m:=⟨_,rfl⟩
  rw[hm]at hS c1 c2⊢
  obtain⟨⟨m1,e1⟩,hm1⟩:∃r,ti m (max a b)=r:=⟨_,rfl⟩
  rw[hm1]at c1 c2⊢
  simp only at c1 c2⊢
  obtain⟨⟨m2,e2⟩,hm2⟩:∃r,ti m1 (min a b)=r:=⟨_,rfl⟩
  rw[hm2]at c2⊢
  have t1:=hS.bs
  have hlt:=hS.lt
  have ne0:∀d,¬ks=(d,σ1.clk):=by rintro d rfl;simp at hlt
  have ne1:∀d,¬(d,σ1.clk)=ks:=fun d e=>ne0 d e.symm
  simp only[stg,zx,XM]at t1
  simp only[Ip,qX]at c1 c2
  simp only[F42b0,xi,e0,t1,hmx,hmn,c1,c2,ne0,ne1,iX,Ci,KA,Fy,Mz,Int.reduceLE,Int.reduceLT,Int.reduceToNat,Int.reduceAdd,Int.reduceSub,Int.reduceNeg,kS,qI 1 (by decide),qI 2 (by decide),uv,Of,aV,Nl,jP,Ci,pV,Dv,zD,Vr,sameP,sameR,sameRR_rfl,decide_true,iX,Wk,nxB,evO,simprocAttr]
  exact⟨SG.set (n:=m2) (p:=pl) (a:=a) (b:=b) (by simp only[Rt,Bv];omega),((hF.add _ _).put (.inl rfl) _).put (.inl rfl) _⟩
 refine Zy (fc:=F42) rfl rfl ?_
 have fin:∀(e:Env) (σ1:St),e 0= .a (.ptr ks 0 0)→SG ks (oq n pl a b) pl a b σ1→Fr ks σ σ1→tM 0 (Q5 S false Z (DY [] fun v σ'=>v= .u∧SG ks (Ks n pl a b) pl a b σ'∧Fr ks σ σ')) .norm e σ1:=by
  intro e σ1 h1 h2 h3
  simp only[eW,ZH]
  exact rest e σ1 h1 h2 h3
 have hta:=hT.ta
 have htb:=hT.tb
 cases hp with
 |beta h1 hx hy=>
  obtain⟨σ1,q1,hS1,hF1⟩:=so hT (by omega) h
  have e2:oq n pl a b=jI n a b:=by unfold oq;rw[h1];simp
  rw[←e2]at hS1
  rw[h1]at s0
  simp only[F42,hZ,s0,q1,Int.reduceEq,uv,Of,aV,Nl,jP,Ci,pV,Dv,zD,Vr,sameP,sameR,sameRR_rfl,decide_true,iX,Wk,nxB,evO,simprocAttr]
  exact rest _ _ (by simp only[nxB,evO,simprocAttr]) hS1 hF1
 |join h1 hx hy=>
  obtain⟨σ1,q1,hS1,hF1⟩:=so hT (by omega) h
  have e2:oq n pl a b=jI n a b:=by unfold oq;rw[h1];simp
  rw[←e2]at hS1
  rw[h1]at s0
  simp only[F42,hZ,s0,q1,Int.reduceEq,uv,Of,aV,Nl,jP,Ci,pV,Dv,zD,Vr,sameP,sameR,sameRR_rfl,decide_true,iX,Wk,nxB,evO,simprocAttr]
  exact rest _ _ (by simp only[nxB,evO,simprocAttr]) hS1 hF1
 |pick i A h1 hx hy h2 h3 h4=>
  have hal:=hM.ma.al8
  have ha8:=hM.ma.alt i A h3
  obtain⟨σ1,q1,hS1,hF1⟩:=uw hT (by omega) h2 h3 ha8.2.1 (by omega) (by omega) h
  have e2:oq n pl a b=uK n pl.alt a b:=by unfold oq;rw[h1];simp
  rw[←e2]at hS1
  rw[h1]at s0
  simp only[F42,hZ,s0,q1,Int.reduceEq,uv,Of,aV,Nl,jP,Ci,pV,Dv,zD,Vr,sameP,sameR,sameRR_rfl,decide_true,iX,Wk,nxB,evO,simprocAttr]
  exact rest _ _ (by simp only[nxB,evO,simprocAttr]) hS1 hF1
 |half h1 hx hy=>
  obtain⟨σ1,q1,hS1,hF1⟩:=Oc hT (by omega) h
  have e2:oq n pl a b=ik n a b:=by unfold oq;rw[h1];simp
  rw[←e2]at hS1
  rw[h1]at s0
  simp only[F42,hZ,s0,q1,Int.reduceEq,uv,Of,aV,Nl,jP,Ci,pV,Dv,zD,Vr,sameP,sameR,sameRR_rfl,decide_true,iX,Wk,nxB,evO,simprocAttr]
  exact rest _ _ (by simp only[nxB,evO,simprocAttr]) hS1 hF1
 |out h1 hx hy g1 g2 g3 g4 g5=>
  have hbg:=hT.big
  obtain⟨σ1,q1,hS1,hF1⟩:=Kg (x:=pl.nd) hT.ok (by omega) g2 (NC.p _) (NC.p _) h
  have hti:=zg (n:=n) (x:=pl.nd) (by omega)
  have hOk:=(gQ (x:=pl.nd) hT.ok g2 (by omega)).1
  have e2:oq n pl a b=(Qs (wS n pl.nd).1 ⟨a,1⟩ ⟨(wS n pl.nd).2.1,0⟩).1:=by unfold oq bJ;rw[h1];simp
  obtain⟨⟨m,t,ee⟩,hmk⟩:∃r,wS n pl.nd=r:=⟨_,rfl⟩
  rw[hmk]at q1 hS1 hti hOk e2
  simp only at q1 hS1 hti hOk e2
  obtain⟨σ2,q2,hS2,hF2⟩:=El (p:=⟨a,1⟩) (q:=⟨t,0⟩) hOk (hT.pa (by omega) (by omega)) ⟨hti,L2⟩ hS1
  have p1:=Yb a 1
  have p2:=Yb t 0
  have u1:=hS1.bs
  rw[←e2]at hS2
  simp only[stg,zx,XM]at u1
  rw[h1]at s0 u1
  simp only[F42,hZ,s0,u1,q1,q2,p1,p2,Int.reduceEq,uv,Of,aV,Nl,jP,Ci,pV,Dv,zD,Vr,sameP,sameR,sameRR_rfl,decide_true,iX,Wk,nxB,evO,simprocAttr]
  exact rest _ _ (by simp only[nxB,evO,simprocAttr]) hS2 (hF1.trans hF2)
 |fail h1 hx hy=>
  obtain⟨σ1,q1,hS1,hF1⟩:=Dm hT (by omega) h
  have e2:oq n pl a b=GH n a b:=by unfold oq;rw[h1];simp
  rw[←e2]at hS1
  rw[h1]at s0
  simp only[F42,hZ,s0,q1,Int.reduceEq,uv,Of,aV,Nl,jP,Ci,pV,Dv,zD,Vr,sameP,sameR,sameRR_rfl,decide_true,iX,Wk,nxB,evO,simprocAttr]
  exact rest _ _ (by simp only[nxB,evO,simprocAttr]) hS1 hF1
 |pass h1 hx hy g1 g2=>
  obtain⟨σ1,q1,hS1,hF1⟩:=Hw hT (by omega) (fB g1 (by omega)) hM.lenA hM.lenB h
  have e2:oq n pl a b=Z0 n pl.lv a b:=by unfold oq;rw[h1];simp
  rw[←e2]at hS1
  rw[h1]at s0
  simp only[F42,hZ,s0,q1,Int.reduceEq,uv,Of,aV,Nl,jP,Ci,pV,Dv,zD,Vr,sameP,sameR,sameRR_rfl,decide_true,iX,Wk,nxB,evO,simprocAttr]
  exact rest _ _ (by simp only[nxB,evO,simprocAttr]) hS1 hF1
 |drop h1 hx hy=>
  have hbg:=hT.big
  obtain⟨σ1,v,q1,hS1,hF1,hL1⟩:=TX (j:=1) (jz:=1) rfl (by omega) hT.b0 hT.b1 hT.xb.to h
  obtain⟨l,hl⟩:∃l,YZ b 1 (n.nd b).to.length=l:=⟨_,rfl⟩
  have nl:l.length≤100:=by rw[←hl,VT];omega
  have wl:∀p∈l,wfP p:=by intro p hp;rw[←hl]at hp;exact(E5 hT (by omega)).2 p hp
  rw[hl]at hL1
  have e2:oq n pl a b=rW (Tr n (PN (n.nd a).lv) l.length).1 (U2 l (Tr n (PN (n.nd a).lv) l.length).2):=by unfold oq Dt;rw[h1];simp[hl]
  obtain⟨σ2,f,q2,hS2,hF2,hDC⟩:=FC (l:=l) hT.ok (by omega) hT.a0 hT.a1 hS1 hL1
  have hdx:=OP hT.xa.lv
  obtain⟨o1,o2,o3⟩:=HV hT.ok hdx l.length (by omega)
  obtain⟨k0,k1,k2,σ3,rfl,q3,hS3,hF3⟩:=Kk o1 wl (rn hT.ok hdx _ (by omega)) (by omega) (by omega) hS2 hDC
  rw[←e2]at hS3
  rw[h1]at s0
  simp only[F42,hZ,s0,q1,q2,q3,Int.reduceEq,uv,Of,aV,Nl,jP,Ci,pV,Dv,zD,Vr,sameP,sameR,sameRR_rfl,decide_true,iX,Wk,nxB,evO,simprocAttr]
  exact rest _ _ (by simp only[nxB,evO,simprocAttr]) hS3 ((hF1.trans hF2).trans hF3)
theorem kL(n:Nt)(i:Int):eP S 38 [.g (Ip n),.a (.i .i64 i)]=some (.a (.i .i64 (Ga n i))):=by
 refine Cf (xO (by decide)) (fc:=F38) rfl rfl ?_
 have c1:=pQ n ⟨i,0⟩
 have p1:=Yb i 0
 unfold Ga
 obtain⟨q,hq⟩:∃q,n.lk ⟨i,0⟩=q:=⟨_,rfl⟩
 rw[hq]at c1⊢
 simp only[Ip,xN]at c1
 by_cases h1:n.has ⟨i,0⟩=true
 ·by_cases h2:q.s=0
  ·simp only[h1,if_true,xN]at c1
   simp only[F38,Ip,c1,p1,h1,h2,nxB,evO,simprocAttr]
  ·simp only[h1,if_true,xN]at c1
   simp only[F38,Ip,c1,p1,h1,h2,nxB,evO,simprocAttr]
 ·simp only[h1,SY,if_false,zP,xN]at c1
  simp only[F38,Ip,c1,p1,h1,Int.reduceEq,nxB,evO,simprocAttr]
def B9(x:Nt×Pl×Int):PT:=.t [(true,Ip x.1),(true,II x.2.1),(false,[.i .i64 x.2.2])]
theorem Em{n:Nt}{i:Int}(hn:n.Ok)(hG:n.Good)(h:¬Ga n i<0):Meet n i (Ga n i):=by
 unfold Ga at h⊢
 by_cases hc:n.has ⟨i,0⟩=true∧(n.lk ⟨i,0⟩).s=0
 ·rw[if_pos hc]
  refine Meet.of hn hG hc.1 ?_
  obtain⟨q,hq⟩:∃q,n.lk ⟨i,0⟩=q:=⟨_,rfl⟩
  rw[hq]at hc⊢
  obtain⟨u,v⟩:=q
  simp only at hc
  rw[hc.2]
 ·rw[if_neg hc]at h;omega
theorem Hv{n:Nt}{a b:Int}{p:Pl}(hM:Meet n a b)(hp:PlanX (n.nd a) (n.nd b) p):0≤Fb p (n.nd a) (n.nd b)∧Fb p (n.nd a) (n.nd b)≤30:=by
 have ta:=RW hM.ma hM.pa
 have tb:=RW hM.mb hM.pb
 have la:=hM.lenA
 have lb:=hM.lenB
 have oa:oth (n.nd a)=(n.nd a).to.length-1:=by rw[qj (by omega)];omega
 have ob:oth (n.nd b)=(n.nd b).to.length-1:=by rw[qj (by omega)];omega
 have hal:=hM.ma.al8
 have w1:∀z:Int,-1000≤z→z≤1000→wr z=z:=fun z h1 h2=>Bf (by omega)
 unfold Fb
 rw[oa,ob]
 split
 ·split
  ·omega
  ·rename_i h2 h3
   cases hp with
   |pick i A h1 hx hy g2 g3 g4=>
    have hil:=(QU.1 g3).1
    have hA2:(n.nd a).al.getD p.alt.toNat zA=A:=by rw[g2,KA,Kh,g3];rfl
    have:=hM.ma.alt i A g3
    rw[hA2,w1 (A.n+(n.nd a).al.length) (by omega) (by omega),w1 _ (by omega) (by omega)];omega
   |_=>omega
 split
 ·omega
 split
 ·rw[w1 ((n.nd a).to.length-1-1) (by omega) (by omega),w1 (1+max _ _) (by omega) (by omega),w1 _ (by omega) (by omega)];omega
 split
 ·split
  ·rw[w1 _ (by omega) (by omega)];omega
  ·rw[w1 _ (by omega) (by omega)];omega
 split
 ·omega
 ·omega
theorem BY{n:Nt}{i:Int}(hn:n.Ok):eP S 21 [.g (Ip n),.a (.i .i64 i)]=some (B9 (doR n i)):=by
 refine Cf (xO (by decide)) (fc:=F21) rfl rfl ?_
 have c1:=Hi hn
 have c2:=kL n i
 by_cases hG:n.Good
 case neg=>
  have hd:doR n i=(n,p0,120):=by unfold doR;rw[qy hG];rfl
  rw[hd]
  rw[qy hG]at c1
  simp only[SY,if_false,Ip]at c1
  simp only[F21,c1,B9,Ip,II,p0,zN,Int.reduceEq,XM,nxB,evO,simprocAttr]
 rw[Pb hG]at c1
 simp only[if_true,Ip]at c1
 simp only[Ip]at c2
 by_cases hm:Ga n i<0
 ·have hd:doR n i=(n,p0,122):=by unfold doR;rw[Pb hG];simp[hm]
  rw[hd]
  simp only[F21,c1,c2,hm,B9,Ip,II,p0,zN,Int.reduceEq,XM,nxB,evO,simprocAttr]
 have hM:=Em hn hG hm
 obtain⟨k,hk⟩:∃k,Ga n i=k:=⟨_,rfl⟩
 obtain⟨⟨p,e⟩,hr⟩:∃r,ofR (n.nd i) (n.nd k)=r:=⟨_,rfl⟩
 have hd:doR n i=if e≠0 then(n,p0,e)else if wr (n.used+OQ p (n.nd i) (n.nd k))>n.cap then(n,p0,121)
   else(Ks n p (if p.sw=true then k else i) (if p.sw=true then i else k),p,0):=by
  unfold doR
  rw[Pb hG]
  simp only[hk,hr]
  rw[if_neg (by simp),if_neg (by rw[←hk];exact hm)]
 rw[hk]at hM hm c2
 have c3:=DH hM.ka hM.kb
 have ga:=vH (l:=n.ns) hM.a0 hM.a1
 have gb:=vH (l:=n.ns) hM.b0 hM.b1
 have a0:=hM.a0
 have a1:=hM.a1
 have b0:=hM.b0
 have b1:=hM.b1
 have hX:=JT hM.ma hM.mb hM.ka hM.kb hM.pa hM.pb
 have c4:=Ig hn
 have c5:=LD (p:=p) (a:=n.nd i) (b:=n.nd k)
 have hna:n.ns.getD i.toNat zN=n.nd i:=rfl
 have hnb:n.ns.getD k.toNat zN=n.nd k:=rfl
 rw[hna]at ga
 rw[hnb]at gb
 rw[hr]at c3 hX
 have hpe:p.nd.Ok:=by have:=of_nd hM.ka hM.kb;rw[hr]at this;exact this
 simp only[si,II,Ug]at c3
 simp only[Ip]at c4
 simp only[II,Ug]at c5
 simp only[Ug]at ga gb
 by_cases he:e=0
 case neg=>
  rw[if_pos he]at hd
  rw[hd]
  simp only[F21,c1,c2,c3,hm,he,ga,gb,a0,a1,b0,b1,XY,B9,Ip,II,p0,zN,Int.reduceEq,XM,mB,nxB,evO,simprocAttr]
 subst he
 rw[if_neg (by simp)]at hd
 have hX:=hX rfl
 by_cases hu:wr (n.used+OQ p (n.nd i) (n.nd k))>n.cap
 ·rw[if_pos hu]at hd
  rw[hd]
  unfold wr at hu
  simp only[F21,c1,c2,c3,c4,c5,hm,hu,ga,gb,a0,a1,b0,b1,XY,B9,Ip,II,p0,zN,Int.reduceEq,XM,mB,nxB,evO,simprocAttr]
 rw[if_neg hu]at hd
 rw[hd]
 have hub:=tP hG
 have hgb:=hG.cap2
 have hu0:0≤n.used:=(ij n.ns).1
 have hu':=hu
 unfold wr at hu'
 obtain⟨τ,hτ⟩:∃τ,τ=((((St.empty.add 2 (Blk.var [AV.p (PV.l (n.ns.map Ug)),AV.p (PV.i .i64 n.cap)])).add 4 (Blk.var [AV.nil,AV.p (PV.i .i64 0)])).add 5
  (Blk.var [AV.p (PV.i .i64 0),AV.p (PV.b false),AV.p (PV.i .i64 0),AV.p (PV.i .i64 0),AV.p (PV.i .i64 0),AV.p (PV.i .i64 0),AV.p (PV.i .i64 0),AV.p (PV.s []),AV.nil,AV.nil])).add 9
  (Blk.var [AV.p (PV.i .i64 0),AV.p (PV.b false),AV.p (PV.i .i64 0),AV.p (PV.i .i64 0),AV.p (PV.i .i64 0),AV.p (PV.i .i64 0),AV.p (PV.i .i64 0),AV.p (PV.s []),AV.nil,AV.nil])).put (9,3)
  (Blk.var [AV.p (PV.i .i64 p.k),AV.p (PV.b p.sw),AV.p (PV.i .i64 p.lv),AV.p (PV.i .i64 p.alt),AV.p (PV.i .i64 p.nd.k),AV.p (PV.i .i64 p.nd.lv),AV.p (PV.i .i64 p.nd.n),AV.p (PV.s p.nd.s),AV.p (PV.l (p.nd.al.map uO)),AV.p (PV.l (p.nd.to.map xN))]):=⟨_,rfl⟩
 have tc:τ.clk=4:=by rw[hτ];rfl
 have t2:τ.bs (2,0)=some (Blk.var [AV.p (PV.l (n.ns.map Ug)),AV.p (PV.i .i64 n.cap)]):=by rw[hτ];rfl
 have t4:τ.bs (4,1)=some (Blk.var [AV.nil,AV.p (PV.i .i64 0)]):=by rw[hτ];rfl
 have t5:τ.bs (5,2)=some (Blk.var [AV.p (PV.i .i64 0),AV.p (PV.b false),AV.p (PV.i .i64 0),AV.p (PV.i .i64 0),AV.p (PV.i .i64 0),AV.p (PV.i .i64 0),AV.p (PV.i .i64 0),AV.p (PV.s []),AV.nil,AV.nil]):=by rw[hτ];rfl
 have t9:τ.bs (9,3)=some (Blk.var [AV.p (PV.i .i64 p.k),AV.p (PV.b p.sw),AV.p (PV.i .i64 p.lv),AV.p (PV.i .i64 p.alt),AV.p (PV.i .i64 p.nd.k),AV.p (PV.i .i64 p.nd.lv),AV.p (PV.i .i64 p.nd.n),AV.p (PV.s p.nd.s),AV.p (PV.l (p.nd.al.map uO)),AV.p (PV.l (p.nd.to.map xN))]):=by rw[hτ];rfl
 cases hsw:p.sw with
 |false=>
  have hnr:OQ p (n.nd i) (n.nd k)=Fb p (n.nd i) (n.nd k):=by unfold OQ;rw[hsw];rfl
  rw[hnr]at hu
  rw[hsw]at hX
  simp only[SY,if_false]at hX⊢
  obtain⟨n0,n1⟩:=Hv hM hX
  rw[Bf (by omega)]at hu
  obtain⟨σ1,hσ1⟩:∃σ1,σ1=τ.add 72 (.var ((stg n p i k).map .p)):=⟨_,rfl⟩
  have hS1:SG (72,4) n p i k σ1:=⟨by rw[hσ1];simp[Mq,tc],by rw[hσ1];simp[Bv,tc]⟩
  obtain⟨σ2,q2,hS2,hF2⟩:=jN hM hX (by omega) hS1
  have hc1:σ1.clk=5:=by rw[hσ1];simp[Bv,tc]
  have gk:∀q:Key,q.2<4→σ2.bs q=τ.bs q:=fun q hq=>by
   have h1:¬q=(72,4):=by rintro rfl;simp at hq
   refine(hF2.bs q (by omega) h1).trans ?_
   rw[hσ1];simp only[Mq,tc,h1,if_false]
  have v4:=(gk (4,1) (by decide)).trans t4
  have v5:=(gk (5,2) (by decide)).trans t5
  have v9:=(gk (9,3) (by decide)).trans t9
  have w9:σ1.bs (9,3)=τ.bs (9,3):=by rw[hσ1];simp[Mq,tc]
  rw[t9]at w9
  have vk:=hS2.bs
  simp only[stg,zx,XM]at vk hσ1
  rw[hsw]at c3 c5 hτ v9 vk hσ1 t9 w9
  simp only[F21,c1,c2,c3,c4,c5,hm,hu',hsw,ga,gb,a0,a1,b0,b1,←hτ,tc,t2,t4,t5,t9,←hσ1,w9,q2,v4,v5,v9,vk,XY,B9,Ip,II,p0,zN,Int.reduceEq,XM,mB,iX,nxB,evO,simprocAttr]
 |true=>
  have hnr:OQ p (n.nd i) (n.nd k)=Fb p (n.nd k) (n.nd i):=by unfold OQ;rw[hsw];rfl
  rw[hnr]at hu
  rw[hsw]at hX
  simp only[if_true]at hX⊢
  have hM':=hM.swap
  obtain⟨n0,n1⟩:=Hv hM' hX
  rw[Bf (by omega)]at hu
  obtain⟨σ0,hσ0⟩:∃σ0,σ0=τ.add 72 (.var ((stg n p i k).map .p)):=⟨_,rfl⟩
  have hk0:σ0.bs (72,4)=some (.var ((stg n p i k).map .p)):=by rw[hσ0];simp[Mq,tc]
  obtain⟨σ1,hσ1⟩:∃σ1,σ1=(σ0.put (72,4) (.var ((stg n p k k).map .p))).put (72,4) (.var ((stg n p k i).map .p)):=⟨_,rfl⟩
  have hS1:SG (72,4) n p k i σ1:=⟨by rw[hσ1];simp[xL],by rw[hσ1,hσ0];simp[Rt,Bv,tc]⟩
  obtain⟨σ2,q2,hS2,hF2⟩:=jN hM' hX (by omega) hS1
  have hc1:σ1.clk=5:=by rw[hσ1,hσ0];simp[Rt,Bv,tc]
  have gk1:∀q:Key,q.2<4→σ1.bs q=τ.bs q∧σ0.bs q=τ.bs q:=fun q hq=>by
   have h1:¬q=(72,4):=by rintro rfl;simp at hq
   rw[hσ1,hσ0]
   simp only[xL,Mq,tc,h1,if_false,and_self]
  have gk:∀q:Key,q.2<4→σ2.bs q=τ.bs q:=fun q hq=>by
   have h1:¬q=(72,4):=by rintro rfl;simp at hq
   exact(hF2.bs q (by omega) h1).trans (gk1 q hq).1
  have v4:=(gk (4,1) (by decide)).trans t4
  have v5:=(gk (5,2) (by decide)).trans t5
  have v9:=(gk (9,3) (by decide)).trans t9
  have w9:=(gk1 (9,3) (by decide)).2.trans t9
  have vk:=hS2.bs
  simp only[stg,zx,XM]at vk hσ1 hσ0 hk0
  rw[hsw]at c3 c5 hτ v9 vk hσ1 hσ0 hk0 t9 w9
  simp only[F21,c1,c2,c3,c4,c5,hm,hu',hsw,ga,gb,a0,a1,b0,b1,←hτ,tc,t2,t4,t5,t9,←hσ0,hk0,←hσ1,w9,q2,v4,v5,v9,vk,XY,B9,Ip,II,p0,zN,Int.reduceEq,XM,mB,iX,nxB,evO,simprocAttr]
structure Stepped(n:Nt)(a b:Int)(c:Int)(m:Nt):Prop where
 ok:m.Ok
 good:m.Good
 cap:m.cap=n.cap
 used:m.used=n.used-2+c
 old:∀(j:Nat) (x:Nd),n.ns[j]? =some x→x.k≠0→(j:Int)≠a→(j:Int)≠b→∃y,m.ns[j]? =some y∧y={x with to:=y.to}∧y.to.length=x.to.length
 keep:∀r,n.has r=true→r.n≠a→r.n≠b→(n.lk r).n≠a→(n.lk r).n≠b→m.has r=true∧m.lk r=n.lk r
theorem Stepped.swap{n m:Nt}{a b c:Int}(h:Stepped n a b c m):Stepped n b a c m:=
 ⟨h.ok,h.good,h.cap,h.used,fun j x h1 h2 h3 h4=>h.old j x h1 h2 h4 h3,fun r h1 h2 h3 h4 h5=>h.keep r h1 h3 h2 h5 h4⟩
theorem ch{n:Nt}{a b:Int}{r:Pt}:r∈LF n a b↔(r.n=a∧0≤r.s∧r.s<(n.nd a).to.length)∨(r.n=b∧0≤r.s∧r.s<(n.nd b).to.length):=by
 unfold LF
 rw[Sw,Jd,Jd]
 exact Iff.rfl
theorem iv{x y:Nd}{p:Pl}(h:PlanX x y p):x.k≠1∧y.k≠1:=by
 have c1:=Y8 x.k
 have c2:=uR y.k
 have c3:=Lq x.k
 cases h with
 |pass h hx hy h1 h2=>have:=Ys hy;omega
 |drop h hx hy=>have:=Ys hy;omega
 |_=>omega
theorem OW{n0 n:Nt}{a b c:Int}(hM:Meet n0 a b)(ka:(n0.nd a).k≠1)(kb:(n0.nd b).k≠1)(h:Run n0 a b c n (LF n0 a b)){i j:Nat}(hij:(i:Int)=a∧(j:Int)=b∨(i:Int)=b∧(j:Int)=a):
  Stepped n0 a b c (ti (ti n i).1 j).1:=by
 have hab:=hM.ab
 have node:∀t:Int,0≤t→t<n0.ns.length→(n0.nd t).k≠0→(n0.nd t).k≠1→∃x,n.ns[t.toNat]? =some x∧x.k≠0∧x.to.length=(n0.nd t).to.length∧1≤t:=by
  intro t h0 h1 hk hk1
  obtain⟨y,g1,g2,g3⟩:=h.old _ _ (OA h0 h1) hk
  refine⟨y,g1,by rw[g2];exact hk,g3,?_⟩
  have g:=(hM.good.nds _ _ (OA h0 h1)).2.2.1
  by_cases e:t=0
  ·exact absurd (g.1 (by omega)) hk1
  ·omega
 have both:∀t:Nat,(t:Int)=a∨(t:Int)=b→∃x,n.ns[t]? =some x∧x.k≠0∧1≤t∧∀p,n.has p=true→p.n=t→p∈LF n0 a b:=by
  intro t ht
  rcases ht with ht|ht
  ·obtain⟨x,g1,g2,g3,g4⟩:=node a hM.a0 hM.a1 hM.kA ka
   rw[show a.toNat=t by omega]at g1
   refine⟨x,g1,g2,by omega,fun p hp e=>ch.2 (.inl ?_)⟩
   have h1:=sJ.1 hp
   rw[e,EZ g1,g3]at h1
   exact⟨by omega,h1.2.2.1,h1.2.2.2⟩
  ·obtain⟨x,g1,g2,g3,g4⟩:=node b hM.b0 hM.b1 hM.kB kb
   rw[show b.toNat=t by omega]at g1
   refine⟨x,g1,g2,by omega,fun p hp e=>ch.2 (.inr ?_)⟩
   have h1:=sJ.1 hp
   rw[e,EZ g1,g3]at h1
   exact⟨by omega,h1.2.2.1,h1.2.2.2⟩
 obtain⟨x,x1,x2,x3,x4⟩:=both i (by omega)
 obtain⟨y,y1,y2,y3,y4⟩:=both j (by omega)
 obtain⟨e1,s1,u1,h1,l1⟩:=h.semi.free x1 x3 x2 x4
 have y1':=dW (i:=i) y1 (by omega) y2
 obtain⟨e2,s2,u2,h2,l2⟩:=s1.free y1' y3 y2 (fun p hp e=>⟨y4 p ((h1 p).1 hp).1 e,by omega⟩)
 rw[e1]
 simp only
 rw[e2]
 simp only
 have hG:((n.free i).free j).Good:=(s2.iff (Y:=fun _=>False) fun r=>⟨fun⟨⟨k1,k2⟩,k3⟩=>by
  rcases ch.1 k1 with⟨k,_⟩|⟨k,_⟩<;>omega,False.elim⟩).good
 refine⟨Tq (Tq h.ok _) _,hG,h.cap,by rw[u2,u1,h.used];omega,fun t z hz hk ha hb=>?_,fun r h3 h4 h5 h6 h7=>?_⟩
 ·obtain⟨w,g1,g2,g3⟩:=h.old t z hz hk
  have wk:w.k≠0:=by rw[g2];exact hk
  exact⟨w,dW (dW g1 (by omega) wk) (by omega) wk,g2,g3⟩
 ·have hr:=h.has0 h3
  obtain⟨q1,q2⟩:=h.keep r h3 h4 h5 h6 h7
  have hr1:=(h1 r).2 ⟨hr,by omega⟩
  exact⟨(h2 r).2 ⟨hr1,by omega⟩,by rw[l2 r hr1 (by omega),l1 r hr (by omega),q2]⟩
theorem XI{n:Nt}{a b:Int}{p:Pl}(hM:Meet n a b)(hp:PlanX (n.nd a) (n.nd b) p)(hu:n.used+Fb p (n.nd a) (n.nd b)≤n.cap):Stepped n a b (Fb p (n.nd a) (n.nd b)) (Ks n p a b):=by
 obtain⟨ka,kb⟩:=iv hp
 have hR:=Ny hM hp hu
 have a0:=hM.a0
 have b0:=hM.b0
 have h:=OW hM ka kb hR (i:=(max a b).toNat) (j:=(min a b).toNat) (by omega)
 rw[show(((max a b).toNat:Nat):Int)=max a b by omega,show(((min a b).toNat:Nat):Int)=min a b by omega]at h
 exact h
structure DoneOk(n:Nt)(i:Int)(p:Pl)(m:Nt):Prop where
 meet:Meet n i (Ga n i)
 pl:ofR (n.nd i) (n.nd (Ga n i))=(p,0)
 px:PlanX (n.nd (if p.sw=true then Ga n i else i)) (n.nd (if p.sw=true then i else Ga n i)) p
 room:n.used+OQ p (n.nd i) (n.nd (Ga n i))≤n.cap
 net:m=Ks n p (if p.sw=true then Ga n i else i) (if p.sw=true then i else Ga n i)
 st:Stepped n i (Ga n i) (OQ p (n.nd i) (n.nd (Ga n i))) m
inductive DoCase(n:Nt)(i:Int):Nt×Pl×Int→Prop
 |bad (h:¬n.Good):DoCase n i (n,p0,120)
 |none (h:n.Good) (hm:Ga n i<0):DoCase n i (n,p0,122)
 |pair (h:n.Good) (e:Int) (hm:Meet n i (Ga n i)) (he:e=(ofR (n.nd i) (n.nd (Ga n i))).2) (h0:e≠0):DoCase n i (n,p0,e)
 |full (h:n.Good) (p:Pl) (hm:Meet n i (Ga n i)) (hp:ofR (n.nd i) (n.nd (Ga n i))=(p,0)) (hu:¬n.used+OQ p (n.nd i) (n.nd (Ga n i))≤n.cap):DoCase n i (n,p0,121)
 |done (h:n.Good) (p:Pl) (m:Nt) (hd:DoneOk n i p m):DoCase n i (m,p,0)
theorem wa{n:Nt}(hn:n.Ok)(i:Int):DoCase n i (doR n i):=by
 unfold doR
 by_cases hG:n.Good
 case neg=>rw[qy hG];exact .bad hG
 rw[Pb hG,if_neg (by simp)]
 by_cases hm:Ga n i<0
 ·rw[if_pos hm];exact .none hG hm
 rw[if_neg hm]
 have hM:=Em hn hG hm
 have hX:=JT hM.ma hM.mb hM.ka hM.kb hM.pa hM.pb
 obtain⟨⟨p,e⟩,hr⟩:∃r,ofR (n.nd i) (n.nd (Ga n i))=r:=⟨_,rfl⟩
 simp only[hr]
 rw[hr]at hX
 by_cases he:e=0
 case neg=>rw[if_pos (by simpa using he)];exact .pair hG e hM (by rw[hr]) he
 subst he
 rw[if_neg (by simp)]
 have hX:=hX rfl
 simp only at hX
 have hub:=tP hG
 have hgb:=hG.cap2
 have hu0:0≤n.used:=(ij n.ns).1
 have hw:wr (n.used+OQ p (n.nd i) (n.nd (Ga n i)))=n.used+OQ p (n.nd i) (n.nd (Ga n i)):=by
  cases hsw:p.sw with
  |false=>
   rw[hsw]at hX
   have:=Hv hM hX
   have hnr:OQ p (n.nd i) (n.nd (Ga n i))=Fb p (n.nd i) (n.nd (Ga n i)):=by unfold OQ;rw[hsw];rfl
   rw[hnr];exact Bf (by omega)
  |true=>
   rw[hsw]at hX
   have:=Hv hM.swap hX
   have hnr:OQ p (n.nd i) (n.nd (Ga n i))=Fb p (n.nd (Ga n i)) (n.nd i):=by unfold OQ;rw[hsw];rfl
   rw[hnr];exact Bf (by omega)
 rw[hw]
 by_cases hu:n.used+OQ p (n.nd i) (n.nd (Ga n i))≤n.cap
 case neg=>rw[if_pos (by omega)];exact .full hG p hM hr hu
 rw[if_neg (by omega)]
 refine .done hG p _ ⟨hM,hr,?_,hu,rfl,?_⟩
 ·cases hsw:p.sw<;>rw[hsw]at hX<;>exact hX
 ·cases hsw:p.sw with
  |false=>
   rw[hsw]at hX
   have hnr:OQ p (n.nd i) (n.nd (Ga n i))=Fb p (n.nd i) (n.nd (Ga n i)):=by unfold OQ;rw[hsw];rfl
   rw[hnr]at hu⊢
   exact XI hM hX hu
  |true=>
   rw[hsw]at hX
   have hnr:OQ p (n.nd i) (n.nd (Ga n i))=Fb p (n.nd (Ga n i)) (n.nd i):=by unfold OQ;rw[hsw];rfl
   rw[hnr]at hu⊢
   exact(XI hM.swap hX hu).swap
abbrev Nm:=Nat×Nat
abbrev NP:=Nm×Int
structure Ab where
 nd:Nm→Option Nd
 lk:NP→Option NP
inductive AO where
 |mk (m:Nm) (x:Nd)
 |fr (m:Nm)
 |mv (p q:NP)
 |jn (p q:NP)
 |ln (p q:NP)
def sw(p q r:NP):NP:=if r=p then q else if r=q then p else r
def lkM(p q:NP)(f:NP→Option NP):NP→Option NP:=fun r=>(f (sw p q r)).map (sw p q)
def lkJ(p q:NP)(f:NP→Option NP):NP→Option NP:=fun r=>if r=p∨r=q then none else if f r=some p then f q else if f r=some q then f p else f r
def lkL(p q:NP)(f:NP→Option NP):NP→Option NP:=fun r=>if r=p then some q else if r=q then some p else if f r=some p∨f r=some q then none else f r
def AO.run(A:Ab):AO→Ab
 | .mk m x=>⟨fun u=>if u=m then some x else A.nd u,A.lk⟩
 | .fr m=>⟨fun u=>if u=m then none else A.nd u,A.lk⟩
 | .mv p q=>⟨A.nd,lkM p q A.lk⟩
 | .jn p q=>⟨A.nd,lkJ p q A.lk⟩
 | .ln p q=>⟨A.nd,lkL p q A.lk⟩
def tw(A:Ab)(l:List AO):Ab:=l.foldl AO.run A
theorem xe(A:Ab)(l m:List AO):tw A (l++m)=tw (tw A l) m:=by unfold tw;rw[cR]
def Kv(f:NP→Option NP):Prop:=∀r u,f r=some u→u≠r∧f u=some r
def AO.ok:AO→Prop
 | .mv p q=>p≠q
 | .jn p q=>p≠q
 | .ln p q=>p≠q
 |_=>True
theorem wq{p q r:NP}:sw p q (sw p q r)=r:=by
 unfold sw
 by_cases h1:r=p
 ·subst h1;by_cases h2:q=r<;>simp[h2]
 ·by_cases h2:r=q
  ·subst h2;simp[h1]
  ·simp[h1,h2]
theorem WI{p q:NP}{f:NP→Option NP}(h:Kv f):Kv (lkM p q f):=by
 intro r u hu
 unfold lkM at hu⊢
 obtain⟨v,hv,rfl⟩:=zf.1 hu
 obtain⟨h1,h2⟩:=h _ _ hv
 refine⟨fun e=>h1 (by rw[←e,wq]),?_⟩
 rw[wq,h2,lT,wq]
theorem qN{p q:NP}{f:NP→Option NP}(hpq:p≠q)(h:Kv f):Kv (lkJ p q f):=by
 intro r u hu
 have a1:=h r
 have a2:=h p
 have a3:=h q
 unfold lkJ at hu⊢
 grind
theorem xX{p q:NP}{f:NP→Option NP}(hpq:p≠q)(h:Kv f):Kv (lkL p q f):=by
 intro r u hu
 have a1:=h r
 unfold lkL at hu⊢
 grind
theorem AO.both{A:Ab}{o:AO}(ho:o.ok)(h:Kv A.lk):Kv (o.run A).lk:=by
 cases o with
 |mk m x=>exact h
 |fr m=>exact h
 |mv p q=>exact WI h
 |jn p q=>exact qN ho h
 |ln p q=>exact xX ho h
def AO.own(W:Nm→Prop):AO→Prop
 | .mk m _=>W m
 | .fr m=>W m
 | .mv p q=>W p.1∧W q.1
 | .jn p q=>W p.1∧W q.1
 | .ln p q=>W p.1∧W q.1
def nmP(ν:Int→Nm)(p:Pt):NP:=(ν p.n,p.s)
def wL(x:Nd):Nd:={x with to:=List.replicate x.to.length zP}
def Us(n:Nt)(i:Int):Prop:=0≤i∧i<n.ns.length∧(n.nd i).k≠0
structure Rep(ν:Int→Nm)(n:Nt)(L:List Pt)(A:Ab):Prop where
 inj:∀i j:Int,Us n i→Us n j→ν i=ν j→i=j
 nd:∀i,Us n i→A.nd (ν i)=some (wL (n.nd i))
 only:∀x y,A.nd x=some y→∃i,Us n i∧ν i=x
 cl:∀p,n.has p=true→p∉L→A.lk (nmP ν p)=some (nmP ν (n.lk p))
 op:∀p,p∈L→A.lk (nmP ν p)=none
 out:∀r u,A.lk r=some u→∃p,n.has p=true∧p∉L∧r=nmP ν p
theorem Rep.perm{ν:Int→Nm}{n:Nt}{L M:List Pt}{A:Ab}(h:Rep ν n L A)(e:L.Perm M):Rep ν n M A:=
 ⟨h.inj,h.nd,h.only,fun p hp hM=>h.cl p hp fun k=>hM (e.mem_iff.1 k),fun p hp=>h.op p (e.mem_iff.2 hp),fun r u hu=>by obtain⟨p,a,b,c⟩:=h.out r u hu;exact⟨p,a,fun k=>b (e.mem_iff.2 k),c⟩⟩
theorem Kx{n:Nt}{X:Pt→Prop}(hs:Semi n X){p:Pt}(hp:n.has p=true):Us n p.n:=by
 have h1:=sJ.1 hp
 exact⟨h1.1,h1.2.1,Ji hs hp⟩
theorem Rep.injP{ν:Int→Nm}{n:Nt}{L:List Pt}{A:Ab}(h:Rep ν n L A){X:Pt→Prop}(hs:Semi n X){p q:Pt}(hp:n.has p=true)(hq:n.has q=true)(e:nmP ν p=nmP ν q):p=q:=by
 unfold nmP at e
 injection e with e1 e2
 have:=h.inj _ _ (Kx hs hp) (Kx hs hq) e1
 obtain⟨a,b⟩:=p
 obtain⟨c,d⟩:=q
 simp only at this e2
 rw[this,e2]
theorem Iw{n m:Nt}(h:Shp n m)(i:Int):Us m i↔Us n i:=by
 unfold Us
 rw[h.1]
 constructor
 ·rintro⟨h1,h2,h3⟩;exact⟨h1,h2,by rw[←(h.2.2 i h1).1];exact h3⟩
 ·rintro⟨h1,h2,h3⟩;exact⟨h1,h2,by rw[(h.2.2 i h1).1];exact h3⟩
theorem wh{n m:Nt}(h:Shp n m){i:Int}(h0:0≤i):wL (m.nd i)=wL (n.nd i):=by
 have:=h.2.2 i h0
 unfold wL
 obtain⟨h1,h2,h3,h4,h5,h6⟩:=this
 rw[h1,h2,h3,h4,h5,h6]
theorem Rep.shp{ν:Int→Nm}{n m:Nt}{L M:List Pt}{A B:Ab}(h:Rep ν n L A)(hs:Shp n m)(hB:B.nd=A.nd)(cl:∀p,n.has p=true→p∉M→B.lk (nmP ν p)=some (nmP ν (m.lk p)))(op:∀p,p∈M→B.lk (nmP ν p)=none)(out:∀r u,B.lk r=some u→∃p,n.has p=true∧p∉M∧r=nmP ν p):Rep ν m M B:=
 ⟨fun i j hi hj=>h.inj i j ((Iw hs i).1 hi) ((Iw hs j).1 hj),fun i hi=>by rw[hB,h.nd i ((Iw hs i).1 hi),wh hs hi.1],fun x y hx=>by obtain⟨i,h1,h2⟩:=h.only x y (by rw[←hB];exact hx);exact⟨i,(Iw hs i).2 h1,h2⟩,
  fun p hp hM=>cl p (by rw[←hs.has];exact hp) hM,op,fun r u hu=>by obtain⟨p,a,b,c⟩:=out r u hu;exact⟨p,by rw[hs.has];exact a,b,c⟩⟩
theorem Rep.link{ν:Int→Nm}{n:Nt}{L:List Pt}{A:Ab}{p q:Pt}(h:Rep ν n (p::q::L) A)(hs:Semi n (·∈p::q::L))(hn:(p::q::L).Nodup):Rep ν (KD n p q).1 L (AO.run A (.ln (nmP ν p) (nmP ν q))):=by
 have hp:=hs.xs p (by simp)
 have hq:=hs.xs q (by simp)
 simp only[TL,qY,not_or]at hn
 obtain⟨⟨hne,hpL⟩,hqL,_⟩:=hn
 rw[qQ hp hq hne]
 have I:=fun {r u:Pt} (a:n.has r=true) (b:n.has u=true) (e:nmP ν r=nmP ν u)=>h.injP hs a b e
 have hpq:nmP ν q≠nmP ν p:=fun e=>hne (I hq hp e).symm
 refine h.shp (zS hp hq) rfl (fun r hr hL=>?_) (fun r hr=>?_) (fun r u hu=>?_)
 ·show lkL _ _ A.lk _=_
  rw[UP hp hq hr]
  unfold lkL
  by_cases e1:r=p
  ·subst e1;rw[if_pos rfl,if_neg hne,if_pos rfl]
  by_cases e2:r=q
  ·subst e2;rw[if_neg hpq,if_pos rfl,if_pos rfl]
  rw[if_neg (fun e=>e1 (I hr hp e)),if_neg (fun e=>e2 (I hr hq e)),if_neg e2,if_neg e1]
  have hX:r∉p::q::L:=by simp[e1,e2,hL]
  obtain⟨l1,l2,l3,l4⟩:=hs.ln r hr hX
  rw[h.cl r hr hX,if_neg]
  rintro(e|e)
  ·exact l3 (by rw[I l2 hp (BQ e)];simp)
  ·exact l3 (by rw[I l2 hq (BQ e)];simp)
 ·show lkL _ _ A.lk _=_
  have hrh:=hs.xs r (by simp[hr])
  unfold lkL
  rw[if_neg (fun e=>hpL (I hrh hp e▸hr)),if_neg (fun e=>hqL (I hrh hq e▸hr)),h.op r (by simp[hr])];simp
 ·have hu:lkL _ _ A.lk r=some u:=hu
  unfold lkL at hu
  by_cases e1:r=nmP ν p
  ·exact⟨p,hp,hpL,e1⟩
  by_cases e2:r=nmP ν q
  ·exact⟨q,hq,hqL,e2⟩
  rw[if_neg e1,if_neg e2]at hu
  split at hu
  ·cases hu
  ·obtain⟨s,a,b,c⟩:=h.out r u hu
   simp only[qY,not_or]at b
   exact⟨s,a,b.2.2,c⟩
theorem Rep.move{ν:Int→Nm}{n:Nt}{L:List Pt}{A:Ab}{p q:Pt}(h:Rep ν n (q::L) A)(hs:Semi n (·∈q::L))(hn:(q::L).Nodup)(hp:n.has p=true)(hpX:p∉q::L):Rep ν (Qs n p q).1 (p::L) (AO.run A (.mv (nmP ν p) (nmP ν q))):=by
 have hq:=hs.xs q (by simp)
 simp only[TL]at hn
 obtain⟨hqL,_⟩:=hn
 rw[(hs.move hp hpX (by simp:q∈q::L)).1]
 obtain⟨k1,k2,k3,k4⟩:=hs.ln p hp hpX
 have hpX':=hpX
 simp only[qY,not_or]at hpX' k3
 have I:=fun {r u:Pt} (a:n.has r=true) (b:n.has u=true) (e:nmP ν r=nmP ν u)=>h.injP hs a b e
 have swp:sw (nmP ν p) (nmP ν q) (nmP ν p)=nmP ν q:=by unfold sw;rw[if_pos rfl]
 have swq:sw (nmP ν p) (nmP ν q) (nmP ν q)=nmP ν p:=by
  unfold sw;rw[if_neg (fun e=>hpX'.1 (I hq hp e).symm),if_pos rfl]
 have swo:∀r,n.has r=true→r≠p→r≠q→sw (nmP ν p) (nmP ν q) (nmP ν r)=nmP ν r:=fun r hr e1 e2=>by
  unfold sw;rw[if_neg (fun e=>e1 (I hr hp e)),if_neg (fun e=>e2 (I hr hq e))]
 refine h.shp (zS hq k2) rfl (fun r hr hL=>?_) (fun r hr=>?_) (fun r u hu=>?_)
 ·show lkM _ _ A.lk _=_
  simp only[qY,not_or]at hL
  rw[UP hq k2 hr]
  unfold lkM
  by_cases e2:r=q
  ·subst e2
   rw[swq,h.cl p hp hpX,lT,swo _ k2 k1 k3.1,if_neg (fun e=>k3.1 e.symm),if_pos rfl]
  ·have hX:r∉q::L:=by simp[e2,hL.2]
   obtain⟨l1,l2,l3,l4⟩:=hs.ln r hr hX
   simp only[qY,not_or]at l3
   rw[swo r hr hL.1 e2,h.cl r hr hX,lT]
   by_cases e3:n.lk r=p
   ·rw[e3,swp,if_pos (by rw[←e3,l4])]
   ·rw[swo _ l2 e3 l3.1,if_neg (fun e=>e3 (by rw[e,k4])),if_neg e2]
 ·show lkM _ _ A.lk _=_
  unfold lkM
  rcases qY.1 hr with rfl|hr
  ·rw[swp,h.op q (by simp)];rfl
  ·have hrh:=hs.xs r (by simp[hr])
   rw[swo r hrh (fun e=>hpX'.2 (e▸hr)) (fun e=>hqL (e▸hr)),h.op r (by simp[hr])];rfl
 ·have hu:lkM _ _ A.lk r=some u:=hu
  unfold lkM at hu
  obtain⟨v,hv,_⟩:=zf.1 hu
  obtain⟨s,a,b,c⟩:=h.out _ v hv
  have hr:r=sw (nmP ν p) (nmP ν q) (nmP ν s):=by rw[←c,wq]
  simp only[qY,not_or]at b
  by_cases e:s=p
  ·refine⟨q,hq,?_,by rw[hr,e,swp]⟩
   simp only[qY,not_or]
   exact⟨fun e=>hpX'.1 e.symm,hqL⟩
  ·refine⟨s,a,?_,by rw[hr,swo s a e b.1]⟩
   simp only[qY,not_or]
   exact⟨e,b.2⟩
theorem Rep.join{ν:Int→Nm}{n:Nt}{L:List Pt}{A:Ab}{p q:Pt}(h:Rep ν n L A)(hs:Semi n (·∈L))(hp:n.has p=true)(hq:n.has q=true)(hpX:p∉L)(hqX:q∉L)(hpq:p≠q):Rep ν (iY n p q).1 (p::q::L) (AO.run A (.jn (nmP ν p) (nmP ν q))):=by
 rw[(hs.join hp hpX hq hqX hpq).1]
 obtain⟨k1,k2,k3,k4⟩:=hs.ln p hp hpX
 obtain⟨j1,j2,j3,j4⟩:=hs.ln q hq hqX
 have I:=fun {r u:Pt} (a:n.has r=true) (b:n.has u=true) (e:nmP ν r=nmP ν u)=>h.injP hs a b e
 have op':∀r,r∈p::q::L→lkJ (nmP ν p) (nmP ν q) A.lk (nmP ν r)=none:=fun r hr=>by
  unfold lkJ
  simp only[qY]at hr
  rcases hr with rfl|rfl|hr
  ·simp
  ·simp
  ·have hrh:=hs.xs r hr
   rw[if_neg,h.op r hr]
   ·simp
   ·rintro(e|e)
    ·exact hpX (I hrh hp e▸hr)
    ·exact hqX (I hrh hq e▸hr)
 have out':∀r u,lkJ (nmP ν p) (nmP ν q) A.lk r=some u→∃s,n.has s=true∧s∉p::q::L∧r=nmP ν s:=fun r u hu=>by
  unfold lkJ at hu
  split at hu
  ·cases hu
  ·rename_i hne
   have hsome:∃v,A.lk r=some v:=by
    split at hu
    ·exact⟨_,by assumption⟩
    ·split at hu
     ·exact⟨_,by assumption⟩
     ·exact⟨_,hu⟩
   obtain⟨v,hv⟩:=hsome
   obtain⟨s,a,b,c⟩:=h.out r v hv
   refine⟨s,a,?_,c⟩
   simp only[qY,not_or]
   exact⟨fun e=>hne (.inl (by rw[c,e])),fun e=>hne (.inr (by rw[c,e])),b⟩
 have val:∀r,n.has r=true→r∉p::q::L→lkJ (nmP ν p) (nmP ν q) A.lk (nmP ν r)=some (nmP ν (if n.lk r=p then n.lk q else if n.lk r=q then n.lk p else n.lk r)):=fun r hr hX=>by
  simp only[qY,not_or]at hX
  obtain⟨l1,l2,l3,l4⟩:=hs.ln r hr hX.2.2
  unfold lkJ
  rw[if_neg (by rintro(e|e);exact hX.1 (I hr hp e);exact hX.2.1 (I hr hq e)),h.cl r hr hX.2.2,h.cl p hp hpX,h.cl q hq hqX]
  by_cases e1:n.lk r=p
  ·rw[if_pos (by rw[e1]),if_pos e1]
  ·rw[if_neg (fun e=>e1 (I l2 hp (BQ e))),if_neg e1]
   by_cases e2:n.lk r=q
   ·rw[if_pos (by rw[e2]),if_pos e2]
   ·rw[if_neg (fun e=>e2 (I l2 hq (BQ e))),if_neg e2]
 by_cases e:n.lk p=q
 ·rw[if_pos e]
  refine h.shp (Shp.refl n) rfl (fun r hr hX=>?_) op' out'
  show lkJ _ _ A.lk _=_
  rw[val r hr hX]
  have hX':=hX
  simp only[qY,not_or]at hX'
  have l4:=(hs.ln r hr hX'.2.2).2.2.2
  rw[if_neg (fun e1=>hX'.2.1 (by rw[←l4,e1,e])),if_neg (fun e1=>hX'.1 (by rw[←l4,e1,←e,k4]))]
 ·rw[if_neg e]
  refine h.shp (zS k2 j2) rfl (fun r hr hX=>?_) op' out'
  show lkJ _ _ A.lk _=_
  rw[val r hr hX,UP k2 j2 hr]
  have hX':=hX
  simp only[qY,not_or]at hX'
  have l4:=(hs.ln r hr hX'.2.2).2.2.2
  by_cases e1:n.lk r=p
  ·have er:r=n.lk p:=by rw[←e1,l4]
   rw[if_pos e1,if_neg (fun k=>hpq (by rw[←e1,k,j4])),if_pos er]
  ·rw[if_neg e1]
   by_cases e2:n.lk r=q
   ·have er:r=n.lk q:=by rw[←e2,l4]
    rw[if_pos e2,if_pos er]
   ·rw[if_neg e2,if_neg (fun k=>e2 (by rw[k,j4])),if_neg (fun k=>e1 (by rw[k,k4]))]
def eo(ν:Int→Nm)(t:Int)(m:Nm):Int→Nm:=fun i=>if i=t then m else ν i
theorem Rep.make{ν:Int→Nm}{n:Nt}{L:List Pt}{A:Ab}(h:Rep ν n L A)(hs:Semi n (·∈L)){x:Nd}{m:Nt}{t:Int}(hM:MadeQ n x m t)(hk:x.k≠0)(hU:∀i,Us m i↔Us n i∨i=t)(hp:0≤x.ports){u:Nm}(hu:A.nd u=none):
  Rep (eo ν t u) m (Ka x t++L) (AO.run A (.mk u (wL x.fresh))):=by
 have nt:∀i,Us n i→i≠t:=fun i hi e=>hi.2.2 (by rw[e];exact hM.free)
 have ν':∀i,i≠t→eo ν t u i=ν i:=fun i e=>by unfold eo;rw[if_neg e]
 have νt:eo ν t u t=u:=by unfold eo;rw[if_pos rfl]
 have nu:∀i,Us n i→ν i≠u:=fun i hi e=>by have:=h.nd i hi;rw[e,hu]at this;cases this
 have mp:∀p,p∈Ka x t↔p.n=t∧0≤p.s∧p.s<x.ports:=fun p=>by
  unfold Ka;rw[Jd]
  constructor
  ·rintro⟨h1,h2,h3⟩;exact⟨h1,by omega,by omega⟩
  ·rintro⟨h1,h2,h3⟩;exact⟨h1,by omega,by omega⟩
 have old:∀p,n.has p=true→nmP (eo ν t u) p=nmP ν p:=fun p hp=>by unfold nmP;rw[ν' _ (hM.new p hp)]
 refine⟨fun i j hi hj e=>?_,fun i hi=>?_,fun y z hy=>?_,fun p hp hL=>?_,fun p hp=>?_,fun r w hr=>?_⟩
 ·rcases(hU i).1 hi with hi|rfl
  ·rcases(hU j).1 hj with hj|rfl
   ·rw[ν' i (nt i hi),ν' j (nt j hj)]at e;exact h.inj i j hi hj e
   ·rw[ν' i (nt i hi),νt]at e;exact absurd e (nu i hi)
  ·rcases(hU j).1 hj with hj|rfl
   ·rw[ν' j (nt j hj),νt]at e;exact absurd e.symm (nu j hj)
   ·rfl
 ·show(if eo ν t u i=u then _ else A.nd _)=_
  rcases(hU i).1 hi with hi|rfl
  ·rw[ν' i (nt i hi),if_neg (nu i hi),h.nd i hi,hM.oth i hi.1 (nt i hi)]
  ·rw[νt,if_pos rfl,hM.nd]
 ·have hy:(if y=u then _ else A.nd y)=some z:=hy
  by_cases e:y=u
  ·exact⟨t,(hU t).2 (.inr rfl),by rw[νt,e]⟩
  ·rw[if_neg e]at hy
   obtain⟨i,hi,e2⟩:=h.only y z hy
   exact⟨i,(hU i).2 (.inl hi),by rw[ν' i (nt i hi),e2]⟩
 ·show A.lk _=_
  simp only[Sw,not_or]at hL
  rcases(hM.has p).1 hp with hp|hp
  ·obtain⟨l1,l2,l3,l4⟩:=hs.ln p hp hL.2
   rw[old p hp,hM.lk p hp,old _ l2];exact h.cl p hp hL.2
  ·exact absurd ((mp p).2 hp) hL.1
 ·show A.lk _=none
  rcases Sw.1 hp with hp|hp
  ·cases hc:A.lk (nmP (eo ν t u) p)with
   |none=>rfl
   |some w=>
    obtain⟨s,a,_,c⟩:=h.out _ _ hc
    unfold nmP at c
    rw[((mp p).1 hp).1,νt]at c
    injection c with c _
    exact absurd c.symm (nu s.n (Kx hs a))
  ·rw[old p (hs.xs p hp)];exact h.op p hp
 ·obtain⟨s,a,b,c⟩:=h.out r w hr
  refine⟨s,(hM.has s).2 (.inl a),?_,by rw[old s a];exact c⟩
  simp only[Sw,not_or]
  exact⟨fun k=>hM.new s a ((mp s).1 k).1,b⟩
theorem Rep.free{ν:Int→Nm}{n m:Nt}{L M:List Pt}{A:Ab}(h:Rep ν n L A)(hs:Semi n (·∈L)){i:Int}(hU:∀j,Us m j↔Us n j∧j≠i)(hnd:∀j,Us m j→m.nd j=n.nd j)(hi:Us n i)(hX:∀p,n.has p=true→p.n=i→p∈L)(hM:∀p,p∈M↔p∈L∧p.n≠i)
  (hhas:∀p,m.has p=true↔n.has p=true∧p.n≠i) (hlk:∀p,n.has p=true→p.n≠i→m.lk p=n.lk p):Rep ν m M (AO.run A (.fr (ν i))):=by
 have ne:∀j,Us m j→ν j≠ν i:=fun j hj e=>((hU j).1 hj).2 (h.inj j i ((hU j).1 hj).1 hi e)
 refine⟨fun j k hj hk e=>h.inj j k ((hU j).1 hj).1 ((hU k).1 hk).1 e,fun j hj=>?_,fun y z hy=>?_,fun p hp hL=>?_,fun p hp=>?_,fun r w hr=>?_⟩
 ·show(if ν j=ν i then none else A.nd _)=_
  rw[if_neg (ne j hj),h.nd j ((hU j).1 hj).1,hnd j hj]
 ·have hy:(if y=ν i then none else A.nd y)=some z:=hy
  by_cases e:y=ν i
  ·rw[if_pos e]at hy;cases hy
  ·rw[if_neg e]at hy
   obtain⟨j,hj,e2⟩:=h.only y z hy
   exact⟨j,(hU j).2 ⟨hj,fun k=>e (by rw[←e2,k])⟩,e2⟩
 ·show A.lk _=_
  obtain⟨a,b⟩:=(hhas p).1 hp
  rw[hlk p a b]
  exact h.cl p a fun k=>hL ((hM p).2 ⟨k,b⟩)
 ·show A.lk _=none
  exact h.op p ((hM p).1 hp).1
 ·obtain⟨s,a,b,c⟩:=h.out r w hr
  have hsi:s.n≠i:=fun e=>b (hX s a e)
  exact⟨s,(hhas s).2 ⟨a,hsi⟩,fun k=>b ((hM s).1 k).1,c⟩
theorem Cg{n:Nt}{i:Int}:Us n i↔0≤i∧(n.nd i).k≠0:=by
 constructor
 ·rintro⟨h1,_,h3⟩;exact⟨h1,h3⟩
 ·rintro⟨h1,h3⟩
  refine⟨h1,?_,h3⟩
  rcases Int.lt_or_le i n.ns.length with h|h
  ·exact h
  ·exfalso;apply h3
   unfold Nt.nd;rw[Kh,eF (by omega)];rfl
theorem yX{n m:Nt}{x:Nd}{t:Int}(h:MadeQ n x m t)(hk:x.k≠0)(i:Int):Us m i↔Us n i∨i=t:=by
 rw[Cg,Cg]
 by_cases e:i=t
 ·subst e
  rw[h.nd]
  exact⟨fun _=>.inr rfl,fun _=>⟨by have:=h.one;omega,hk⟩⟩
 ·constructor
  ·rintro⟨h1,h2⟩;rw[h.oth i h1 e]at h2;exact .inl ⟨h1,h2⟩
  ·rintro(⟨h1,h2⟩|h)
   ·exact⟨h1,by rw[h.oth i h1 e];exact h2⟩
   ·exact absurd h e
def uX(tag j k:Nat):List Nm:=(List.range' j k).map fun i=>(tag,i)
def mkA(x:Nd)(l:List Nm):List AO:=l.map fun u=>.mk u (wL x.fresh)
theorem eM(x:Nd):∀(l:List Nm) (A:Ab) (u:Nm),u∉l→(tw A (mkA x l)).nd u=A.nd u
 |[],A,u,_=>rfl
 |v::l,A,u,h=>by
  simp only[qY,not_or]at h
  show(tw (AO.run A (.mk v (wL x.fresh))) (mkA x l)).nd u=_
  rw[eM x l _ u h.2]
  show(if u=v then _ else A.nd u)=_
  rw[if_neg h.1]
theorem uV(tag j k:Nat):uX tag j (k+1)=uX tag j k++[(tag,j+k)]:=by
 unfold uX;rw[vY,TU];simp
theorem gw{tag j k:Nat}{u:Nm}:u∈uX tag j k↔u.1=tag∧j≤u.2∧u.2<j+k:=by
 unfold uX
 simp only[Om,bE]
 constructor
 ·rintro⟨i,h,rfl⟩;exact⟨rfl,h.1,h.2⟩
 ·rintro⟨h1,h2,h3⟩;exact⟨u.2,⟨h2,h3⟩,by rw[←h1]⟩
section
variable{n0 n:Nt}{a b c:Int}{L:List Pt}
theorem Run.likesR(h:Run n0 a b c n L){x:Nd}(hx:x.Ok)(hm:x.may)(hk0:x.k≠0)(hk1:x.k≠1)(hp:0<x.ports){ν:Int→Nm}{A:Ab}(hR:Rep ν n L A){tag j:Nat}(hA:∀i,j≤i→A.nd (tag,i)=none):∀k:Nat,n0.used+c+k≤n0.cap→
  ∃ν',Rep ν' (Tr n x k).1 ((Tr n x k).2.flatMap (Ka x)++L) (tw A (mkA x (uX tag j k)))∧(∀i,Us n i→ν' i=ν i)∧(Tr n x k).2.map ν'=uX tag j k
 |0,_=>⟨ν,by simpa [Tr,uX,mkA,tw]using hR,fun _ _=>rfl,rfl⟩
 |k+1,hu=>by
  obtain⟨h1,h2,h3⟩:=h.likes hx hm hk0 hk1 hp k (by omega)
  obtain⟨ν',g1,g2,g3⟩:=Run.likesR h hx hm hk0 hk1 hp hR hA k (by omega)
  obtain⟨t,e1,e2,e3⟩:=h3.make hx hm hk0 hk1 (by omega)
  have ht:(wS (Tr n x k).1 x).2.1=t:=by rw[e1]
  have hU:=yX e2 hk0
  have hnone:(tw A (mkA x (uX tag j k))).nd (tag,j+k)=none:=by
   rw[eM]
   ·exact hA _ (by omega)
   ·rw[gw];simp only;omega
  have r1:=g1.make h3.semi e2 hk0 hU (by omega) hnone
  simp only[Tr,ht]
  refine⟨eo ν' t (tag,j+k),?_,fun i hi=>?_,?_⟩
  ·have e:tw A (mkA x (uX tag j (k+1)))=AO.run (tw A (mkA x (uX tag j k))) (.mk (tag,j+k) (wL x.fresh)):=by
    rw[uV]
    unfold mkA
    rw[TU,xe];rfl
   rw[e]
   refine r1.perm ?_
   rw[List.flatMap_append,qg]
   simp only[aC,SN,Qg]
   rw[←qg,←qg]
   exact List.Perm.append_right _ List.perm_append_comm
  ·have hi2:Us (Tr n x k).1 i:=by
    rw[Cg]at hi⊢
    by_cases hid:i∈(Tr n x k).2
    ·exact absurd (h1.free i hid) hi.2
    ·exact⟨hi.1,by rw[h1.oth i hi.1 hid];exact hi.2⟩
   have:i≠t:=fun e=>hi2.2.2 (by rw[e];exact e2.free)
   unfold eo;rw[if_neg this];exact g2 i hi
  ·rw[TU,uV,←g3]
   congr 1
   ·refine GO fun d hd=>?_
    have:d≠t:=fun e=>e2.new ⟨d,0⟩ ((h1.has _).2 (.inr ⟨hd,by simp,hp⟩)) e
    unfold eo;rw[if_neg this]
   ·simp[eo]
end
def Op.nm(ν:Int→Nm):Op→AO
 | .mv p q=>.mv (nmP ν p) (nmP ν q)
 | .jn p q=>.jn (nmP ν p) (nmP ν q)
 | .ln p q=>.ln (nmP ν p) (nmP ν q)
structure RS(n0:Nt)(a b c:Int)(m:Nt)(ν:Int→Nm)(A:Ab)(H:List Op)(L:List Pt):Prop where
 run:Run n0 a b c (rW m H) L
 rep:Rep ν (rW m H) L (tw A (H.map (Op.nm ν)))
section
variable{n0 m:Nt}{a b c:Int}{ν:Int→Nm}{A:Ab}{H:List Op}{L:List Pt}
theorem RS.perm{M:List Pt}(h:RS n0 a b c m ν A H L)(p:L.Perm M):RS n0 a b c m ν A H M:=⟨h.run.perm p,h.rep.perm p⟩
theorem RS.nil(h:Run n0 a b c m L)(hR:Rep ν m L A):RS n0 a b c m ν A [] L:=⟨h,hR⟩
theorem RS.has(p:Pt):(rW m H).has p=m.has p:=(y6 H m).has p
theorem RS.link{p q:Pt}(h:RS n0 a b c m ν A H (p::q::L)):RS n0 a b c m ν A (H++[.ln p q]) L:=by
 refine⟨by rw[yE];exact h.run.link,?_⟩
 rw[yE,TU,xe]
 exact h.rep.link h.run.semi h.run.nod
theorem RS.move{p q:Pt}(h:RS n0 a b c m ν A H (q::L))(hp1:m.has p=true)(hp:p∉q::L)(hab:p.n=a∨p.n=b):RS n0 a b c m ν A (H++[.mv p q]) (p::L):=by
 have hp2:(rW m H).has p=true:=by rw[RS.has];exact hp1
 refine⟨by rw[yE];exact h.run.move hp2 hp hab,?_⟩
 rw[yE,TU,xe]
 exact h.rep.move h.run.semi h.run.nod hp2 hp
theorem RS.join{p q:Pt}(h:RS n0 a b c m ν A H L)(hp1:m.has p=true)(hq1:m.has q=true)(hp:p∉L)(hq:q∉L)(hpq:p≠q)(hpa:p.n=a∨p.n=b)(hqa:q.n=a∨q.n=b):RS n0 a b c m ν A (H++[.jn p q]) (p::q::L):=by
 have hp2:(rW m H).has p=true:=by rw[RS.has];exact hp1
 have hq2:(rW m H).has q=true:=by rw[RS.has];exact hq1
 refine⟨by rw[yE];exact h.run.join hp2 hq2 hp hq hpq hpa hqa,?_⟩
 rw[yE,TU,xe]
 exact h.rep.join h.run.semi hp2 hq2 hp hq hpq
theorem CG{α:Type}(H:List α)(o:α)(l:List α):(H++[o])++l=H++(o::l):=by rw[qg];rfl
theorem RS.moves:∀(l:List Pt) (ds:List Int) {H:List Op} {L:List Pt},RS n0 a b c m ν A H (ds.map (fun d=>⟨d,0⟩)++L)→l.length=ds.length→l.Nodup→
  (∀p∈l,m.has p=true∧p∉L∧p.n∉ds∧(p.n=a∨p.n=b))→RS n0 a b c m ν A (H++U2 l ds) (l++L)
 |[],[],H,L,h,_,_,_=>by simpa [U2]using h
 |[],_::_,H,L,h,hl,_,_=>by simp at hl
 |_::_,[],H,L,h,hl,_,_=>by simp at hl
 |p::l,d::ds,H,L,h,hl,hn,hp=>by
  obtain⟨p1,p2,p3,p4⟩:=hp p (by simp)
  have hn':=TL.1 hn
  simp only[qY,not_or]at p3
  have h:RS n0 a b c m ν A H (⟨d,0⟩::(ds.map (fun d=>(⟨d,0⟩:Pt))++L)):=h
  have h1:=RS.move (p:=p) h p1 (by
   simp only[qY,Sw,Om,not_or,not_exists,not_and]
   exact⟨fun e=>p3.1 (by rw[e]),fun x hx e=>p3.2 (by rw[←e];exact hx),p2⟩) p4
  have h2:=RS.moves l ds (L:=p::L) (h1.perm (by exact rT.symm)) (by simpa using hl) hn'.2 (fun q hq=>by
   obtain⟨q1,q2,q3,q4⟩:=hp q (by simp[hq])
   simp only[qY,not_or]at q3⊢
   exact⟨q1,⟨fun e=>hn'.1 (e▸hq),q2⟩,q3.2,q4⟩)
  rw[CG]at h2
  exact h2.perm rT
theorem RS.joins(hab:a≠b):∀(l:List Nat) {H:List Op} {L:List Pt},RS n0 a b c m ν A H L→l.Nodup→(∀s∈l,m.has ⟨a,s⟩=true∧m.has ⟨b,s⟩=true∧(⟨a,s⟩:Pt)∉L∧(⟨b,s⟩:Pt)∉L)→
  RS n0 a b c m ν A (H++Lp a b l) (l.map (fun s:Nat=>(⟨a,s⟩:Pt))++(l.map (fun s:Nat=>(⟨b,s⟩:Pt))++L))
 |[],H,L,h,_,_=>by simpa [Lp]using h
 |s::l,H,L,h,hn,hp=>by
  obtain⟨p1,p2,p3,p4⟩:=hp s (by simp)
  have hn':=TL.1 hn
  have h1:=h.join p1 p2 p3 p4 (fun e=>hab (by simpa using e)) (.inl rfl) (.inr rfl)
  have h2:=RS.joins hab l h1 hn'.2 (fun t ht=>by
   obtain⟨q1,q2,q3,q4⟩:=hp t (by simp[ht])
   have hts:¬((t:Int)=(s:Int)):=fun e=>hn'.1 (by have:t=s:=by omega
                                                 exact this▸ht)
   refine⟨q1,q2,?_,?_⟩
   ·simp only[qY,Pt.mk.injEq,hts,and_false,false_or];exact q3
   ·simp only[qY,Pt.mk.injEq,hts,and_false,false_or];exact q4)
  rw[CG]at h2
  refine h2.perm ?_
  simp only[zx,Hh]
  rw[PB]
  intro r
  simp only[gC,J7]
  omega
theorem RS.picks{lv:Int}:∀(r:List Int) (d:Int) (i:Nat) {H:List Op} {L:List Pt},RS n0 a b c m ν A H (⟨d,1⟩::⟨d,2⟩::(r.flatMap (Ka (vQ lv))++L))→
  (∀s:Nat,i<s→s≤i+1+r.length→m.has ⟨b,s⟩=true∧(⟨b,s⟩:Pt)∉L)→m.has ⟨a,1⟩=true→(⟨a,1⟩:Pt)∉L→a∉d::r→b∉d::r→a≠b→
  RS n0 a b c m ν A (H++pn a b i (d::r)) (⟨a,1⟩::(YZ b (i+1) (i+2+r.length)++L))
 |[],d,i,H,L,h,hb,ha,haL,had,hbd,hab=>by
  obtain⟨b1,b2⟩:=hb (i+1) (by omega) (by simp)
  rw[show((i+1:Nat):Int)=(i:Int)+1 by omega]at b1 b2
  simp only[qY,oZ,or_false]at had hbd
  have h1:=RS.move (p:=⟨b,(i:Int)+1⟩) (q:=⟨d,2⟩) (h.perm (List.Perm.swap ..)) b1 (by simpa [hbd]using b2) (.inr rfl)
  have h2:=RS.move (p:=⟨a,1⟩) (q:=⟨d,1⟩) (h1.perm (List.Perm.swap ..)) ha (by simpa [had,hab]using haL) (.inl rfl)
  have e:YZ b (i+1) (i+2+0)=[⟨b,(i:Int)+1⟩]:=by
   rw[Ym (by omega),sO (by omega)];rfl
  rw[sI,e]
  rw[CG]at h2
  exact h2
 |e::r,d,i,H,L,h,hb,ha,haL,had,hbd,hab=>by
  obtain⟨b1,b2⟩:=hb (i+1) (by omega) (by omega)
  rw[show((i+1:Nat):Int)=(i:Int)+1 by omega]at b1 b2
  simp only[qY,not_or]at had hbd
  rw[aC,Z8 rfl]at h
  have hbn:∀s:Int,(⟨b,s⟩:Pt)∉r.flatMap (Ka (vQ lv)):=fun s k=>by
   obtain⟨t,ht,hs⟩:=cP.1 k
   have e:t=b:=(Jd.1 hs).1.symm
   subst e;exact hbd.2.2 ht
  have h1:=RS.move (p:=⟨b,(i:Int)+1⟩) (q:=⟨d,2⟩) (h.perm (List.Perm.swap ..)) b1 (by
   simp only[qY,Sw,Pt.mk.injEq,hbd,false_and,oZ,or_false,false_or,not_or,Hh]
   exact⟨hbn _,b2⟩) (.inr rfl)
  have h2:=RS.link (p:=⟨d,1⟩) (q:=⟨e,0⟩) (L:=⟨b,(i:Int)+1⟩::⟨e,1⟩::⟨e,2⟩::(r.flatMap (Ka (vQ lv))++L)) (h1.perm (by
   rw[PB];intro r;simp only[Hh,Es,J7,gC];omega))
  have h3:=RS.picks (lv:=lv) r e (i+1) (L:=⟨b,(i:Int)+1⟩::L) (h2.perm (by
   rw[PB];intro r;simp only[Hh,Es,J7,gC];omega)) (fun s h1 h2=>by
    obtain⟨c1,c2⟩:=hb s (by omega) (by simp only[Ce];omega)
    refine⟨c1,?_⟩
    have:¬(s:Int)=(i:Int)+1:=by omega
    simp only[qY,Pt.mk.injEq,this,and_false,false_or];exact c2) ha (by
    simp only[qY,Pt.mk.injEq,hab,false_and,false_or];exact haL) (by simp only[qY,not_or];exact had.2) (by simp only[qY,not_or];exact hbd.2) hab
  have e':YZ b (i+1) (i+2+(e::r).length)=⟨b,(i:Int)+1⟩::YZ b (i+1+1) (i+1+2+r.length):=by
   rw[Ce,Ym (by omega),show i+2+(r.length+1)=i+1+2+r.length by omega];rfl
  rw[e']
  rw[CG,CG]at h3
  refine RS.perm (H:=H++pn a b i (d::e::r)) h3 ?_
  rw[PB];intro r;simp only[Hh,Es,J7,gC];omega
theorem RS.lns{t:Int}{k:Nat}:∀(cs:List Int) (i:Nat) {H:List Op} {L:List Pt},RS n0 a b c m ν A H (YZ t (i+1) (i+1+cs.length)++(cs.map (fun d=>(⟨d,(k:Int)+1⟩:Pt))++L))→RS n0 a b c m ν A (H++tL t k i cs) L
 |[],i,H,L,h=>by rw[sO (by simp)]at h;simpa [tL]using h
 |d::cs,i,H,L,h=>by
  rw[Ce,Ym (by omega),show i+1+(cs.length+1)=i+1+1+cs.length by omega]at h
  have h1:=RS.link (p:=⟨t,(i:Int)+1⟩) (q:=⟨d,(k:Int)+1⟩) (L:=YZ t (i+1+1) (i+1+1+cs.length)++(cs.map (fun d=>(⟨d,(k:Int)+1⟩:Pt))++L)) (h.perm (by
   rw[PB];intro r
   simp only[zx,Hh,J7,gC,Int.natCast_add,Mz];omega))
  have h2:=RS.lns cs (i+1) h1
  rw[CG]at h2
  exact h2
theorem RS.passes{x:Nd}{cs:List Int}(hx:x.ports.toNat=cs.length+1):∀(r:List Int) (k:Nat) {H:List Op} {L:List Pt},RS n0 a b c m ν A H (r.flatMap (Ka x)++(cs.flatMap (fun d=>YZ d (k+1) (k+1+r.length))++L))→
  (∀s:Nat,k<s→s<k+1+r.length→m.has ⟨b,s⟩=true∧(⟨b,s⟩:Pt)∉L)→b∉r→b∉cs→
  RS n0 a b c m ν A (H++NK b cs k r) (YZ b (k+1) (k+1+r.length)++L)
 |[],k,H,L,h,hb,hbr,hbc=>by
  rw[sO (by simp)]
  have:(cs.flatMap fun d=>YZ d (k+1) (k+1+([]:List Int).length))=[]:=by
   rw[List.flatMap_eq_nil_iff];intro d _;exact sO (by simp)
  rw[this]at h
  simpa [NK]using h
 |t::r,k,H,L,h,hb,hbr,hbc=>by
  obtain⟨b1,b2⟩:=hb (k+1) (by omega) (by simp only[Ce];omega)
  rw[show((k+1:Nat):Int)=(k:Int)+1 by omega]at b1 b2
  simp only[qY,not_or]at hbr
  have hcs:∀(j u:Nat),(⟨b,(k:Int)+1⟩:Pt)∉cs.flatMap fun d=>YZ d j u:=fun j u hm=>by
   obtain⟨t,ht,hs⟩:=cP.1 hm
   have e:t=b:=(Jd.1 hs).1.symm
   subst e;exact hbc ht
  have hrn:(⟨b,(k:Int)+1⟩:Pt)∉r.flatMap (Ka x):=fun hm=>by
   obtain⟨t,ht,hs⟩:=cP.1 hm
   have e:t=b:=(Jd.1 hs).1.symm
   subst e;exact hbr.2 ht
  have e1:Ka x t=⟨t,0⟩::YZ t 1 (1+cs.length):=by
   unfold Ka;rw[hx,Ym (by omega),show cs.length+1=1+cs.length by omega];rfl
  rw[aC,e1]at h
  have h1:=RS.move (p:=⟨b,(k:Int)+1⟩) (q:=⟨t,0⟩) (by simpa only[Hh]using h) b1 (by
   have hpm:(⟨b,(k:Int)+1⟩:Pt)∉YZ t 1 (1+cs.length):=fun hm=>hbr.1 (Jd.1 hm).1
   simp only[qY,Sw,Pt.mk.injEq,hbr,false_and,not_or,not_false_eq_true,true_and]
   exact⟨⟨hpm,hrn⟩,hcs _ _,b2⟩) (.inr rfl)
  have p1:(cs.flatMap fun d=>YZ d (k+1) (k+1+(t::r).length)).Perm (cs.map (fun d=>(⟨d,(k:Int)+1⟩:Pt))++cs.flatMap fun d=>YZ d (k+1+1) (k+1+1+r.length)):=by
   have e:(fun d:Int=>YZ d (k+1) (k+1+(t::r).length))=fun d=>(⟨d,(k:Int)+1⟩:Pt)::YZ d (k+1+1) (k+1+1+r.length):=by
    funext d
    rw[Ce,Ym (by omega),show k+1+(r.length+1)=k+1+1+r.length by omega];rfl
   rw[e];exact Ki _ _ _
  have h2:=RS.lns (t:=t) (k:=k) cs 0 (L:=r.flatMap (Ka x)++((cs.flatMap fun d=>YZ d (k+1+1) (k+1+1+r.length))++⟨b,(k:Int)+1⟩::L)) (h1.perm (by
   rw[PB];intro q
   have:=(PB.1 p1) q
   simp only[Hh,J7,gC,Fy]at this⊢
   rw[this];omega))
  have h3:=RS.passes hx r (k+1) h2 (fun s h1 h2=>by
   obtain⟨c1,c2⟩:=hb s (by omega) (by simp only[Ce];omega)
   refine⟨c1,?_⟩
   have:¬(s:Int)=(k:Int)+1:=by omega
   simp only[qY,Pt.mk.injEq,this,and_false,false_or];exact c2) hbr.2 hbc
  have e2:YZ b (k+1) (k+1+(t::r).length)=⟨b,(k:Int)+1⟩::YZ b (k+1+1) (k+1+1+r.length):=by
   rw[Ce,Ym (by omega),show k+1+(r.length+1)=k+1+1+r.length by omega];rfl
  have e3:H++[Op.mv ⟨b,(k:Int)+1⟩ ⟨t,0⟩]++tL t k 0 cs++NK b cs (k+1) r=H++NK b cs k (t::r):=by
   simp only[NK,qg,Hh,Es]
  rw[e3]at h3
  rw[e2]
  refine h3.perm ?_
  rw[PB];intro q;simp only[Hh,J7,gC];omega
end
def Mr(u:Nm)(j k:Nat):List NP:=(List.range' j (k-j)).map fun(s:Nat)=>(u,(s:Int))
theorem ZU(ν:Int→Nm)(i:Int)(j k:Nat):(YZ i j k).map (nmP ν)=Mr (ν i) j k:=by unfold YZ Mr;rw[sT];rfl
def dropA(l:List NP)(ds:List Nm):List AO:=List.zipWith (fun p d=>.mv p (d,0)) l ds
def Zf(X Y:Nm)(l:List Nat):List AO:=l.map fun(s:Nat)=>.jn (X,(s:Int)) (Y,(s:Int))
def wV(X Y:Nm):Nat→List Nm→List AO
 |_,[]=>[]
 |i,[d]=>[.mv (Y,(i:Int)+1) (d,2),.mv (X,1) (d,1)]
 |i,d::e::r=>.mv (Y,(i:Int)+1) (d,2):: .ln (d,1) (e,0)::wV X Y (i+1) (e::r)
def lnA(t:Nm)(k:Nat):Nat→List Nm→List AO
 |_,[]=>[]
 |i,c::r=>.ln (t,(i:Int)+1) (c,(k:Int)+1)::lnA t k (i+1) r
def sU(Y:Nm)(cs:List Nm):Nat→List Nm→List AO
 |_,[]=>[]
 |k,t::r=>.mv (Y,(k:Int)+1) (t,0)::(lnA t k 0 cs++sU Y cs (k+1) r)
theorem Nu(ν:Int→Nm):∀(l:List Pt) (ds:List Int),(U2 l ds).map (Op.nm ν)=dropA (l.map (nmP ν)) (ds.map ν)
 |[],ds=>by simp[U2,dropA]
 |_::_,[]=>by simp[U2,dropA]
 |p::l,d::ds=>by
  have ih:=Nu ν l ds
  unfold U2 dropA at ih⊢
  simp only[List.zipWith_cons_cons,zx,ih]
  rfl
theorem IN(ν:Int→Nm)(a b:Int)(l:List Nat):(Lp a b l).map (Op.nm ν)=Zf (ν a) (ν b) l:=by unfold Lp Zf;rw[sT];rfl
theorem RU(ν:Int→Nm)(a b:Int):∀(l:List Int) (i:Nat),(pn a b i l).map (Op.nm ν)=wV (ν a) (ν b) i (l.map ν)
 |[],i=>rfl
 |[d],i=>rfl
 |d::e::r,i=>by
  have ih:=RU ν a b (e::r) (i+1)
  show Op.nm ν _::Op.nm ν _::(pn a b (i+1) (e::r)).map (Op.nm ν)=_
  rw[ih];rfl
theorem mC(ν:Int→Nm)(t:Int)(k:Nat):∀(l:List Int) (i:Nat),(tL t k i l).map (Op.nm ν)=lnA (ν t) k i (l.map ν)
 |[],i=>rfl
 |d::r,i=>by
  have ih:=mC ν t k r (i+1)
  show Op.nm ν _::(tL t k (i+1) r).map (Op.nm ν)=_
  rw[ih];rfl
theorem XH(ν:Int→Nm)(b:Int)(cs:List Int):∀(l:List Int) (k:Nat),(NK b cs k l).map (Op.nm ν)=sU (ν b) (cs.map ν) k (l.map ν)
 |[],k=>rfl
 |t::r,k=>by
  have ih:=XH ν b cs r (k+1)
  show Op.nm ν _::(tL t k 0 cs++NK b cs (k+1) r).map (Op.nm ν)=_
  rw[TU,ih,mC];rfl
noncomputable def I9(p:Pl)(dx dy:Nd)(X Y:Nm)(tag:Nat):List AO:=
 if p.k=1∨p.k=6 then Zf X Y (List.range' 1 (dx.to.length-1))
 else if p.k=2 then
  mkA (vQ dx.lv) (uX tag 0 (dx.al.getD p.alt.toNat zA).n.toNat)++(mkA (PN dx.lv) (uX tag (dx.al.getD p.alt.toNat zA).n.toNat ((Mr X 2 dx.to.length).filter fun r=> !decide (r=(X,p.alt+2))).length)++
   ((match uX tag 0 (dx.al.getD p.alt.toNat zA).n.toNat with|[]=>[AO.jn (X,p.alt+2) (X,1)]|d::_=>[AO.mv (X,p.alt+2) (d,0)])++
     (wV X Y 0 (uX tag 0 (dx.al.getD p.alt.toNat zA).n.toNat)++dropA ((Mr X 2 dx.to.length).filter fun r=> !decide (r=(X,p.alt+2))) (uX tag (dx.al.getD p.alt.toNat zA).n.toNat ((Mr X 2 dx.to.length).filter fun r=> !decide (r=(X,p.alt+2))).length))))
 else if p.k=3 then[.mk (tag,0) (wL (nz dx dy).fresh),.mv (X,2) ((tag,0),0),.mv (X,1) ((tag,0),1)]
 else if p.k=4 then[.mk (tag,0) (wL p.nd.fresh),.mv (X,1) ((tag,0),0)]
 else if p.k=5 then
  .mk (tag,0) (wL (B6 dx.lv).fresh)::(mkA (PN dx.lv) (uX tag 1 (Mr X 2 dx.to.length++Mr Y 1 dy.to.length).length)++(.mv (X,1) ((tag,0),0)::dropA (Mr X 2 dx.to.length++Mr Y 1 dy.to.length) (uX tag 1 (Mr X 2 dx.to.length++Mr Y 1 dy.to.length).length)))
 else if p.k=7 then
  mkA {dy with lv:=p.lv} (uX tag 0 (dx.to.length-1))++(mkA dx (uX tag (dx.to.length-1) (dy.to.length-1))++(dropA (Mr X 1 dx.to.length) (uX tag 0 (dx.to.length-1))++sU Y (uX tag 0 (dx.to.length-1)) 0 (uX tag (dx.to.length-1) (dy.to.length-1))))
 else if p.k=8 then mkA (PN dx.lv) (uX tag 0 (Mr Y 1 dy.to.length).length)++dropA (Mr Y 1 dy.to.length) (uX tag 0 (Mr Y 1 dy.to.length).length)
 else[]
section
variable{n:Nt}{a b:Int}{ν:Int→Nm}{A:Ab}{tag:Nat}
theorem Meet.usA(h:Meet n a b):Us n a:=Kx h.good.semi h.ha
theorem Meet.usB(h:Meet n a b):Us n b:=Kx h.good.semi h.hb
def jm(n:Nt)(a b:Int)(ν:Int→Nm)(A:Ab)(S:List AO)(res:Nt):Prop:=∃ν',Rep ν' res (LF n a b) (tw A S)∧∀i,Us n i→ν' i=ν i
theorem iF(h:Meet n a b)(he:(n.nd a).to.length=(n.nd b).to.length)(hR:Rep ν n [⟨a,0⟩,⟨b,0⟩] A):jm n a b ν A (Zf (ν a) (ν b) (List.range' 1 ((n.nd a).to.length-1))) (jI n a b):=by
 have hl:=h.lenA
 have h1:=RS.joins h.ab (List.range' 1 ((n.nd a).to.length-1)) (RS.nil h.start hR) (Ow ..) (fun s hs=>by
  rw[bE]at hs
  have e:¬s=0:=by omega
  refine⟨h.hasA (by omega),h.hasB (by omega),?_,?_⟩<;>simp[e])
 refine⟨ν,?_,fun _ _=>rfl⟩
 have h2:=h1.rep
 rw[Es,IN]at h2
 refine Rep.perm h2 ?_
 unfold LF
 rw[←he,aG a hl,aG b hl]
 unfold YZ
 rw[PB];intro q;simp only[Hh,J7,gC,Di];omega
theorem Uf(h:Meet n a b)(hx:(n.nd a).k=11)(hy:(n.nd b).k=10)(hu:n.used+1≤n.cap)(hR:Rep ν n [⟨a,0⟩,⟨b,0⟩] A)(hA:∀i,A.nd (tag,i)=none):
  jm n a b ν A [.mk (tag,0) (wL (nz (n.nd a) (n.nd b)).fresh),.mv (ν a,2) ((tag,0),0),.mv (ν a,1) ((tag,0),1)] (ik n a b):=by
 obtain⟨t,g1,g2,g3⟩:=h.start.make (ck h.ka h.kb) (FZ (y:=n.nd b) h.ma hx) (by show¬(12:Int)=0;omega) (by show¬(12:Int)=1;omega) (by omega)
 have r1:=hR.make h.start.semi g2 (by show¬(12:Int)=0;omega) (yX g2 (by show¬(12:Int)=0;omega)) (by show(0:Int)≤2;omega) (hA 0)
 have e3:(n.nd a).to.length=3:=yf h.pa (by unfold Nd.ports;rw[hx];rfl)
 have e1:(n.nd b).to.length=1:=yf h.pb (by unfold Nd.ports;rw[hy];rfl)
 rw[Xo rfl]at g3 r1
 have ht:(wS n (nz (n.nd a) (n.nd b))).2.1=t:=by rw[g1]
 have a1:=h.hasA (s:=1) (by omega)
 have a2:=h.hasA (s:=2) (by omega)
 have na:a≠t:=g2.new _ a1
 have h0:=RS.nil g3 r1
 have h1:=RS.move (p:=⟨a,2⟩) (q:=⟨t,0⟩) (L:=[⟨t,1⟩,⟨a,0⟩,⟨b,0⟩]) h0 ((g2.has _).2 (.inl a2)) (by simp[na]) (.inl rfl)
 have h2:=RS.move (p:=⟨a,1⟩) (q:=⟨t,1⟩) (L:=[⟨a,2⟩,⟨a,0⟩,⟨b,0⟩]) (h1.perm (List.Perm.swap ..)) ((g2.has _).2 (.inl a1)) (by simp[na]) (.inl rfl)
 have e:ik n a b=(Qs (Qs (wS n (nz (n.nd a) (n.nd b))).1 ⟨a,2⟩ ⟨t,0⟩).1 ⟨a,1⟩ ⟨t,1⟩).1:=by unfold ik;simp only[ht]
 rw[e]
 have νa:eo ν t (tag,0) a=ν a:=by unfold eo;rw[if_neg na]
 have νt:eo ν t (tag,0) t=(tag,0):=by unfold eo;rw[if_pos rfl]
 refine⟨eo ν t (tag,0),?_,fun i hi=>by unfold eo;rw[if_neg (fun e=>hi.2.2 (by rw[e];exact g2.free))]⟩
 have h3:=h2.rep
 have e4:tw (AO.run A (.mk (tag,0) (wL (nz (n.nd a) (n.nd b)).fresh))) (([]++[Op.mv ⟨a,2⟩ ⟨t,0⟩]++[Op.mv ⟨a,1⟩ ⟨t,1⟩]).map (Op.nm (eo ν t (tag,0))))=tw A [.mk (tag,0) (wL (nz (n.nd a) (n.nd b)).fresh),.mv (ν a,2) ((tag,0),0),.mv (ν a,1) ((tag,0),1)]:=by
  simp only[Es,Hh,zx,XM,Op.nm,nmP,νa,νt]
  rfl
 rw[e4]at h3
 refine Rep.perm h3 ?_
 unfold LF
 rw[e3,e1]
 show List.Perm [(⟨a,1⟩:Pt),⟨a,2⟩,⟨a,0⟩,⟨b,0⟩] [⟨a,0⟩,⟨a,1⟩,⟨a,2⟩,⟨b,0⟩]
 rw[PB];intro q;simp only[J7,Di];omega
theorem Mf(h:Meet n a b)(hx:(n.nd a).k=12)(hy:(n.nd b).k=10){x:Nd}(h1:x.may)(h2:x.Ok)(h3:x.ports=1)(h4:x.k≠0)(h5:x.k≠1)(hu:n.used+1≤n.cap)(hR:Rep ν n [⟨a,0⟩,⟨b,0⟩] A)(hA:∀i,A.nd (tag,i)=none):
  jm n a b ν A [.mk (tag,0) (wL x.fresh),.mv (ν a,1) ((tag,0),0)] (bJ n x a):=by
 obtain⟨t,g1,g2,g3⟩:=h.start.make h2 h1 h4 h5 (by omega)
 have r1:=hR.make h.start.semi g2 h4 (yX g2 h4) (by omega) (hA 0)
 have e3:(n.nd a).to.length=2:=yf h.pa (by unfold Nd.ports;rw[hx];rfl)
 have e1:(n.nd b).to.length=1:=yf h.pb (by unfold Nd.ports;rw[hy];rfl)
 rw[oE h3]at g3 r1
 have ht:(wS n x).2.1=t:=by rw[g1]
 have a1:=h.hasA (s:=1) (by omega)
 have na:a≠t:=g2.new _ a1
 have h1:=RS.move (p:=⟨a,1⟩) (q:=⟨t,0⟩) (L:=[⟨a,0⟩,⟨b,0⟩]) (RS.nil g3 r1) ((g2.has _).2 (.inl a1)) (by simp[na]) (.inl rfl)
 have e:bJ n x a=(Qs (wS n x).1 ⟨a,1⟩ ⟨t,0⟩).1:=by unfold bJ;simp only[ht]
 rw[e]
 have νa:eo ν t (tag,0) a=ν a:=by unfold eo;rw[if_neg na]
 have νt:eo ν t (tag,0) t=(tag,0):=by unfold eo;rw[if_pos rfl]
 refine⟨eo ν t (tag,0),?_,fun i hi=>by unfold eo;rw[if_neg (fun e=>hi.2.2 (by rw[e];exact g2.free))]⟩
 have h3:=h1.rep
 have e4:tw (AO.run A (.mk (tag,0) (wL x.fresh))) (([]++[Op.mv ⟨a,1⟩ ⟨t,0⟩]).map (Op.nm (eo ν t (tag,0))))=tw A [.mk (tag,0) (wL x.fresh),.mv (ν a,1) ((tag,0),0)]:=by
  simp only[Es,Hh,zx,XM,Op.nm,nmP,νa,νt]
  rfl
 rw[e4]at h3
 refine Rep.perm h3 ?_
 unfold LF
 rw[e3,e1]
 show List.Perm [(⟨a,1⟩:Pt),⟨a,0⟩,⟨b,0⟩] [⟨a,0⟩,⟨a,1⟩,⟨b,0⟩]
 exact List.Perm.swap ..
theorem YL(h:Meet n a b)(hx:(n.nd a).k=7)(hu:n.used+((n.nd b).to.length-1)≤n.cap)(hR:Rep ν n [⟨a,0⟩,⟨b,0⟩] A)(hA:∀i,A.nd (tag,i)=none):
  jm n a b ν A (mkA (PN (n.nd a).lv) (uX tag 0 (Mr (ν b) 1 (n.nd b).to.length).length)++dropA (Mr (ν b) 1 (n.nd b).to.length) (uX tag 0 (Mr (ν b) 1 (n.nd b).to.length).length)) (Dt n a b):=by
 have hl:=h.lenB
 have e1:(n.nd a).to.length=1:=yf h.pa (by unfold Nd.ports;rw[hx];rfl)
 have el:(YZ b 1 (n.nd b).to.length).length=(n.nd b).to.length-1:=VT _ _ _
 have el2:(Mr (ν b) 1 (n.nd b).to.length).length=(YZ b 1 (n.nd b).to.length).length:=by rw[←ZU,mB]
 have o1:=OP h.ka.lv
 have o2:=Vw h.ma.lv0 h.ma.lv1
 obtain⟨g1,g2,g3⟩:=h.start.likes o1 o2 (by show¬(7:Int)=0;omega) (by show¬(7:Int)=1;omega) (by show(0:Int)<1;omega) ((YZ b 1 (n.nd b).to.length).length) (by omega)
 obtain⟨ν',r1,r2,r3⟩:=h.start.likesR o1 o2 (by show¬(7:Int)=0;omega) (by show¬(7:Int)=1;omega) (by show(0:Int)<1;omega) hR (tag:=tag) (j:=0) (fun i _=>hA i) ((YZ b 1 (n.nd b).to.length).length) (by omega)
 rw[ep rfl]at g3 r1
 have h1:=RS.moves (YZ b 1 (n.nd b).to.length) (Tr n (PN (n.nd a).lv) (YZ b 1 (n.nd b).to.length).length).2 (RS.nil g3 r1) g2.symm (Qt _ _ _) (fun p hp=>by
  obtain⟨q1,q2,q3⟩:=Jd.1 hp
  have hh:n.has p=true:=sJ.2 ⟨by rw[q1];exact h.b0,by rw[q1];exact h.b1,by omega,by rw[q1];omega⟩
  refine⟨(g1.has p).2 (.inl hh),?_,fun hd=>g1.new _ hd p hh rfl,.inr q1⟩
  have:¬p.s=0:=by omega
  simp only[qY,oZ,or_false,not_or]
  exact⟨fun e=>this (by rw[e]),fun e=>this (by rw[e])⟩)
 refine⟨ν',?_,r2⟩
 have h3:=h1.rep
 rw[Es,Nu,ZU,r3,r2 b h.usB,←xe,←el2]at h3
 rw[el2]at h3
 have h4:Rep ν' (Dt n a b) (YZ b 1 (n.nd b).to.length++[⟨a,0⟩,⟨b,0⟩]) (tw A (mkA (PN (n.nd a).lv) (uX tag 0 (YZ b 1 (n.nd b).to.length).length)++dropA (Mr (ν b) 1 (n.nd b).to.length) (uX tag 0 (YZ b 1 (n.nd b).to.length).length))):=h3
 rw[el2]
 refine Rep.perm h4 ?_
 unfold LF
 rw[aG b hl,e1]
 show List.Perm _ ([(⟨a,0⟩:Pt)]++_)
 rw[PB];intro q;simp only[Hh,J7,gC,Di];omega
end
end Go.Proofs.YtmlhgalboabjcaaGreat
