/- Part 6 of what is proved for the law TurnLast: it returns true, whatever the input. No condition. -/
import Derived.Test.YtmlhgalboabjcaaGreatPTurnLaste
set_option maxHeartbeats 8000000
set_option maxRecDepth 100000
set_option linter.unusedSimpArgs false
set_option linter.unusedVariables false
namespace Go.Proofs.YtmlhgalboabjcaaGreat
open Go.Fx
section
variable{n:Nt}{a b:Int}{ν:Int→Nm}{A:Ab}{tag:Nat}
theorem dm(h:Meet n a b)(hx:2≤(n.nd a).to.length)(hu:n.used+(1+((n.nd a).to.length-2)+((n.nd b).to.length-1))≤n.cap)(hR:Rep ν n [⟨a,0⟩,⟨b,0⟩] A)(hA:∀i,A.nd (tag,i)=none):
  jm n a b ν A (.mk (tag,0) (wL (B6 (n.nd a).lv).fresh)::(mkA (PN (n.nd a).lv) (uX tag 1 (Mr (ν a) 2 (n.nd a).to.length++Mr (ν b) 1 (n.nd b).to.length).length)++(.mv (ν a,1) ((tag,0),0)::dropA (Mr (ν a) 2 (n.nd a).to.length++Mr (ν b) 1 (n.nd b).to.length) (uX tag 1 (Mr (ν a) 2 (n.nd a).to.length++Mr (ν b) 1 (n.nd b).to.length).length)))) (GH n a b):=by
 have hl:=h.lenB
 have f1:=JO h.ka.lv
 have f2:=rJ h.ma.lv0 h.ma.lv1
 obtain⟨t,g1,g2,g3⟩:=h.start.make f1 f2 (by show¬(13:Int)=0;omega) (by show¬(13:Int)=1;omega) (by omega)
 have r1:=hR.make h.start.semi g2 (by show¬(13:Int)=0;omega) (yX g2 (by show¬(13:Int)=0;omega)) (by show(0:Int)≤1;omega) (hA 0)
 rw[oE rfl]at g3 r1
 have ht:(wS n (B6 (n.nd a).lv)).2.1=t:=by rw[g1]
 obtain⟨m,hm⟩:∃m,(wS n (B6 (n.nd a).lv)).1=m:=⟨_,rfl⟩
 rw[hm]at g2 g3 r1
 have na:a≠t:=g2.new _ h.ha
 have nb:b≠t:=g2.new _ h.hb
 have ea:m.nd a=n.nd a:=g2.oth a h.a0 na
 have eb:m.nd b=n.nd b:=g2.oth b h.b0 nb
 have ef:GH n a b=rW (Qs (Tr m (PN (n.nd a).lv) (YZ a 2 (n.nd a).to.length++YZ b 1 (n.nd b).to.length).length).1 ⟨a,1⟩ ⟨t,0⟩).1
   (U2 (YZ a 2 (n.nd a).to.length++YZ b 1 (n.nd b).to.length) (Tr m (PN (n.nd a).lv) (YZ a 2 (n.nd a).to.length++YZ b 1 (n.nd b).to.length).length).2):=by
  unfold GH;simp only[hm,ht,ea,eb]
 have enm:Mr (ν a) 2 (n.nd a).to.length++Mr (ν b) 1 (n.nd b).to.length=(YZ a 2 (n.nd a).to.length++YZ b 1 (n.nd b).to.length).map (nmP ν):=by rw[TU,ZU,ZU]
 rw[enm,mB]
 obtain⟨l,hl0⟩:∃l,YZ a 2 (n.nd a).to.length++YZ b 1 (n.nd b).to.length=l:=⟨_,rfl⟩
 rw[hl0]at ef⊢
 have el:l.length=(n.nd a).to.length-2+((n.nd b).to.length-1):=by rw[←hl0,GM,VT,VT]
 have hmem:∀p∈l,(p.n=a∧2≤p.s∧p.s<(n.nd a).to.length)∨(p.n=b∧1≤p.s∧p.s<(n.nd b).to.length):=fun p hp=>by
  rw[←hl0,Sw,Jd,Jd]at hp;exact hp
 have hnod:l.Nodup:=by
  rw[←hl0,kE]
  refine⟨Qt _ _ _,Qt _ _ _,fun p hp q hq e=>?_⟩
  subst e
  exact h.ab ((Jd.1 hp).1.symm.trans (Jd.1 hq).1)
 have o1:=OP h.ka.lv
 have o2:=Vw h.ma.lv0 h.ma.lv1
 obtain⟨k1,k2,k3⟩:=g3.likes o1 o2 (by show¬(7:Int)=0;omega) (by show¬(7:Int)=1;omega) (by show(0:Int)<1;omega) l.length (by omega)
 have hA1:∀i,1≤i→(AO.run A (.mk (tag,0) (wL (B6 (n.nd a).lv).fresh))).nd (tag,i)=none:=fun i hi=>by
  show(if(tag,i)=(tag,0)then _ else A.nd (tag,i))=none
  rw[if_neg (by intro e;injection e with _ e;omega)];exact hA i
 obtain⟨ν',r2,r3,r4⟩:=g3.likesR o1 o2 (by show¬(7:Int)=0;omega) (by show¬(7:Int)=1;omega) (by show(0:Int)<1;omega) r1 hA1 l.length (by omega)
 rw[ep rfl]at k3 r2
 obtain⟨⟨m2,ds⟩,hr⟩:∃r,Tr m (PN (n.nd a).lv) l.length=r:=⟨_,rfl⟩
 rw[hr]at k1 k2 k3 ef r2 r4
 simp only at k1 k2 k3 ef r2 r4
 have a1:=h.hasA (s:=1) (by omega)
 have a1m:m.has ⟨a,1⟩=true:=(g2.has _).2 (.inl a1)
 have had:a∉ds:=fun hd=>k1.new _ hd _ a1m rfl
 have hbd:b∉ds:=fun hd=>k1.new _ hd _ ((g2.has _).2 (.inl h.hb)) rfl
 have htd:t∉ds:=fun hd=>k1.new _ hd ⟨t,0⟩ ((g2.has _).2 (.inr ⟨rfl,by simp,by show(0:Int)<1;omega⟩)) rfl
 have p0:List.Perm (α:=Pt) (ds.map (fun d=>(⟨d,0⟩:Pt))++([⟨t,0⟩]++[⟨a,0⟩,⟨b,0⟩])) (⟨t,0⟩::(ds.map (fun d=>(⟨d,0⟩:Pt))++[⟨a,0⟩,⟨b,0⟩])):=by
  rw[PB];intro q;simp only[Hh,J7,gC,Di,Es];omega
 have h1:=RS.move (p:=⟨a,1⟩) (q:=⟨t,0⟩) (L:=ds.map (fun d=>(⟨d,0⟩:Pt))++[⟨a,0⟩,⟨b,0⟩]) ((RS.nil k3 r2).perm p0) ((k1.has _).2 (.inl a1m)) (by
   simp only[qY,Sw,Om,Pt.mk.injEq,na,false_and,oZ,or_false,false_or,not_or,not_exists,not_and]
   refine⟨fun x hx e=>absurd (e▸hx) had,by simp,by simp⟩) (.inl rfl)
 have h2:=RS.moves l ds (L:=[⟨a,1⟩,⟨a,0⟩,⟨b,0⟩]) (h1.perm (by
  rw[PB];intro q;simp only[Hh,J7,gC,Di,Es];omega)) k2.symm hnod (fun p hp=>by
   have hmp:=hmem p hp
   have hh:n.has p=true:=by
    rcases hmp with⟨q1,q2,q3⟩|⟨q1,q2,q3⟩
    ·exact sJ.2 ⟨by rw[q1];exact h.a0,by rw[q1];exact h.a1,by omega,by rw[q1];omega⟩
    ·exact sJ.2 ⟨by rw[q1];exact h.b0,by rw[q1];exact h.b1,by omega,by rw[q1];omega⟩
   refine⟨(k1.has p).2 (.inl ((g2.has p).2 (.inl hh))),?_,?_,by rcases hmp with⟨q1,_⟩|⟨q1,_⟩;exact .inl q1;exact .inr q1⟩
   ·simp only[qY,oZ,or_false,not_or]
    have hab:=h.ab
    rcases hmp with⟨q1,q2,q3⟩|⟨q1,q2,q3⟩
    ·exact⟨fun e=>by rw[e]at q2;simp only at q2;omega,fun e=>by rw[e]at q2;simp only at q2;omega,fun e=>by rw[e]at q2;simp only at q2;omega⟩
    ·exact⟨fun e=>by rw[e]at q1;exact hab q1,fun e=>by rw[e]at q1;exact hab q1,fun e=>by rw[e]at q2;simp only at q2;omega⟩
   ·rcases hmp with⟨q1,_⟩|⟨q1,_⟩
    ·rw[q1];exact had
    ·rw[q1];exact hbd)
 have usm:∀i,Us n i→Us m i:=fun i hi=>(yX g2 (by show¬(13:Int)=0;omega) i).2 (.inl hi)
 have ust:Us m t:=(yX g2 (by show¬(13:Int)=0;omega) t).2 (.inr rfl)
 have νo:∀i,Us n i→ν' i=ν i:=fun i hi=>by
  rw[r3 i (usm i hi)];unfold eo;rw[if_neg (fun e=>hi.2.2 (by rw[e];exact g2.free))]
 have νt:ν' t=(tag,0):=by rw[r3 t ust];unfold eo;rw[if_pos rfl]
 have νl:l.map (nmP ν')=l.map (nmP ν):=GO fun p hp=>by
  unfold nmP
  rcases hmem p hp with⟨q1,_⟩|⟨q1,_⟩
  ·rw[q1,νo a h.usA]
  ·rw[q1,νo b h.usB]
 refine⟨ν',?_,νo⟩
 have h3:=h2.rep
 rw[Es,TU,Nu,r4,νl,zx,XM]at h3
 have e5:Op.nm ν' (.mv ⟨a,1⟩ ⟨t,0⟩)= .mv (ν a,1) ((tag,0),0):=by simp only[Op.nm,nmP,νt,νo a h.usA]
 rw[e5,xe,←xe,←xe]at h3
 have h4:Rep ν' (GH n a b) (l++[⟨a,1⟩,⟨a,0⟩,⟨b,0⟩]) (tw A (.mk (tag,0) (wL (B6 (n.nd a).lv).fresh)::(mkA (PN (n.nd a).lv) (uX tag 1 l.length)++(.mv (ν a,1) ((tag,0),0)::dropA (l.map (nmP ν)) (uX tag 1 l.length))))):=by
  rw[ef]
  simp[xe,rW,tw,cR]at h3⊢
  exact h3
 refine Rep.perm h4 ?_
 unfold LF
 rw[aG b hl,aG a (by omega),iV a (by omega),←hl0]
 rw[PB];intro q;simp only[Hh,J7,gC,Di];omega
theorem PA{ν:Int→Nm}{l:List Pt}{q:Pt}(h:∀p∈l,nmP ν p=nmP ν q→p=q):(l.filter fun r=> !decide (r=q)).map (nmP ν)=(l.map (nmP ν)).filter fun r=> !decide (r=nmP ν q):=by
 induction l with
 |nil=>rfl
 |cons p l ih=>
  have ih:=ih fun r hr=>h r (by simp[hr])
  have hp:=h p (by simp)
  rw[zx]
  by_cases e:p=q
  ·subst e
   rw[Ey (by simp),Ey (by simp),ih]
  ·rw[List.filter_cons_of_pos (by simp[e]),List.filter_cons_of_pos (by simp;exact fun k=>e (hp k)),zx,ih]
theorem EN(h:Meet n a b){lv:Int}(hx:cls (n.nd a).k=3)(hy:cls (n.nd b).k≠0)(h0:0≤lv)(h1:lv≤60)(hu:n.used+(((n.nd a).to.length-1:Int)+((n.nd b).to.length-1))≤n.cap)(hR:Rep ν n [⟨a,0⟩,⟨b,0⟩] A)(hA:∀i,A.nd (tag,i)=none):
  jm n a b ν A (mkA {n.nd b with lv:=lv} (uX tag 0 ((n.nd a).to.length-1))++(mkA (n.nd a) (uX tag ((n.nd a).to.length-1) ((n.nd b).to.length-1))++(dropA (Mr (ν a) 1 (n.nd a).to.length) (uX tag 0 ((n.nd a).to.length-1))++sU (ν b) (uX tag 0 ((n.nd a).to.length-1)) 0 (uX tag ((n.nd a).to.length-1) ((n.nd b).to.length-1))))) (Z0 n lv a b):=by
 have la:=h.lenA
 have lb:=h.lenB
 obtain⟨c0,c1,c2⟩:=Ys hy
 obtain⟨x0,x1,x2⟩:=Ys (k:=(n.nd a).k) (by omega)
 have hab:=h.ab
 have hba':¬b=a:=fun e=>hab e.symm
 obtain⟨y,hy0⟩:∃y:Nd,({n.nd b with lv:=lv}:Nd)=y:=⟨_,rfl⟩
 have yk:y.k=(n.nd b).k:=by rw[←hy0]
 have yt:y.to=(n.nd b).to:=by rw[←hy0]
 have yp:y.ports=(n.nd b).ports:=by rw[←hy0];rfl
 have ym:y.may:=by rw[←hy0];exact pS h.mb h0 h1 c2
 have yo:y.Ok:=by rw[←hy0];exact S4 h.kb (by unfold wf;omega)
 have pa:=h.pa
 have pb:=h.pb
 rw[hy0]
 obtain⟨g1,g2,g3⟩:=h.start.likes yo ym (by rw[yk];exact c0) (by rw[yk];exact c1) (by rw[yp];omega) ((n.nd a).to.length-1) (by omega)
 obtain⟨ν1,r1,r2,r3⟩:=h.start.likesR yo ym (by rw[yk];exact c0) (by rw[yk];exact c1) (by rw[yp];omega) hR (tag:=tag) (j:=0) (fun i _=>hA i) ((n.nd a).to.length-1) (by omega)
 obtain⟨⟨m,cs⟩,hr⟩:∃r,Tr n y ((n.nd a).to.length-1)=r:=⟨_,rfl⟩
 rw[hr]at g1 g2 g3 r1 r3
 simp only at g1 g2 g3 r1 r3
 have hA1:∀i,(n.nd a).to.length-1≤i→(tw A (mkA y (uX tag 0 ((n.nd a).to.length-1)))).nd (tag,i)=none:=fun i hi=>by
  rw[eM _ _ _ _ (by rw[gw];simp only;omega)];exact hA i
 obtain⟨k1,k2,k3⟩:=g3.likes h.ka h.ma x0 x1 (by omega) ((n.nd b).to.length-1) (by omega)
 obtain⟨ν2,s1,s2,s3⟩:=g3.likesR h.ka h.ma x0 x1 (by omega) r1 hA1 ((n.nd b).to.length-1) (by omega)
 obtain⟨⟨m2,ds⟩,hr2⟩:∃r,Tr m (n.nd a) ((n.nd b).to.length-1)=r:=⟨_,rfl⟩
 rw[hr2]at k1 k2 k3 s1 s3
 simp only at k1 k2 k3 s1 s3
 have hm:∀p,n.has p=true→m2.has p=true:=fun p hp=>(k1.has p).2 (.inl ((g1.has p).2 (.inl hp)))
 have hac:a∉cs:=fun hd=>g1.new _ hd _ h.ha rfl
 have hbc:b∉cs:=fun hd=>g1.new _ hd _ h.hb rfl
 have had:a∉ds:=fun hd=>k1.new _ hd _ ((g1.has _).2 (.inl h.ha)) rfl
 have hbd:b∉ds:=fun hd=>k1.new _ hd _ ((g1.has _).2 (.inl h.hb)) rfl
 have e:Z0 n lv a b=rW (rW m2 (U2 (YZ a 1 (n.nd a).to.length) cs)) (NK b cs 0 ds):=by
  unfold Z0;simp only[hy0,hr,yt,hr2]
 rw[e]
 have ey:(Ka y)=fun d=>(⟨d,0⟩:Pt)::YZ d 1 (n.nd b).to.length:=by
  funext d
  unfold Ka
  rw[yp,show(n.nd b).ports.toNat=(n.nd b).to.length by omega,aG d lb]
 have p1:=Ki (fun d:Int=>(⟨d,0⟩:Pt)) (fun d=>YZ d 1 (n.nd b).to.length) cs
 rw[ey]at k3 s1
 have nin:∀(u v:Int) (f:Int→List Pt) (l:List Int),(∀d p,p∈f d→p.n=d)→u∉l→(⟨u,v⟩:Pt)∉l.flatMap f:=fun u v f l hf hu hm=>by
  obtain⟨t,ht,hs⟩:=cP.1 hm
  have:=hf t _ hs
  simp only at this
  exact hu (this▸ht)
 have h1:=RS.moves (YZ a 1 (n.nd a).to.length) cs (L:=ds.flatMap (Ka (n.nd a))++((cs.flatMap fun d=>YZ d 1 (n.nd b).to.length)++[⟨a,0⟩,⟨b,0⟩])) ((RS.nil k3 s1).perm (by
  rw[PB];intro q
  have:=PB.1 p1 q
  simp only[Es,Hh,J7,gC,Di]at this⊢;omega)) (by rw[VT];exact g2.symm) (Qt _ _ _) (fun p hp=>by
   obtain⟨q1,q2,q3⟩:=Jd.1 hp
   obtain⟨u,v⟩:=p
   simp only at q1 q2 q3
   subst q1
   refine⟨hm _ (sJ.2 ⟨h.a0,h.a1,by simp only;omega,by simp only;omega⟩),?_,hac,.inl rfl⟩
   have v0:¬v=0:=by omega
   simp only[Sw,qY,Pt.mk.injEq,v0,and_false,oZ,or_false,not_or]
   exact⟨nin _ _ _ _ (fun d p hp=>(Jd.1 hp).1) had,nin _ _ _ _ (fun d p hp=>(Jd.1 hp).1) hac⟩)
 have h2:=RS.passes (x:=n.nd a) (cs:=cs) (by omega) ds 0 (L:=YZ a 1 (n.nd a).to.length++[⟨a,0⟩,⟨b,0⟩]) (h1.perm (by
  rw[show 0+1+ds.length=(n.nd b).to.length by omega]
  rw[PB];intro q
  simp only[Es,Hh,J7,gC,Di,Fy];omega)) (fun s s1 s2=>by
   refine⟨hm _ (h.hasB (by omega)),?_⟩
   have s0:¬(s:Int)=0:=by omega
   simp only[Sw,qY,Jd,Pt.mk.injEq,s0,hba',false_and,and_false,oZ,or_false,not_false_eq_true]) hbd hbc
 have usm:∀i,Us n i→Us m i:=fun i hi=>by
  rw[Cg]at hi⊢
  by_cases hid:i∈cs
  ·exact absurd (g1.free i hid) hi.2
  ·exact⟨hi.1,by rw[g1.oth i hi.1 hid];exact hi.2⟩
 have usc:∀d∈cs,Us m d:=fun d hd=>by
  rw[Cg];exact⟨by have:=g1.one d hd;omega,by rw[g1.nd d hd];show y.k≠0;rw[yk];exact c0⟩
 have νo:∀i,Us n i→ν2 i=ν i:=fun i hi=>by rw[s2 i (usm i hi),r2 i hi]
 have νc:cs.map ν2=uX tag 0 ((n.nd a).to.length-1):=by
  rw[←r3];exact GO fun d hd=>s2 d (usc d hd)
 refine⟨ν2,?_,νo⟩
 have h3:=h2.rep
 rw[Es,TU,Nu,XH,ZU,νc,s3,νo a h.usA,νo b h.usB,←xe,←xe,gn]at h3
 refine Rep.perm h3 ?_
 unfold LF
 rw[aG b lb,aG a la,show 0+1+ds.length=(n.nd b).to.length by omega]
 rw[PB];intro q;simp only[Es,Hh,J7,gC,Di,Fy];omega
theorem fE(h:Meet n a b)(hx:(n.nd a).k=9)(hy:(n.nd b).k=8){i:Nat}{B:Ar}(hB:(n.nd a).al[i]? =some B)(hN:B.n=((n.nd b).to.length:Int)-1)(hu:n.used+(B.n+(n.nd a).al.length-1)≤n.cap)(hR:Rep ν n [⟨a,0⟩,⟨b,0⟩] A)(hA:∀i,A.nd (tag,i)=none):
  jm n a b ν A (mkA (vQ (n.nd a).lv) (uX tag 0 B.n.toNat)++(mkA (PN (n.nd a).lv) (uX tag B.n.toNat ((Mr (ν a) 2 (n.nd a).to.length).filter fun r=> !decide (r=(ν a,(i:Int)+2))).length)++
   ((match uX tag 0 B.n.toNat with|[]=>[AO.jn (ν a,(i:Int)+2) (ν a,1)]|d::_=>[AO.mv (ν a,(i:Int)+2) (d,0)])++
     (wV (ν a) (ν b) 0 (uX tag 0 B.n.toNat)++dropA ((Mr (ν a) 2 (n.nd a).to.length).filter fun r=> !decide (r=(ν a,(i:Int)+2))) (uX tag B.n.toNat ((Mr (ν a) 2 (n.nd a).to.length).filter fun r=> !decide (r=(ν a,(i:Int)+2))).length))))) (uK n i a b):=by
 have hl:=h.lenB
 have hil:=(QU.1 hB).1
 have e1:(n.nd a).to.length=2+(n.nd a).al.length:=by
  have:=h.pa
  unfold Nd.ports at this;rw[hx]at this
  simp at this;omega
 have hA2:(n.nd a).al.getD i zA=B:=by rw[Kh,hB];rfl
 obtain⟨k,hk⟩:∃k:Nat,B.n=k:=⟨B.n.toNat,by omega⟩
 have hkn:B.n.toNat=k:=by omega
 rw[hkn]
 have el:(n.nd b).to.length=k+1:=by omega
 have q1o:=sV h.ka.lv
 have q1m:=SC h.ma.lv0 h.ma.lv1
 obtain⟨g1,g2,g3⟩:=h.start.likes q1o q1m (by show¬(3:Int)=0;omega) (by show¬(3:Int)=1;omega) (by show(0:Int)<3;omega) k (by omega)
 obtain⟨ν1,r1,r2,r3⟩:=h.start.likesR q1o q1m (by show¬(3:Int)=0;omega) (by show¬(3:Int)=1;omega) (by show(0:Int)<3;omega) hR (tag:=tag) (j:=0) (fun i _=>hA i) k (by omega)
 obtain⟨⟨m,apps⟩,hr⟩:∃r,Tr n (vQ (n.nd a).lv) k=r:=⟨_,rfl⟩
 rw[hr]at g1 g2 g3 r1 r3
 simp only at g1 g2 g3 r1 r3
 have haa:a∉apps:=fun hd=>g1.new _ hd _ h.ha rfl
 have hba:b∉apps:=fun hd=>g1.new _ hd _ h.hb rfl
 have ea:m.nd a=n.nd a:=g1.oth a h.a0 haa
 obtain⟨l,hl0⟩:∃l,rZ m a i=l:=⟨_,rfl⟩
 have hl1:l=(YZ a 2 (n.nd a).to.length).filter fun r=> !decide (r=⟨a,(i:Int)+2⟩):=by rw[←hl0];unfold rZ;rw[ea]
 have enm:(Mr (ν a) 2 (n.nd a).to.length).filter (fun r=> !decide (r=(ν a,(i:Int)+2)))=l.map (nmP ν):=by
  rw[hl1,PA (fun p hp e=>?_),ZU]
  ·rfl
  ·have hpp:=Jd.1 hp
   unfold nmP at e
   injection e with _ e
   obtain⟨u,v⟩:=p
   simp only at hpp e
   rw[hpp.1,e]
 rw[enm,mB]
 have hq2:(⟨a,(i:Int)+2⟩:Pt)∈YZ a 2 (n.nd a).to.length:=Jd.2 ⟨rfl,by simp only;omega,by simp only;omega⟩
 have hpl:=jl (Qt a 2 (n.nd a).to.length) hq2
 rw[←hl1]at hpl
 have hll:l.length=(n.nd a).al.length-1:=by
  have:=hpl.length_eq
  rw[VT,Ce]at this;omega
 have hnl:l.Nodup:=(TL.1 (hpl.nodup_iff.1 (Qt _ _ _))).2
 have hql:(⟨a,(i:Int)+2⟩:Pt)∉l:=(TL.1 (hpl.nodup_iff.1 (Qt _ _ _))).1
 have hml:∀p∈l,p.n=a∧2≤p.s∧p.s<(n.nd a).to.length∧p≠⟨a,(i:Int)+2⟩:=fun p hp=>by
  have h1:=Jd.1 (hpl.mem_iff.2 (tT _ hp))
  exact⟨h1.1,h1.2.1,h1.2.2,fun e=>hql (e▸hp)⟩
 have q2o:=OP h.ka.lv
 have q2m:=Vw h.ma.lv0 h.ma.lv1
 have hA1:∀i,k≤i→(tw A (mkA (vQ (n.nd a).lv) (uX tag 0 k))).nd (tag,i)=none:=fun i hi=>by
  rw[eM _ _ _ _ (by rw[gw];simp only;omega)];exact hA i
 obtain⟨k1,k2,k3⟩:=g3.likes q2o q2m (by show¬(7:Int)=0;omega) (by show¬(7:Int)=1;omega) (by show(0:Int)<1;omega) l.length (by omega)
 obtain⟨ν2,s1,s2,s3⟩:=g3.likesR q2o q2m (by show¬(7:Int)=0;omega) (by show¬(7:Int)=1;omega) (by show(0:Int)<1;omega) r1 hA1 l.length (by omega)
 rw[ep rfl]at k3 s1
 obtain⟨⟨m2,ds⟩,hr2⟩:∃r,Tr m (PN (n.nd a).lv) l.length=r:=⟨_,rfl⟩
 rw[hr2]at k1 k2 k3 s1 s3
 simp only at k1 k2 k3 s1 s3
 have hm:∀p,n.has p=true→m2.has p=true:=fun p hp=>(k1.has p).2 (.inl ((g1.has p).2 (.inl hp)))
 have had:a∉ds:=fun hd=>k1.new _ hd _ ((g1.has _).2 (.inl h.ha)) rfl
 have hbd:b∉ds:=fun hd=>k1.new _ hd _ ((g1.has _).2 (.inl h.hb)) rfl
 have a1:=h.hasA (s:=1) (by omega)
 have aq:n.has ⟨a,(i:Int)+2⟩=true:=by have:=h.hasA (s:=i+2) (by omega);exact this
 have nds:∀(u v:Int),u=a∨u=b→(⟨u,v⟩:Pt)∉ds.map fun d=>(⟨d,0⟩:Pt):=fun u v hu hm=>by
  simp only[Om,Pt.mk.injEq]at hm
  obtain⟨x,hx,e,_⟩:=hm
  rcases hu with hu|hu
  ·exact had (hu▸e▸hx)
  ·exact hbd (hu▸e▸hx)
 have hab:=h.ab
 have hba':¬b=a:=fun e=>hab e.symm
 have i0:¬(i:Int)+2=0:=by omega
 have i1:¬(i:Int)+2=1:=by omega
 have usm:∀i,Us n i→Us m i:=fun i hi=>by
  rw[Cg]at hi⊢
  by_cases hid:i∈apps
  ·exact absurd (g1.free i hid) hi.2
  ·exact⟨hi.1,by rw[g1.oth i hi.1 hid];exact hi.2⟩
 have usc:∀d∈apps,Us m d:=fun d hd=>by
  rw[Cg];exact⟨by have:=g1.one d hd;omega,by rw[g1.nd d hd];show¬(3:Int)=0;omega⟩
 have νo:∀i,Us n i→ν2 i=ν i:=fun i hi=>by rw[s2 i (usm i hi),r2 i hi]
 have νc:apps.map ν2=uX tag 0 k:=by
  rw[←r3];exact GO fun d hd=>s2 d (usc d hd)
 have νl:l.map (nmP ν2)=l.map (nmP ν):=GO fun p hp=>by
  unfold nmP;rw[(hml p hp).1,νo a h.usA]
 have fin:∀(H:List Op),RS n a b (0+k+l.length) m2 ν2 (tw (tw A (mkA (vQ (n.nd a).lv) (uX tag 0 k))) (mkA (PN (n.nd a).lv) (uX tag k l.length))) H (ds.map (fun d=>(⟨d,0⟩:Pt))++(⟨a,1⟩::⟨a,(i:Int)+2⟩::(YZ b 1 (k+1)++[⟨a,0⟩,⟨b,0⟩])))→
   Rep ν2 (rW m2 (H++U2 l ds)) (LF n a b) (tw (tw (tw A (mkA (vQ (n.nd a).lv) (uX tag 0 k))) (mkA (PN (n.nd a).lv) (uX tag k l.length))) (H.map (Op.nm ν2)++dropA (l.map (nmP ν)) (uX tag k l.length))):=by
  intro H hR
  have h2:=RS.moves l ds hR k2.symm hnl (fun p hp=>by
   obtain⟨q1,q2,q3,q4⟩:=hml p hp
   refine⟨hm p (sJ.2 ⟨by rw[q1];exact h.a0,by rw[q1];exact h.a1,by omega,by rw[q1];omega⟩),?_,by rw[q1];exact had,.inl q1⟩
   simp only[qY,Sw,Jd,oZ,or_false,not_or]
   refine⟨fun e=>?_,q4,fun e=>?_,fun e=>?_,fun e=>?_⟩
   ·rw[e]at q2;simp only at q2;omega
   ·rw[q1]at e;exact hab e.1
   ·rw[e]at q2;simp only at q2;omega
   ·rw[e]at q1;exact hba' q1)
  have h3:=h2.rep
  rw[TU,Nu,νl,s3]at h3
  refine Rep.perm h3 ?_
  unfold LF
  rw[aG b hl,aG a (by omega),iV a (by omega),el]
  rw[PB];intro q
  have hc:=PB.1 hpl q
  simp only[Hh,J7,gC,Di]at hc⊢
  rw[hc];omega
 cases apps with
 |nil=>
  have hk0:k=0:=by rw[←g2];rfl
  subst hk0
  have e:uK n i a b=rW m2 ([Op.jn ⟨a,(i:Int)+2⟩ ⟨a,1⟩]++U2 l ds):=by
   unfold uK
   simp only[KA,hA2,hk,hr,hl0,ea,hr2]
   rfl
  rw[e]
  have h1:=(RS.nil k3 s1).join (p:=⟨a,(i:Int)+2⟩) (q:=⟨a,1⟩) (hm _ aq) (hm _ a1) (by
   simp only[SN,Es,Sw,qY,Pt.mk.injEq,i0,hab,and_false,false_and,oZ,or_false];exact nds _ _ (.inl rfl)) (by
   simp only[SN,Es,Sw,qY,Pt.mk.injEq,hab,and_false,false_and,oZ,or_false,not_or];exact⟨nds _ _ (.inl rfl),by omega⟩) (by
   intro e;simp only[Pt.mk.injEq]at e;exact i1 e.2) (.inl rfl) (.inl rfl)
  have h5:=fin _ (h1.perm (by
   rw[sO (by omega)]
   rw[PB];intro q;simp only[SN,Es,Hh,J7,gC,Di];omega))
  refine⟨ν2,?_,νo⟩
  rw[←xe,←xe]at h5
  have ej:Op.nm ν2 (.jn ⟨a,(i:Int)+2⟩ ⟨a,1⟩)= .jn (ν a,(i:Int)+2) (ν a,1):=by simp only[Op.nm,nmP,νo a h.usA]
  simp only[Es,zx,XM,ej]at h5
  exact h5
 |cons d r=>
  have e:uK n i a b=rW m2 ([Op.mv ⟨a,(i:Int)+2⟩ ⟨d,0⟩]++pn a b 0 (d::r)++U2 l ds):=by
   unfold uK
   simp only[KA,hA2,hk,hr,hl0,ea,hr2]
   rw[gn,gn];rfl
  rw[e]
  rw[aC,Z8 rfl]at k3 s1
  have nrr:∀(u v:Int),u=a∨u=b→(⟨u,v⟩:Pt)∉r.flatMap (Ka (vQ (n.nd a).lv)):=fun u v hu hm=>by
   obtain⟨t,ht,hs⟩:=cP.1 hm
   have this:u=t:=(Jd.1 hs).1
   rcases hu with hu|hu
   ·exact haa (tT _ (by rw[←hu,this];exact ht))
   ·exact hba (tT _ (by rw[←hu,this];exact ht))
  have had':¬a=d:=fun e=>haa (by simp[e])
  have hbd':¬b=d:=fun e=>hba (by simp[e])
  have h1:=RS.move (p:=⟨a,(i:Int)+2⟩) (q:=⟨d,0⟩) (L:=⟨d,1⟩::⟨d,2⟩::(r.flatMap (Ka (vQ (n.nd a).lv))++(ds.map (fun d=>(⟨d,0⟩:Pt))++[⟨a,0⟩,⟨b,0⟩]))) ((RS.nil k3 s1).perm (by
   rw[PB];intro q;simp only[Es,Hh,J7,gC,Di];omega)) (hm _ aq) (by
    simp only[Sw,qY,Pt.mk.injEq,i0,hab,had',and_false,false_and,oZ,or_false,false_or,not_or];exact⟨nrr _ _ (.inl rfl),nds _ _ (.inl rfl)⟩) (.inl rfl)
  have h2:=RS.picks (lv:=(n.nd a).lv) r d 0 (L:=⟨a,(i:Int)+2⟩::(ds.map (fun d=>(⟨d,0⟩:Pt))++[⟨a,0⟩,⟨b,0⟩])) (h1.perm (by
   rw[PB];intro q;simp only[Es,Hh,J7,gC,Di];omega)) (fun s s1 s2=>by
    have hlen:r.length+1=k:=by rw[←g2];rfl
    refine⟨hm _ (h.hasB (by omega)),?_⟩
    have s0:¬(s:Int)=0:=by omega
    simp only[Sw,qY,Pt.mk.injEq,s0,hba',and_false,false_and,oZ,or_false,false_or];exact nds _ _ (.inr rfl)) (hm _ a1) (by
    simp only[Sw,qY,Pt.mk.injEq,hab,false_and,oZ,or_false,true_and,not_or]
    exact⟨by omega,nds _ _ (.inl rfl),by omega⟩) haa hba hab
  have hlen:r.length+1=k:=by rw[←g2];rfl
  have h5:=fin _ (h2.perm (by
   rw[show 0+2+r.length=k+1 by omega]
   rw[PB];intro q;simp only[Fy,Es,Hh,J7,gC,Di];omega))
  refine⟨ν2,?_,νo⟩
  rw[TU,RU,νc,νo a h.usA,νo b h.usB]at h5
  have ej:Op.nm ν2 (.mv ⟨a,(i:Int)+2⟩ ⟨d,0⟩)= .mv (ν a,(i:Int)+2) (ν2 d,0):=by simp only[Op.nm,nmP,νo a h.usA]
  rw[←xe,←xe]at h5
  have hnc:uX tag 0 k=ν2 d::r.map ν2:=by rw[←νc];rfl
  simp only[Es,zx,XM,ej]at h5
  rw[hnc]at h5⊢
  simpa only[qg,Es]using h5
end
theorem P6{n:Nt}{j:Nat}:Us n (j:Int)↔∃x,n.ns[j]? =some x∧x.k≠0:=by
 constructor
 ·rintro⟨h1,h2,h3⟩
  obtain⟨x,hx⟩:∃x,n.ns[j]? =some x:=⟨_,Xb (by omega)⟩
  rw[EZ hx]at h3
  exact⟨x,hx,h3⟩
 ·rintro⟨x,hx,hk⟩
  exact⟨by omega,by have:=(QU.1 hx).1;omega,by rw[EZ hx];exact hk⟩
theorem CJ{n:Nt}{i:Nat}(j:Int):Us (n.free (i:Int)) j↔Us n j∧j≠i:=by
 constructor
 ·intro h
  obtain⟨k,rfl⟩:∃k:Nat,j=k:=⟨j.toNat,by have:=h.1;omega⟩
  obtain⟨z,hz,hk⟩:=P6.1 h
  rcases fk hz with⟨_,h2⟩|⟨h1,h2⟩
  ·rw[h2]at hk;exact absurd rfl hk
  ·exact⟨P6.2 ⟨z,h2,hk⟩,by omega⟩
 ·rintro⟨h,h2⟩
  obtain⟨k,rfl⟩:∃k:Nat,j=k:=⟨j.toNat,by have:=h.1;omega⟩
  obtain⟨z,hz,hk⟩:=P6.1 h
  exact P6.2 ⟨z,dW hz (by omega) hk,hk⟩
theorem kU{n:Nt}{i:Nat}{j:Int}(h:Us (n.free (i:Int)) j):(n.free (i:Int)).nd j=n.nd j:=by
 obtain⟨k,rfl⟩:∃k:Nat,j=k:=⟨j.toNat,by have:=h.1;omega⟩
 obtain⟨z,hz,hk⟩:=P6.1 h
 rcases fk hz with⟨_,h2⟩|⟨h1,h2⟩
 ·rw[h2]at hk;exact absurd rfl hk
 ·rw[EZ hz,EZ h2]
section
variable{n:Nt}{a b:Int}{ν:Int→Nm}{A:Ab}{tag:Nat}
theorem PW(h:Meet n a b)(hR:Rep ν n [] A):Rep ν n [⟨a,0⟩,⟨b,0⟩] (AO.run A (.jn (ν a,0) (ν b,0))):=by
 have hs:Semi n (·∈([]:List Pt)):=h.good.semi.iff fun p=>by simp
 have h1:=hR.join hs h.ha h.hb (by simp) (by simp) (fun e=>h.ab (by injection e))
 rw[(hs.join h.ha (by simp) h.hb (by simp) (fun e=>h.ab (by injection e))).1,if_pos h.la]at h1
 exact h1
theorem Gd(h:Meet n a b){p:Pl}(hp:PlanX (n.nd a) (n.nd b) p)(hu:n.used+Fb p (n.nd a) (n.nd b)≤n.cap)(hR:Rep ν n [⟨a,0⟩,⟨b,0⟩] A)(hA:∀i,A.nd (tag,i)=none):jm n a b ν A (I9 p (n.nd a) (n.nd b) (ν a) (ν b) tag) (oq n p a b):=by
 have la:=h.lenA
 have lb:=h.lenB
 have ta:=RW h.ma h.pa
 have tb:=RW h.mb h.pb
 have oa:oth (n.nd a)=(n.nd a).to.length-1:=by rw[qj (by omega)];omega
 have ob:oth (n.nd b)=(n.nd b).to.length-1:=by rw[qj (by omega)];omega
 have pa:=h.pa
 have pb:=h.pb
 cases hp with
 |beta h1 hx hy=>
  have e2:oq n p a b=jI n a b:=by unfold oq;rw[h1];simp
  have e3:I9 p (n.nd a) (n.nd b) (ν a) (ν b) tag=Zf (ν a) (ν b) (List.range' 1 ((n.nd a).to.length-1)):=by unfold I9;rw[h1];simp
  rw[e2,e3]
  refine iF h ?_ hR
  unfold Nd.ports at pa pb;rw[hx]at pa;rw[hy]at pb
  simp at pa pb;omega
 |join h1 hx hy=>
  have e2:oq n p a b=jI n a b:=by unfold oq;rw[h1];simp
  have e3:I9 p (n.nd a) (n.nd b) (ν a) (ν b) tag=Zf (ν a) (ν b) (List.range' 1 ((n.nd a).to.length-1)):=by unfold I9;rw[h1];simp
  rw[e2,e3]
  refine iF h ?_ hR
  have hx2:=(Lq _).1 hx
  have e3:(n.nd a).ports=(n.nd b).ports:=by
   unfold Nd.ports;rw[←hy]
   rcases hx2 with h|h|h<;>rw[h]<;>simp
  omega
 |pick i B h1 hx hy h2 h3 h4=>
  have hil:=(QU.1 h3).1
  have hal:=h.ma.al8
  have hA2:(n.nd a).al.getD i zA=B:=by rw[Kh,h3];rfl
  have e:Fb p (n.nd a) (n.nd b)=B.n+(n.nd a).al.length-1:=by
   unfold Fb;rw[if_pos h1,if_neg (by omega),h2,KA,hA2,Bf (z:=B.n+(n.nd a).al.length) (by omega),Bf (by omega)]
  have e2:oq n p a b=uK n i a b:=by unfold oq;rw[h1,h2];simp
  rw[e]at hu
  have h5:=fE h hx hy h3 h4 hu hR hA
  rw[e2]
  have e3:I9 p (n.nd a) (n.nd b) (ν a) (ν b) tag=(mkA (vQ (n.nd a).lv) (uX tag 0 B.n.toNat)++(mkA (PN (n.nd a).lv) (uX tag B.n.toNat ((Mr (ν a) 2 (n.nd a).to.length).filter fun r=> !decide (r=(ν a,(i:Int)+2))).length)++
   ((match uX tag 0 B.n.toNat with|[]=>[AO.jn (ν a,(i:Int)+2) (ν a,1)]|d::_=>[AO.mv (ν a,(i:Int)+2) (d,0)])++
     (wV (ν a) (ν b) 0 (uX tag 0 B.n.toNat)++dropA ((Mr (ν a) 2 (n.nd a).to.length).filter fun r=> !decide (r=(ν a,(i:Int)+2))) (uX tag B.n.toNat ((Mr (ν a) 2 (n.nd a).to.length).filter fun r=> !decide (r=(ν a,(i:Int)+2))).length))))):=by
   unfold I9
   rw[if_neg (by omega),if_pos h1,h2,KA,hA2]
   try rfl
  rw[e3];exact h5
 |half h1 hx hy=>
  have e:Fb p (n.nd a) (n.nd b)=1:=by unfold Fb;rw[h1];simp
  have e2:oq n p a b=ik n a b:=by unfold oq;rw[h1];simp
  have e3:I9 p (n.nd a) (n.nd b) (ν a) (ν b) tag=[.mk (tag,0) (wL (nz (n.nd a) (n.nd b)).fresh),.mv (ν a,2) ((tag,0),0),.mv (ν a,1) ((tag,0),1)]:=by unfold I9;rw[h1];simp
  rw[e]at hu
  rw[e2,e3]
  exact Uf h hx hy hu hR hA
 |out h1 hx hy g1 g2 g3 g4 g5=>
  have e:Fb p (n.nd a) (n.nd b)=1:=by unfold Fb;rw[h1];simp
  have e2:oq n p a b=bJ n p.nd a:=by unfold oq;rw[h1];simp
  have e3:I9 p (n.nd a) (n.nd b) (ν a) (ν b) tag=[.mk (tag,0) (wL p.nd.fresh),.mv (ν a,1) ((tag,0),0)]:=by unfold I9;rw[h1];simp
  rw[e]at hu
  rw[e2,e3]
  exact Mf h hx hy g1 g2 g3 g4 g5 hu hR hA
 |fail h1 hx hy=>
  have hx2:=(Y8 _).1 hx
  have hal:=h.ma.al8
  have l2:2≤(n.nd a).to.length:=by
   unfold Nd.ports at pa
   rcases hx2 with h|h|h|h<;>rw[h]at pa<;>simp at pa<;>omega
  have e:Fb p (n.nd a) (n.nd b)=1+((n.nd a).to.length-2)+((n.nd b).to.length-1):=by
   unfold Fb;rw[h1]
   simp only[Int.reduceEq,if_false,or_self,if_true]
   rw[oa,ob,Bf (z:=(n.nd a).to.length-1-1) (by omega),Bf (z:=1+max ((n.nd a).to.length-1-1:Int) 0) (by omega),Bf (by omega)]
   omega
  have e2:oq n p a b=GH n a b:=by unfold oq;rw[h1];simp
  rw[e]at hu
  have h5:=dm (tag:=tag) h l2 hu hR hA
  rw[e2]
  unfold I9
  rw[if_neg (by omega),if_neg (by omega),if_neg (by omega),if_neg (by omega),if_pos h1]
  exact h5
 |pass h1 hx hy g1 g2=>
  have hx2:=(Lq _).1 hx
  have e:Fb p (n.nd a) (n.nd b)=((n.nd a).to.length-1:Int)+((n.nd b).to.length-1):=by
   unfold Fb;rw[h1]
   simp only[Int.reduceEq,if_false,or_self,if_true]
   rw[ob]
   unfold Nd.ports at pa
   by_cases h4:(n.nd a).k=4
   ·rw[if_pos h4,Bf (by omega)]
    rw[h4]at pa;simp at pa;omega
   ·rw[if_neg h4,Bf (by omega)]
    rcases hx2 with h|h|h
    ·exact absurd h h4
    ·rw[h]at pa;simp at pa;omega
    ·rw[h]at pa;simp at pa;omega
  have e2:oq n p a b=Z0 n p.lv a b:=by unfold oq;rw[h1];simp
  rw[e]at hu
  have h5:=EN (tag:=tag) h hx hy g1 g2 hu hR hA
  rw[e2]
  unfold I9
  rw[if_neg (by omega),if_neg (by omega),if_neg (by omega),if_neg (by omega),if_neg (by omega),if_pos h1]
  exact h5
 |drop h1 hx hy=>
  have e:Fb p (n.nd a) (n.nd b)=(n.nd b).to.length-1:=by unfold Fb;rw[h1];simp[ob]
  have e2:oq n p a b=Dt n a b:=by unfold oq;rw[h1];simp
  rw[e]at hu
  have h5:=YL (tag:=tag) h hx hu hR hA
  rw[e2]
  unfold I9
  rw[if_neg (by omega),if_neg (by omega),if_neg (by omega),if_neg (by omega),if_neg (by omega),if_neg (by omega),if_pos h1]
  exact h5
noncomputable def OB(p:Pl)(dx dy:Nd)(X Y U V:Nm)(tag:Nat):List AO:=AO.jn (X,0) (Y,0)::(I9 p dx dy X Y tag++[.fr U,.fr V])
theorem Qu(h:Meet n a b){p:Pl}(hp:PlanX (n.nd a) (n.nd b) p)(hu:n.used+Fb p (n.nd a) (n.nd b)≤n.cap)(hR:Rep ν n [] A)(hA:∀i,A.nd (tag,i)=none):
  ∃ν',Rep ν' (Ks n p a b) [] (tw A (OB p (n.nd a) (n.nd b) (ν a) (ν b) (ν (max a b)) (ν (min a b)) tag))∧∀i,Us n i→i≠a→i≠b→ν' i=ν i:=by
 obtain⟨ka,kb⟩:=iv hp
 have hr:=Ny h hp hu
 obtain⟨ν',d1,d2⟩:=Gd (tag:=tag) h hp hu (PW h hR) hA
 obtain⟨m,hm⟩:∃m,oq n p a b=m:=⟨_,rfl⟩
 rw[hm]at hr d1
 have a0:=h.a0
 have b0:=h.b0
 have hab:=h.ab
 have la:=h.lenA
 have lb:=h.lenB
 have node:∀t:Int,Us n t→(n.nd t).k≠1→∃x,m.ns[t.toNat]? =some x∧x.k≠0∧x.to.length=(n.nd t).to.length∧1≤t:=by
  intro t ht hk1
  obtain⟨y,g1,g2,g3⟩:=hr.old _ _ (OA ht.1 ht.2.1) ht.2.2
  refine⟨y,g1,by rw[g2];exact ht.2.2,g3,?_⟩
  have g:=(h.good.nds _ _ (OA ht.1 ht.2.1)).2.2.1
  have:=ht.1
  by_cases e:t=0
  ·exact absurd (g.1 (by omega)) hk1
  ·omega
 have both:∀t:Nat,(t:Int)=a∨(t:Int)=b→∃x,m.ns[t]? =some x∧x.k≠0∧1≤t∧∀p,m.has p=true→p.n=t→p∈LF n a b:=by
  intro t ht
  rcases ht with ht|ht
  ·obtain⟨x,g1,g2,g3,g4⟩:=node a h.usA ka
   rw[show a.toNat=t by omega]at g1
   refine⟨x,g1,g2,by omega,fun p hp e=>ch.2 (.inl ?_)⟩
   have h1:=sJ.1 hp
   rw[e,EZ g1,g3]at h1
   exact⟨by omega,h1.2.2.1,h1.2.2.2⟩
  ·obtain⟨x,g1,g2,g3,g4⟩:=node b h.usB kb
   rw[show b.toNat=t by omega]at g1
   refine⟨x,g1,g2,by omega,fun p hp e=>ch.2 (.inr ?_)⟩
   have h1:=sJ.1 hp
   rw[e,EZ g1,g3]at h1
   exact⟨by omega,h1.2.2.1,h1.2.2.2⟩
 obtain⟨i,hi⟩:∃i:Nat,max a b=i:=⟨(max a b).toNat,by omega⟩
 obtain⟨j,hj⟩:∃j:Nat,min a b=j:=⟨(min a b).toNat,by omega⟩
 have hij:(i:Int)=a∧(j:Int)=b∨(i:Int)=b∧(j:Int)=a:=by omega
 obtain⟨x,x1,x2,x3,x4⟩:=both i (by omega)
 obtain⟨y,y1,y2,y3,y4⟩:=both j (by omega)
 obtain⟨f1,s1,u1,h1,l1⟩:=hr.semi.free x1 x3 x2 x4
 have y1':=dW (i:=i) y1 (by omega) y2
 have hL1:∀p,p∈(LF n a b).filter (fun r=>decide (r.n≠(i:Int)))↔p∈LF n a b∧p.n≠i:=fun p=>by rw[Bo];simp
 have r1:=d1.free hr.semi (i:=(i:Int)) (fun j=>CJ j) (fun j hj=>kU hj) (P6.2 ⟨x,x1,x2⟩) x4 hL1 h1 l1
 have s1':Semi (m.free (i:Int)) (·∈(LF n a b).filter (fun r=>decide (r.n≠(i:Int)))):=s1.iff fun p=>(hL1 p).symm
 obtain⟨f2,s2,u2,h2,l2⟩:=s1.free y1' y3 y2 (fun p hp e=>⟨y4 p ((h1 p).1 hp).1 e,by omega⟩)
 have r2:=r1.free s1' (i:=(j:Int)) (M:=[]) (fun k=>CJ k) (fun k hk=>kU hk) (P6.2 ⟨y,y1',y2⟩) (fun p hp e=>(hL1 p).2 ⟨y4 p ((h1 p).1 hp).1 e,by omega⟩) (fun p=>by
  rw[hL1]
  constructor
  ·intro h;simp at h
  ·rintro⟨⟨k1,k2⟩,k3⟩
   exfalso
   rcases ch.1 k1 with⟨k,_⟩|⟨k,_⟩<;>omega) h2 l2
 have es:Ks n p a b=(m.free (i:Int)).free (j:Int):=by
  unfold Ks
  rw[hm,hi,hj,f1]
  simp only
  rw[f2]
 have ni:ν' i=ν i:=d2 i (by rcases hij with⟨k,_⟩|⟨k,_⟩<;>rw[k];exact h.usA;exact h.usB)
 have nj:ν' j=ν j:=d2 j (by rcases hij with⟨_,k⟩|⟨_,k⟩<;>rw[k];exact h.usB;exact h.usA)
 refine⟨ν',?_,fun k hk _ _=>d2 k hk⟩
 rw[es,hi,hj]
 rw[ni,nj]at r2
 have e:tw A (OB p (n.nd a) (n.nd b) (ν a) (ν b) (ν i) (ν j) tag)=AO.run (AO.run (tw (AO.run A (.jn (ν a,0) (ν b,0))) (I9 p (n.nd a) (n.nd b) (ν a) (ν b) tag)) (.fr (ν i))) (.fr (ν j)):=by
  unfold OB
  show tw (AO.run A _) _=_
  rw[xe];rfl
 rw[e]
 exact r2
end
inductive Exq where
 |e
 |r (x:Exq)
 |s (x:Exq)
 |p (x y:Exq)
abbrev Cx:=List Exq
inductive Bs:Int→Int→Cx→Exq→Prop
 |l (x:Exq):Bs 4 1 [x] (.r x)
 |r (x:Exq):Bs 4 2 [x] (.s x)
 |o:Bs 5 1 [] .e
 |h (x y:Exq):Bs 6 1 [x,y] (.p x y)
def Ctl(k lv s:Int)(c d:Cx):Prop:=∃u v x w,((u.length:Nat):Int)=lv∧Bs k s v x∧c=u++(v++w)∧d=u++(x::w)
def dl(k:Int):Int:=if k=5 then-1 else if k=6 then 1 else 0
theorem Bs.cls{k s:Int}{v:Cx}{x:Exq}(h:Bs k s v x):(k=4∧(s=1∨s=2))∨((k=5∨k=6)∧s=1):=by cases h<;>simp
theorem Bs.len{k s:Int}{v:Cx}{x:Exq}(h:Bs k s v x):((v.length:Nat):Int)=1+dl k:=by cases h<;>simp[dl]
theorem Bs.inj{k k' s s':Int}{v v':Cx}{x:Exq}(h:Bs k s v x)(h':Bs k' s' v' x):k=k'∧s=s'∧v=v':=by
 cases h<;>cases h'<;>exact⟨rfl,rfl,rfl⟩
theorem Ctl.cls{k lv s:Int}{c d:Cx}(h:Ctl k lv s c d):(k=4∧(s=1∨s=2))∨((k=5∨k=6)∧s=1):=by
 obtain⟨u,v,x,w,_,h,_⟩:=h;exact h.cls
theorem Ctl.inj{k k' lv s s':Int}{c c' d:Cx}(h:Ctl k lv s c d)(h':Ctl k' lv s' c' d):k=k'∧s=s'∧c=c':=by
 obtain⟨u,v,x,w,h1,h2,rfl,rfl⟩:=h
 obtain⟨u',v',x',w',g1,g2,rfl,e⟩:=h'
 have hl:u.length=u'.length:=by omega
 obtain⟨rfl,e3⟩:=List.append_inj e hl
 injection e3 with e1 e2
 subst e1 e2
 obtain⟨rfl,rfl,rfl⟩:=h2.inj g2
 exact⟨rfl,rfl,rfl⟩
theorem Ctl.ext{k lv s:Int}{c d:Cx}(h:Ctl k lv s c d)(e:Cx):Ctl k lv s (c++e) (d++e):=by
 obtain⟨u,v,x,w,h1,h2,rfl,rfl⟩:=h
 exact⟨u,v,x,w++e,h1,h2,by simp,by simp⟩
theorem Ctl.len{k lv s:Int}{c d:Cx}(h:Ctl k lv s c d):((c.length:Nat):Int)=d.length+dl k∧lv<d.length:=by
 obtain⟨u,v,x,w,h1,h2,rfl,rfl⟩:=h
 have:=h2.len
 simp only[GM,Ce]
 omega
theorem Ctl.sq{kA i s kB j t:Int}{c c' d:Cx}(h:Ctl kA i s c c')(g:Ctl kB j t d c')(hij:i<j):∃d0,Ctl kB (j+dl kA) t d0 c∧Ctl kA i s d0 d:=by
 obtain⟨u,v,x,w,h1,h2,rfl,rfl⟩:=h
 obtain⟨u',v',x',w',g1,g2,rfl,e⟩:=g
 have hl:u.length<u'.length:=by omega
 obtain⟨m,rfl,rfl⟩:∃m,u'=u++(x::m)∧w=m++(x'::w'):=by
  rw[List.append_eq_append_iff]at e
  rcases e with⟨a,e1,e2⟩|⟨a,e1,e2⟩
  ·cases a with
   |nil=>rw[e1]at hl;simp at hl
   |cons y m=>
    injection e2 with e2 e3
    subst e2
    exact⟨m,e1,e3⟩
  ·rw[e1]at hl;simp only[GM]at hl;omega
 have hv:=h2.len
 refine⟨u++(v++(m++(v'++w'))),⟨u++(v++m),v',x',w',?_,g2,by simp,by simp⟩,⟨u,v,x,m++(v'++w'),h1,h2,rfl,by simp⟩⟩
 simp only[GM,Ce]at g1⊢
 omega
abbrev Sc:=Nm→Cx→Prop
def Sc.add(S:Sc)(X:Nm)(c:Cx):Sc:=fun Z d=>S Z d∨Z=X∧d=c
def Ty(k:Int):Prop:=k=2∨k=3∨k=8∨k=9∨k=10∨k=11∨k=12∨k=13
def ent(k:Int):Int:=if k=3∨k=9∨k=11∨k=12 then 1 else 0
def tW(x:Nd)(s:Int):Prop:=0≤s∧s<x.to.length∧s≠ent x.k∧¬(x.k=2∧s=2)
def H7(k s:Int)(e:Cx):Prop:=if k=8∨k=3∧s=2 then e.length=1 else e=[]
theorem gY(k s:Int):∃e,H7 k s e:=by
 unfold H7
 split
 ·exact⟨[.e],rfl⟩
 ·exact⟨[],rfl⟩
theorem DN(k:Int):ent k=0∨ent k=1:=by unfold ent;split<;>simp
inductive Ok(A:Ab):Sc→NP→Cx→Prop
 |node {S:Sc} {X:Nm} {x:Nd} {c:Cx} (f:Int→NP) (hx:A.nd X=some x) (hk:Ty x.k) (hc:((c.length:Nat):Int)=x.lv) (hf:∀s,tW x s→A.lk (X,s)=some (f s))
   (h:∀s,tW x s→∀e,H7 x.k s e→Ok A (S.add X c) (f s) (c++e)):Ok A S (X,ent x.k) c
 |var {S:Sc} {X:Nm} {x:Nd} {c d:Cx} (hx:A.nd X=some x) (hk:x.k=2) (hS:S X c) (hd:d.length=1):Ok A S (X,2) (c++d)
 |fw {S:Sc} {X:Nm} {x:Nd} {s:Int} {c d:Cx} {q:NP} (hx:A.nd X=some x) (hc:Ctl x.k x.lv s c d) (hl:A.lk (X,0)=some q) (h:Ok A S q d):Ok A S (X,s) c
 |bw {S:Sc} {X:Nm} {x:Nd} {s:Int} {c d:Cx} {q:NP} (hx:A.nd X=some x) (hc:Ctl x.k x.lv s c d) (hl:A.lk (X,s)=some q) (h:Ok A S q c):Ok A S (X,0) d
theorem Ok.weak{A:Ab}{S:Sc}{q:NP}{c:Cx}(h:Ok A S q c):∀{R:Sc},(∀Z d,S Z d→R Z d)→Ok A R q c:=by
 induction h with
 |node f hx hk hc hf _ ih=>exact fun hR=>.node f hx hk hc hf fun s hs e he=>ih s hs e he fun Z d hZ=>hZ.imp (hR Z d) id
 |var hx hk hS hd=>exact fun hR=>.var hx hk (hR _ _ hS) hd
 |fw hx hc hl _ ih=>exact fun hR=>.fw hx hc hl (ih hR)
 |bw hx hc hl _ ih=>exact fun hR=>.bw hx hc hl (ih hR)
inductive OkI(A:Ab)(S:Sc)(W:Nm)(w:Nd)(s:Int)(c:Cx):Prop
 |node (hk:Ty w.k) (hs:s=ent w.k) (hc:((c.length:Nat):Int)=w.lv) (h:∀t,tW w t→∃r,A.lk (W,t)=some r∧∀e,H7 w.k t e→Ok A (S.add W c) r (c++e))
 |var (hk:w.k=2) (hs:s=2) (a d:Cx) (hc:c=a++d) (hS:S W a) (hd:d.length=1)
 |fw (d:Cx) (r:NP) (hc:Ctl w.k w.lv s c d) (hl:A.lk (W,0)=some r) (h:Ok A S r d)
 |bw (t:Int) (a:Cx) (r:NP) (hs:s=0) (hc:Ctl w.k w.lv t a c) (hl:A.lk (W,t)=some r) (h:Ok A S r a)
theorem Ok.inv{A:Ab}{S:Sc}{q:NP}{c:Cx}(h:Ok A S q c):∀{W:Nm} {s:Int},q=(W,s)→∃w,A.nd W=some w∧OkI A S W w s c:=by
 cases h with
 |node f hx hk hc hf h=>intro W s e;injection e with e1 e2;subst e1;exact⟨_,hx,.node hk e2.symm hc fun t ht=>⟨_,hf t ht,h t ht⟩⟩
 |var hx hk hS hd=>intro W s e;injection e with e1 e2;subst e1;exact⟨_,hx,.var hk e2.symm _ _ rfl hS hd⟩
 |fw hx hc hl h=>intro W s e;injection e with e1 e2;subst e1 e2;exact⟨_,hx,.fw _ _ hc hl h⟩
 |bw hx hc hl h=>intro W s e;injection e with e1 e2;subst e1;exact⟨_,hx,.bw _ _ _ e2.symm hc hl h⟩
theorem Ok.inv'{A:Ab}{S:Sc}{W:Nm}{s:Int}{c:Cx}(h:Ok A S (W,s) c){w:Nd}(hw:A.nd W=some w):OkI A S W w s c:=by
 obtain⟨v,hv,hi⟩:=h.inv rfl
 rw[hw]at hv
 rw[BQ hv];exact hi
section
variable(A B:Ab)(X Y:Nm)(x y:Nd)(T:NP→NP→Prop)(Env:Sc→Sc→Prop)
def Mo(S:Sc)(q:NP)(c:Cx):Prop:=∀R,Env S R→∀q',T q q'→Ok B R q' c
inductive Sp(W:Nm)(w:Nd)(S:Sc)(c:Cx):Prop
 |node (hk:Ty w.k) (he:ent w.k=0) (hc:((c.length:Nat):Int)=w.lv) (h:∀t,tW w t→∃r,A.lk (W,t)=some r∧∀e,H7 w.k t e→Ok A (S.add W c) r (c++e)∧Mo B T Env (S.add W c) r (c++e))
 |bw (t:Int) (a:Cx) (r:NP) (hc:Ctl w.k w.lv t a c) (hl:A.lk (W,t)=some r) (h:Ok A S r a) (hM:Mo B T Env S r a)
structure MM(S:Sc)(q:NP)(c:Cx):Prop where
 ok:Ok A S q c
 mo:q≠(X,0)→q≠(Y,0)→Mo B T Env S q c
 sx:q=(X,0)→Sp A B T Env X x S c
 sy:q=(Y,0)→Sp A B T Env Y y S c
structure Hyp:Prop where
 both:Kv A.lk
 lk:A.lk (X,0)=some (Y,0)
 hx:A.nd X=some x
 hy:A.nd Y=some y
 nd:∀Z z,Z≠X→Z≠Y→A.nd Z=some z→B.nd Z=some z
 wire:∀Z s q,Z≠X→Z≠Y→A.lk (Z,s)=some q→(∃S R c,Env S R∧Ok A S q c)→∃q',B.lk (Z,s)=some q'∧T q q'
 same:∀q q',T q q'→q.1≠X→q.1≠Y→q'=q
 add:∀S R Z c,Env S R→Z≠X→Z≠Y→Env (S.add Z c) (R.add Z c)
 sc:∀S R Z c,Env S R→S Z c→Z≠X→Z≠Y→R Z c
 node:∀W w,(W=X∧w=x∨W=Y∧w=y)→Ty w.k→ent w.k=1→∀S c,((c.length:Nat):Int)=w.lv→(∀t,tW w t→∃r,A.lk (W,t)=some r∧∀e,H7 w.k t e→MM A B X Y x y T Env (S.add W c) r (c++e))→Mo B T Env S (W,1) c
 var:∀W w,(W=X∧w=x∨W=Y∧w=y)→w.k=2→∀S c d,S W c→d.length=1→Mo B T Env S (W,2) (c++d)
 fw:∀W w,(W=X∧w=x∨W=Y∧w=y)→∀S s c d r,Ctl w.k w.lv s c d→A.lk (W,0)=some r→MM A B X Y x y T Env S r d→Mo B T Env S (W,s) c
end
theorem Ctl.ne{k lv s:Int}{c d:Cx}(h:Ctl k lv s c d):s≠0:=by have:=h.cls;omega
section
variable{A B:Ab}{X Y:Nm}{x y:Nd}{T:NP→NP→Prop}{Env:Sc→Sc→Prop}
theorem Hyp.lk'(H:Hyp A B X Y x y T Env):A.lk (Y,0)=some (X,0):=(H.both _ _ H.lk).2
theorem Hyp.ne(H:Hyp A B X Y x y T Env):X≠Y:=fun e=>(H.both _ _ H.lk).1 (by rw[e])
theorem Hyp.far(H:Hyp A B X Y x y T Env){p q:NP}(h:A.lk p=some q)(h1:p≠(X,0))(h2:p≠(Y,0)):q≠(X,0)∧q≠(Y,0):=by
 have hb:=(H.both _ _ h).2
 refine⟨?_,?_⟩
 ·rintro rfl;rw[H.lk]at hb;exact h2 (BQ hb).symm
 ·rintro rfl;rw[H.lk']at hb;exact h1 (BQ hb).symm
open Classical in
theorem core(H:Hyp A B X Y x y T Env){S:Sc}{q:NP}{c:Cx}(h:Ok A S q c):MM A B X Y x y T Env S q c:=by
 have hXY:=H.ne
 induction h with
 | @node S Z z c f hx hk hc hf h ih=>
   have hok:Ok A S (Z,ent z.k) c:=.node f hx hk hc hf h
   have far:∀t,tW z t→(Z=X∨Z=Y→t≠0)→f t≠(X,0)∧f t≠(Y,0):=fun t ht h0=>H.far (hf t ht) (fun e=>by injection e with e1 e2;exact h0 (.inl e1) e2) (fun e=>by injection e with e1 e2;exact h0 (.inr e1) e2)
   have hsp:∀W w,(W=X∧w=x∨W=Y∧w=y)→(Z,ent z.k)=(W,(0:Int))→Sp A B T Env W w S c:=fun W w hW e=>by
    injection e with e1 e2
    subst e1
    have hzw:z=w:=by
     rcases hW with⟨rfl,rfl⟩|⟨rfl,rfl⟩
     ·rw[H.hx]at hx;exact(BQ hx).symm
     ·rw[H.hy]at hx;exact(BQ hx).symm
    subst hzw
    refine .node hk e2 hc fun t ht=>⟨_,hf t ht,fun e he=>⟨h t ht e he,?_⟩⟩
    obtain⟨n1,n2⟩:=far t ht (fun _ h0=>ht.2.2.1 (by rw[h0,e2]))
    exact(ih t ht e he).mo n1 n2
   refine⟨hok,fun n1 n2=>?_,hsp X x (.inl ⟨rfl,rfl⟩),hsp Y y (.inr ⟨rfl,rfl⟩)⟩
   by_cases hZ:Z=X∨Z=Y
   ·have e1:ent z.k=1:=by
     rcases DN z.k with e|e
     ·rw[e]at n1 n2
      rcases hZ with rfl|rfl
      ·exact absurd rfl n1
      ·exact absurd rfl n2
     ·exact e
    have hW:Z=X∧z=x∨Z=Y∧z=y:=by
     rcases hZ with rfl|rfl
     ·rw[H.hx]at hx;exact .inl ⟨rfl,(BQ hx).symm⟩
     ·rw[H.hy]at hx;exact .inr ⟨rfl,(BQ hx).symm⟩
    rw[e1]
    exact H.node Z z hW hk e1 S c hc fun t ht=>⟨_,hf t ht,ih t ht⟩
   ·have hZX:Z≠X:=fun e=>hZ (.inl e)
    have hZY:Z≠Y:=fun e=>hZ (.inr e)
    intro R hE q' hT
    rw[H.same _ _ hT hZX hZY]
    have hE':=H.add S R Z c hE hZX hZY
    have hex:∀t,tW z t→∃q',B.lk (Z,t)=some q'∧T (f t) q':=fun t ht=>by
     obtain⟨e,he⟩:=gY z.k t
     exact H.wire Z t (f t) hZX hZY (hf t ht) ⟨_,_,_,hE',h t ht e he⟩
    refine .node (fun t=>if ht:tW z t then Classical.choose (hex t ht)else((0,0),0)) (H.nd Z z hZX hZY hx) hk hc (fun t ht=>?_) fun t ht e he=>?_
    ·simp only[ht,dif_pos];exact(Gb (hex t ht)).1
    ·simp only[ht,dif_pos]
     obtain⟨n1,n2⟩:=far t ht (fun h=>absurd h hZ)
     exact(ih t ht e he).mo n1 n2 _ hE' _ (Gb (hex t ht)).2
 | @var S Z z c d hx hk hS hd=>
   refine⟨.var hx hk hS hd,fun n1 n2=>?_,fun e=>by injection e with _ e;omega,fun e=>by injection e with _ e;omega⟩
   by_cases hZX:Z=X
   ·subst hZX;rw[H.hx]at hx;exact H.var _ _ (.inl ⟨rfl,(BQ hx).symm⟩) hk S c d hS hd
   by_cases hZY:Z=Y
   ·subst hZY;rw[H.hy]at hx;exact H.var _ _ (.inr ⟨rfl,(BQ hx).symm⟩) hk S c d hS hd
   intro R hE q' hT
   rw[H.same _ _ hT hZX hZY]
   exact .var (H.nd Z z hZX hZY hx) hk (H.sc _ _ _ _ hE hS hZX hZY) hd
 | @fw S Z z s c d r hx hc hl h ih=>
   have hs:=hc.ne
   refine⟨.fw hx hc hl h,fun n1 n2=>?_,fun e=>by injection e with _ e;exact absurd e hs,fun e=>by injection e with _ e;exact absurd e hs⟩
   by_cases hZX:Z=X
   ·subst hZX;rw[H.hx]at hx;rw[←BQ hx]at hc;exact H.fw _ _ (.inl ⟨rfl,rfl⟩) S s c d r hc hl ih
   by_cases hZY:Z=Y
   ·subst hZY;rw[H.hy]at hx;rw[←BQ hx]at hc;exact H.fw _ _ (.inr ⟨rfl,rfl⟩) S s c d r hc hl ih
   intro R hE q' hT
   rw[H.same _ _ hT hZX hZY]
   obtain⟨r',w1,w2⟩:=H.wire Z 0 r hZX hZY hl ⟨_,_,_,hE,h⟩
   obtain⟨m1,m2⟩:=H.far hl (fun e=>by injection e with e _;exact hZX e) (fun e=>by injection e with e _;exact hZY e)
   exact .fw (H.nd Z z hZX hZY hx) hc w1 (ih.mo m1 m2 R hE r' w2)
 | @bw S Z z s c d r hx hc hl h ih=>
   have hs:=hc.ne
   have far:=H.far hl (fun e=>by injection e with _ e;exact hs e) (fun e=>by injection e with _ e;exact hs e)
   refine⟨.bw hx hc hl h,fun n1 n2=>?_,fun e=>?_,fun e=>?_⟩
   ·have hZX:Z≠X:=by rintro rfl;exact n1 rfl
    have hZY:Z≠Y:=by rintro rfl;exact n2 rfl
    intro R hE q' hT
    rw[H.same _ _ hT hZX hZY]
    obtain⟨r',w1,w2⟩:=H.wire Z s r hZX hZY hl ⟨_,_,_,hE,h⟩
    exact .bw (H.nd Z z hZX hZY hx) hc w1 (ih.mo far.1 far.2 R hE r' w2)
   ·injection e with e _
    subst e
    rw[H.hx]at hx;rw[←BQ hx]at hc
    exact .bw s c r hc hl h (ih.mo far.1 far.2)
   ·injection e with e _
    subst e
    rw[H.hy]at hx;rw[←BQ hx]at hc
    exact .bw s c r hc hl h (ih.mo far.1 far.2)
def OkR(A:Ab)(Z:Nm):Prop:=(∃z,A.nd Z=some z∧z.k=1)∧∃q,A.lk (Z,0)=some q∧Ok A (fun _ _=>False) q []
theorem o9(H:Hyp A B X Y x y T Env)(h0:Env (fun _ _=>False) (fun _ _=>False)){Z:Nm}(hX:Z≠X)(hY:Z≠Y)(h:OkR A Z):OkR B Z:=by
 obtain⟨⟨z,z1,z2⟩,q,hl,h⟩:=h
 obtain⟨q',w1,w2⟩:=H.wire Z 0 q hX hY hl ⟨_,_,_,h0,h⟩
 obtain⟨m1,m2⟩:=H.far hl (fun e=>by injection e with e _;exact hX e) (fun e=>by injection e with e _;exact hY e)
 exact⟨⟨z,H.nd Z z hX hY z1,z2⟩,q',w1,(core H h).mo m1 m2 _ h0 q' w2⟩
end
end Go.Proofs.YtmlhgalboabjcaaGreat
section
namespace Go.Proofs.YtmlhgalboabjcaaGreat.Tm
open Go.Fx
def ν1(i:Int):Nm:=(0,i.toNat)
structure Iv(n:Nt)(L:List Pt):Prop where
 room:Room n
 semi:Semi n fun p=>p∈L
 nd:L.Nodup
structure Gw(n:Nt)(L:List Pt)(m:Nt)(M:List Pt):Prop where
 len:n.ns.length≤m.ns.length
 cap:m.cap=n.cap
 nd:∀i:Int,0≤i→i<n.ns.length→(m.nd i).k=(n.nd i).k∧(m.nd i).lv=(n.nd i).lv∧(m.nd i).to.length=(n.nd i).to.length
 cl:∀p,n.has p=true→p∉L→p∉M∧m.lk p=n.lk p
theorem Gw.refl(n:Nt)(L:List Pt):Gw n L n L:=⟨nh _,rfl,fun _ _ _=>⟨rfl,rfl,rfl⟩,fun _ _ h=>⟨h,rfl⟩⟩
theorem Gw.has{n m:Nt}{L M:List Pt}(h:Gw n L m M){p:Pt}(hp:n.has p=true):m.has p=true:=by
 rw[sJ]at hp⊢
 have:=h.nd p.n hp.1 hp.2.1
 have:=h.len
 omega
theorem Gw.trans{a b c:Nt}{L M N:List Pt}(h:Gw a L b M)(g:Gw b M c N):Gw a L c N:=by
 have hl:=h.len
 refine⟨fm h.len g.len,g.cap.trans h.cap,fun i h0 h1=>?_,fun p hp hL=>?_⟩
 ·have a1:=h.nd i h0 h1
  have a2:=g.nd i h0 (by omega)
  exact⟨a2.1.trans a1.1,a2.2.1.trans a1.2.1,a2.2.2.trans a1.2.2⟩
 ·obtain⟨a1,a2⟩:=h.cl p hp hL
  obtain⟨b1,b2⟩:=g.cl p (h.has hp) a1
  exact⟨b1,b2.trans a2⟩
theorem Iv.perm{n:Nt}{L M:List Pt}(h:Iv n L)(e:L.Perm M):Iv n M:=⟨h.room,h.semi.iff fun p=>e.mem_iff,e.nodup_iff.1 h.nd⟩
theorem Gw.perm{n m:Nt}{L L' M M':List Pt}(h:Gw n L m M)(h1:L.Perm L')(h2:M.Perm M'):Gw n L' m M':=
 ⟨h.len,h.cap,h.nd,fun p hp hL=>by have:=h.cl p hp fun k=>hL (h1.mem_iff.1 k);exact⟨fun k=>this.1 (h2.mem_iff.2 k),this.2⟩⟩
theorem Iv.link{n:Nt}{L:List Pt}{p q:Pt}(h:Iv n (p::q::L)):Iv (lnk n p q) L∧Gw n (p::q::L) (lnk n p q) L∧(lnk n p q).lk p=q∧(lnk n p q).lk q=p:=by
 have hp:=h.semi.xs p (by simp)
 have hq:=h.semi.xs q (by simp)
 have hnd:=h.nd
 simp only[TL,qY,not_or]at hnd
 obtain⟨⟨hne,n1⟩,n2,n3⟩:=hnd
 have he:lnk n p q=n.ln p q:=by unfold lnk;rw[qQ hp hq hne]
 have s1:=(h.semi.link (p:=p) (q:=q) (by simp) (by simp) hne).2
 have shp:=zS hp hq
 have lkr:∀r,n.has r=true→r≠p→r≠q→(n.ln p q).lk r=n.lk r:=fun r hr e1 e2=>by rw[UP hp hq hr,if_neg e2,if_neg e1]
 rw[he]
 refine⟨⟨he▸jr h.room (gW h.room hp) (gW h.room hq),s1.iff fun r=>?_,n3⟩,⟨by rw[shp.1];exact nh _,shp.2.1.symm,fun i h0 h1=>?_,fun r hr hL=>?_⟩,?_,?_⟩
 ·constructor
  ·rintro⟨k,e1,e2⟩;simp only[qY]at k;exact(k.resolve_left e1).resolve_left e2
  ·intro k
   refine⟨by simp[k],?_,?_⟩
   ·rintro rfl;exact n1 k
   ·rintro rfl;exact n2 k
 ·have:=shp.2.2 i h0
  exact⟨this.1,this.2.1,this.2.2.2.2.2⟩
 ·simp only[qY,not_or]at hL
  exact⟨hL.2.2,lkr r hr hL.1 hL.2.1⟩
 ·rw[UP hp hq hp,if_neg hne,if_pos rfl]
 ·rw[UP hp hq hq,if_pos rfl]
theorem Iv.add{n:Nt}{L:List Pt}(h:Iv n L){x:Nd}(hx:x.Ok)(hm:x.may)(hk:¬x.k<2)(hr:((n.ns.length+1:Nat):Int)≤n.cap):
  Iv (Hc n x) (xB n.ns.length x.ports.toNat++L)∧Gw n L (Hc n x) (xB n.ns.length x.ports.toNat++L):=by
 have hf:=F1 h.room.full
 have hu:n.used<n.cap:=by unfold Nt.used;rw[eI h.room.full];omega
 have hmk:n.make x=Hc n x:=by unfold Nt.make Hc;rw[hf]
 have hat:n.at=n.ns.length:=by unfold Nt.at;rw[hf]
 have hM:=uZ h.semi x
 rw[hmk,hat]at hM
 obtain⟨_,hS⟩:=h.semi.make hx hm (by omega) (by omega) hu
 rw[hmk,hat]at hS
 have hp:=lq hx
 have hpc:(x.ports.toNat:Int)=x.ports:=by omega
 have hl:=ql n x
 have hasold:∀p,n.has p=true→(p.n:Int)<n.ns.length:=fun p hp=>(sJ.1 hp).2.1
 refine⟨⟨Za h.room hx (by omega) hr,hS.iff fun r=>?_,?_⟩,⟨by omega,rfl,fun i h0 h1=>by rw[cQ h0 h1];exact⟨rfl,rfl,rfl⟩,fun p hp hL=>⟨fun k=>?_,(hM.lk h.semi hp).2⟩⟩⟩
 ·rw[Sw,T0,hpc]
  exact or_comm
 ·rw[kE]
  refine⟨iH _ _,h.nd,fun p hp q hq e=>?_⟩
  subst e
  have:=(T0.1 hp).1
  have:=hasold _ (h.semi.xs _ hq)
  omega
 ·rcases Sw.1 k with k|k
  ·have:=(T0.1 k).1
   have:=hasold _ hp
   omega
  ·exact hL k
structure Fw(A:Ab)(n:Nt)(L:List Pt):Prop where
 nd:∀i:Int,0≤i→i<n.ns.length→∃z,A.nd (ν1 i)=some z∧z.k=(n.nd i).k∧z.lv=(n.nd i).lv∧z.to.length=(n.nd i).to.length
 lk:∀p,n.has p=true→p∉L→A.lk (nmP ν1 p)=some (nmP ν1 (n.lk p))
theorem Fw.gr{A:Ab}{n m:Nt}{L M:List Pt}(h:Fw A m M)(g:Gw n L m M):Fw A n L:=by
 have hl:=g.len
 refine⟨fun i h0 h1=>?_,fun p hp hL=>?_⟩
 ·obtain⟨z,z1,z2,z3,z4⟩:=h.nd i h0 (by omega)
  obtain⟨q1,q2,q3⟩:=g.nd i h0 h1
  exact⟨z,z1,z2.trans q1,z3.trans q2,z4.trans q3⟩
 ·obtain⟨q1,q2⟩:=g.cl p hp hL
  rw[←q2];exact h.lk p (g.has hp) q1
theorem Fw.perm{A:Ab}{n:Nt}{L M:List Pt}(h:Fw A n L)(e:L.Perm M):Fw A n M:=⟨h.nd,fun p hp hM=>h.lk p hp fun k=>hM (e.mem_iff.1 k)⟩
def IsN(A:Ab)(i:Nat)(k lv:Int)(p:Nat):Prop:=∃z,A.nd (0,i)=some z∧z.k=k∧z.lv=lv∧z.to.length=p
theorem Fw.new{A:Ab}{n:Nt}{x:Nd}{L:List Pt}(h:Fw A (Hc n x) L):IsN A n.ns.length x.k x.lv x.ports.toNat:=by
 obtain⟨z,h1,h2,h3,h4⟩:=h.nd ((n.ns.length:Nat):Int) (by omega) (by rw[ql];omega)
 rw[Fp]at h2 h3 h4
 exact⟨z,h1,h2,h3,by rw[h4];show(List.replicate x.ports.toNat zP).length=_;rw[Eh]⟩
def Ev(A:Ab)(S:Sc)(c:Cx)(l:List En):Prop:=∀e∈l,∃q,A.lk (nmP ν1 e.2)=some q∧∀x:Exq,Ok A S q (c++[x])
theorem Ev.weak{A:Ab}{S R:Sc}{c:Cx}{l:List En}(h:Ev A S c l)(hR:∀Z d,S Z d→R Z d):Ev A R c l:=fun e he=>by
 obtain⟨q,q1,q2⟩:=h e he
 exact⟨q,q1,fun x=>(q2 x).weak hR⟩
theorem MF{A:Ab}{f p:Nat}{k lv s:Int}{c v:Cx}{x:Exq}{q:NP}{S:Sc}(h:IsN A f k lv p)(hc:((c.length:Nat):Int)=lv)(hb:Bs k s v x)(hl:A.lk ((0,f),0)=some q)(hq:Ok A S q (c++[x])):Ok A S ((0,f),s) (c++v):=by
 obtain⟨z,z1,z2,z3,_⟩:=h
 exact .fw z1 ⟨c,v,x,[],by rw[z3];exact hc,by rw[z2];exact hb,by simp,by simp⟩ hl hq
structure Wp(p:Cx→Prop)(f lv:Int)(n:Nt)(R:List Pt)(y:W):Prop where
 inv:Iv y.n (y.out::(pts y.l++R))
 gr:Gw n R y.n (y.out::(pts y.l++R))
 key:VS f y.l
 sem:∀A,Fw A y.n (y.out::(pts y.l++R))→∀(S:Sc) (c:Cx),((c.length:Nat):Int)=lv→Ev A S c y.l→∀e,p e→Ok A S (nmP ν1 y.out) (c++e)
def p0c(e:Cx):Prop:=e=[]
theorem Rq{lv:Int}(hlv:0≤lv∧lv≤60):∀(l:List En) (n:Nt) (R:List Pt),Iv n (pts l++R)→((n.ns.length+l.length:Nat):Int)≤n.cap→
  Iv (Io lv l n).1 (pts (Io lv l n).2++R)∧Gw n (pts l++R) (Io lv l n).1 (pts (Io lv l n).2++R)∧(Io lv l n).2.map (·.1)=l.map (·.1)∧
  ∀A,Fw A (Io lv l n).1 (pts (Io lv l n).2++R)→∀(S:Sc) (c:Cx) (σ:Exq),((c.length:Nat):Int)=lv→Ev A S c (Io lv l n).2→Ev A S (c++[σ]) l
 |[],n,R,h,hr=>⟨h,Gw.refl _ _,rfl,fun A hF S c σ hc hE e he=>by simp at he⟩
 |x::r,n,R,h,hr=>by
  have e:Io lv (x::r) n=((Io lv r (lnk (Hc n (RV 6 lv)) ⟨(n.ns.length:Nat),1⟩ x.2)).1,(x.1,⟨(n.ns.length:Nat),0⟩)::(Io lv r (lnk (Hc n (RV 6 lv)) ⟨(n.ns.length:Nat),1⟩ x.2)).2):=rfl
  rw[e]
  obtain⟨f,hf⟩:∃f,n.ns.length=f:=⟨_,rfl⟩
  simp only[Ce]at hr
  have h6:=ZM (k:=6) (by omega) hlv
  obtain⟨a1,a2⟩:=h.add h6 (Ns hlv (by omega)) (by show¬(6:Int)<2;decide) (by omega)
  have hp:xB n.ns.length (RV 6 lv).ports.toNat=[⟨(f:Nat),0⟩,⟨(f:Nat),1⟩]:=by rw[hf];rfl
  rw[hp]at a1 a2
  have pm:List.Perm (α:=Pt) ([⟨(f:Nat),0⟩,⟨(f:Nat),1⟩]++(pts (x::r)++R)) (⟨(f:Nat),1⟩::x.2::(⟨(f:Nat),0⟩::(pts r++R))):=by
   show List.Perm (α:=Pt) (⟨(f:Nat),0⟩::⟨(f:Nat),1⟩::x.2::(pts r++R)) _
   exact(List.Perm.swap _ _ _).trans ((List.Perm.swap _ _ _).cons _)
  have b1:=a1.perm pm
  obtain⟨c1,c2,c3,c4⟩:=b1.link
  rw[hf]
  obtain⟨n2,hn2⟩:∃n2,lnk (Hc n (RV 6 lv)) ⟨(f:Nat),1⟩ x.2=n2:=⟨_,rfl⟩
  have hl:=(EI (Hc n (RV 6 lv)) ⟨(f:Nat),1⟩ x.2)
  rw[hn2]at c1 c2 c3 c4 hl⊢
  rw[ql,tu]at hl
  have pm2:List.Perm (α:=Pt) (⟨(f:Nat),0⟩::(pts r++R)) (pts r++(⟨(f:Nat),0⟩::R)):=rT.symm
  obtain⟨d1,d2,d3,d4⟩:=Rq hlv r n2 (⟨(f:Nat),0⟩::R) (c1.perm pm2) (by omega)
  have pm3:(pts (Io lv r n2).2++(⟨(f:Nat),0⟩::R)).Perm (pts ((x.1,⟨(f:Nat),0⟩)::(Io lv r n2).2)++R):=rT
  refine⟨d1.perm pm3,((a2.perm (.refl _) pm).trans c2).trans (d2.perm pm2.symm pm3),by simp[d3],fun A hF S c σ hc hE y hy=>?_⟩
  have hF1:=hF.perm pm3.symm
  have hF2:=(hF1.gr d2).perm pm2.symm
  have hN:=(hF2.gr c2).new
  rw[hf]at hN
  rcases qY.1 hy with rfl|hy
  ·obtain⟨q,q1,q2⟩:=hE (y.1,⟨(f:Nat),0⟩) (by simp)
   have nd1:=b1.nd
   simp only[TL]at nd1
   have hl1:=hF2.lk y.2 (c2.has (b1.semi.xs _ (by simp))) nd1.2.1
   rw[c4]at hl1
   refine⟨_,hl1,fun z=>?_⟩
   rw[qg];exact MF hN hc (.h σ z) q1 (q2 _)
  ·exact d4 A hF1 S c σ hc (fun e he=>hE e (by simp[he])) y hy
theorem Oe{lv:Int}(hlv:0≤lv∧lv≤60):∀(r l:List En) (n:Nt) (R:List Pt),Iv n (pts r++(pts l++R))→((C5 lv r l n).1.ns.length:Int)≤n.cap→(l.map (·.1)).Nodup→
  Iv (C5 lv r l n).1 (pts (C5 lv r l n).2++R)∧Gw n (pts r++(pts l++R)) (C5 lv r l n).1 (pts (C5 lv r l n).2++R)∧((C5 lv r l n).2.map (·.1)).Nodup∧(∀e∈(C5 lv r l n).2,e.1∈r.map (·.1)∨e.1∈l.map (·.1))∧
  ∀A,Fw A (C5 lv r l n).1 (pts (C5 lv r l n).2++R)→∀(S:Sc) (c:Cx),((c.length:Nat):Int)=lv→Ev A S c (C5 lv r l n).2→Ev A S c r∧Ev A S c l
 |[],l,n,R,h,hr,hk=>⟨h,Gw.refl _ _,hk,fun e he=>.inr (On he),fun A hF S c hc hE=>⟨fun e he=>by simp at he,hE⟩⟩
 |x::r,l,n,R,h,hr,hk=>by
  by_cases hf:dP l x.1<0
  ·have e:C5 lv (x::r) l n=C5 lv r (TD x false l) n:=by
    show(if dP l x.1<0 then _ else _)=_
    rw[if_pos hf]
   rw[e]at hr⊢
   have hw:=Pp x l
   have pm:(pts (x::r)++(pts l++R)).Perm (pts r++(pts (TD x false l)++R)):=by
    have:(pts (TD x false l)).Perm (x.2::pts l):=DG hw
    refine List.Perm.trans ?_ ((this.append_right R).append_left (pts r)).symm
    exact(rT (a:=x.2) (l₁:=pts r) (l₂:=pts l++R)).symm
   have hk2:((TD x false l).map (·.1)).Nodup:=by
    rw[(hw.map _).nodup_iff]
    exact TL.2 ⟨kv hf,hk⟩
   obtain⟨d1,d2,d3,d4,d5⟩:=Oe hlv r (TD x false l) n R (h.perm pm) hr hk2
   refine⟨d1,d2.perm pm.symm (.refl _),d3,fun y hy=>?_,fun A hF S c hc hE=>?_⟩
   ·have:=(hw.map (·.1)).mem_iff (a:=y.1)
    have:=d4 y hy
    simp only[zx,qY]at*
    grind
   ·obtain⟨i1,i2⟩:=d5 A hF S c hc hE
    refine⟨fun y hy=>?_,fun y hy=>i2 y (hw.mem_iff.2 (by simp[hy]))⟩
    rcases qY.1 hy with rfl|hy
    ·exact i2 _ (hw.mem_iff.2 (by simp))
    ·exact i1 y hy
  ·obtain⟨k,hkk,hkl,y,hyk,hyv⟩:=Et hf
   have hgd:l.getD (dP l x.1).toNat zE=y:=by rw[hkk,KA,Kh,hyk];rfl
   have e:C5 lv (x::r) l n=C5 lv r (l.set k (y.1,⟨(n.ns.length:Nat),0⟩)) (lnk (lnk (Hc n (RV 4 lv)) ⟨(n.ns.length:Nat),1⟩ y.2) ⟨(n.ns.length:Nat),2⟩ x.2):=by
    show(if dP l x.1<0 then _ else _)=_
    rw[if_neg hf,hgd,hkk,KA]
   rw[e]at hr⊢
   obtain⟨f,hff⟩:∃f,n.ns.length=f:=⟨_,rfl⟩
   rw[hff]at hr⊢
   have hmono:=jH lv r (l.set k (y.1,⟨(f:Nat),0⟩)) (lnk (lnk (Hc n (RV 4 lv)) ⟨(f:Nat),1⟩ y.2) ⟨(f:Nat),2⟩ x.2)
   have hl2:=EI (Hc n (RV 4 lv)) ⟨(f:Nat),1⟩ y.2
   have hl3:=EI (lnk (Hc n (RV 4 lv)) ⟨(f:Nat),1⟩ y.2) ⟨(f:Nat),2⟩ x.2
   rw[ql,tu]at hl2
   have h4:=ZM (k:=4) (by omega) hlv
   obtain⟨a1,a2⟩:=h.add h4 (Ns hlv (by omega)) (by show¬(4:Int)<2;decide) (by omega)
   have hp:xB n.ns.length (RV 4 lv).ports.toNat=[⟨(f:Nat),0⟩,⟨(f:Nat),1⟩,⟨(f:Nat),2⟩]:=by rw[hff];rfl
   rw[hp]at a1 a2
   have pe:=DG (Ue hyk)
   have ps:=DG (Qb hkl (y.1,(⟨(f:Nat),0⟩:Pt)))
   obtain⟨l0,hl0⟩:∃l0,pts (l.eraseIdx k)=l0:=⟨_,rfl⟩
   have pe':(pts l).Perm (y.2::l0):=by rw[←hl0];exact pe
   have ps':(pts (l.set k (y.1,⟨(f:Nat),0⟩))).Perm (⟨(f:Nat),0⟩::l0):=by rw[←hl0];exact ps
   have pm:List.Perm (α:=Pt) ([⟨(f:Nat),0⟩,⟨(f:Nat),1⟩,⟨(f:Nat),2⟩]++(pts (x::r)++(pts l++R))) (⟨(f:Nat),1⟩::y.2::⟨(f:Nat),2⟩::x.2::(⟨(f:Nat),0⟩::(pts r++(l0++R)))):=by
    have q1:(pts (x::r)++(pts l++R)).Perm (y.2::x.2::(pts r++(l0++R))):=by
     refine((pe'.append_right R).append_left (pts (x::r))).trans ?_
     exact rT (a:=y.2) (l₁:=x.2::pts r) (l₂:=l0++R)
    refine(q1.append_left _).trans ?_
    show List.Perm (α:=Pt) (⟨(f:Nat),0⟩::⟨(f:Nat),1⟩::⟨(f:Nat),2⟩::y.2::x.2::(pts r++(l0++R))) _
    refine(List.Perm.swap _ _ _).trans (List.Perm.cons _ ?_)
    refine(((List.Perm.swap _ _ _).cons _)).trans ?_
    refine(List.Perm.swap _ _ _).trans (List.Perm.cons _ ?_)
    refine(List.Perm.swap _ _ _).trans (List.Perm.cons _ ?_)
    exact List.Perm.swap _ _ _
   have b1:=a1.perm pm
   obtain⟨c1,c2,c3,c4⟩:=b1.link
   obtain⟨e1,e2,e3,e4⟩:=c1.link
   obtain⟨n3,hn3⟩:∃n3,lnk (lnk (Hc n (RV 4 lv)) ⟨(f:Nat),1⟩ y.2) ⟨(f:Nat),2⟩ x.2=n3:=⟨_,rfl⟩
   obtain⟨n2,hn2⟩:∃n2,lnk (Hc n (RV 4 lv)) ⟨(f:Nat),1⟩ y.2=n2:=⟨_,rfl⟩
   rw[hn3]at e1 e2 e3 e4 hr hl3 hmono⊢
   rw[hn2]at c1 c2 c3 c4 e2 hl2 hl3
   have pm2:List.Perm (α:=Pt) (⟨(f:Nat),0⟩::(pts r++(l0++R))) (pts r++(pts (l.set k (y.1,⟨(f:Nat),0⟩))++R)):=by
    refine List.Perm.trans ?_ ((ps'.append_right R).append_left (pts r)).symm
    exact rT.symm
   have hkeys:(l.set k (y.1,(⟨(f:Nat),0⟩:Pt))).map (·.1)=l.map (·.1):=by
    rw[JV]
    refine List.ext_getElem? fun i=>?_
    rw[KC,Qy]
    split
    ·rename_i hi;subst hi
     rw[hyk];simp[hkl]
    ·rfl
   obtain⟨d1,d2,d3,d4,d5⟩:=Oe hlv r (l.set k (y.1,⟨(f:Nat),0⟩)) n3 R (e1.perm pm2) (by rw[hl3.2,hl2.2];exact hr) (by rw[hkeys];exact hk)
   rw[hkeys]at d4
   refine⟨d1,((((a2.perm (.refl _) pm).trans c2).trans e2).perm (.refl _) pm2).trans d2,d3,fun z hz=>?_,fun A hF S c hc hE=>?_⟩
   ·rcases d4 z hz with h|h
    ·left;simp only[zx,qY];exact .inr h
    ·exact .inr h
   ·obtain⟨i1,i2⟩:=d5 A hF S c hc hE
    have hF3:=(hF.gr d2).perm pm2.symm
    have hF2:=hF3.gr e2
    have hN:=(hF2.gr c2).new
    rw[hff]at hN
    have hN:IsN A f 4 lv 3:=hN
    obtain⟨q,q1,q2⟩:=i2 (y.1,⟨(f:Nat),0⟩) (yu (i:=k) (by rw[KC];simp[hkl]))
    have nd1:=b1.nd
    have nd2:=c1.nd
    simp only[TL]at nd1 nd2
    have ly:=hF2.lk y.2 (c2.has (b1.semi.xs _ (by simp))) nd1.2.1
    rw[c4]at ly
    have lx:=hF3.lk x.2 (e2.has (c1.semi.xs _ (by simp))) nd2.2.1
    rw[e4]at lx
    refine⟨fun z hz=>?_,fun z hz=>?_⟩
    ·rcases qY.1 hz with rfl|hz
     ·exact⟨_,lx,fun v=>MF hN hc (.r v) q1 (q2 _)⟩
     ·exact i1 z hz
    ·obtain⟨j,hj⟩:=IL hz
     by_cases hjk:j=k
     ·subst hjk
      rw[hyk]at hj
      obtain rfl:=BQ hj
      exact⟨_,ly,fun v=>MF hN hc (.l v) q1 (q2 _)⟩
     ·exact i2 z (yu (i:=j) (by rw[KC,if_neg (fun e=>hjk e.symm)];exact hj))
theorem xv{lv f:Int}(hlv:0≤lv∧lv≤60){n:Nt}{R:List Pt}{y:W}(hy:Wp p0c (f+1) lv (Hc n (RV 2 lv)) (⟨(n.ns.length:Nat),0⟩::⟨(n.ns.length:Nat),1⟩::⟨(n.ns.length:Nat),2⟩::R) y)
  (g0:Gw n R (Hc n (RV 2 lv)) (⟨(n.ns.length:Nat),0⟩::⟨(n.ns.length:Nat),1⟩::⟨(n.ns.length:Nat),2⟩::R))
  (hr:((iT lv n.ns.length y).ns.length:Int)≤n.cap):Wp p0c f lv n R (od lv n.ns.length y):=by
 have hN:∀{A L},Fw A (Hc n (RV 2 lv)) L→IsN A n.ns.length 2 lv 3:=fun k=>k.new
 obtain⟨m,hm⟩:∃m,n.ns.length=m:=⟨_,rfl⟩
 obtain⟨hin,hgy,hkey,hsem⟩:=hy
 rw[hm]at hin hr hsem g0 hgy hN⊢
 have pm1:(y.out::(pts y.l++(⟨(m:Nat),0⟩::⟨(m:Nat),1⟩::⟨(m:Nat),2⟩::R))).Perm (y.out::⟨(m:Nat),1⟩::(⟨(m:Nat),2⟩::(pts y.l++(⟨(m:Nat),0⟩::R)))):=by
  refine List.Perm.cons _ ?_
  refine(((List.Perm.swap _ _ _).append_left (pts y.l))).trans ?_
  refine rT.trans (List.Perm.cons _ ?_)
  refine(((List.Perm.swap _ _ _).append_left (pts y.l))).trans ?_
  exact rT
 have b1:=hin.perm pm1
 obtain⟨c1,c2,c3,c4⟩:=b1.link
 obtain⟨n1,hn1⟩:∃n1,lnk y.n y.out ⟨(m:Nat),1⟩=n1:=⟨_,rfl⟩
 have hl1:=EI y.n y.out ⟨(m:Nat),1⟩
 rw[hn1]at c1 c2 c3 c4 hl1
 have g1:Gw n R n1 _:=((g0.trans hgy).perm (.refl _) pm1).trans c2
 have hm1h:y.n.has ⟨(m:Nat),1⟩=true:=b1.semi.xs _ (by simp)
 have nd1:=b1.nd
 simp only[TL]at nd1
 have key:=da hkey
 have fin:∀{A S cx},((cx.length:Nat):Int)=lv→Ev A S cx (TT y.l)→Fw A n1 (⟨(m:Nat),2⟩::(pts y.l++(⟨(m:Nat),0⟩::R)))→(∀e∈y.l,e.1=0→A.lk (nmP ν1 e.2)=some (nmP ν1 ⟨(m:Nat),2⟩))→∀e,p0c e→Ok A S ((0,m),0) (cx++e):=fun {A S cx} hcx hE hF1 hv e he=>by
  have hFy:=(hF1.gr c2).perm pm1.symm
  obtain⟨z,z1,z2,z3,z4⟩:=hN (hFy.gr hgy)
  have l1:=hF1.lk ⟨(m:Nat),1⟩ (c2.has hm1h) nd1.2.1
  rw[c4]at l1
  have e0:ent 2=0:=by decide
  have hsub:∀s,tW z s→s=1:=fun s hs=>by
   obtain⟨s1,s2,s3,s4⟩:=hs
   rw[z4]at s2
   rw[z2]at s3 s4
   rw[e0]at s3
   have:s≠2:=fun e=>s4 ⟨rfl,e⟩
   omega
  have hk0:(0:Int)=ent z.k:=by rw[z2,e0]
  have he:e=[]:=he
  rw[he,Qg,hk0]
  refine .node (fun _=>nmP ν1 y.out) z1 (.inl z2) (by rw[z3];exact hcx) (fun s hs=>by rw[hsub s hs];exact l1) fun s hs e he=>?_
  have he0:e=[]:=by
   rw[hsub s hs,z2]at he
   unfold H7 at he
   rw[if_neg (by omega)]at he
   exact he
  refine hsem A hFy _ cx hcx (fun u hu=>?_) e he0
  by_cases hu0:u.1=0
  ·exact⟨_,hv u hu hu0,fun x=>.var z1 z2 (.inr ⟨rfl,rfl⟩) rfl⟩
  ·have hup:=(hkey.1 u hu).1
   obtain⟨q,q1,q2⟩:=hE (u.1-1,u.2) (by unfold TT;exact Om.2 ⟨u,Bo.2 ⟨hu,by simp;omega⟩,rfl⟩)
   exact⟨q,q1,fun x=>(q2 x).weak fun Z d hZ=>.inl hZ⟩
 by_cases hf:dP y.l 0≥0
 ·obtain⟨k,hkk,hkl,x,hxk,hxv⟩:=Et (l:=y.l) (v:=0) (by omega)
  have hgd:y.l.getD (dP y.l 0).toNat zE=x:=by rw[hkk,KA,Kh,hxk];rfl
  have en:iT lv m y=lnk n1 x.2 ⟨(m:Nat),2⟩:=by unfold iT;rw[if_pos hf,hgd,hn1]
  have pe:=Ue hxk
  have hrest:∀e∈y.l.eraseIdx k,0<e.1:=fun e he=>by
   have h1:=(hkey.1 e (List.mem_of_mem_eraseIdx he)).1
   have h2:=(pe.map (·.1)).nodup_iff.1 hkey.2
   rw[zx,TL]at h2
   have h3:e.1≠x.1:=fun k=>h2.1 (k▸On he)
   omega
  have hd:(pts (TT y.l)).Perm (pts (y.l.eraseIdx k)):=by
   refine(DG (va pe)).trans ?_
   have:TT (x::y.l.eraseIdx k)=TT (y.l.eraseIdx k):=by unfold TT;rw[Ey (by simp[hxv])]
   rw[this,BS hrest]
   unfold pts
   rw[sT]
   exact .refl _
  have pm2:List.Perm (α:=Pt) (⟨(m:Nat),2⟩::(pts y.l++(⟨(m:Nat),0⟩::R))) (x.2::⟨(m:Nat),2⟩::(⟨(m:Nat),0⟩::(pts (TT y.l)++R))):=by
   have q:(pts y.l++(⟨(m:Nat),0⟩::R)).Perm (x.2::(⟨(m:Nat),0⟩::(pts (TT y.l)++R))):=by
    refine((DG pe).append_right _).trans ?_
    show(x.2::(pts (y.l.eraseIdx k)++(⟨(m:Nat),0⟩::R))).Perm _
    refine List.Perm.cons _ (rT.trans (List.Perm.cons _ (hd.symm.append_right R)))
   exact(q.cons _).trans (List.Perm.swap _ _ _)
  have b2:=c1.perm pm2
  obtain⟨d1,d2,d3,d4⟩:=b2.link
  rw[←en]at d1 d2 d3 d4
  have nd2:=b2.nd
  simp only[TL,qY,not_or]at nd2
  refine⟨d1,(g1.perm (.refl _) pm2).trans d2,key,fun A hF S cx hcx hE=>fin hcx hE ((hF.gr d2).perm pm2.symm) fun e he h0=>?_⟩
  rcases qY.1 (pe.mem_iff.1 he)with rfl|he
  ·have hlx:=hF.lk e.2 (d2.has (b2.semi.xs _ (by simp))) (by simp only[qY,not_or];exact nd2.1.2)
   have:(od lv m y).n.lk e.2=⟨(m:Nat),2⟩:=d3
   rw[this]at hlx;exact hlx
  ·have:=hrest e he;omega
 ·have hfn:=kv (l:=y.l) (v:=0) (by omega)
  have hrest:∀e∈y.l,0<e.1:=fun e he=>by
   have h1:=(hkey.1 e he).1
   have h3:e.1≠0:=fun k=>hfn (k▸On he)
   omega
  have hd:pts (TT y.l)=pts y.l:=by rw[BS hrest];unfold pts;rw[sT];rfl
  obtain⟨d,hdd⟩:∃d,y.n.ns.length=d:=⟨_,rfl⟩
  have en:iT lv m y=lnk (Hc n1 (RV 7 lv)) ⟨(d:Nat),0⟩ ⟨(m:Nat),2⟩:=by unfold iT;rw[if_neg hf,hn1,hdd]
  have hl2:=EI (Hc n1 (RV 7 lv)) ⟨(d:Nat),0⟩ ⟨(m:Nat),2⟩
  have h7:=ZM (k:=7) (by omega) hlv
  have hcap:n1.cap=n.cap:=g1.cap
  rw[←en,ql]at hl2
  obtain⟨a1,a2⟩:=c1.add h7 (Ns hlv (by omega)) (by show¬(7:Int)<2;decide) (by omega)
  have hp:xB n1.ns.length (RV 7 lv).ports.toNat=[⟨(d:Nat),0⟩]:=by rw[hl1.1,hdd];rfl
  rw[hp]at a1 a2
  have pm2:List.Perm (α:=Pt) ([⟨(d:Nat),0⟩]++(⟨(m:Nat),2⟩::(pts y.l++(⟨(m:Nat),0⟩::R)))) (⟨(d:Nat),0⟩::⟨(m:Nat),2⟩::(⟨(m:Nat),0⟩::(pts (TT y.l)++R))):=by
   rw[hd]
   exact List.Perm.cons _ (List.Perm.cons _ rT)
  obtain⟨d1,d2,d3,d4⟩:=(a1.perm pm2).link
  have ga:Gw n1 (⟨(m:Nat),2⟩::(pts y.l++(⟨(m:Nat),0⟩::R))) (iT lv m y) (⟨(m:Nat),0⟩::(pts (TT y.l)++R)):=by rw[en];exact(a2.perm (.refl _) pm2).trans d2
  rw[←en]at d1
  exact⟨d1,g1.trans ga,key,fun A hF S cx hcx hE=>fin hcx hE (hF.gr ga) fun e he h0=>by have:=hrest e he;omega⟩
theorem qo{lv:Int}(hlv:0≤lv∧lv≤60){g:Nt→W}{B:Nat}(hM:Mono g B):∀(k:Nat) (f:Int),(∀n R,Iv n R→((g n).n.ns.length:Int)≤n.cap→Wp p0c (f+k) lv n R (g n))→∀n R,Iv n R→((Hr lv g k n).n.ns.length:Int)≤n.cap→Wp p0c f lv n R (Hr lv g k n)
 |0,f,H,n,R,h,hr=>by have:=H n R h hr;rwa [show f+((0:Nat):Int)=f by omega]at this
 |k+1,f,H,n,R,h,hr=>by
  have e:Hr lv g (k+1) n=od lv n.ns.length (Hr lv g k (Hc n (RV 2 lv))):=rfl
  rw[e]at hr⊢
  have m1:=(Dk (lv:=lv) hM k).len (Hc n (RV 2 lv))
  have m2:=BA lv n.ns.length (Hr lv g k (Hc n (RV 2 lv)))
  rw[ql]at m1
  have hr':((iT lv n.ns.length (Hr lv g k (Hc n (RV 2 lv)))).ns.length:Int)≤n.cap:=hr
  have h2:=ZM (k:=2) (by omega) hlv
  obtain⟨a1,a2⟩:=h.add h2 (Ns hlv (by omega)) (by show¬(2:Int)<2;decide) (by omega)
  exact xv hlv (qo hlv hM k (f+1) (fun n R h hr=>by rw[show f+1+((k:Nat):Int)=f+((k+1:Nat):Int) by omega];exact H n R h hr) (Hc n (RV 2 lv)) _ a1 (by rw[tu];omega)) a2 hr'
theorem wM{f k n lv:Int}{m:Nt}{R:List Pt}(hlv:0≤lv∧lv≤60)(hn:wf n)(hk:(k=1∧0≤n∧n<f)∨k=7∨k=9)(h:Iv m R)(hr:((VF k n lv m).n.ns.length:Int)≤m.cap):Wp p0c f lv m R (VF k n lv m):=by
 have key0:VS f []:=⟨by simp,tj⟩
 have hl:=(LA k n lv m).1
 have told:∀x:Nd,x.Ok→x.may→¬x.k<2→x.lv=lv→x.ports=1→Ty x.k→ent x.k=0→Wp p0c f lv m R ⟨Hc m x,⟨(m.ns.length:Nat),0⟩,[]⟩:=fun x h1 h2 h3 h4 h5 h6 h7=>by
  obtain⟨a1,a2⟩:=h.add h1 h2 h3 (by omega)
  rw[h5]at a1 a2
  refine⟨a1,a2,key0,fun A hF S c hc hE e he=>?_⟩
  obtain⟨z,z1,z2,z3,z4⟩:=hF.new
  have he:e=[]:=he
  rw[he,Qg]
  show Ok A S ((0,m.ns.length),0) c
  rw[←h7,←z2]
  have hno:∀s,¬tW z s:=fun s hs=>by
   obtain⟨s1,s2,s3,s4⟩:=hs
   rw[z2,h7]at s3
   omega
  exact .node (fun _=>((0,0),0)) z1 (by rw[z2];exact h6) (by rw[z3,h4];exact hc) (fun s hs=>absurd hs (hno s)) fun s hs=>absurd hs (hno s)
 rcases hk with⟨rfl,hk0,hk1⟩|rfl|rfl
 ·obtain⟨a1,a2⟩:=h.add (ZM (k:=5) (by omega) hlv) (Ns hlv (by omega)) (by show¬(5:Int)<2;decide) (by omega)
  have hp:xB m.ns.length (RV 5 lv).ports.toNat=[⟨(m.ns.length:Nat),0⟩,⟨(m.ns.length:Nat),1⟩]:=rfl
  rw[hp]at a1 a2
  have pm:List.Perm (α:=Pt) ([⟨(m.ns.length:Nat),0⟩,⟨(m.ns.length:Nat),1⟩]++R) (⟨(m.ns.length:Nat),1⟩::(pts [(n,(⟨(m.ns.length:Nat),0⟩:Pt))]++R)):=List.Perm.swap _ _ _
  have e:VF 1 n lv m=⟨Hc m (RV 5 lv),⟨(m.ns.length:Nat),1⟩,[(n,⟨(m.ns.length:Nat),0⟩)]⟩:=rfl
  rw[e]
  refine⟨a1.perm pm,a2.perm (.refl _) pm,⟨by simp;omega,by simp⟩,fun A hF S c hc hE e he=>?_⟩
  have hN:=hF.new
  obtain⟨q,q1,q2⟩:=hE (n,⟨(m.ns.length:Nat),0⟩) (by simp)
  have he:e=[]:=he
  rw[he]
  exact MF (S:=S) hN hc .o q1 (q2 _)
 ·refine told ⟨10,lv,n,[],[],[]⟩ ⟨⟨by show(-9223372036854775808:Int)≤10;decide,by show(10:Int)≤_;decide⟩,⟨by show _≤lv;omega,by show lv≤_;omega⟩,hn,by simp,by simp,by simp,by simp,by simp⟩ ?_ (by show¬(10:Int)<2;decide) rfl rfl (by show Ty 10;unfold Ty;decide) rfl
  rw[Go.Proofs.YtmlhgalboabjcaaGreat.may_iff]
  unfold jX
  simp;omega
 ·exact told (RV 13 lv) (ZM (k:=13) (by omega) hlv) (Ns hlv (by omega)) (by show¬(13:Int)<2;decide) rfl rfl (by show Ty 13;unfold Ty;decide) rfl
def OL(k:Int)(i:Nat)(e:Cx):Prop:=if ZD k i then e.length=1 else e=[]
theorem sub_w{t:T}{f k lv:Int}{i:Nat}{n:Nt}{R:List Pt}(hlv:0≤lv∧lv≤60)(hr:((XG k lv i t n).n.ns.length:Int)≤n.cap)
  (hp:∀lv',(lv'=lv∧¬ZD k i∨lv'=lv+1∧ZD k i)→((partG t lv' n).n.ns.length:Int)≤n.cap→Wp p0c f lv' n R (partG t lv' n)):Wp (OL k i) f lv n R (XG k lv i t n):=by
 unfold XG at hr⊢
 by_cases hbx:ZD k i
 ·simp only[if_pos hbx]at hr⊢
  have hb:=hp (lv+1) (.inr ⟨rfl,hbx⟩)
  obtain⟨y,hy⟩:∃y,partG t (lv+1) n=y:=⟨_,rfl⟩
  rw[hy]at hb hr⊢
  have bl:=RH lv y.l y.n
  have hr':((Io lv y.l y.n).1.ns.length:Int)≤n.cap:=hr
  have hw:=hb (by omega)
  have hcap:=hw.gr.cap
  have pm:(y.out::(pts y.l++R)).Perm (pts y.l++(y.out::R)):=rT.symm
  obtain⟨b1,b2,b3,b4⟩:=Rq hlv y.l y.n (y.out::R) (hw.inv.perm pm) (by omega)
  have pm2:(pts (Io lv y.l y.n).2++(y.out::R)).Perm (y.out::(pts (Io lv y.l y.n).2++R)):=rT
  refine⟨b1.perm pm2,hw.gr.trans (b2.perm pm.symm pm2),⟨fun z hz=>?_,by show((Io lv y.l y.n).2.map (·.1)).Nodup;rw[b3];exact hw.key.2⟩,fun A hF S c hc hE e he=>?_⟩
  ·have:z.1∈(Io lv y.l y.n).2.map (·.1):=On hz
   rw[b3]at this
   obtain⟨u,hu,hue⟩:=Om.1 this
   rw[←hue];exact hw.key.1 u hu
  ·have hF1:=hF.perm pm2.symm
   unfold OL at he
   rw[if_pos hbx]at he
   obtain⟨σ,rfl⟩:=ZA.1 he
   have:=hw.sem A ((hF1.gr b2).perm pm.symm) S (c++[σ]) (by rw[GM];simp only[Ce,sI];omega) (b4 A hF1 S c σ hc hE) [] rfl
   rw[Qg]at this
   exact this
 ·simp only[if_neg hbx]at hr⊢
  have w:=hp lv (.inl ⟨rfl,hbx⟩) hr
  exact⟨w.inv,w.gr,w.key,fun A hF S c hc hE e he=>w.sem A hF S c hc hE e (by unfold OL at he;rw[if_neg hbx]at he;exact he)⟩
theorem Uv{k lv f:Int}{m:Nat}(hlv:0≤lv∧lv≤60):∀(l:List T) (i:Nat) (N:Nt) (E:List En) (R:List Pt),
  (∀(j:Nat) (t:T),l[j]? =some t→(∀lv,Much (partG t lv) (nv t) (wR t))∧∀(n:Nt) (R:List Pt) (lv':Int),(lv'=lv∧¬ZD k (i+j)∨lv'=lv+1∧ZD k (i+j))→Iv n R→((partG t lv' n).n.ns.length:Int)≤n.cap→Wp p0c f lv' n R (partG t lv' n))→
  Iv N (pts E++(HP k m i l.length++R))→VS f E→((kidsG l k lv m i (N,E)).1.ns.length:Int)≤N.cap→
  Iv (kidsG l k lv m i (N,E)).1 (pts (kidsG l k lv m i (N,E)).2++R)∧Gw N (pts E++(HP k m i l.length++R)) (kidsG l k lv m i (N,E)).1 (pts (kidsG l k lv m i (N,E)).2++R)∧VS f (kidsG l k lv m i (N,E)).2∧
  ∀A,Fw A (kidsG l k lv m i (N,E)).1 (pts (kidsG l k lv m i (N,E)).2++R)→∀(S:Sc) (cx:Cx),((cx.length:Nat):Int)=lv→Ev A S cx (kidsG l k lv m i (N,E)).2→
   Ev A S cx E∧∀j,j<l.length→∃q,A.lk (nmP ν1 ⟨(m:Nat),(Od k (i+j):Nat)⟩)=some q∧∀e,OL k (i+j) e→Ok A S q (cx++e)
 |[],i,N,E,R,hl,h,hE,hr=>⟨h,Gw.refl _ _,hE,fun A hF S cx hcx hEn=>⟨hEn,fun j hj=>by simp at hj⟩⟩
 |t::r,i,N,E,R,hl,h,hE,hr=>by
  rw[U5]at hr⊢
  obtain⟨Q,hQ⟩:∃Q,HP k m (i+1) r.length++R=Q:=⟨_,rfl⟩
  have pm:(pts E++(HP k m i (t::r).length++R)).Perm (⟨(m:Nat),(Od k i:Nat)⟩::(pts E++Q)):=by rw[←hQ];exact rT
  have hI:=h.perm pm
  obtain⟨hM,hp⟩:=hl 0 t rfl
  simp only[Ln]at hp
  have kl:=xH (k:=k) (lv:=lv) (a:=m) r (i+1) (JP k lv m i (XG k lv i t N) E) fun t ht lv=>by
   obtain⟨j,hj⟩:=IL ht
   exact⟨_,_,(hl (j+1) t hj).1 lv⟩
  have ks:=uN k lv m i (XG k lv i t N) E
  have hr:((kidsG r k lv m (i+1) (JP k lv m i (XG k lv i t N) E)).1.ns.length:Int)≤N.cap:=hr
  have hs:=sub_w (t:=t) (f:=f) (k:=k) (lv:=lv) (i:=i) hlv (by omega) fun lv' hv hr=>hp _ _ lv' hv hI hr
  obtain⟨y,hy⟩:∃y,XG k lv i t N=y:=⟨_,rfl⟩
  rw[hy]at hs hr kl ks⊢
  have pm1:(y.out::(pts y.l++(⟨(m:Nat),(Od k i:Nat)⟩::(pts E++Q)))).Perm (y.out::⟨(m:Nat),(Od k i:Nat)⟩::(pts y.l++(pts E++Q))):=List.Perm.cons _ rT
  have b1:=hs.inv.perm pm1
  obtain⟨c1,c2,c3,c4⟩:=b1.link
  have ek:JP k lv m i y E=C5 lv y.l E (lnk y.n y.out ⟨(m:Nat),(Od k i:Nat)⟩):=rfl
  rw[ek]at hr kl ks⊢
  obtain⟨n1,hn1⟩:∃n1,lnk y.n y.out ⟨(m:Nat),(Od k i:Nat)⟩=n1:=⟨_,rfl⟩
  rw[hn1]at c1 c2 c4 hr kl ks⊢
  have g1:=(hs.gr.perm (.refl _) pm1).trans c2
  have hc1:=g1.cap
  obtain⟨d1,d2,d3,d4,d5⟩:=Oe hlv y.l E n1 Q c1 (by omega) hE.2
  have keyz:VS f (C5 lv y.l E n1).2:=⟨fun e he=>by
   rcases d4 e he with h|h
   ·obtain⟨u,hu,hue⟩:=Om.1 h
    rw[←hue];exact hs.key.1 u hu
   ·obtain⟨u,hu,hue⟩:=Om.1 h
    rw[←hue];exact hE.1 u hu,d3⟩
  obtain⟨z,hz⟩:∃z,C5 lv y.l E n1=z:=⟨_,rfl⟩
  rw[hz]at hr kl ks d1 d2 d5 keyz⊢
  obtain⟨z1,z2⟩:=z
  subst hQ
  have g2:=g1.trans d2
  have zc:z1.cap=N.cap:=g2.cap
  obtain⟨e1,e2,e3,e4⟩:=Uv hlv r (i+1) z1 z2 R (fun j t' hj=>by
   obtain⟨q1,q2⟩:=hl (j+1) t' hj
   rw[show i+(j+1)=i+1+j by omega]at q2
   exact⟨q1,q2⟩) d1 keyz (by rw[zc];exact hr)
  refine⟨e1,(g2.perm pm.symm (.refl _)).trans e2,e3,fun A hF S cx hcx hEn=>?_⟩
  obtain⟨r1,r3⟩:=e4 A hF S cx hcx hEn
  have hFz:=hF.gr e2
  obtain⟨i1,i2⟩:=d5 A hFz S cx hcx r1
  have hF1:=hFz.gr d2
  have nd1:=b1.nd
  simp only[TL]at nd1
  have l1:=hF1.lk _ (c2.has (b1.semi.xs ⟨(m:Nat),(Od k i:Nat)⟩ (by simp))) nd1.2.1
  rw[c4]at l1
  refine⟨i2,fun j hj=>?_⟩
  cases j with
  |zero=>exact⟨_,l1,fun e he=>hs.sem A ((hF1.gr c2).perm pm1.symm) S cx hcx i1 e he⟩
  |succ j=>
   have:=r3 j (by simpa using hj)
   rw[show i+1+j=i+(j+1) by omega]at this
   exact this
open Classical in
theorem mJ{A:Ab}{a:Nat}{k:Int}{s:List UInt8}{l:List T}{lv:Int}{S:Sc}{c:Cx}(hk:(k=3∧l.length=2)∨k=4∨(k=8∧l.length=2)∨(k=5∧2≤l.length))
  (hN:IsN A a (Z2 k s l lv).k lv (l.length+1)) (hc:((c.length:Nat):Int)=lv)
  (H:∀j,j<l.length→∃q,A.lk (nmP ν1 ⟨(a:Nat),(Od k j:Nat)⟩)=some q∧∀e,OL k j e→Ok A (S.add (0,a) c) q (c++e)):Ok A S (nmP ν1 ⟨(a:Nat),(CF k:Nat)⟩) c:=by
 obtain⟨z,z1,z2,z3,z4⟩:=hN
 have key:Ty z.k∧ent z.k=(CF k:Nat)∧∀s,tW z s→∃j,j<l.length∧s=(Od k j:Nat)∧∀e,H7 z.k s e→OL k j e:=by
  have two:∀s:Int,0≤s→s<((z.to.length:Nat):Int)→k≠4→s≠1→∃j,j<l.length∧s=(Od k j:Nat):=fun s h0 h1 h2 h3=>by
   rw[z4]at h1
   by_cases e:s=0
   ·exact⟨0,by omega,by unfold Od;rw[if_pos ⟨rfl,h2⟩];omega⟩
   ·refine⟨s.toNat-1,by omega,?_⟩
    unfold Od
    rw[if_neg (by omega)];omega
  have oth:∀K:Int,z.k=K→ent K=1→k≠4→(∀(s:Int) (j:Nat) (x:Cx),s=(Od k j:Nat)→H7 K s x→OL k j x)→Ty K→CF k=1→Ty z.k∧ent z.k=(CF k:Nat)∧∀s,tW z s→∃j,j<l.length∧s=(Od k j:Nat)∧∀e,H7 z.k s e→OL k j e:=fun K e e1 h4 hx hn ho=>by
   refine⟨by rw[e];exact hn,by rw[e,e1,ho];rfl,fun s hs=>?_⟩
   obtain⟨s1,s2,s3,_⟩:=hs
   rw[e,e1]at s3
   obtain⟨j,j1,j2⟩:=two s s1 s2 h4 s3
   exact⟨j,j1,j2,fun x h=>hx s j x j2 (by rw[←e];exact h)⟩
  rcases hk with⟨rfl,hl⟩|rfl|⟨rfl,hl⟩|⟨rfl,hl⟩
  ·refine oth 3 z2 (by decide) (by decide) (fun s j x j2 hx=>?_) (by unfold Ty;decide) rfl
   unfold OL
   unfold H7 at hx
   have hb:ZD 3 j↔s=2:=by
    unfold ZD
    rw[j2];unfold Od
    split<;>omega
   by_cases h:s=2
   ·rw[if_pos (hb.2 h)];rw[if_pos (.inr ⟨rfl,h⟩)]at hx;exact hx
   ·rw[if_neg fun k=>h (hb.1 k)];rw[if_neg (by omega)]at hx;exact hx
  ·have e:z.k=8:=z2
   have e1:ent 8=0:=by decide
   refine⟨by unfold Ty;omega,by rw[e,e1];rfl,fun s hs=>?_⟩
   obtain⟨s1,s2,s3,_⟩:=hs
   rw[e,e1]at s3
   rw[z4]at s2
   refine⟨s.toNat-1,by omega,?_,fun x hx=>?_⟩
   ·unfold Od
    rw[if_neg (by omega)];omega
   ·unfold OL
    unfold H7 at hx
    rw[e,if_pos (.inl rfl)]at hx
    rw[if_pos (.inl rfl)];exact hx
  ·refine oth 11 z2 (by decide) (by decide) (fun s j x j2 hx=>?_) (by unfold Ty;decide) rfl
   unfold OL
   unfold H7 at hx
   rw[if_neg (by omega)]at hx
   rw[if_neg (by unfold ZD;omega)];exact hx
  ·refine oth 9 z2 (by decide) (by decide) (fun s j x j2 hx=>?_) (by unfold Ty;decide) rfl
   unfold OL
   unfold H7 at hx
   rw[if_neg (by omega)]at hx
   rw[if_neg (by unfold ZD;omega)];exact hx
 obtain⟨k1,k2,k3⟩:=key
 have hex:∀s,tW z s→∃q,A.lk ((0,a),s)=some q∧∀e,H7 z.k s e→Ok A (S.add (0,a) c) q (c++e):=fun s hs=>by
  obtain⟨j,j1,j2,j3⟩:=k3 s hs
  obtain⟨q,q1,q2⟩:=H j j1
  rw[←j2]at q1
  exact⟨q,q1,fun e he=>q2 e (j3 e he)⟩
 show Ok A S ((0,a),(CF k:Nat)) c
 rw[←k2]
 refine .node (fun s=>if h:tW z s then Classical.choose (hex s h)else((0,0),0)) z1 k1 (by rw[z3];exact hc) (fun s hs=>?_) fun s hs e he=>?_
 ·simp only[hs,dif_pos];exact(Gb (hex s hs)).1
 ·simp only[hs,dif_pos];exact(Gb (hex s hs)).2 e he
theorem Il{f:Int}{a:Bool}{t:T}(h:Cl f a t):T.Ok t→∀(lv:Int),0≤lv→lv+dep t≤60→∀(n:Nt) (R:List Pt),Iv n R→((partG t lv n).n.ns.length:Int)≤n.cap→Wp p0c f lv n R (partG t lv n):=by
 induction h with
 | @leaf f k n h=>
   intro ht lv h0 h1 m R hI hr
   have hd:dep (.mk k n [] [])=1:=rfl
   have e:partG (.mk k n [] []) lv m=VF k n lv m:=by rw[aY,if_pos (by omega)]
   rw[e]at hr⊢
   exact wM (by omega) ht.kids.2.1 h hI hr
 | @lam f b h ih=>
   intro ht lv h0 h1 m R hI hr
   have hd:dep (.mk 2 0 [] [b])=dep b+1:=by show max (dep b) 0+1=_;rw[Wc (ji _)]
   have e:partG (.mk 2 0 [] [b]) lv m=Hr lv (partG b lv) 1 m:=by rw[aY];rfl
   rw[e]at hr⊢
   exact qo (by omega) (KE h lv).mono 1 f (ih (ht.kids.2.2.2.2 b (by simp)) lv h0 (by omega)) m R hI hr
 | @alt f n s b hn0 hn8 hs h ih=>
   intro ht lv h0 h1 m R hI hr
   have hd:dep (.mk 6 n s [b])=dep b+1:=by show max (dep b) 0+1=_;rw[Wc (ji _)]
   have e:partG (.mk 6 n s [b]) lv m=Hr lv (partG b lv) n.toNat m:=by rw[aY];rfl
   rw[e]at hr⊢
   exact qo (by omega) (KE h lv).mono n.toNat f (by rw[show f+((n.toNat:Nat):Int)=f+n by omega];exact ih (ht.kids.2.2.2.2 b (by simp)) lv h0 (by omega)) m R hI hr
 | @node f k s l hk hl ih=>
   intro ht lv h0 h1 m R hI hr
   have hkn:¬(k=1∨k=7∨k=9)∧k≠2∧k≠6:=by omega
   have hd:dep (.mk k 0 s l)=depL l+1:=rfl
   have hlv:0≤lv∧lv≤60:=by omega
   have e:partG (.mk k 0 s l) lv m=⟨(kidsG l k lv m.ns.length 0 (Hc m (Z2 k s l lv),[])).1,⟨(m.ns.length:Nat),(CF k:Nat)⟩,(kidsG l k lv m.ns.length 0 (Hc m (Z2 k s l lv),[])).2⟩:=by rw[aY,if_neg hkn.1,if_neg hkn.2.1,if_neg hkn.2.2]
   obtain⟨x,hx⟩:∃x,Z2 k s l lv=x:=⟨_,rfl⟩
   obtain⟨x1,x2,x3,x4,_,_,x7⟩:=mh (f:=f) (lv:=lv) hlv ht.kids.2.2.1 (fun t h=>(ht.kids.2.2.2.2 t h).own) hk hl
   rw[hx]at e x1 x2 x3 x4 x7
   have km:=xH (k:=k) (lv:=lv) (a:=m.ns.length) l 0 (Hc m x,[]) fun t ht lv=>by
    obtain⟨j,hj⟩:=IL ht
    exact⟨_,_,KE (hl j t hj) lv⟩
   rw[ql]at km
   rw[e]at hr⊢
   have hr':((kidsG l k lv m.ns.length 0 (Hc m x,[])).1.ns.length:Int)≤m.cap:=hr
   obtain⟨a1,a2⟩:=hI.add x1 x2 x3 (by omega)
   obtain⟨a,ha⟩:∃a,m.ns.length=a:=⟨_,rfl⟩
   have hpn:x.ports.toNat=l.length+1:=by omega
   have hnew:∀{A L},Fw A (Hc m x) L→IsN A a (Z2 k s l lv).k lv (l.length+1):=fun {A L} h=>by
    have:=h.new
    rw[ha,hpn,x7]at this
    rw[hx];exact this
   rw[ha]at a1 a2 hr'⊢
   rw[hpn]at a1 a2
   have pm:(xB a (l.length+1)++R).Perm (pts []++(HP k a 0 l.length++(⟨(a:Nat),(CF k:Nat)⟩::R))):=by
    refine((dk k a l.length (by omega)).append_right R).trans ?_
    exact rT.symm
   have b2:=a2.perm (.refl _) pm
   obtain⟨d1,d2,d3,d4⟩:=Uv (f:=f) (k:=k) (m:=a) hlv l 0 (Hc m x) [] (⟨(a:Nat),(CF k:Nat)⟩::R) (fun j t hj=>⟨KE (hl j t hj),fun n R lv' hv h hr=>by
    have hmem:=yu hj
    have:=Lv hmem
    exact ih j t hj (ht.kids.2.2.2.2 t hmem) lv' (by omega) (by omega) n R h hr⟩) (a1.perm pm) ⟨by simp,tj⟩ (by rw[tu];exact hr')
   have pm3:(pts (kidsG l k lv a 0 (Hc m x,[])).2++(⟨(a:Nat),(CF k:Nat)⟩::R)).Perm (⟨(a:Nat),(CF k:Nat)⟩::(pts (kidsG l k lv a 0 (Hc m x,[])).2++R)):=rT
   refine⟨d1.perm pm3,(b2.trans d2).perm (.refl _) pm3,d3,fun A hF S cx hcx hEn e he=>?_⟩
   have hF1:=hF.perm pm3.symm
   obtain⟨G1,G3⟩:=d4 A hF1 (S.add (0,a) cx) cx hcx (hEn.weak fun Z d hZ=>.inl hZ)
   have he:e=[]:=he
   rw[he,Qg]
   refine mJ (by omega) (hnew (hF1.gr d2)) hcx fun j hj=>?_
   have:=G3 j hj
   rw[Fy]at this
   exact this
theorem gy:Iv Lc [zP]:=by
 refine⟨⟨fh,fun x hx=>?_,by decide,by decide,by decide⟩,⟨by decide,by decide,by decide,by decide,by decide,fun i x hx=>?_,fun p hp=>?_,fun p hp hn=>?_⟩,by decide⟩
 ·have:x=iG:=by simpa [Lc]using hx
  subst this;decide
 ·have hi:=(QU.1 hx).1
  have:i=0:=by simp only[Lc,Ce,sI]at hi;omega
  subst this
  have:x=iG:=by simpa [Lc]using hx.symm
  subst this
  refine⟨?_,by decide,by decide⟩
  rw[Go.Proofs.YtmlhgalboabjcaaGreat.may_iff]
  unfold jX
  simp[iG]
 ·have:p=zP:=by simpa using hp
  rw[aL];exact this
 ·rw[aL]at hp;subst hp;simp at hn
structure WvOk(n:Nt):Prop where
 good:n.Good
 ok:n.Ok
 full:∀x∈n.ns,x.k≠0
 okR:∀A,Fw A n []→OkR A (0,0)
theorem RZ{t:T}(h:Cl 0 false t)(ht:T.Ok t)(hs:sizeZ t≤80)(hd:dep t≤50):WvOk (D0 t):=by
 have hw:=Il h ht 0 (kS _) (by omega) Lc [zP] gy (JJ h hs hd)
 unfold D0
 obtain⟨y,hy⟩:∃y,partG t 0 Lc=y:=⟨_,rfl⟩
 rw[hy]at hw⊢
 have hl0:y.l=[]:=by
  rcases hl:y.l with _|⟨e,r⟩
  ·rfl
  ·have:=hw.key.1 e (by rw[hl];simp);omega
 obtain⟨hin,hgr,_,hsem⟩:=hw
 rw[hl0]at hin hgr hsem
 have hin':Iv y.n [y.out,zP]:=hin
 have hgr':Gw Lc [zP] y.n [y.out,zP]:=hgr
 obtain⟨c1,c2,c3,c4⟩:=hin'.link
 refine⟨(c1.semi.iff fun p=>by simp).good,c1.room.ok,c1.room.full,fun A hF=>?_⟩
 have hz:y.n.has zP=true:=hin'.semi.xs _ (by simp)
 have hFy:=hF.gr c2
 have hl:=hF.lk zP (c2.has hz) (by simp)
 rw[c4]at hl
 obtain⟨z,z1,z2,_⟩:=(hFy.gr hgr').nd 0 (by decide) (by decide)
 have:=hsem A hFy (fun _ _=>False) [] rfl (fun e he=>by simp at he) [] rfl
 exact⟨⟨z,z1,z2⟩,_,hl,this⟩
end Go.Proofs.YtmlhgalboabjcaaGreat.Tm
end
namespace Go.Proofs.YtmlhgalboabjcaaGreat
open Go.Fx
def AO.pts:AO→List NP
 | .mk _ _=>[]
 | .fr _=>[]
 | .mv p q=>[p,q]
 | .jn p q=>[p,q]
 | .ln p q=>[p,q]
def AO.tg:AO→List NP
 | .mv _ q=>[q]
 | .ln p q=>[p,q]
 |_=>[]
def AO.still:AO→Prop
 | .jn _ _=>False
 |_=>True
def Dj(o u:AO):Prop:=∀p∈o.pts,p∉u.pts
def Rho(L:List AO)(r r':NP):Prop:=AO.mv r r'∈L∨((∀q,AO.mv r q∉L)∧r'=r)
theorem Rho.tail{o:AO}{L:List AO}{r r':NP}(h:Rho (o::L) r r')(hn:∀q,o≠ .mv r q):Rho L r r':=by
 rcases h with h|⟨h1,h2⟩
 ·rcases qY.1 h with h|h
  ·exact absurd h.symm (hn _)
  ·exact .inl h
 ·exact .inr ⟨fun q hq=>h1 q (tT _ hq),h2⟩
theorem Y5{p q r:NP}(h1:r≠p)(h2:r≠q):sw p q r=r:=by unfold sw;rw[if_neg h1,if_neg h2]
theorem sw_l{p q:NP}:sw p q p=q:=by unfold sw;rw[if_pos rfl]
theorem batch:∀(L:List AO) (A:Ab),Kv A.lk→(∀o∈L,o.ok∧o.still)→L.Pairwise Dj→(∀o∈L,∀t∈o.tg,A.lk t=none)→
  (∀r q r' q',A.lk r=some q→Rho L r r'→Rho L q q'→(tw A L).lk r'=some q')∧∀p q,AO.ln p q∈L→(tw A L).lk p=some q∧(tw A L).lk q=some p
 |[],A,hb,_,_,_=>by
  refine⟨fun r q r' q' h h1 h2=>?_,fun p q h=>by simp at h⟩
  rcases h1 with h1|⟨_,rfl⟩
  ·simp at h1
  rcases h2 with h2|⟨_,rfl⟩
  ·simp at h2
  exact h
 |o::L,A,hb,ho,hd,ht=>by
  have ho0:=ho o (by simp)
  have hoL:∀u∈L,u.ok∧u.still:=fun u hu=>ho u (by simp[hu])
  obtain⟨hd0,hdL⟩:=List.pairwise_cons.1 hd
  have ht0:=ht o (by simp)
  have htL:∀u∈L,∀t∈u.tg,A.lk t=none:=fun u hu=>ht u (by simp[hu])
  have tp:∀u:AO,∀t∈u.tg,t∈u.pts:=fun u t h=>by cases u<;>simp[AO.tg,AO.pts]at h⊢<;>simp[h]
  have hb1:=AO.both (A:=A) ho0.1 hb
  have e:tw A (o::L)=tw (AO.run A o) L:=rfl
  rw[e]
  cases o with
  |mk m x=>
   obtain⟨i1,i2⟩:=batch L (AO.run A (.mk m x)) hb1 hoL hdL htL
   exact⟨fun r q r' q' h h1 h2=>i1 r q r' q' h (h1.tail fun q h=>by cases h) (h2.tail fun q h=>by cases h),fun p q h=>i2 p q ((qY.1 h).resolve_left fun h=>by cases h)⟩
  |fr m=>
   obtain⟨i1,i2⟩:=batch L (AO.run A (.fr m)) hb1 hoL hdL htL
   exact⟨fun r q r' q' h h1 h2=>i1 r q r' q' h (h1.tail fun q h=>by cases h) (h2.tail fun q h=>by cases h),fun p q h=>i2 p q ((qY.1 h).resolve_left fun h=>by cases h)⟩
  |jn p q=>exact absurd ho0.2 (by simp[AO.still])
  |mv a b=>
   have ht1:∀u∈L,∀t∈u.tg,(AO.run A (.mv a b)).lk t=none:=fun u hu t h=>by
    have h1:=tp u t h
    have ha:t≠a:=fun k=>hd0 u hu a (by simp[AO.pts]) (k▸h1)
    have hb:t≠b:=fun k=>hd0 u hu b (by simp[AO.pts]) (k▸h1)
    show lkM a b A.lk t=none
    unfold lkM
    rw[Y5 ha hb,htL u hu t h];rfl
   obtain⟨i1,i2⟩:=batch L (AO.run A (.mv a b)) hb1 hoL hdL ht1
   have hbn:=ht0 b (by simp[AO.tg])
   have key:∀r r',r≠b→Rho (.mv a b::L) r r'→Rho L (sw a b r) r':=fun r r' hr h=>by
    by_cases hra:r=a
    ·subst hra
     rw[sw_l]
     have hno:∀v∈L,∀q,v≠ .mv r q:=fun v hv q e=>hd0 v hv r (by simp[AO.pts]) (by rw[e];simp[AO.pts])
     have hno2:∀q,AO.mv b q∉L:=fun q hq=>hd0 _ hq b (by simp[AO.pts]) (by simp[AO.pts])
     rcases h with h|⟨h,_⟩
     ·rcases qY.1 h with h|h
      ·injection h with _ h
       exact .inr ⟨hno2,h⟩
      ·exact absurd rfl (hno _ h _)
     ·exact absurd (List.mem_cons_self ..) (h b)
    ·rw[Y5 hra hr]
     exact h.tail fun q h=>by injection h with h _;exact hra h.symm
   refine⟨fun r q r' q' h h1 h2=>?_,fun p q h=>i2 p q ((qY.1 h).resolve_left fun h=>by cases h)⟩
   have hrb:r≠b:=fun k=>by rw[k,hbn]at h;cases h
   have hqb:q≠b:=fun k=>by have:=(hb _ _ h).2;rw[k,hbn]at this;cases this
   refine i1 (sw a b r) (sw a b q) r' q' ?_ (key r r' hrb h1) (key q q' hqb h2)
   show lkM a b A.lk _=_
   unfold lkM
   rw[wq,h];rfl
  |ln a b=>
   have han:=ht0 a (by simp[AO.tg])
   have hbn:=ht0 b (by simp[AO.tg])
   have ht1:∀u∈L,∀t∈u.tg,(AO.run A (.ln a b)).lk t=none:=fun u hu t h=>by
    have h1:=tp u t h
    have ha:t≠a:=fun k=>hd0 u hu a (by simp[AO.pts]) (k▸h1)
    have hb:t≠b:=fun k=>hd0 u hu b (by simp[AO.pts]) (k▸h1)
    show lkL a b A.lk t=none
    unfold lkL
    rw[if_neg ha,if_neg hb,htL u hu t h];simp
   obtain⟨i1,i2⟩:=batch L (AO.run A (.ln a b)) hb1 hoL hdL ht1
   refine⟨fun r q r' q' h h1 h2=>?_,fun p q h=>?_⟩
   ·refine i1 r q r' q' ?_ (h1.tail fun q h=>by cases h) (h2.tail fun q h=>by cases h)
    have hr1:r≠a:=fun k=>by rw[k,han]at h;cases h
    have hr2:r≠b:=fun k=>by rw[k,hbn]at h;cases h
    have h':=(hb _ _ h).2
    have hq1:q≠a:=fun k=>by rw[k,han]at h';cases h'
    have hq2:q≠b:=fun k=>by rw[k,hbn]at h';cases h'
    show lkL a b A.lk r=_
    unfold lkL
    rw[if_neg hr1,if_neg hr2,h,if_neg]
    rintro(k|k)
    ·exact hq1 (BQ k)
    ·exact hq2 (BQ k)
   ·rcases qY.1 h with h|h
    ·injection h with h1 h2
     subst h1 h2
     have na:Rho L p p:=.inr ⟨fun q hq=>hd0 _ hq p (by simp[AO.pts]) (by simp[AO.pts]),rfl⟩
     have nb:Rho L q q:=.inr ⟨fun r hr=>hd0 _ hr q (by simp[AO.pts]) (by simp[AO.pts]),rfl⟩
     have hpq:p≠q:=ho0.1
     refine⟨i1 p q p q ?_ na nb,i1 q p q p ?_ nb na⟩
     ·show lkL p q A.lk p=_
      unfold lkL;rw[if_pos rfl]
     ·show lkL p q A.lk q=_
      unfold lkL;rw[if_neg (fun k=>hpq k.symm),if_pos rfl]
    ·exact i2 p q h
theorem Wo:∀(L:List AO) (A:Ab) (Z:Nm),(∀o∈L,(∀x,o≠ .mk Z x)∧o≠ .fr Z)→(tw A L).nd Z=A.nd Z
 |[],A,Z,_=>rfl
 |o::L,A,Z,h=>by
  have h0:=h o (by simp)
  have e:tw A (o::L)=tw (AO.run A o) L:=rfl
  rw[e,Wo L _ Z fun u hu=>h u (by simp[hu])]
  cases o with
  |mk m x=>show(if Z=m then some x else A.nd Z)=_;rw[if_neg fun k=>h0.1 x (by rw[k])]
  |fr m=>show(if Z=m then none else A.nd Z)=_;rw[if_neg fun k=>h0.2 (by rw[k])]
  |_=>rfl
theorem dQ:∀(L:List AO) (A:Ab) (m:Nm) (x:Nd),(AO.mk m x∈L∨A.nd m=some x)→(∀y,AO.mk m y∈L→y=x)→AO.fr m∉L→(tw A L).nd m=some x
 |[],A,m,x,h,_,_=>h.resolve_left (by simp)
 |o::L,A,m,x,h,hu,hf=>by
  have e:tw A (o::L)=tw (AO.run A o) L:=rfl
  rw[e]
  refine dQ L _ m x ?_ (fun y hy=>hu y (by simp[hy])) (fun k=>hf (by simp[k]))
  by_cases ho:∃y,o= .mk m y
  ·obtain⟨y,rfl⟩:=ho
   right
   rw[hu y (by simp)]
   show(if m=m then some x else _)=_
   rw[if_pos rfl]
  ·rcases h with h|h
   ·rcases qY.1 h with h|h
    ·exact absurd ⟨_,h.symm⟩ ho
    ·exact .inl h
   ·right
    cases o with
    |mk m' y=>show(if m=m' then some y else A.nd m)=_;rw[if_neg fun k=>ho ⟨y,by rw[k]⟩,h]
    |fr m'=>show(if m=m' then none else A.nd m)=_;rw[if_neg fun k=>hf (by rw[k];simp),h]
    |_=>exact h
def JS(X Y:Nm)(l:List Nat)(q:NP):Prop:=∃k∈l,q=(X,(k:Int))∨q=(Y,(k:Int))
inductive RJn(f:NP→Option NP)(X Y:Nm)(l:List Nat):NP→NP→Prop
 |id {q:NP} (h:¬JS X Y l q):RJn f X Y l q q
 |x {k:Nat} {q r:NP} (hk:k∈l) (h:f (Y,(k:Int))=some q) (g:RJn f X Y l q r):RJn f X Y l (X,(k:Int)) r
 |y {k:Nat} {q r:NP} (hk:k∈l) (h:f (X,(k:Int))=some q) (g:RJn f X Y l q r):RJn f X Y l (Y,(k:Int)) r
theorem rj{f:NP→Option NP}{a b p q:NP}(hb:Kv f)(ha:∃r,f a=some r)(hbb:∃r,f b=some r)(h1:p≠a)(h2:p≠b)(h:f p=some q):
  ∃q1,lkJ a b f p=some q1∧q1≠a∧q1≠b∧(q=q1∨q=a∧f b=some q1∨q=b∧f a=some q1):=by
 have hp:=hb _ _ h
 unfold lkJ
 rw[if_neg (fun k=>k.elim h1 h2),h]
 by_cases e1:q=a
 ·subst e1
  rw[if_pos rfl]
  obtain⟨r,hr⟩:=hbb
  have:=hb _ _ hr
  refine⟨r,hr,?_,this.1,.inr (.inl ⟨rfl,hr⟩)⟩
  rintro rfl;rw[hp.2]at this;exact h2 (BQ this.2)
 ·rw[if_neg fun k=>e1 (BQ k)]
  by_cases e2:q=b
  ·subst e2
   rw[if_pos rfl]
   obtain⟨r,hr⟩:=ha
   have:=hb _ _ hr
   refine⟨r,hr,this.1,?_,.inr (.inr ⟨rfl,hr⟩)⟩
   rintro rfl;rw[hp.2]at this;exact h1 (BQ this.2)
  ·rw[if_neg fun k=>e2 (BQ k)]
   exact⟨q,rfl,e1,e2,.inl rfl⟩
theorem Wu{f:NP→Option NP}{X Y:Nm}{l:List Nat}{k:Nat}{q q1 r:NP}(h:q=q1∨q=(X,(k:Int))∧f (Y,(k:Int))=some q1∨q=(Y,(k:Int))∧f (X,(k:Int))=some q1)(hk:k∈l)(g:RJn f X Y l q1 r):RJn f X Y l q r:=by
 rcases h with rfl|⟨rfl,h⟩|⟨rfl,h⟩
 ·exact g
 ·exact .x hk h g
 ·exact .y hk h g
theorem joins{X Y:Nm}(hXY:X≠Y):∀(l:List Nat) (A:Ab),Kv A.lk→l.Nodup→(∀k∈l,(∃r,A.lk (X,(k:Int))=some r)∧∃r,A.lk (Y,(k:Int))=some r)→
  ∀p q,¬JS X Y l p→A.lk p=some q→∃q',(tw A (Zf X Y l)).lk p=some q'∧RJn A.lk X Y l q q'
 |[],A,_,_,_,p,q,_,h=>⟨q,h,.id (by rintro⟨k,hk,_⟩;simp at hk)⟩
 |k::l,A,hb,hn,hs,p,q,hp,h=>by
  have hn':=TL.1 hn
  have hk:=hs k (by simp)
  obtain⟨B,hB⟩:∃B,AO.run A (.jn (X,(k:Int)) (Y,(k:Int)))=B:=⟨_,rfl⟩
  have hBl:B.lk=lkJ (X,(k:Int)) (Y,(k:Int)) A.lk:=by rw[←hB];rfl
  have hne:((X,(k:Int)):NP)≠(Y,(k:Int)):=fun e=>hXY (by injection e)
  have hb1:Kv B.lk:=by rw[hBl];exact qN hne hb
  have nj:∀j∈l,∀W,((W,(j:Int)):NP)≠(X,(k:Int))∧((W,(j:Int)):NP)≠(Y,(k:Int)):=fun j hj W=>by
   have:(j:Int)≠k:=fun e=>hn'.1 (by have:j=k:=by omega
                                    exact this▸hj)
   exact⟨fun e=>this (by injection e),fun e=>this (by injection e)⟩
  have one:=fun {p q:NP} (h1:p≠(X,(k:Int))) (h2:p≠(Y,(k:Int))) (h:A.lk p=some q)=>rj hb hk.1 hk.2 h1 h2 h
  have some1:∀j∈l,(∃r,B.lk (X,(j:Int))=some r)∧∃r,B.lk (Y,(j:Int))=some r:=fun j hj=>by
   obtain⟨⟨r,hr⟩,⟨u,hu⟩⟩:=hs j (by simp[hj])
   obtain⟨r1,a1,_⟩:=one (nj j hj X).1 (nj j hj X).2 hr
   obtain⟨u1,b1,_⟩:=one (nj j hj Y).1 (nj j hj Y).2 hu
   rw[hBl];exact⟨⟨r1,a1⟩,⟨u1,b1⟩⟩
  have conv:∀q1 q',RJn B.lk X Y l q1 q'→q1≠(X,(k:Int))→q1≠(Y,(k:Int))→RJn A.lk X Y (k::l) q1 q':=by
   intro q1 q' g
   induction g with
   |id h=>
    intro h1 h2
    refine .id ?_
    rintro⟨j,hj,e⟩
    rcases qY.1 hj with rfl|hj
    ·exact e.elim h1 h2
    ·exact h ⟨j,hj,e⟩
   | @x j q r hj hq g ih=>
     intro _ _
     obtain⟨⟨_,_⟩,⟨u,hu⟩⟩:=hs j (by simp[hj])
     obtain⟨u1,b1,b2,b3,b4⟩:=one (nj j hj Y).1 (nj j hj Y).2 hu
     rw[hBl,b1]at hq
     have hq:=BQ hq
     subst hq
     exact .x (by simp[hj]) hu (Wu b4 (by simp) (ih b2 b3))
   | @y j q r hj hq g ih=>
     intro _ _
     obtain⟨⟨u,hu⟩,⟨_,_⟩⟩:=hs j (by simp[hj])
     obtain⟨u1,b1,b2,b3,b4⟩:=one (nj j hj X).1 (nj j hj X).2 hu
     rw[hBl,b1]at hq
     have hq:=BQ hq
     subst hq
     exact .y (by simp[hj]) hu (Wu b4 (by simp) (ih b2 b3))
  have hp1:p≠(X,(k:Int)):=fun e=>hp ⟨k,by simp,.inl e⟩
  have hp2:p≠(Y,(k:Int)):=fun e=>hp ⟨k,by simp,.inr e⟩
  obtain⟨q1,c1,c2,c3,c4⟩:=one hp1 hp2 h
  have e:tw A (Zf X Y (k::l))=tw B (Zf X Y l):=by rw[←hB];rfl
  obtain⟨q',d1,d2⟩:=joins hXY l B hb1 hn'.2 some1 p q1 (fun⟨j,hj,e⟩=>hp ⟨j,by simp[hj],e⟩) (by rw[hBl];exact c1)
  rw[e]
  exact⟨q',d1,Wu c4 (by simp) (conv q1 q' d2 c2 c3)⟩
structure Sit(A:Ab)(X Y:Nm)(x y:Nd)(tag:Nat):Prop where
 both:Kv A.lk
 lk:A.lk (X,0)=some (Y,0)
 hx:A.nd X=some x
 hy:A.nd Y=some y
 dom:∀p q,A.lk p=some q→∃z,A.nd p.1=some z∧0≤p.2∧p.2<z.to.length
 full:∀Z z (s:Int),A.nd Z=some z→0≤s→s<z.to.length→∃q,A.lk (Z,s)=some q
 new:∀j,A.nd (tag,j)=none
 px:((x.to.length:Nat):Int)=x.ports
 py:((y.to.length:Nat):Int)=y.ports
theorem BW{k lv n:Int}{s:List UInt8}{al:List Ar}{to:List Pt}:
  (k=2→Nd.ports ⟨k,lv,n,s,al,to⟩=3)∧(k=3→Nd.ports ⟨k,lv,n,s,al,to⟩=3)∧(k=4→Nd.ports ⟨k,lv,n,s,al,to⟩=3)∧(k=5→Nd.ports ⟨k,lv,n,s,al,to⟩=2)∧(k=6→Nd.ports ⟨k,lv,n,s,al,to⟩=2)∧(k=11→Nd.ports ⟨k,lv,n,s,al,to⟩=3)∧(k=12→Nd.ports ⟨k,lv,n,s,al,to⟩=2)∧(k=7→Nd.ports ⟨k,lv,n,s,al,to⟩=1):=by
 refine⟨?_,?_,?_,?_,?_,?_,?_,?_⟩<;>intro h<;>subst h<;>rfl
section
variable{A:Ab}{X Y:Nm}{x y:Nd}{tag:Nat}
theorem Sit.ne(h:Sit A X Y x y tag):X≠Y:=fun e=>(h.both _ _ h.lk).1 (by rw[e])
theorem Sit.kl(h:Sit A X Y x y tag):A.lk (Y,0)=some (X,0):=(h.both _ _ h.lk).2
theorem Sit.far(H:Sit A X Y x y tag){p q:NP}(h:A.lk p=some q)(h1:p≠(X,0))(h2:p≠(Y,0)):q≠(X,0)∧q≠(Y,0):=by
 have hb:=(H.both _ _ h).2
 refine⟨?_,?_⟩
 ·rintro rfl;rw[H.lk]at hb;exact h2 (BQ hb).symm
 ·rintro rfl;rw[H.kl]at hb;exact h1 (BQ hb).symm
abbrev whole(A:Ab)(X Y U V:Nm)(L:List AO):Ab:=tw A (.jn (X,0) (Y,0)::(L++[.fr U,.fr V]))
theorem gm(L:List AO)(U V:Nm):(whole A X Y U V L).lk=(tw (AO.run A (.jn (X,0) (Y,0))) L).lk:=by
 show(tw (AO.run A (.jn (X,0) (Y,0))) (L++[.fr U,.fr V])).lk=_
 rw[xe];rfl
theorem Sit.open(h:Sit A X Y x y tag)(r:NP):(AO.run A (.jn (X,0) (Y,0))).lk r=if r=(X,0)∨r=(Y,0)then none else A.lk r:=by
 show lkJ (X,0) (Y,0) A.lk r=_
 unfold lkJ
 split
 ·rfl
 ·rename_i hr
  rw[not_or]at hr
  cases hq:A.lk r with
  |none=>simp
  |some q=>
   obtain⟨n1,n2⟩:=h.far hq hr.1 hr.2
   rw[if_neg fun e=>n1 (BQ e),if_neg fun e=>n2 (BQ e)]
theorem Sit.batch(h:Sit A X Y x y tag){L:List AO}(U V:Nm)(h1:∀o∈L,o.ok∧o.still)(h2:L.Pairwise Dj)(h3:∀o∈L,∀t∈o.tg,t.1.1=tag):
  (∀r q r' q',A.lk r=some q→r≠(X,0)→r≠(Y,0)→Rho L r r'→Rho L q q'→(whole A X Y U V L).lk r'=some q')∧∀p q,AO.ln p q∈L→(whole A X Y U V L).lk p=some q∧(whole A X Y U V L).lk q=some p:=by
 have hne:=h.ne
 rw[gm]
 obtain⟨i1,i2⟩:=Go.Proofs.YtmlhgalboabjcaaGreat.batch L (AO.run A (.jn (X,0) (Y,0))) (AO.both (o:=.jn (X,0) (Y,0)) (fun e=>hne (by injection e)) h.both) h1 h2 (fun o ho t ht=>by
  rw[h.open]
  split
  ·rfl
  ·cases hq:A.lk t with
   |none=>rfl
   |some q=>
    obtain⟨z,hz,_⟩:=h.dom _ _ hq
    have e:t.1=(tag,t.1.2):=by rw[←h3 o ho t ht]
    rw[e,h.new]at hz;cases hz)
 refine⟨fun r q r' q' hq n1 n2=>i1 r q r' q' ?_,i2⟩
 rw[h.open,if_neg (fun k=>k.elim n1 n2)];exact hq
theorem Tt{L:List AO}{r:NP}(h:∀p q,AO.mv p q∈L→p.1=X∨p.1=Y)(h1:r.1≠X)(h2:r.1≠Y):Rho L r r:=.inr ⟨fun q hq=>(h _ _ hq).elim h1 h2,rfl⟩
theorem Sit.old(h:Sit A X Y x y tag){L:List AO}{U V:Nm}(hU:U=X∨U=Y)(hV:V=X∨V=Y)(hm:∀o∈L,(∀m z,o= .mk m z→m.1=tag)∧∀m,o≠ .fr m){Z:Nm}{z:Nd}(hX:Z≠X)(hY:Z≠Y)(hz:A.nd Z=some z):(whole A X Y U V L).nd Z=some z:=by
 have ht:Z.1≠tag:=fun e=>by
  have:Z=(tag,Z.2):=by rw[←e]
  rw[this,h.new]at hz;cases hz
 rw[←hz]
 refine Wo _ _ _ fun o ho=>?_
 rcases qY.1 ho with rfl|ho
 ·exact⟨fun x e=>(by cases e),fun e=>(by cases e)⟩
 rcases Sw.1 ho with ho|ho
 ·obtain⟨h1,h2⟩:=hm o ho
  exact⟨fun z e=>ht (h1 _ _ e),h2 Z⟩
 ·simp only[qY,oZ,or_false]at ho
  rcases ho with rfl|rfl
  ·refine⟨fun x e=>(by cases e),fun e=>?_⟩
   injection e with e
   subst e
   exact hU.elim hX hY
  ·refine⟨fun x e=>(by cases e),fun e=>?_⟩
   injection e with e
   subst e
   exact hV.elim hX hY
theorem Sit.made(h:Sit A X Y x y tag){L:List AO}{U V:Nm}(hU:U=X∨U=Y)(hV:V=X∨V=Y)(hm:∀o∈L,∀m,o≠ .fr m){m:Nm}{z:Nd}(ht:m.1=tag)(hz:AO.mk m z∈L)(hu:∀z',AO.mk m z'∈L→z'=z):(whole A X Y U V L).nd m=some z:=by
 have nX:X≠m:=fun e=>by have:=h.hx;rw[e,show m=(tag,m.2) by rw[←ht],h.new]at this;cases this
 have nY:Y≠m:=fun e=>by have:=h.hy;rw[e,show m=(tag,m.2) by rw[←ht],h.new]at this;cases this
 refine dQ _ _ _ _ (.inl (tT _ (uJ _ hz))) (fun z' hz'=>?_) fun hf=>?_
 ·rcases qY.1 hz' with e|hz'
  ·cases e
  rcases Sw.1 hz' with hz'|hz'
  ·exact hu z' hz'
  ·simp at hz'
 ·rcases qY.1 hf with e|hf
  ·cases e
  rcases Sw.1 hf with hf|hf
  ·exact hm _ hf _ rfl
  ·simp only[qY,oZ,or_false,AO.fr.injEq]at hf
   rcases hf with rfl|rfl
   ·rcases hU with e|e
    ·exact nX e.symm
    ·exact nY e.symm
   ·rcases hV with e|e
    ·exact nX e.symm
    ·exact nY e.symm
theorem ZN{Z:Nm}{l:List Nat}:∀o∈Zf X Y l,(∀m z,o=AO.mk m z→m.1=tag)∧∀m,o≠ .fr m:=fun o ho=>by
 unfold Zf at ho
 obtain⟨s,_,rfl⟩:=Om.1 ho
 exact⟨fun m z e=>(by cases e),fun m e=>(by cases e)⟩
theorem Sit.joins(h:Sit A X Y x y tag)(he:x.to.length=y.to.length)(h1:1≤x.to.length)(U V:Nm){Z:Nm}{s:Int}{q:NP}(hX:Z≠X)(hY:Z≠Y)(hq:A.lk (Z,s)=some q):
  ∃q',(whole A X Y U V (Zf X Y (List.range' 1 (x.to.length-1)))).lk (Z,s)=some q'∧RJn A.lk X Y (0::List.range' 1 (x.to.length-1)) q q':=by
 rw[gm]
 have e:tw (AO.run A (.jn (X,0) (Y,0))) (Zf X Y (List.range' 1 (x.to.length-1)))=tw A (Zf X Y (0::List.range' 1 (x.to.length-1))):=rfl
 rw[e]
 refine Go.Proofs.YtmlhgalboabjcaaGreat.joins h.ne _ A h.both (TL.2 ⟨by rw[bE];omega,Ow ..⟩) (fun k hk=>?_) _ _ ?_ hq
 ·have hk':k<x.to.length:=by
   rcases qY.1 hk with rfl|hk
   ·omega
   ·rw[bE]at hk;omega
  exact⟨h.full X x k h.hx (by omega) (by omega),h.full Y y k h.hy (by omega) (by omega)⟩
 ·rintro⟨k,_,e|e⟩
  ·injection e with e _;exact hX e
  ·injection e with e _;exact hY e
theorem mS{f:NP→Option NP}{l:List Nat}{q q':NP}(h:RJn f X Y l q q')(h1:q.1≠X)(h2:q.1≠Y):q'=q:=by
 cases h with
 |id=>rfl
 |x=>exact absurd rfl h1
 |y=>exact absurd rfl h2
theorem bd{f:NP→Option NP}{l:List Nat}{s:Int}{q':NP}(h:RJn f X Y l (X,s) q')(hXY:X≠Y){k:Nat}(hs:s=k)(hk:k∈l):∃q,f (Y,s)=some q∧RJn f X Y l q q':=by
 obtain⟨p,hp⟩:∃p:NP,p=(X,s):=⟨_,rfl⟩
 rw[←hp]at h
 cases h with
 |id h=>exact absurd ⟨k,hk,.inl (by rw[hp,hs])⟩ h
 |x hk h g=>injection hp with _ e;rw[←e];exact⟨_,h,g⟩
 |y hk h g=>injection hp with e _;exact absurd e.symm hXY
theorem PS{f:NP→Option NP}{l:List Nat}{s:Int}{q':NP}(h:RJn f X Y l (Y,s) q')(hXY:X≠Y){k:Nat}(hs:s=k)(hk:k∈l):∃q,f (X,s)=some q∧RJn f X Y l q q':=by
 obtain⟨p,hp⟩:∃p:NP,p=(Y,s):=⟨_,rfl⟩
 rw[←hp]at h
 cases h with
 |id h=>exact absurd ⟨k,hk,.inr (by rw[hp,hs])⟩ h
 |x hk h g=>injection hp with e _;exact absurd e hXY
 |y hk h g=>injection hp with _ e;rw[←e];exact⟨_,h,g⟩
def gD(X Y:Nm)(S R:Sc):Prop:=∀Z c,S Z c→Z≠X→Z≠Y→R Z c
theorem gD.add{S R:Sc}{Z:Nm}{c:Cx}(h:gD X Y S R):gD X Y (S.add Z c) (R.add Z c):=fun W d hW h1 h2=>hW.imp (fun k=>h W d k h1 h2) id
theorem gD.addX{S R:Sc}{c:Cx}(h:gD X Y S R):gD X Y (S.add X c) R:=fun W d hW h1 h2=>hW.elim (fun k=>h W d k h1 h2) (fun k=>absurd k.1 h1)
theorem gD.addY{S R:Sc}{c:Cx}(h:gD X Y S R):gD X Y (S.add Y c) R:=fun W d hW h1 h2=>hW.elim (fun k=>h W d k h1 h2) (fun k=>absurd k.1 h2)
theorem gD.more{S R:Sc}{Z:Nm}{c:Cx}(h:gD X Y S R):gD X Y S (R.add Z c):=fun W d hW h1 h2=>.inl (h W d hW h1 h2)
theorem Ctl.no{k lv s:Int}{c d:Cx}(h:Ctl k lv s c d)(hk:Ty k):False:=by
 have:=h.cls;unfold Ty at hk;omega
theorem Ctl.ports{z:Nd}{s:Int}{c d:Cx}(h:Ctl z.k z.lv s c d)(hp:((z.to.length:Nat):Int)=z.ports):(s=((1:Nat):Int)∧1<z.to.length)∨(s=((2:Nat):Int)∧2<z.to.length):=by
 have hc:=h.cls
 obtain⟨k,lv,n,sn,al,to⟩:=z
 obtain⟨_,_,p4,p5,p6,_⟩:= @BW k lv n sn al to
 simp only at hc hp⊢
 rcases hc with⟨h1,h2|h2⟩|⟨h1|h1,h2⟩
 ·rw[p4 h1]at hp;left;omega
 ·rw[p4 h1]at hp;right;omega
 ·rw[p5 h1]at hp;left;omega
 ·rw[p6 h1]at hp;left;omega
theorem fP(h:Sit A X Y x y tag)(hk:x.k=y.k)(hl:x.lv=y.lv)(hc:x.k=4∨x.k=5∨x.k=6){U V:Nm}(hU:U=X∨U=Y)(hV:V=X∨V=Y){Z:Nm}(hX:Z≠X)(hY:Z≠Y)(hR:OkR A Z):
  OkR (whole A X Y U V (Zf X Y (List.range' 1 (x.to.length-1)))) Z:=by
 have he:x.to.length=y.to.length:=by
  have h1:=h.px
  have h2:=h.py
  have:x.ports=y.ports:=by
   obtain⟨k,lv,n,sn,al,to⟩:=x
   obtain⟨k',lv',n',sn',al',to'⟩:=y
   obtain⟨_,_,p4,p5,p6,_⟩:= @BW k lv n sn al to
   obtain⟨_,_,q4,q5,q6,_⟩:= @BW k' lv' n' sn' al' to'
   simp only at hk hc
   rcases hc with h|h|h
   ·rw[p4 h,q4 (by omega)]
   ·rw[p5 h,q5 (by omega)]
   ·rw[p6 h,q6 (by omega)]
  omega
 obtain⟨r0,hr0⟩:∃r,A.lk (X,0)=some r:=⟨_,h.lk⟩
 have hl1:1≤x.to.length:=by
  obtain⟨z,hz,_,h2⟩:=h.dom _ _ h.lk
  have hz:A.nd X=some z:=hz
  rw[h.hx]at hz
  rw[BQ hz];have h2:(0:Int)<z.to.length:=h2;omega
 have hne:=h.ne
 have mem:∀{k:Nat},k<x.to.length→k∈0::List.range' 1 (x.to.length-1):=fun {k} hk=>by
  rw[qY,bE];omega
 have nok:∀W w,(W=X∧w=x∨W=Y∧w=y)→w.k=4∨w.k=5∨w.k=6:=fun W w hW=>by
  rcases hW with⟨_,rfl⟩|⟨_,rfl⟩
  ·exact hc
  ·rw[←hk];exact hc
 refine o9 (X:=X) (Y:=Y) (x:=x) (y:=y) (T:=RJn A.lk X Y (0::List.range' 1 (x.to.length-1))) (Env:=gD X Y) ⟨h.both,h.lk,h.hx,h.hy,fun Z z hX hY hz=>h.old hU hV (ZN (Z:=Z)) hX hY hz,fun Z s q hX hY hq _=>h.joins he hl1 U V hX hY hq,fun q q' hT=>mS hT,fun S R Z c hE _ _=>hE.add,fun S R Z c hE hS h1 h2=>hE Z c hS h1 h2,?_,?_,?_⟩ (fun Z c hZ=>hZ.elim) hX hY hR
 ·intro W w hW hkd
  have:=nok W w hW
  unfold Ty at hkd;omega
 ·intro W w hW h2
  have:=nok W w hW
  omega
 ·rintro W w hW S s c d r hC hlk hM R hE q' hT
  rcases hW with⟨rfl,rfl⟩|⟨rfl,rfl⟩
  ·rw[h.lk]at hlk
   have hsp:=hM.sy (BQ hlk).symm
   cases hsp with
   |node hkd=>exfalso;unfold Ty at hkd;omega
   |bw t a r' hC' hl' _ hM'=>
    rw[←hk,←hl]at hC'
    obtain⟨_,rfl,rfl⟩:=hC.inj hC'
    have hs:=hC.ports h.px
    obtain⟨k,hsk,hkl⟩:∃k:Nat,s=k∧k<w.to.length:=by
     rcases hs with⟨e,h⟩|⟨e,h⟩
     ·exact⟨1,e,h⟩
     ·exact⟨2,e,h⟩
    obtain⟨q,g1,g2⟩:=bd hT hne hsk (mem hkl)
    rw[hl']at g1
    rw[←BQ g1]at g2
    exact hM' R hE q' g2
  ·rw[h.kl]at hlk
   have hsp:=hM.sx (BQ hlk).symm
   cases hsp with
   |node hkd=>exfalso;unfold Ty at hkd;omega
   |bw t a r' hC' hl' _ hM'=>
    rw[hk,hl]at hC'
    obtain⟨_,rfl,rfl⟩:=hC.inj hC'
    have hs:=hC.ports h.py
    obtain⟨k,hsk,hkl⟩:∃k:Nat,s=k∧k<w.to.length:=by
     rcases hs with⟨e,h⟩|⟨e,h⟩
     ·exact⟨1,e,h⟩
     ·exact⟨2,e,h⟩
    obtain⟨q,g1,g2⟩:=PS hT hne hsk (mem (by omega))
    rw[hl']at g1
    rw[←BQ g1]at g2
    exact hM' R hE q' g2
theorem mV(h:Sit A X Y x y tag)(hx3:x.k=3)(hy2:y.k=2){U V:Nm}(hU:U=X∨U=Y)(hV:V=X∨V=Y){Z:Nm}(hX:Z≠X)(hY:Z≠Y)(hR:OkR A Z):
  OkR (whole A X Y U V (Zf X Y (List.range' 1 (x.to.length-1)))) Z:=by
 have lx:x.to.length=3:=by
  have h1:=h.px
  obtain⟨k,lv,n,sn,al,to⟩:=x
  obtain⟨_,p3,_⟩:= @BW k lv n sn al to
  rw[p3 hx3]at h1;simp only at h1⊢;omega
 have ly:y.to.length=3:=by
  have h1:=h.py
  obtain⟨k,lv,n,sn,al,to⟩:=y
  obtain⟨p2,_⟩:= @BW k lv n sn al to
  rw[p2 hy2]at h1;simp only at h1⊢;omega
 have hne:=h.ne
 obtain⟨B,hB⟩:∃B,whole A X Y U V (Zf X Y (List.range' 1 (x.to.length-1)))=B:=⟨_,rfl⟩
 have hold:∀Z z,Z≠X→Z≠Y→A.nd Z=some z→B.nd Z=some z:=fun Z z hX hY hz=>by rw[←hB];exact h.old hU hV (ZN (Z:=Z)) hX hY hz
 have hwire:∀Z s q,Z≠X→Z≠Y→A.lk (Z,s)=some q→∃q',B.lk (Z,s)=some q'∧RJn A.lk X Y [0,1,2] q q':=fun Z s q hX hY hq=>by
  have:=h.joins (by omega) (by omega) U V hX hY hq
  rw[hB,lx]at this
  exact this
 rw[hB]
 obtain⟨T,hT0⟩:∃T,T=RJn A.lk X Y [0,1,2]:=⟨_,rfl⟩
 have tx:∀{s:Int} {q':NP},T (X,s) q'→s=1∨s=2→∃q,A.lk (Y,s)=some q∧T q q':=fun {s q'} hT hs=>by
  subst hT0
  rcases hs with rfl|rfl
  ·exact bd hT hne (k:=1) rfl (by simp)
  ·exact bd hT hne (k:=2) rfl (by simp)
 have ty:∀{s:Int} {q':NP},T (Y,s) q'→s=1∨s=2→∃q,A.lk (X,s)=some q∧T q q':=fun {s q'} hT hs=>by
  subst hT0
  rcases hs with rfl|rfl
  ·exact PS hT hne (k:=1) rfl (by simp)
  ·exact PS hT hne (k:=2) rfl (by simp)
 obtain⟨Env,hEnv⟩:∃Env:Sc→Sc→Prop,∀S R,Env S R↔gD X Y S R∧∀c,S Y c→∀d,d.length=1→∀r q',A.lk (X,2)=some r→T r q'→Ok B R q' (c++d):=⟨fun S R=>gD X Y S R∧∀c,S Y c→∀d,d.length=1→∀r q',A.lk (X,2)=some r→T r q'→Ok B R q' (c++d),fun _ _=>Iff.rfl⟩
 refine o9 (X:=X) (Y:=Y) (x:=x) (y:=y) (T:=T) (Env:=Env) ⟨h.both,h.lk,h.hx,h.hy,hold,fun Z s q hX hY hq _=>by rw[hT0];exact hwire Z s q hX hY hq,fun q q' hT=>by rw[hT0]at hT;exact mS hT,?_,?_,?_,?_,?_⟩ ?_ hX hY hR
 ·intro S R Z c hE h1 h2
  rw[hEnv]at hE⊢
  refine⟨hE.1.add,fun a hS d hd r q' hr hT=>(hE.2 a (hS.resolve_right fun k=>h2 k.1.symm) d hd r q' hr hT).weak fun _ _=>.inl⟩
 ·intro S R Z c hE hS h1 h2
  rw[hEnv]at hE
  exact hE.1 Z c hS h1 h2
 ·rintro W w hW hkd hent S c hc hsub R hE q' hT
  rcases hW with⟨rfl,rfl⟩|⟨rfl,rfl⟩
  ·rw[hEnv]at hE
   obtain⟨r,g1,g2⟩:=hsub 0 ⟨by omega,by omega,by rw[hent];omega,by omega⟩
   rw[h.lk]at g1
   have g1:=BQ g1
   subst g1
   have g3:=g2 [] (by unfold H7;rw[if_neg (by omega)])
   have hsp:=g3.sy rfl
   cases hsp with
   |bw t a r hC=>exact(hC.no (by unfold Ty;omega)).elim
   |node _ he hc' hs1=>
    obtain⟨r1,k1,k2⟩:=hs1 1 ⟨by omega,by omega,by rw[he];omega,by omega⟩
    have k3:=(k2 [] (by unfold H7;rw[if_neg (by omega)])).2
    obtain⟨r2,a1,a2⟩:=hsub 2 ⟨by omega,by omega,by rw[hent];omega,by omega⟩
    obtain⟨q,t1,t2⟩:=tx hT (.inl rfl)
    rw[k1]at t1
    rw[←BQ t1]at t2
    have:=k3 R ((hEnv _ _).2 ⟨?_,?_⟩) q' t2
    ·simpa using this
    ·exact hE.1.addX.addY
    ·intro a hS d hd r q'' hr hT'
     rcases hS with(hS|hS)|hS
     ·exact hE.2 a hS d hd r q'' hr hT'
     ·exact absurd hS.1.symm hne
     ·rw[hr]at a1
      rw[←BQ a1]at a2
      have m:=a2 d (by unfold H7;rw[if_pos (by omega)];exact hd)
      obtain⟨f1,f2⟩:=h.far hr (fun e=>by injection e with _ e;omega) (fun e=>by injection e with e _;exact hne e)
      have:=m.mo f1 f2 R ((hEnv _ _).2 ⟨hE.1.addX,fun a hS=>hE.2 a (hS.resolve_right fun k=>hne k.1.symm)⟩) q'' hT'
      rw[hS.2]
      simpa using this
  ·exfalso
   rw[hy2]at hent
   simp[ent]at hent
 ·rintro W w hW h2 S c d hS hd R hE q' hT
  rcases hW with⟨rfl,rfl⟩|⟨rfl,rfl⟩
  ·omega
  ·rw[hEnv]at hE
   obtain⟨q,t1,t2⟩:=ty hT (.inr rfl)
   exact hE.2 c hS d hd q q' t1 t2
 ·rintro W w hW S s c d r hC
  refine(hC.no ?_).elim
  unfold Ty
  rcases hW with⟨_,rfl⟩|⟨_,rfl⟩<;>omega
 ·rw[hEnv]
  exact⟨fun _ _ h=>h.elim,fun _ h=>h.elim⟩
end
section
variable{A:Ab}{X Y:Nm}{x y:Nd}{tag:Nat}
structure FineO(X Y:Nm)(tag:Nat)(o:AO):Prop where
 ok:o.ok
 still:o.still
 tg:∀t∈o.tg,t.1.1=tag
 src:∀p q,o= .mv p q→p.1=X∨p.1=Y
 mks:∀m z,o= .mk m z→m.1=tag
 fr:∀m,o≠ .fr m
structure Fine(X Y:Nm)(tag:Nat)(L:List AO):Prop where
 o:∀o∈L,FineO X Y tag o
 pw:L.Pairwise Dj
theorem Fine.nil:Fine X Y tag []:=⟨by simp,.nil⟩
theorem Fine.app{L M:List AO}(h:Fine X Y tag L)(g:Fine X Y tag M)(hd:∀o∈L,∀u∈M,Dj o u):Fine X Y tag (L++M):=
 ⟨fun o ho=>(Sw.1 ho).elim (h.o o) (g.o o),List.pairwise_append.2 ⟨h.pw,g.pw,hd⟩⟩
theorem Fine.cons{o:AO}{M:List AO}(h:FineO X Y tag o)(g:Fine X Y tag M)(hd:∀u∈M,Dj o u):Fine X Y tag (o::M):=
 ⟨fun u hu=>(qY.1 hu).elim (fun e=>e▸h) (g.o u),List.pairwise_cons.2 ⟨hd,g.pw⟩⟩
theorem FineO.mk1{m:Nm}{z:Nd}(h:m.1=tag):FineO X Y tag (.mk m z):=⟨trivial,trivial,by simp[AO.tg],fun p q e=>(by cases e),fun m' z' e=>(by injection e with e _;rw[←e];exact h),fun m e=>(by cases e)⟩
theorem FineO.mv1{p q:NP}(hp:p.1=X∨p.1=Y)(hq:q.1.1=tag)(hX:X.1≠tag)(hY:Y.1≠tag):FineO X Y tag (.mv p q):=
 ⟨fun e=>by rw[←e]at hq;rcases hp with h|h<;>rw[h]at hq<;>contradiction,trivial,fun t ht=>by simp[AO.tg]at ht;rw[ht];exact hq,fun p' q' e=>(by injection e with e _;rw[←e];exact hp),fun m' z' e=>(by cases e),fun m e=>(by cases e)⟩
theorem FineO.ln1{p q:NP}(hp:p.1.1=tag)(hq:q.1.1=tag)(hne:p≠q):FineO X Y tag (.ln p q):=
 ⟨hne,trivial,fun t ht=>by simp[AO.tg]at ht;rcases ht with h|h<;>rw[h]<;>assumption,fun p' q' e=>(by cases e),fun m' z' e=>(by cases e),fun m e=>(by cases e)⟩
theorem O4{m:Nm}{z:Nd}(u:AO):Dj (.mk m z) u:=fun p hp=>by simp[AO.pts]at hp
theorem Yf{z:Nd}{l:List Nm}{o:AO}(h:o∈mkA z l):∃m∈l,o= .mk m (wL z.fresh):=by
 unfold mkA at h
 obtain⟨m,hm,rfl⟩:=Om.1 h
 exact⟨m,hm,rfl⟩
theorem U4{z:Nd}{l:List Nm}{o u:AO}(h:o∈mkA z l):Dj o u:=by
 obtain⟨m,_,rfl⟩:=Yf h
 exact O4 u
theorem Fine.mkA{z:Nd}{l:List Nm}(h:∀m∈l,m.1=tag):Fine X Y tag (mkA z l):=by
 refine⟨fun o ho=>?_,?_⟩
 ·obtain⟨m,hm,rfl⟩:=Yf ho
  exact .mk1 (h m hm)
 ·unfold Go.Proofs.YtmlhgalboabjcaaGreat.mkA
  rw[List.pairwise_map]
  exact List.pairwise_of_forall fun a b=>O4 _
theorem V8(p:NP)(l:List NP)(d:Nm)(ds:List Nm):dropA (p::l) (d::ds)= .mv p (d,0)::dropA l ds:=rfl
theorem Q6:∀{l:List NP} {ds:List Nm} {o:AO},o∈dropA l ds→∃p∈l,∃d∈ds,o= .mv p (d,0)
 |[],ds,o,h=>by simp[dropA]at h
 |_::_,[],o,h=>by simp[dropA]at h
 |p::l,d::ds,o,h=>by
  rw[V8,qY]at h
  rcases h with rfl|h
  ·exact⟨p,by simp,d,by simp,rfl⟩
  ·obtain⟨q,hq,e,he,k⟩:=Q6 h
   exact⟨q,by simp[hq],e,by simp[he],k⟩
theorem Mv:∀{l:List NP} {ds:List Nm} {i:Nat} {p:NP} {d:Nm},l[i]? =some p→ds[i]? =some d→AO.mv p (d,0)∈dropA l ds
 |[],ds,i,p,d,h,_=>by simp at h
 |_::_,[],i,p,d,_,h=>by simp at h
 |q::l,e::ds,0,p,d,h,g=>by
  simp only[aT,Lo]at h g
  subst h g
  rw[V8];simp
 |q::l,e::ds,i+1,p,d,h,g=>by
  rw[V8]
  exact tT _ (Mv (i:=i) (by simpa using h) (by simpa using g))
theorem Fine.dropA(hX:X.1≠tag)(hY:Y.1≠tag):∀{l:List NP} {ds:List Nm},l.Nodup→ds.Nodup→(∀p∈l,p.1=X∨p.1=Y)→(∀d∈ds,d.1=tag)→Fine X Y tag (dropA l ds)
 |[],ds,_,_,_,_=>by simp[Go.Proofs.YtmlhgalboabjcaaGreat.dropA];exact .nil
 |_::_,[],_,_,_,_=>by simp[Go.Proofs.YtmlhgalboabjcaaGreat.dropA];exact .nil
 |p::l,d::ds,hl,hd,h1,h2=>by
  rw[V8]
  obtain⟨l1,l2⟩:=TL.1 hl
  obtain⟨d1,d2⟩:=TL.1 hd
  refine .cons (.mv1 (h1 p (by simp)) (h2 d (by simp)) hX hY) (Fine.dropA hX hY l2 d2 (fun q hq=>h1 q (by simp[hq])) fun e he=>h2 e (by simp[he])) fun u hu=>?_
  obtain⟨q,hq,e,he,rfl⟩:=Q6 hu
  have np:∀(q:NP) (e:Nm),(q.1=X∨q.1=Y)→e.1=tag→q≠(e,0):=fun q e hq he k=>by
   have k:q.1=e:=by rw[k]
   rcases hq with h|h
   ·exact hX (by rw[←h,k,he])
   ·exact hY (by rw[←h,k,he])
  have i1:=np p e (h1 p (by simp)) (h2 e (by simp[he]))
  have i2:=np q d (h1 q (by simp[hq])) (h2 d (by simp))
  intro r hr
  simp only[AO.pts,qY,oZ,or_false]at hr⊢
  rcases hr with rfl|rfl
  ·rintro(k|k)
   ·exact l1 (k▸hq)
   ·exact i1 k
  ·rintro(k|k)
   ·exact i2 k.symm
   ·injection k with k _
    exact d1 (k▸he)
theorem Sit.nX(h:Sit A X Y x y tag):X.1≠tag:=fun e=>by have:=h.hx;rw[show X=(tag,X.2) by rw[←e],h.new]at this;cases this
theorem Sit.nY(h:Sit A X Y x y tag):Y.1≠tag:=fun e=>by have:=h.hy;rw[show Y=(tag,Y.2) by rw[←e],h.new]at this;cases this
theorem Sit.batchF(h:Sit A X Y x y tag){L:List AO}(U V:Nm)(hF:Fine X Y tag L):
  (∀r q r' q',A.lk r=some q→r≠(X,0)→r≠(Y,0)→Rho L r r'→Rho L q q'→(whole A X Y U V L).lk r'=some q')∧∀p q,AO.ln p q∈L→(whole A X Y U V L).lk p=some q∧(whole A X Y U V L).lk q=some p:=
 h.batch U V (fun o ho=>⟨(hF.o o ho).ok,(hF.o o ho).still⟩) hF.pw fun o ho=>(hF.o o ho).tg
theorem Fine.self{L:List AO}(hF:Fine X Y tag L){r:NP}(h1:r.1≠X)(h2:r.1≠Y):Rho L r r:=Tt (X:=X) (Y:=Y) (fun p q hpq=>(hF.o _ hpq).src p q rfl) h1 h2
theorem Sit.oldF(h:Sit A X Y x y tag){L:List AO}{U V:Nm}(hF:Fine X Y tag L)(hU:U=X∨U=Y)(hV:V=X∨V=Y){Z:Nm}{z:Nd}(hX:Z≠X)(hY:Z≠Y)(hz:A.nd Z=some z):(whole A X Y U V L).nd Z=some z:=
 h.old hU hV (fun o ho=>⟨(hF.o o ho).mks,(hF.o o ho).fr⟩) hX hY hz
theorem Sit.madeF(h:Sit A X Y x y tag){L:List AO}{U V:Nm}(hF:Fine X Y tag L)(hU:U=X∨U=Y)(hV:V=X∨V=Y){m:Nm}{z:Nd}(ht:m.1=tag)(hz:AO.mk m z∈L)(hu:∀z',AO.mk m z'∈L→z'=z):(whole A X Y U V L).nd m=some z:=
 h.made hU hV (fun o ho=>(hF.o o ho).fr) ht hz hu
theorem BI(u:Nm)(j k:Nat):(Mr u j k).Nodup:=by
 unfold Mr
 refine SB _ (R:=fun a b=>a≠b) (fun a b hab e=>?_) (Ow ..)
 injection e with _ e
 exact hab (by omega)
theorem Y0{u:Nm}{j k:Nat}{p:NP}(h:p∈Mr u j k):p.1=u:=by
 unfold Mr at h
 obtain⟨s,_,rfl⟩:=Om.1 h;rfl
theorem qi(t j k:Nat):(uX t j k).Nodup:=by
 unfold uX
 refine SB _ (R:=fun a b=>a≠b) (fun a b hab e=>?_) (Ow ..)
 injection e with _ e
 exact hab e
def Ft(X Y:Nm)(y:Nd)(S R:Sc):Prop:=gD X Y S R∧(y.k=2→∀c,¬S Y c)
theorem Ft.add{S R:Sc}{Z:Nm}{c:Cx}(h:Ft X Y y S R)(h2:Z≠Y):Ft X Y y (S.add Z c) (R.add Z c):=⟨h.1.add,fun hk a ha=>ha.elim (h.2 hk a) fun k=>h2 k.1.symm⟩
theorem Ft.addX{S R:Sc}{c:Cx}(h:Ft X Y y S R)(hne:X≠Y):Ft X Y y (S.add X c) R:=⟨h.1.addX,fun hk a ha=>ha.elim (h.2 hk a) fun k=>hne k.1.symm⟩
theorem Ft.more{S R:Sc}{Z:Nm}{c:Cx}(h:Ft X Y y S R):Ft X Y y S (R.add Z c):=⟨h.1.more,h.2⟩
theorem lI:Ft X Y y (fun _ _=>False) (fun _ _=>False):=⟨fun _ _ h=>h.elim,fun _ _ h=>h⟩
theorem lS(h:Sit A X Y x y tag)(hx7:x.k=7){L:List AO}(hF:Fine X Y tag L){U V:Nm}(hU:U=X∨U=Y)(hV:V=X∨V=Y){Z:Nm}(hX:Z≠X)(hY:Z≠Y)(hR:OkR A Z):OkR (whole A X Y U V L) Z:=by
 have hne:=h.ne
 have hno:∀{S s c},¬Ok A S (X,s) c:=fun {S s c} hok=>by
  cases hok.inv' h.hx with
  |node hk=>unfold Ty at hk;omega
  |var hk=>omega
  |fw d r hc=>have:=hc.cls;omega
  |bw t a r hs hc=>have:=hc.cls;omega
 have live:∀{S R q c},Ft X Y y S R→Ok A S q c→q≠(Y,0)→q.1≠X∧q.1≠Y:=by
  intro S R q c hE hok hq
  obtain⟨W,s⟩:=q
  refine⟨fun e=>?_,fun e=>?_⟩
  ·have e:W=X:=e
   subst e;exact hno hok
  ·have e:W=Y:=e
   subst e
   cases hok.inv' h.hy with
   |node hk hs hc hsub=>
    rcases DN y.k with e0|e0
    ·exact hq (by rw[hs,e0])
    ·have hl0:1≤y.to.length:=by
      obtain⟨z,hz,_,h2⟩:=h.dom _ _ h.kl
      have hz:A.nd W=some z:=hz
      rw[h.hy]at hz
      rw[BQ hz];have h2:(0:Int)<z.to.length:=h2;omega
     obtain⟨r,g1,g2⟩:=hsub 0 ⟨by omega,by omega,by omega,by omega⟩
     obtain⟨e,he⟩:=gY y.k 0
     have:=g2 e he
     rw[h.kl]at g1
     rw[←BQ g1]at this
     exact hno this
   |var hk hs a d hc hS hd=>exact hE.2 hk a hS
   |fw d r hc hl hok'=>rw[h.kl]at hl;rw[←BQ hl]at hok';exact hno hok'
   |bw t a r hs=>exact hq (by rw[hs])
 obtain⟨b1,b2⟩:=h.batchF U V hF
 refine o9 (X:=X) (Y:=Y) (x:=x) (y:=y) (T:=fun q q'=>q.1≠X∧q.1≠Y∧q'=q) (Env:=Ft X Y y) ⟨h.both,h.lk,h.hx,h.hy,fun Z z hX hY hz=>h.oldF hF hU hV hX hY hz,?_,fun q q' hT _ _=>hT.2.2,fun S R Z c hE _ h2=>hE.add h2,fun S R Z c hE hS h1 h2=>hE.1 Z c hS h1 h2,?_,?_,?_⟩ lI hX hY hR
 ·rintro Z s q hX hY hq ⟨S,R,c,hE,hok⟩
  obtain⟨n1,n2⟩:=h.far hq (fun e=>hX (by injection e)) (fun e=>hY (by injection e))
  obtain⟨l1,l2⟩:=live hE hok n2
  exact⟨q,b1 _ _ _ _ hq (fun e=>hX (by injection e)) (fun e=>hY (by injection e)) (hF.self hX hY) (hF.self l1 l2),l1,l2,rfl⟩
 ·rintro W w hW _ _ S c _ _ R _ q' hT
  rcases hW with⟨rfl,_⟩|⟨rfl,_⟩
  ·exact absurd rfl hT.1
  ·exact absurd rfl hT.2.1
 ·rintro W w hW _ S c d _ _ R _ q' hT
  rcases hW with⟨rfl,_⟩|⟨rfl,_⟩
  ·exact absurd rfl hT.1
  ·exact absurd rfl hT.2.1
 ·rintro W w hW S s c d r _ _ _ R _ q' hT
  rcases hW with⟨rfl,_⟩|⟨rfl,_⟩
  ·exact absurd rfl hT.1
  ·exact absurd rfl hT.2.1
def T1(X Y:Nm)(m:NP)(q q':NP):Prop:=(q.1≠X∧q.1≠Y∧q'=q)∨(q=(X,1)∧q'=m)
def B0(k:Int):Prop:=k=2∨k=8∨k=10∨k=13
theorem nN{k:Int}(h:B0 k):Ty k∧ent k=0:=by
 unfold B0 at h;unfold Ty ent
 refine⟨by omega,by rw[if_neg (by omega)]⟩
theorem yN(h:Sit A X Y x y tag)(hkx:Ty x.k)(hex:ent x.k=1)(hy:B0 y.k){S R:Sc}{q:NP}{c:Cx}(hE:Ft X Y y S R)(hok:Ok A S q c)(hq:q≠(Y,0)):(q.1≠X∧q.1≠Y)∨q=(X,1):=by
 obtain⟨W,s⟩:=q
 by_cases e:W=X
 ·subst e
  right
  cases hok.inv' h.hx with
  |node hk hs=>rw[hs,hex]
  |var hk=>rw[hk]at hex;simp[ent]at hex
  |fw d r hc=>exact(hc.no hkx).elim
  |bw t a r hs hc=>exact(hc.no hkx).elim
 by_cases e2:W=Y
 ·subst e2
  exfalso
  obtain⟨t1,t2⟩:=nN hy
  cases hok.inv' h.hy with
  |node hk hs=>exact hq (by rw[hs,t2])
  |var hk hs a d hc hS=>exact hE.2 hk a hS
  |fw d r hc=>exact hc.no t1
  |bw t a r hs hc=>exact hc.no t1
 ·exact .inl ⟨e,e2⟩
theorem iD(h:Sit A X Y x y tag)(hkx:Ty x.k)(hex:ent x.k=1)(hy:B0 y.k){L:List AO}(hF:Fine X Y tag L){U V:Nm}(hU:U=X∨U=Y)(hV:V=X∨V=Y){m:NP}(hm:AO.mv (X,1) m∈L)
  (hn:∀S R c,Ft X Y y S R→((c.length:Nat):Int)=x.lv→(∀t,tW x t→∃r,A.lk (X,t)=some r∧∀e,H7 x.k t e→MM A (whole A X Y U V L) X Y x y (T1 X Y m) (Ft X Y y) (S.add X c) r (c++e))→Ok (whole A X Y U V L) R m c)
  {Z:Nm} (hX:Z≠X) (hY:Z≠Y) (hR:OkR A Z):OkR (whole A X Y U V L) Z:=by
 obtain⟨b1,b2⟩:=h.batchF U V hF
 refine o9 (X:=X) (Y:=Y) (x:=x) (y:=y) (T:=T1 X Y m) (Env:=Ft X Y y) ⟨h.both,h.lk,h.hx,h.hy,fun Z z hX hY hz=>h.oldF hF hU hV hX hY hz,?_,?_,fun S R Z c hE _ h2=>hE.add h2,fun S R Z c hE hS h1 h2=>hE.1 Z c hS h1 h2,?_,?_,?_⟩ lI hX hY hR
 ·rintro Z s q hX hY hq ⟨S,R,c,hE,hok⟩
  have z1:((Z,s):NP)≠(X,0):=fun e=>hX (by injection e)
  have z2:((Z,s):NP)≠(Y,0):=fun e=>hY (by injection e)
  obtain⟨n1,n2⟩:=h.far hq z1 z2
  rcases yN h hkx hex hy hE hok n2 with⟨l1,l2⟩|rfl
  ·exact⟨q,b1 _ _ _ _ hq z1 z2 (hF.self hX hY) (hF.self l1 l2),.inl ⟨l1,l2,rfl⟩⟩
  ·exact⟨m,b1 _ _ _ _ hq z1 z2 (hF.self hX hY) (.inl hm),.inr ⟨rfl,rfl⟩⟩
 ·rintro q q' (⟨_,_,e⟩|⟨rfl,_⟩) h1 h2
  ·exact e
  ·exact absurd rfl h1
 ·rintro W w hW hkd hent S c hc hsub R hE q' hT
  rcases hW with⟨rfl,rfl⟩|⟨rfl,rfl⟩
  ·rcases hT with⟨k,_⟩|⟨_,rfl⟩
   ·exact absurd rfl k
   ·exact hn S R c hE hc hsub
  ·rw[(nN hy).2]at hent;omega
 ·rintro W w hW h2 S c d hS hd R hE q' hT
  rcases hW with⟨rfl,rfl⟩|⟨rfl,rfl⟩
  ·rw[h2]at hex;simp[ent]at hex
  ·exact absurd hS (hE.2 h2 c)
 ·rintro W w hW S s c d r hC
  refine(hC.no ?_).elim
  rcases hW with⟨_,rfl⟩|⟨_,rfl⟩
  ·exact hkx
  ·exact(nN hy).1
theorem Cv{B:Ab}{R:Sc}{m:Nm}{z:Nd}{c:Cx}(hz:B.nd m=some z)(hk:B0 z.k)(hl:((c.length:Nat):Int)=z.lv)(hp:z.to.length=1):Ok B R (m,0) c:=by
 obtain⟨t1,t2⟩:=nN hk
 have:Ok B R (m,ent z.k) c:=.node (fun _=>((0,0),0)) hz t1 hl (fun s hs=>by exfalso;have:=hs.1;have:=hs.2.1;have:=hs.2.2.1;omega) (fun s hs=>by exfalso;have:=hs.1;have:=hs.2.1;have:=hs.2.2.1;omega)
 rwa [t2]at this
theorem iK{k:Int}(h:cls k=1):Ty k∧ent k=1:=by
 have:=(Y8 k).1 h
 unfold Ty ent
 refine⟨by omega,by rw[if_pos (by omega)]⟩
def Vx(x y:Nd)(X Y:Nm)(tag:Nat):List AO:=.mk (tag,0) (wL (B6 x.lv).fresh)::(mkA (PN x.lv) (uX tag 1 (Mr X 2 x.to.length++Mr Y 1 y.to.length).length)++(.mv (X,1) ((tag,0),0)::dropA (Mr X 2 x.to.length++Mr Y 1 y.to.length) (uX tag 1 (Mr X 2 x.to.length++Mr Y 1 y.to.length).length)))
theorem MU(h:Sit A X Y x y tag)(hx:cls x.k=1)(hy:cls y.k=2){U V:Nm}(hU:U=X∨U=Y)(hV:V=X∨V=Y){Z:Nm}(hX:Z≠X)(hY:Z≠Y)(hR:OkR A Z):OkR (whole A X Y U V (Vx x y X Y tag)) Z:=by
 have hne:=h.ne
 have nX:=h.nX
 have nY:=h.nY
 obtain⟨P,hP⟩:∃P,Mr X 2 x.to.length++Mr Y 1 y.to.length=P:=⟨_,rfl⟩
 have hPd:P.Nodup:=by
  rw[←hP,kE]
  refine⟨BI ..,BI ..,fun p hp q hq e=>?_⟩
  have:=Y0 hp
  have:=Y0 hq
  exact hne (by rw[←Y0 hp,e,Y0 hq])
 have hP2:∀p∈P,(p.1=X∧2≤p.2)∨p.1=Y:=fun p hp=>by
  rw[←hP]at hp
  rcases Sw.1 hp with hp|hp
  ·left
   unfold Mr at hp
   obtain⟨s,hs,rfl⟩:=Om.1 hp
   rw[bE]at hs
   exact⟨rfl,by show(2:Int)≤(s:Int);omega⟩
  ·exact .inr (Y0 hp)
 have e:Vx x y X Y tag= .mk (tag,0) (wL (B6 x.lv).fresh)::(mkA (PN x.lv) (uX tag 1 P.length)++(.mv (X,1) ((tag,0),0)::dropA P (uX tag 1 P.length))):=by unfold Vx;rw[hP]
 have tn:∀j k,∀d∈uX tag j k,d.1=tag:=fun j k d hd=>(gw.1 hd).1
 have hF:Fine X Y tag (Vx x y X Y tag):=by
  rw[e]
  refine .cons (.mk1 rfl) (.app (.mkA (tn _ _)) (.cons (.mv1 (.inl rfl) rfl nX nY) (.dropA nX nY hPd (qi ..) (fun p hp=>(hP2 p hp).imp (·.1) id) (tn _ _)) fun u hu=>?_) fun o ho u _=>U4 ho) fun u _=>O4 u
  obtain⟨p,hp,d,hd,rfl⟩:=Q6 hu
  have hd':=gw.1 hd
  intro r hr
  simp only[AO.pts,qY,oZ,or_false]at hr⊢
  rcases hr with rfl|rfl
  ·rintro(k|k)
   ·subst k
    rcases hP2 _ hp with k|k
    ·exact absurd k.2 (by show¬(2:Int)≤1;omega)
    ·exact hne k
   ·injection k with k _;exact nX (by rw[k];exact hd'.1)
  ·rintro(k|k)
   ·subst k
    rcases hP2 _ hp with k|k
    ·exact nX (by rw[←k.1])
    ·exact nY (by rw[←k])
   ·injection k with k _
    rw[←k]at hd'
    simp at hd'
 refine iD h (iK hx).1 (iK hx).2 ((uR _).1 hy) hF hU hV (m:=((tag,0),0)) (by rw[e];simp) (fun S R c hE hc _=>?_) hX hY hR
 refine Cv (h.madeF hF hU hV (m:=(tag,0)) rfl (by rw[e];simp) fun z' hz'=>?_) (z:=wL (B6 x.lv).fresh) (.inr (.inr (.inr rfl))) hc rfl
 rw[e]at hz'
 rcases qY.1 hz' with k|hz'
 ·injection k
 rcases Sw.1 hz' with hz'|hz'
 ·obtain⟨m,hm,k⟩:=Yf hz'
  injection k with k _
  rw[←k]at hm
  have:=(gw.1 hm).2.1
  simp at this
 ·rcases qY.1 hz' with k|hz'
  ·cases k
  ·obtain⟨p,_,d,_,k⟩:=Q6 hz'
   cases k
theorem Ed(h:Sit A X Y x y tag)(hx:x.k=12)(hy:y.k=10){z:Nd}(hz:B0 z.k)(hl:z.lv=x.lv)(hp:z.ports=1){U V:Nm}(hU:U=X∨U=Y)(hV:V=X∨V=Y){Z:Nm}(hX:Z≠X)(hY:Z≠Y)(hR:OkR A Z):
  OkR (whole A X Y U V [.mk (tag,0) (wL z.fresh),.mv (X,1) ((tag,0),0)]) Z:=by
 have hF:Fine X Y tag [.mk (tag,0) (wL z.fresh),.mv (X,1) ((tag,0),0)]:=.cons (.mk1 rfl) (.cons (.mv1 (.inl rfl) rfl h.nX h.nY) .nil (by simp)) fun u _=>O4 u
 refine iD h (by rw[hx];unfold Ty;omega) (by rw[hx];rfl) (.inr (.inr (.inl hy))) hF hU hV (m:=((tag,0),0)) (by simp) (fun S R c hE hc _=>?_) hX hY hR
 refine Cv (h.madeF hF hU hV (m:=(tag,0)) rfl (by simp) fun z' hz'=>?_) (z:=wL z.fresh) hz (by rw[hc];exact hl.symm) ?_
 ·simp only[qY,AO.mk.injEq,true_and,oZ,or_false]at hz'
  exact hz'.resolve_right fun k=>by cases k
 ·show(List.replicate (List.replicate z.ports.toNat zP).length zP).length=1
  rw[hp];rfl
theorem Ba(h:Sit A X Y x y tag)(hx:x.k=11)(hy:y.k=10){U V:Nm}(hU:U=X∨U=Y)(hV:V=X∨V=Y){Z:Nm}(hX:Z≠X)(hY:Z≠Y)(hR:OkR A Z):
  OkR (whole A X Y U V [.mk (tag,0) (wL (nz x y).fresh),.mv (X,2) ((tag,0),0),.mv (X,1) ((tag,0),1)]) Z:=by
 have nX:=h.nX
 have nY:=h.nY
 have hne:=h.ne
 have lx:x.to.length=3:=by
  have h1:=h.px
  obtain⟨k,lv,n,sn,al,to⟩:=x
  obtain⟨_,_,_,_,_,p,_⟩:= @BW k lv n sn al to
  rw[p hx]at h1;simp only at h1⊢;omega
 have hF:Fine X Y tag [.mk (tag,0) (wL (nz x y).fresh),.mv (X,2) ((tag,0),0),.mv (X,1) ((tag,0),1)]:=by
  refine .cons (.mk1 rfl) (.cons (.mv1 (.inl rfl) rfl nX nY) (.cons (.mv1 (.inl rfl) rfl nX nY) .nil (by simp)) fun u hu=>?_) fun u _=>O4 u
  simp only[qY,oZ,or_false]at hu
  subst hu
  intro r hr
  simp only[AO.pts,qY,oZ,or_false]at hr⊢
  rcases hr with rfl|rfl
  ·rintro(k|k)
   ·injection k with _ k;omega
   ·injection k with k _;exact nX (by rw[k])
  ·rintro(k|k)
   ·injection k with k _;exact nX (by rw[←k])
   ·injection k with _ k;omega
 have hex:ent x.k=1:=by rw[hx];rfl
 have hkx:Ty x.k:=by rw[hx];unfold Ty;omega
 have hy':B0 y.k:=.inr (.inr (.inl hy))
 refine iD h hkx hex hy' hF hU hV (m:=((tag,0),1)) (by simp) (fun S R c hE hc hsub=>?_) hX hY hR
 obtain⟨b1,b2⟩:=h.batchF U V hF
 have hnd:=h.madeF (z:=wL (nz x y).fresh) hF hU hV (m:=(tag,0)) rfl (by simp) fun z' hz'=>by
  simp only[qY,AO.mk.injEq,true_and,oZ,or_false]at hz'
  exact hz'.resolve_right fun k=>k.elim (fun k=>by cases k) (fun k=>by cases k)
 obtain⟨r,g1,g2⟩:=hsub 2 ⟨by omega,by omega,by omega,by omega⟩
 have g3:=g2 [] (by unfold H7;rw[if_neg (by omega)])
 have z1:((X,(2:Int)):NP)≠(X,0):=fun e=>by injection e with _ e;omega
 have z2:((X,(2:Int)):NP)≠(Y,0):=fun e=>hne (by injection e)
 obtain⟨n1,n2⟩:=h.far g1 z1 z2
 have hE1:=hE.addX (c:=c) hne
 obtain⟨r',t1,t2⟩:∃r',(whole A X Y U V [.mk (tag,0) (wL (nz x y).fresh),.mv (X,2) ((tag,0),0),.mv (X,1) ((tag,0),1)]).lk ((tag,0),0)=some r'∧T1 X Y ((tag,0),1) r r':=by
  rcases yN h hkx hex hy' hE1 g3.ok n2 with⟨l1,l2⟩|rfl
  ·exact⟨r,b1 _ _ _ _ g1 z1 z2 (.inl (by simp)) (hF.self l1 l2),.inl ⟨l1,l2,rfl⟩⟩
  ·exact⟨_,b1 _ _ _ _ g1 z1 z2 (.inl (by simp)) (.inl (by simp)),.inr ⟨rfl,rfl⟩⟩
 have hs:∀s,tW (wL (nz x y).fresh) s→s=0:=fun s hs=>by
  have h1:=hs.1
  have h2:s<2:=hs.2.1
  have h3:s≠1:=hs.2.2.1
  omega
 refine Ok.node (x:=wL (nz x y).fresh) (X:=(tag,0)) (fun _=>r') hnd (by show Ty 12;unfold Ty;omega) hc (fun s hs'=>by rw[hs s hs'];exact t1) fun s hs' e he=>?_
 have he':e=[]:=by
  have:H7 12 s e:=he
  unfold H7 at this
  rw[if_neg (by omega)]at this;exact this
 subst he'
 exact g3.mo n1 n2 _ hE1.more r' t2
end
section
variable{A:Ab}{X Y:Nm}{x y:Nd}{tag:Nat}
theorem qb(d e:Nm)(r:List Nm)(i:Nat):wV X Y i (d::e::r)= .mv (Y,(i:Int)+1) (d,2):: .ln (d,1) (e,0)::wV X Y (i+1) (e::r):=rfl
theorem LG(d:Nm)(i:Nat):wV X Y i [d]=[.mv (Y,(i:Int)+1) (d,2),.mv (X,1) (d,1)]:=rfl
theorem UM:∀(ds:List Nm) (i:Nat) (o:AO),o∈wV X Y i ds→∀p∈o.pts,(p.1=Y∧(i:Int)<p.2)∨p=(X,1)∨(p.1∈ds∧(p.2≠0∨p.1∈ds.tail))
 |[],i,o,h=>by simp[wV]at h
 |[d],i,o,h=>by
  rw[LG]at h
  simp only[qY,oZ,or_false]at h
  intro p hp
  rcases h with rfl|rfl
  ·simp only[AO.pts,qY,oZ,or_false]at hp
   rcases hp with rfl|rfl
   ·left;exact⟨rfl,by show(i:Int)<(i:Int)+1;omega⟩
   ·right;right;exact⟨by simp,.inl (by show(2:Int)≠0;omega)⟩
  ·simp only[AO.pts,qY,oZ,or_false]at hp
   rcases hp with rfl|rfl
   ·exact .inr (.inl rfl)
   ·right;right;exact⟨by simp,.inl (by show(1:Int)≠0;omega)⟩
 |d::e::r,i,o,h=>by
  rw[qb]at h
  simp only[qY]at h
  intro p hp
  rcases h with rfl|rfl|h
  ·simp only[AO.pts,qY,oZ,or_false]at hp
   rcases hp with rfl|rfl
   ·left;exact⟨rfl,by show(i:Int)<(i:Int)+1;omega⟩
   ·right;right;exact⟨by simp,.inl (by show(2:Int)≠0;omega)⟩
  ·simp only[AO.pts,qY,oZ,or_false]at hp
   rcases hp with rfl|rfl
   ·right;right;exact⟨by simp,.inl (by show(1:Int)≠0;omega)⟩
   ·right;right;exact⟨by simp,.inr (by simp)⟩
  ·rcases UM (e::r) (i+1) o h p hp with⟨k1,k2⟩|k|⟨k1,k2⟩
   ·exact .inl ⟨k1,by omega⟩
   ·exact .inr (.inl k)
   ·exact .inr (.inr ⟨tT _ k1,.inr (by simpa using k1)⟩)
theorem Fine.pick(hX:X.1≠tag)(hY:Y.1≠tag)(hne:X≠Y):∀(ds:List Nm) (i:Nat),ds.Nodup→(∀d∈ds,d.1=tag)→Fine X Y tag (wV X Y i ds)
 |[],i,_,_=>.nil
 |[d],i,_,ht=>by
  have td:=ht d (by simp)
  have dX:X≠d:=fun e=>hX (by rw[e];exact td)
  have dY:Y≠d:=fun e=>hY (by rw[e];exact td)
  rw[LG]
  refine .cons (.mv1 (.inr rfl) td hX hY) (.cons (.mv1 (.inl rfl) td hX hY) .nil (by simp)) fun u hu=>?_
  simp only[qY,oZ,or_false]at hu
  subst hu
  intro p hp
  simp only[AO.pts,qY,oZ,or_false]at hp⊢
  rcases hp with rfl|rfl
  ·rintro(k|k)
   ·injection k with k _;exact hne k.symm
   ·injection k with k _;exact dY k
  ·rintro(k|k)
   ·injection k with k _;exact dX k.symm
   ·injection k with _ k;omega
 |d::e::r,i,hn,ht=>by
  have td:=ht d (by simp)
  have te:=ht e (by simp)
  have dX:X≠d:=fun e=>hX (by rw[e];exact td)
  have dY:Y≠d:=fun e=>hY (by rw[e];exact td)
  have eX:X≠e:=fun k=>hX (by rw[k];exact te)
  have eY:Y≠e:=fun k=>hY (by rw[k];exact te)
  obtain⟨n1,n2⟩:=TL.1 hn
  have de:d≠e:=fun k=>n1 (by simp[k])
  rw[qb]
  have IH:=Fine.pick hX hY hne (e::r) (i+1) n2 fun d hd=>ht d (tT _ hd)
  have tn:∀d∈e::r,d.1=tag:=fun d hd=>ht d (tT _ hd)
  have b1:Dj (.mv (Y,(i:Int)+1) (d,2)) (.ln (d,1) (e,0)):=by
   intro p hp
   simp only[AO.pts,qY,oZ,or_false]at hp⊢
   rcases hp with rfl|rfl
   ·rintro(k|k)
    ·injection k with k _;exact dY k
    ·injection k with k _;exact eY k
   ·rintro(k|k)
    ·injection k with _ k;omega
    ·injection k with _ k;omega
  have b2:∀u∈wV X Y (i+1) (e::r),Dj (.mv (Y,(i:Int)+1) (d,2)) u:=fun u hu p hp hpu=>by
   have H:=UM _ _ u hu p hpu
   simp only[AO.pts,qY,oZ,or_false]at hp
   rcases hp with rfl|rfl
   ·rcases H with⟨_,k⟩|k|⟨k,_⟩
    ·have k:((i+1:Nat):Int)<(i:Int)+1:=k;omega
    ·injection k with k _;exact hne k.symm
    ·exact hY (tn _ k)
   ·rcases H with⟨k,_⟩|k|⟨k,_⟩
    ·exact dY k.symm
    ·injection k with k _;exact dX k.symm
    ·exact n1 k
  have b3:∀u∈wV X Y (i+1) (e::r),Dj (.ln (d,1) (e,0)) u:=fun u hu p hp hpu=>by
   have H:=UM _ _ u hu p hpu
   simp only[AO.pts,qY,oZ,or_false]at hp
   rcases hp with rfl|rfl
   ·rcases H with⟨k,_⟩|k|⟨k,_⟩
    ·exact dY k.symm
    ·injection k with k _;exact dX k.symm
    ·exact n1 k
   ·rcases H with⟨k,_⟩|k|⟨_,k|k⟩
    ·exact eY k.symm
    ·injection k with k _;exact eX k.symm
    ·exact k rfl
    ·exact(TL.1 n2).1 k
  refine .cons (.mv1 (.inr rfl) td hX hY) (.cons (.ln1 td te fun k=>by injection k with _ k;omega) IH b3) fun u hu=>?_
  rcases qY.1 hu with rfl|hu
  ·exact b1
  ·exact b2 u hu
theorem ar:∀(ds:List Nm) (i j:Nat) (d:Nm),ds[j]? =some d→AO.mv (Y,((i+j:Nat):Int)+1) (d,2)∈wV X Y i ds
 |[],i,j,d,h=>by simp at h
 |[d'],i,0,d,h=>by
  simp only[aT,Lo]at h
  subst h;rw[LG];simp
 |[d'],i,j+1,d,h=>by simp at h
 |d'::e::r,i,0,d,h=>by
  simp only[aT,Lo]at h
  subst h;rw[qb];simp
 |d'::e::r,i,j+1,d,h=>by
  rw[qb,show i+(j+1)=i+1+j by omega]
  exact tT _ (tT _ (ar (e::r) (i+1) j d (by simpa using h)))
theorem Im:∀(ds:List Nm) (i j:Nat) (d e:Nm),ds[j]? =some d→ds[j+1]? =some e→AO.ln (d,1) (e,0)∈wV X Y i ds
 |[],i,j,d,e,h,_=>by simp at h
 |[d'],i,j,d,e,_,h=>by simp at h
 |d'::e'::r,i,0,d,e,h,g=>by
  simp only[aT,Lo,Fy,cw]at h g
  subst h g;rw[qb];simp
 |d'::e'::r,i,j+1,d,e,h,g=>by
  rw[qb]
  exact tT _ (tT _ (Im (e'::r) (i+1) j d e (by simpa using h) (by simpa using g)))
theorem N4:∀(ds:List Nm) (i j:Nat) (d:Nm),ds[j]? =some d→j+1=ds.length→AO.mv (X,1) (d,1)∈wV X Y i ds
 |[],i,j,d,h,_=>by simp at h
 |[d'],i,j,d,h,g=>by
  have:j=0:=by simpa using g
  subst this
  simp only[aT,Lo]at h
  subst h;rw[LG];simp
 |d'::e'::r,i,0,d,h,g=>by simp at g
 |d'::e'::r,i,j+1,d,h,g=>by
  rw[qb]
  exact tT _ (tT _ (N4 (e'::r) (i+1) j d (by simpa using h) (by simpa using g)))
def eV(x:Nd)(X:Nm)(i:Nat):List NP:=(Mr X 2 x.to.length).filter fun r=> !decide (r=(X,(i:Int)+2))
theorem R0{i:Nat}{p:NP}(h:p∈eV x X i):p.1=X∧2≤p.2∧p≠(X,(i:Int)+2):=by
 unfold eV at h
 rw[Bo]at h
 obtain⟨h1,h2⟩:=h
 unfold Mr at h1
 obtain⟨s,hs,rfl⟩:=Om.1 h1
 rw[bE]at hs
 exact⟨rfl,by show(2:Int)≤(s:Int);omega,by simpa using h2⟩
theorem Rj(i:Nat):(eV x X i).Nodup:=(BI _ _ _).sublist oT
theorem ve(h:Sit A X Y x y tag)(hx:x.k=9)(hy:y.k=8){i:Nat}(hi:i+2<x.to.length){es:List Nm}(hes:es.Nodup)(het:∀e∈es,e.1=tag){M:List AO}(hM:∀o∈M,∃m z,o= .mk m z∧m.1=tag){U V:Nm}(hU:U=X∨U=Y)(hV:V=X∨V=Y){Z:Nm}(hX:Z≠X)(hY:Z≠Y)(hR:OkR A Z):
  OkR (whole A X Y U V (M++([.jn (X,(i:Int)+2) (X,1)]++dropA (eV x X i) es))) Z:=by
 have hne:=h.ne
 have nX:=h.nX
 have nY:=h.nY
 have hex:ent x.k=1:=by rw[hx];rfl
 have hkx:Ty x.k:=by rw[hx];unfold Ty;omega
 have hy':B0 y.k:=.inr (.inl hy)
 obtain⟨B,hB⟩:∃B,whole A X Y U V (M++([.jn (X,(i:Int)+2) (X,1)]++dropA (eV x X i) es))=B:=⟨_,rfl⟩
 obtain⟨A1,hA1⟩:∃A1,AO.run A (.jn (X,0) (Y,0))=A1:=⟨_,rfl⟩
 have hMl:∀(M:List AO),(∀o∈M,∃m z,o= .mk m z∧m.1=tag)→∀A:Ab,(tw A M).lk=A.lk:=by
  intro M
  induction M with
  |nil=>intro _ A;rfl
  |cons o M ih=>
   intro hM A
   obtain⟨m,z,rfl,_⟩:=hM o (by simp)
   exact ih (fun o ho=>hM o (by simp[ho])) (AO.run A (.mk m z))
 have hFd:=Fine.dropA (X:=X) (Y:=Y) (tag:=tag) nX nY (Rj i) hes (fun p hp=>.inl (R0 (x:=x) (X:=X) hp).1) het
 have hBl:B.lk=(tw (AO.run (tw A1 M) (.jn (X,(i:Int)+2) (X,1))) (dropA (eV x X i) es)).lk:=by
  rw[←hB,gm,hA1,xe,xe];rfl
 have hb1:Kv A1.lk:=by rw[←hA1];exact AO.both (o:=.jn (X,0) (Y,0)) (fun e=>hne (by injection e)) h.both
 have hjne:((X,(i:Int)+2):NP)≠(X,1):=fun e=>by injection e with _ e;omega
 obtain⟨A2,hA2⟩:∃A2,AO.run (tw A1 M) (.jn (X,(i:Int)+2) (X,1))=A2:=⟨_,rfl⟩
 have h2l:A2.lk=lkJ (X,(i:Int)+2) (X,1) A1.lk:=by
  rw[←hA2]
  show lkJ _ _ (tw A1 M).lk=_
  rw[hMl M hM]
 have hb2:Kv A2.lk:=by rw[h2l];exact qN hjne hb1
 have h1none:∀t:NP,t.1.1=tag→A1.lk t=none:=fun t ht=>by
  rw[←hA1,h.open]
  split
  ·rfl
  ·cases hq:A.lk t with
   |none=>rfl
   |some q=>
    obtain⟨z,hz,_⟩:=h.dom _ _ hq
    have e:t.1=(tag,t.1.2):=by rw[←ht]
    rw[e,h.new]at hz;cases hz
 have h2none:∀t:NP,t.1.1=tag→A2.lk t=none:=fun t ht=>by
  rw[h2l]
  unfold lkJ
  rw[h1none t ht]
  simp
 have hbt:=(batch (dropA (eV x X i) es) A2 hb2 (fun o ho=>⟨(hFd.o o ho).ok,(hFd.o o ho).still⟩) hFd.pw fun o ho t ht=>h2none t ((hFd.o o ho).tg t ht)).1
 rw[hA2]at hBl
 rw[←hBl]at hbt
 have hop:∀r q,A.lk r=some q→r≠(X,0)→r≠(Y,0)→A1.lk r=some q:=fun r q hq n1 n2=>by
  rw[←hA1,h.open,if_neg fun k=>k.elim n1 n2,hq]
 have hop':∀r q,A1.lk r=some q→A.lk r=some q:=fun r q hq=>by
  rw[←hA1,h.open]at hq
  split at hq
  ·cases hq
  ·exact hq
 obtain⟨ra,hra⟩:=h.full X x ((i:Int)+2) h.hx (by omega) (by omega)
 obtain⟨rb,hrb⟩:=h.full X x 1 h.hx (by omega) (by omega)
 have sa:∃r,A1.lk (X,(i:Int)+2)=some r:=⟨ra,hop _ _ hra (fun e=>by injection e with _ e;omega) (fun e=>hne (by injection e))⟩
 have sb:∃r,A1.lk (X,1)=some r:=⟨rb,hop _ _ hrb (fun e=>by injection e with _ e;omega) (fun e=>hne (by injection e))⟩
 rw[hB]
 refine o9 (X:=X) (Y:=Y) (x:=x) (y:=y) (T:=fun q q'=>(q.1≠X∧q.1≠Y∧q'=q)∨(q=(X,1)∧A.lk (X,(i:Int)+2)=some q'∧q'.1≠X∧q'.1≠Y)) (Env:=Ft X Y y) ⟨h.both,h.lk,h.hx,h.hy,fun Z z hX hY hz=>?_,?_,?_,fun S R Z c hE _ h2=>hE.add h2,fun S R Z c hE hS h1 h2=>hE.1 Z c hS h1 h2,?_,?_,?_⟩ lI hX hY hR
 ·rw[←hB]
  refine h.old hU hV (fun o ho=>?_) hX hY hz
  rcases Sw.1 ho with ho|ho
  ·obtain⟨m,z,rfl,ht⟩:=hM o ho
   exact⟨fun m' z' e=>(by injection e with e _;rw[←e];exact ht),fun m e=>(by cases e)⟩
  rcases Sw.1 ho with ho|ho
  ·rw[bK]at ho
   subst ho
   exact⟨fun m' z' e=>(by cases e),fun m e=>(by cases e)⟩
  ·exact⟨(hFd.o o ho).mks,(hFd.o o ho).fr⟩
 ·rintro Z s q hX hY hq ⟨S,R,c,hE,hok⟩
  have z1:((Z,s):NP)≠(X,0):=fun e=>hX (by injection e)
  have z2:((Z,s):NP)≠(Y,0):=fun e=>hY (by injection e)
  obtain⟨n1,n2⟩:=h.far hq z1 z2
  obtain⟨q1,j1,j2,j3,j4⟩:=rj hb1 sa sb (fun e=>hX (by injection e)) (fun e=>hX (by injection e)) (hop _ _ hq z1 z2)
  rw[←h2l]at j1
  rcases yN h hkx hex hy' hE hok n2 with⟨l1,l2⟩|rfl
  ·rcases j4 with e|⟨e,_⟩|⟨e,_⟩
   ·subst e
    exact⟨q,hbt _ _ _ _ j1 (hFd.self hX hY) (hFd.self l1 l2),.inl ⟨l1,l2,rfl⟩⟩
   ·exact absurd (by rw[e]) l1
   ·exact absurd (by rw[e]) l1
  ·rcases j4 with e|⟨e,_⟩|⟨_,e⟩
   ·exact absurd e.symm j3
   ·exact absurd e.symm hjne
   ·have e':=hop' _ _ e
    cases hok.inv' h.hx with
    |var hk=>omega
    |fw d r hc=>exact(hc.no hkx).elim
    |bw t a r hs hc=>exact(hc.no hkx).elim
    |node hk hs hc hsub=>
     obtain⟨r,g1,g2⟩:=hsub ((i:Int)+2) ⟨by omega,by omega,by omega,by omega⟩
     have g3:=g2 [] (by unfold H7;rw[if_neg (by omega)])
     rw[e']at g1
     rw[←BQ g1]at g3
     obtain⟨m1,m2⟩:=h.far e' (fun e=>by injection e with _ e;omega) (fun e=>hne (by injection e))
     rcases yN h hkx hex hy' (hE.addX hne) g3 m2 with⟨l1,l2⟩|l
     ·exact⟨q1,hbt _ _ _ _ j1 (hFd.self hX hY) (hFd.self l1 l2),.inr ⟨rfl,e',l1,l2⟩⟩
     ·exact absurd l j3
 ·rintro q q' (⟨_,_,e⟩|⟨rfl,_⟩) h1 h2
  ·exact e
  ·exact absurd rfl h1
 ·rintro W w hW hkd hent S c hc hsub R hE q' hT
  rcases hW with⟨rfl,rfl⟩|⟨rfl,rfl⟩
  ·rcases hT with⟨k,_⟩|⟨_,g,l1,l2⟩
   ·exact absurd rfl k
   ·obtain⟨r,g1,g2⟩:=hsub ((i:Int)+2) ⟨by omega,by omega,by omega,by omega⟩
    have g3:=g2 [] (by unfold H7;rw[if_neg (by omega)])
    rw[g]at g1
    rw[←BQ g1]at g3
    obtain⟨m1,m2⟩:=h.far g (fun e=>by injection e with _ e;omega) (fun e=>hne (by injection e))
    have:=g3.mo m1 m2 R (hE.addX hne) q' (.inl ⟨l1,l2,rfl⟩)
    simpa using this
  ·rw[(nN hy').2]at hent;omega
 ·rintro W w hW h2 S c d hS hd R hE q' hT
  rcases hW with⟨rfl,rfl⟩|⟨rfl,rfl⟩<;>omega
 ·rintro W w hW S s c d r hC
  refine(hC.no ?_).elim
  rcases hW with⟨_,rfl⟩|⟨_,rfl⟩
  ·exact hkx
  ·exact(nN hy').1
theorem Qo{t j k i:Nat}(h:i<k):(uX t j k)[i]? =some (t,j+i):=by
 unfold uX
 rw[Qy,List.getElem?_range' h]
 simp
theorem Lt(h:Sit A X Y x y tag)(hx:x.k=9)(hy:y.k=8){i N:Nat}(hi:i+2<x.to.length)(hN:N+1=y.to.length-1){m:Nat}{U V:Nm}(hU:U=X∨U=Y)(hV:V=X∨V=Y){Z:Nm}(hX:Z≠X)(hY:Z≠Y)(hR:OkR A Z):
  OkR (whole A X Y U V (mkA (vQ x.lv) (uX tag 0 (N+1))++(mkA (PN x.lv) (uX tag (N+1) m)++([.mv (X,(i:Int)+2) ((tag,0),0)]++(wV X Y 0 (uX tag 0 (N+1))++dropA (eV x X i) (uX tag (N+1) m)))))) Z:=by
 have hne:=h.ne
 have nX:=h.nX
 have nY:=h.nY
 have hex:ent x.k=1:=by rw[hx];rfl
 have hkx:Ty x.k:=by rw[hx];unfold Ty;omega
 have hy':B0 y.k:=.inr (.inl hy)
 have tn:∀j k,∀d∈uX tag j k,d.1=tag:=fun j k d hd=>(gw.1 hd).1
 have tX:∀d:Nm,d.1=tag→d≠X:=fun d hd e=>nX (by rw[←e];exact hd)
 have tY:∀d:Nm,d.1=tag→d≠Y:=fun d hd e=>nY (by rw[←e];exact hd)
 obtain⟨L,hL⟩:∃L,mkA (vQ x.lv) (uX tag 0 (N+1))++(mkA (PN x.lv) (uX tag (N+1) m)++([.mv (X,(i:Int)+2) ((tag,0),0)]++(wV X Y 0 (uX tag 0 (N+1))++dropA (eV x X i) (uX tag (N+1) m))))=L:=⟨_,rfl⟩
 have d0:uX tag 0 (N+1)=(tag,0)::(uX tag 0 (N+1)).tail:=by
  have:=Qo (t:=tag) (j:=0) (k:=N+1) (i:=0) (by omega)
  cases hd:uX tag 0 (N+1)with
  |nil=>rw[hd]at this;simp at this
  |cons a r=>rw[hd]at this;simp at this;rw[this];rfl
 have hnd:=qi tag 0 (N+1)
 have d0t:(tag,0)∉(uX tag 0 (N+1)).tail:=by rw[d0]at hnd;exact(TL.1 hnd).1
 have hF:Fine X Y tag L:=by
  rw[←hL]
  refine .app (.mkA (tn _ _)) (.app (.mkA (tn _ _)) (.app (.cons (.mv1 (.inl rfl) rfl nX nY) .nil (by simp)) (.app (.pick nX nY hne _ _ hnd (tn _ _)) (.dropA nX nY (Rj i) (qi ..) (fun p hp=>.inl (R0 (x:=x) (X:=X) hp).1) (tn _ _)) fun o ho u hu p hp hpu=>?_) fun o ho u hu p hp hpu=>?_) fun o ho u _=>U4 ho) fun o ho u _=>U4 ho
  ·obtain⟨q,hq,e,he,rfl⟩:=Q6 hu
   obtain⟨q1,q2,q3⟩:=R0 (x:=x) (X:=X) hq
   have he':=gw.1 he
   have H:=UM _ _ o ho p hp
   simp only[AO.pts,qY,oZ,or_false]at hpu
   rcases hpu with rfl|rfl
   ·rcases H with⟨k,_⟩|k|⟨k,_⟩
    ·exact hne (q1.symm.trans k)
    ·rw[k]at q2;have q2:(2:Int)≤1:=q2;omega
    ·exact nX (by rw[←q1];exact(gw.1 k).1)
   ·rcases H with⟨k,_⟩|k|⟨k,_⟩
    ·exact tY e he'.1 k
    ·injection k with k _;exact tX e he'.1 k
    ·have:=(gw.1 k).2.2;have:=he'.2.1;simp only at*;omega
  ·rw[bK]at ho
   subst ho
   simp only[AO.pts,qY,oZ,or_false]at hp
   rcases Sw.1 hu with hu|hu
   ·have H:=UM _ _ u hu p hpu
    rcases hp with rfl|rfl
    ·rcases H with⟨k,_⟩|k|⟨k,_⟩
     ·exact hne k
     ·injection k with _ k;omega
     ·exact nX (gw.1 k).1
    ·rcases H with⟨k,_⟩|k|⟨_,k|k⟩
     ·exact tY _ rfl k
     ·injection k with k _;exact tX _ rfl k
     ·exact k rfl
     ·exact d0t k
   ·obtain⟨q,hq,e,he,rfl⟩:=Q6 hu
    obtain⟨q1,q2,q3⟩:=R0 (x:=x) (X:=X) hq
    have he':=gw.1 he
    simp only[AO.pts,qY,oZ,or_false]at hpu
    rcases hp with rfl|rfl
    ·rcases hpu with k|k
     ·exact q3 k.symm
     ·injection k with k _;exact tX e he'.1 k.symm
    ·rcases hpu with k|k
     ·rw[←k]at q1;exact tX _ rfl q1
     ·injection k with k _
      rw[←k]at he'
      have:=he'.2.1
      simp only at this;omega
 have memP:∀o∈wV X Y 0 (uX tag 0 (N+1)),o∈L:=fun o ho=>by rw[←hL];simp[ho]
 have mvY:∀j,j<N+1→AO.mv (Y,(j:Int)+1) ((tag,j),2)∈L:=fun j hj=>memP _ (by
  have:=ar (X:=X) (Y:=Y) (uX tag 0 (N+1)) 0 j (tag,0+j) (Qo hj)
  rw[Fy]at this;exact this)
 have lnM:∀j,j+1<N+1→AO.ln ((tag,j),1) ((tag,j+1),0)∈L:=fun j hj=>memP _ (by
  have:=Im (X:=X) (Y:=Y) (uX tag 0 (N+1)) 0 j (tag,0+j) (tag,0+(j+1)) (Qo (by omega)) (Qo hj)
  rw[Fy,Fy]at this;exact this)
 have mvX:AO.mv (X,1) ((tag,N),1)∈L:=memP _ (by
  have:=N4 (X:=X) (Y:=Y) (uX tag 0 (N+1)) 0 N (tag,0+N) (Qo (by omega)) (by unfold uX;simp)
  rw[Fy]at this;exact this)
 have mvA:AO.mv (X,(i:Int)+2) ((tag,0),0)∈L:=by rw[←hL];simp
 obtain⟨b1,b2⟩:=h.batchF U V hF
 have hmk:∀j,j<N+1→(whole A X Y U V L).nd (tag,j)=some (wL (vQ x.lv).fresh):=fun j hj=>by
  have hjm:(tag,j)∈uX tag 0 (N+1):=gw.2 ⟨rfl,by simp,by simpa using hj⟩
  refine h.madeF hF hU hV (m:=(tag,j)) rfl (by
   rw[←hL];refine uJ _ ?_
   unfold mkA;exact Om.2 ⟨_,hjm,rfl⟩) fun z' hz'=>?_
  rw[←hL]at hz'
  rcases Sw.1 hz' with hz'|hz'
  ·obtain⟨u,_,k⟩:=Yf hz'
   injection k
  rcases Sw.1 hz' with hz'|hz'
  ·obtain⟨u,hu,k⟩:=Yf hz'
   injection k with k _
   rw[←k]at hu
   have:=(gw.1 hu).2.1
   simp only at this;omega
  rcases Sw.1 hz' with hz'|hz'
  ·rw[bK]at hz';cases hz'
  rcases Sw.1 hz' with hz'|hz'
  ·exfalso
   have:∀(ds:List Nm) (i:Nat),AO.mk (tag,j) z'∉wV X Y i ds:=by
    intro ds
    induction ds with
    |nil=>intro i hh;simp[wV]at hh
    |cons d r ih=>
     intro i hh
     cases r with
     |nil=>rw[LG]at hh;simp at hh
     |cons e r=>
      rw[qb]at hh
      rcases qY.1 hh with k|hh
      ·cases k
      rcases qY.1 hh with k|hh
      ·cases k
      ·exact ih _ hh
   exact this _ _ hz'
  ·obtain⟨p,_,d,_,k⟩:=Q6 hz'
   cases k
 rw[hL]
 refine iD h hkx hex hy' hF hU hV mvX (fun S R c hE hc hsub=>?_) hX hY hR
 obtain⟨B,hB⟩:∃B,whole A X Y U V L=B:=⟨_,rfl⟩
 rw[hB]at b1 b2 hmk hsub⊢
 obtain⟨r0,g1,g2⟩:=hsub 0 ⟨by omega,by omega,by omega,by omega⟩
 rw[h.lk]at g1
 have g1:=BQ g1
 subst g1
 have g3:=(g2 [] (by unfold H7;rw[if_neg (by omega)])).sy rfl
 obtain⟨ra,a1,a2⟩:=hsub ((i:Int)+2) ⟨by omega,by omega,by omega,by omega⟩
 have a3:=a2 [] (by unfold H7;rw[if_neg (by omega)])
 have za:((X,(i:Int)+2):NP)≠(X,0):=fun e=>by injection e with _ e;omega
 have zb:((X,(i:Int)+2):NP)≠(Y,0):=fun e=>hne (by injection e)
 obtain⟨na1,na2⟩:=h.far a1 za zb
 have hE1:=hE.addX (c:=c) hne
 have again:∀{S R p p' q c},Ft X Y y S R→A.lk p=some q→p≠(X,0)→p≠(Y,0)→Rho L p p'→Ok A S q c→∃q',B.lk p'=some q'∧T1 X Y ((tag,N),1) q q':=fun {S R p p' q c} hE hq z1 z2 hr hok=>by
  obtain⟨n1,n2⟩:=h.far hq z1 z2
  rcases yN h hkx hex hy' hE hok n2 with⟨l1,l2⟩|rfl
  ·exact⟨q,b1 _ _ _ _ hq z1 z2 hr (hF.self l1 l2),.inl ⟨l1,l2,rfl⟩⟩
  ·exact⟨_,b1 _ _ _ _ hq z1 z2 hr (.inl mvX),.inr ⟨rfl,rfl⟩⟩
 cases g3 with
 |bw t a r hC=>exact(hC.no (nN hy').1).elim
 |node _ he hcy hs1=>
  have hE2:∀R,Ft X Y y S R→Ft X Y y ((S.add X c).add Y (c++[])) R:=fun R hE=>⟨hE.1.addX.addY,fun k=>by omega⟩
  have key:∀j,j<N+1→∀R,Ft X Y y S R→Ok B R ((tag,j),1) c:=by
   intro j
   induction j with
   |zero=>
    intro hj R hE
    obtain⟨r',t1,t2⟩:=again (hE.addX (c:=c) hne) a1 za zb (.inl mvA) a3.ok
    obtain⟨rp,p1,p2⟩:=hs1 1 ⟨by omega,by omega,by omega,by omega⟩
    have y1:((Y,(1:Int)):NP)≠(X,0):=fun e=>hne (by injection e with e _;exact e.symm)
    have y2:((Y,(1:Int)):NP)≠(Y,0):=fun e=>by injection e with _ e;omega
    obtain⟨rp',u1,u2⟩:=again (p':=((tag,0),2)) (hE2 R hE) p1 y1 y2 (.inl (mvY 0 hj)) (p2 [.e] (by unfold H7;rw[if_pos (.inl hy)];rfl)).1
    refine Ok.node (x:=wL (vQ x.lv).fresh) (X:=(tag,0)) (fun s=>if s=0 then r' else rp') (hmk 0 hj) (by show Ty 3;unfold Ty;omega) hc (fun s hs=>?_) fun s hs e he=>?_
    ·have h1:=hs.1;have h2:s<3:=hs.2.1;have h3:s≠1:=hs.2.2.1
     by_cases s0:s=0
     ·rw[s0,if_pos rfl];exact t1
     ·rw[if_neg s0,show s=2 by omega];exact u1
    ·have h1:=hs.1;have h2:s<3:=hs.2.1;have h3:s≠1:=hs.2.2.1
     have he:H7 3 s e:=he
     unfold H7 at he
     by_cases s0:s=0
     ·rw[if_neg (by omega)]at he
      subst he
      rw[if_pos s0]
      exact a3.mo na1 na2 _ (hE.more.addX hne) r' t2
     ·rw[if_pos (by omega)]at he
      rw[if_neg s0]
      have:=(p2 e (by unfold H7;rw[if_pos (.inl hy)];exact he)).2 _ (hE2 (R.add (tag,0) c) hE.more) rp' u2
      simpa using this
   |succ j ih=>
    intro hj R hE
    obtain⟨rp,p1,p2⟩:=hs1 ((j+1:Nat)+1) ⟨by omega,by omega,by omega,by omega⟩
    have y1:((Y,((j+1:Nat):Int)+1):NP)≠(X,0):=fun e=>hne (by injection e with e _;exact e.symm)
    have y2:((Y,((j+1:Nat):Int)+1):NP)≠(Y,0):=fun e=>by injection e with _ e;omega
    obtain⟨rp',u1,u2⟩:=again (p':=((tag,j+1),2)) (hE2 R hE) p1 y1 y2 (.inl (mvY (j+1) hj)) (p2 [.e] (by unfold H7;rw[if_pos (.inl hy)];rfl)).1
    have t1:=(b2 _ _ (lnM j hj)).2
    refine Ok.node (x:=wL (vQ x.lv).fresh) (X:=(tag,j+1)) (fun s=>if s=0 then((tag,j),1)else rp') (hmk (j+1) hj) (by show Ty 3;unfold Ty;omega) hc (fun s hs=>?_) fun s hs e he=>?_
    ·have h1:=hs.1;have h2:s<3:=hs.2.1;have h3:s≠1:=hs.2.2.1
     by_cases s0:s=0
     ·rw[s0,if_pos rfl];exact t1
     ·rw[if_neg s0,show s=2 by omega];exact u1
    ·have h1:=hs.1;have h2:s<3:=hs.2.1;have h3:s≠1:=hs.2.2.1
     have he:H7 3 s e:=he
     unfold H7 at he
     by_cases s0:s=0
     ·rw[if_neg (by omega)]at he
      subst he
      rw[if_pos s0,Qg]
      exact ih (by omega) _ hE.more
     ·rw[if_pos (by omega)]at he
      rw[if_neg s0]
      have:=(p2 e (by unfold H7;rw[if_pos (.inl hy)];exact he)).2 _ (hE2 (R.add (tag,j+1) c) hE.more) rp' u2
      simpa using this
  exact key N (by omega) R hE
end
section
variable{A:Ab}{X Y:Nm}{x y:Nd}{tag:Nat}
theorem YH(t:Nm)(k i:Nat)(c:Nm)(r:List Nm):lnA t k i (c::r)= .ln (t,(i:Int)+1) (c,(k:Int)+1)::lnA t k (i+1) r:=rfl
theorem ZQ(cs:List Nm)(k:Nat)(t:Nm)(r:List Nm):sU Y cs k (t::r)= .mv (Y,(k:Int)+1) (t,0)::(lnA t k 0 cs++sU Y cs (k+1) r):=rfl
theorem Xx{t:Nm}{k:Nat}:∀(cs:List Nm) (i:Nat) (o:AO),o∈lnA t k i cs→∃j c,cs[j]? =some c∧o= .ln (t,((i+j:Nat):Int)+1) (c,(k:Int)+1)
 |[],i,o,h=>by simp[lnA]at h
 |c::r,i,o,h=>by
  rw[YH,qY]at h
  rcases h with rfl|h
  ·exact⟨0,c,by simp,by simp⟩
  ·obtain⟨j,d,h1,rfl⟩:=Xx r (i+1) o h
   exact⟨j+1,d,by simpa using h1,by rw[show i+1+j=i+(j+1) by omega]⟩
theorem Gk{t:Nm}{k:Nat}:∀(cs:List Nm) (i j:Nat) (c:Nm),cs[j]? =some c→AO.ln (t,((i+j:Nat):Int)+1) (c,(k:Int)+1)∈lnA t k i cs
 |[],i,j,c,h=>by simp at h
 |d::r,i,0,c,h=>by
  simp only[aT,Lo]at h
  subst h;rw[YH];simp
 |d::r,i,j+1,c,h=>by
  rw[YH,show i+(j+1)=i+1+j by omega]
  exact tT _ (Gk r (i+1) j c (by simpa using h))
theorem Kd{cs:List Nm}:∀(ts:List Nm) (k:Nat) (o:AO),o∈sU Y cs k ts→∃j t,ts[j]? =some t∧(o= .mv (Y,((k+j:Nat):Int)+1) (t,0)∨∃(i:Nat) (c:Nm),cs[i]? =some c∧o= .ln (t,(i:Int)+1) (c,((k+j:Nat):Int)+1))
 |[],k,o,h=>by simp[sU]at h
 |t::r,k,o,h=>by
  rw[ZQ,qY,Sw]at h
  rcases h with rfl|h|h
  ·exact⟨0,t,by simp,.inl (by simp)⟩
  ·obtain⟨j,c,h1,rfl⟩:=Xx cs 0 o h
   exact⟨0,t,by simp,.inr ⟨j,c,h1,by simp⟩⟩
  ·obtain⟨j,u,h1,h2⟩:=Kd r (k+1) o h
   refine⟨j+1,u,by simpa using h1,?_⟩
   rw[show k+(j+1)=k+1+j by omega];exact h2
theorem qK{cs:List Nm}:∀(ts:List Nm) (k j:Nat) (t:Nm),ts[j]? =some t→AO.mv (Y,((k+j:Nat):Int)+1) (t,0)∈sU Y cs k ts
 |[],k,j,t,h=>by simp at h
 |u::r,k,0,t,h=>by
  simp only[aT,Lo]at h
  subst h;rw[ZQ];simp
 |u::r,k,j+1,t,h=>by
  rw[ZQ,show k+(j+1)=k+1+j by omega]
  exact tT _ (Uc _ (qK r (k+1) j t (by simpa using h)))
theorem eH{cs:List Nm}{i:Nat}{c:Nm}(hc:cs[i]? =some c):∀(ts:List Nm) (k j:Nat) (t:Nm),ts[j]? =some t→AO.ln (t,(i:Int)+1) (c,((k+j:Nat):Int)+1)∈sU Y cs k ts
 |[],k,j,t,h=>by simp at h
 |u::r,k,0,t,h=>by
  simp only[aT,Lo]at h
  subst h
  rw[ZQ]
  refine tT _ (uJ _ ?_)
  have:=Gk (t:=u) (k:=k) cs 0 i c hc
  rw[Fy]at this
  exact this
 |u::r,k,j+1,t,h=>by
  rw[ZQ,show k+(j+1)=k+1+j by omega]
  exact tT _ (Uc _ (eH hc r (k+1) j t (by simpa using h)))
theorem dj2{o u:AO}{p q r s:NP}(ho:o.pts=[p,q])(hu:u.pts=[r,s])(h1:p≠r)(h2:p≠s)(h3:q≠r)(h4:q≠s):Dj o u:=fun z hz hz'=>by
 rw[ho]at hz
 rw[hu]at hz'
 simp only[qY,oZ,or_false]at hz hz'
 rcases hz with rfl|rfl
 ·exact hz'.elim h1 h2
 ·exact hz'.elim h3 h4
theorem pn1{U V:Nm}{i j:Int}(h:U≠V):((U,i):NP)≠(V,j):=fun e=>h (by injection e)
theorem pn2{U V:Nm}{i j:Int}(h:i≠j):((U,i):NP)≠(V,j):=fun e=>h (by injection e)
theorem Fine.lns{t:Nm}(ht:t.1=tag){k:Nat}:∀(cs:List Nm) (i:Nat),cs.Nodup→(∀c∈cs,c.1=tag∧t≠c)→Fine X Y tag (lnA t k i cs)
 |[],i,_,_=>.nil
 |c::r,i,hn,hc=>by
  obtain⟨n1,n2⟩:=TL.1 hn
  obtain⟨c1,c2⟩:=hc c (by simp)
  rw[YH]
  refine .cons (.ln1 ht c1 (pn1 c2)) (Fine.lns ht r (i+1) n2 fun d hd=>hc d (by simp[hd])) fun u hu=>?_
  obtain⟨j,d,h1,rfl⟩:=Xx r (i+1) u hu
  have hd:=yu h1
  exact dj2 rfl rfl (pn2 (by omega)) (pn1 (hc d (by simp[hd])).2) (pn1 c2.symm) (pn1 fun e=>n1 (e▸hd))
theorem Fine.pass(hX:X.1≠tag)(hY:Y.1≠tag){cs:List Nm}(hcn:cs.Nodup)(hct:∀c∈cs,c.1=tag):∀(ts:List Nm) (k:Nat),ts.Nodup→(∀t∈ts,t.1=tag∧t∉cs)→Fine X Y tag (sU Y cs k ts)
 |[],k,_,_=>.nil
 |t::r,k,hn,ht=>by
  obtain⟨n1,n2⟩:=TL.1 hn
  obtain⟨t1,t2⟩:=ht t (by simp)
  have tc:∀c∈cs,t≠c:=fun c hc e=>t2 (e▸hc)
  have Yn:∀d:Nm,d.1=tag→Y≠d:=fun d hd e=>hY (by rw[e];exact hd)
  rw[ZQ]
  have IH:=Fine.pass hX hY hcn hct r (k+1) n2 fun t ht'=>ht t (by simp[ht'])
  refine .cons (.mv1 (.inr rfl) t1 hX hY) (.app (.lns t1 cs 0 hcn fun c hc=>⟨hct c hc,tc c hc⟩) IH fun o ho u hu=>?_) fun u hu=>?_
  ·obtain⟨j,c,h1,rfl⟩:=Xx cs 0 o ho
   have hc:=yu h1
   obtain⟨j',t',g1,g2⟩:=Kd r (k+1) u hu
   have ht':=yu g1
   have tt:t≠t':=fun e=>n1 (e▸ht')
   have tc':∀c∈cs,c≠t':=fun c hc e=>(ht t' (by simp[ht'])).2 (e▸hc)
   rcases g2 with rfl|⟨i,c',g3,rfl⟩
   ·exact dj2 rfl rfl (pn1 (Yn t t1).symm) (pn1 tt) (pn1 (Yn c (hct c hc)).symm) (pn1 (tc' c hc))
   ·have hc':=yu g3
    exact dj2 rfl rfl (pn1 tt) (pn1 (tc c' hc')) (pn1 (tc' c hc)) (pn2 (by omega))
  ·rcases Sw.1 hu with hu|hu
   ·obtain⟨j,c,h1,rfl⟩:=Xx cs 0 u hu
    have hc:=yu h1
    exact dj2 rfl rfl (pn1 (Yn t t1)) (pn1 (Yn c (hct c hc))) (pn2 (by omega)) (pn1 (tc c hc))
   ·obtain⟨j',t',g1,g2⟩:=Kd r (k+1) u hu
    have ht':=yu g1
    have tt:t≠t':=fun e=>n1 (e▸ht')
    have t't:=(ht t' (by simp[ht'])).1
    rcases g2 with rfl|⟨i,c',g3,rfl⟩
    ·exact dj2 rfl rfl (pn2 (by omega)) (pn1 (Yn t' t't)) (pn1 (Yn t t1).symm) (pn1 tt)
    ·have hc':=yu g3
     exact dj2 rfl rfl (pn1 (Yn t' t't)) (pn1 (Yn c' (hct c' hc'))) (pn1 tt) (pn1 (tc c' hc'))
theorem gu{u:Nm}{j k i:Nat}(h:i<k-j):(Mr u j k)[i]? =some (u,((j+i:Nat):Int)):=by
 unfold Mr
 rw[Qy,List.getElem?_range' h]
 simp
theorem zU(h:Sit A X Y x y tag)(hx:x.k=4∨x.k=5∨x.k=6)(hlt:x.lv<y.lv){lv:Int}(hlv:lv=y.lv+dl x.k){U V:Nm}(hU:U=X∨U=Y)(hV:V=X∨V=Y){Z:Nm}(hX:Z≠X)(hY:Z≠Y)(hR:OkR A Z):
  OkR (whole A X Y U V (mkA {y with lv:=lv} (uX tag 0 (x.to.length-1))++(mkA x (uX tag (x.to.length-1) (y.to.length-1))++(dropA (Mr X 1 x.to.length) (uX tag 0 (x.to.length-1))++sU Y (uX tag 0 (x.to.length-1)) 0 (uX tag (x.to.length-1) (y.to.length-1)))))) Z:=by
 have hne:=h.ne
 have nX:=h.nX
 have nY:=h.nY
 obtain⟨a,ha⟩:∃a,x.to.length-1=a:=⟨_,rfl⟩
 obtain⟨b,hb⟩:∃b,y.to.length-1=b:=⟨_,rfl⟩
 have lx:x.to.length=a+1:=by
  obtain⟨z,hz,_,h2⟩:=h.dom _ _ h.lk
  have hz:A.nd X=some z:=hz
  rw[h.hx]at hz
  rw[←BQ hz]at h2
  have h2:(0:Int)<x.to.length:=h2;omega
 have ly:y.to.length=b+1:=by
  obtain⟨z,hz,_,h2⟩:=h.dom _ _ h.kl
  have hz:A.nd Y=some z:=hz
  rw[h.hy]at hz
  rw[←BQ hz]at h2
  have h2:(0:Int)<y.to.length:=h2;omega
 rw[ha,hb]
 obtain⟨y',hy'⟩:∃y',{y with lv:=lv}=y':=⟨_,rfl⟩
 have y'k:y'.k=y.k:=by rw[←hy']
 have y'l:y'.lv=lv:=by rw[←hy']
 have y'p:(wL y'.fresh).to.length=b+1:=by
  have e1:y'.ports=y.ports:=by rw[←hy'];rfl
  have e2:=h.py
  show(List.replicate (List.replicate y'.ports.toNat zP).length zP).length=_
  rw[Eh,Eh,e1];omega
 have xp:(wL x.fresh).to.length=a+1:=by
  have e2:=h.px
  show(List.replicate (List.replicate x.ports.toNat zP).length zP).length=_
  rw[Eh,Eh];omega
 rw[hy']
 obtain⟨L,hL⟩:∃L,mkA y' (uX tag 0 a)++(mkA x (uX tag a b)++(dropA (Mr X 1 x.to.length) (uX tag 0 a)++sU Y (uX tag 0 a) 0 (uX tag a b)))=L:=⟨_,rfl⟩
 have tn:∀j k,∀d∈uX tag j k,d.1=tag:=fun j k d hd=>(gw.1 hd).1
 have tX:∀d:Nm,d.1=tag→d≠X:=fun d hd e=>nX (by rw[←e];exact hd)
 have tY:∀d:Nm,d.1=tag→d≠Y:=fun d hd e=>nY (by rw[←e];exact hd)
 have hF:Fine X Y tag L:=by
  rw[←hL]
  refine .app (.mkA (tn _ _)) (.app (.mkA (tn _ _)) (.app (.dropA nX nY (BI ..) (qi ..) (fun p hp=>.inl (Y0 hp)) (tn _ _)) (.pass nX nY (qi ..) (tn _ _) _ _ (qi ..) fun t ht=>⟨tn _ _ t ht,fun k=>?_⟩) fun o ho u hu=>?_) fun o ho u _=>U4 ho) fun o ho u _=>U4 ho
  ·have:=(gw.1 ht).2.1
   have:=(gw.1 k).2.2
   omega
  ·obtain⟨p,hp,d,hd,rfl⟩:=Q6 ho
   have p1:=Y0 hp
   obtain⟨pu,pi⟩:=p
   have p1:pu=X:=p1
   subst p1
   have hd':=gw.1 hd
   obtain⟨j,t,g1,g2⟩:=Kd _ _ u hu
   have ht:=gw.1 (yu g1)
   have dt:d≠t:=fun e=>by rw[e]at hd';omega
   rcases g2 with rfl|⟨i,c',g3,rfl⟩
   ·exact dj2 rfl rfl (pn1 hne) (pn1 (tX t ht.1).symm) (pn1 (tY d hd'.1)) (pn1 dt)
   ·have hc':=gw.1 (yu g3)
    exact dj2 rfl rfl (pn1 (tX t ht.1).symm) (pn1 (tX c' hc'.1).symm) (pn1 dt) (pn2 (by omega))
 have mvX:∀s,s<a→AO.mv (X,((s:Nat):Int)+1) ((tag,s),0)∈L:=fun s hs=>by
  rw[←hL]
  have:=Mv (l:=Mr X 1 x.to.length) (ds:=uX tag 0 a) (i:=s) (p:=(X,((1+s:Nat):Int))) (d:=(tag,0+s)) (gu (by omega)) (Qo hs)
  rw[Fy,show((1+s:Nat):Int)=((s:Nat):Int)+1 by omega]at this
  simp[this]
 have mvY:∀k,k<b→AO.mv (Y,((k:Nat):Int)+1) ((tag,a+k),0)∈L:=fun k hk=>by
  rw[←hL]
  have:=qK (Y:=Y) (cs:=uX tag 0 a) (uX tag a b) 0 k (tag,a+k) (Qo hk)
  rw[Fy]at this
  simp[this]
 have lnM:∀s k,s<a→k<b→AO.ln ((tag,a+k),((s:Nat):Int)+1) ((tag,s),((k:Nat):Int)+1)∈L:=fun s k hs hk=>by
  rw[←hL]
  have:=eH (Y:=Y) (cs:=uX tag 0 a) (i:=s) (c:=(tag,0+s)) (Qo hs) (uX tag a b) 0 k (tag,a+k) (Qo hk)
  rw[Fy,Fy]at this
  simp[this]
 obtain⟨b1,b2⟩:=h.batchF U V hF
 have hnm:∀m z,AO.mk m z∈L→(m∈uX tag 0 a∧z=wL y'.fresh)∨(m∈uX tag a b∧z=wL x.fresh):=fun m z hz=>by
  rw[←hL]at hz
  rcases Sw.1 hz with hz|hz
  ·obtain⟨u,hu,k⟩:=Yf hz
   injection k with k1 k2
   exact .inl ⟨k1▸hu,k2⟩
  rcases Sw.1 hz with hz|hz
  ·obtain⟨u,hu,k⟩:=Yf hz
   injection k with k1 k2
   exact .inr ⟨k1▸hu,k2⟩
  rcases Sw.1 hz with hz|hz
  ·obtain⟨p,_,d,_,k⟩:=Q6 hz
   cases k
  ·obtain⟨j,t,_,k|⟨i,c,_,k⟩⟩:=Kd _ _ _ hz<;>cases k
 have ndC:∀s,s<a→(whole A X Y U V L).nd (tag,s)=some (wL y'.fresh):=fun s hs=>by
  have hm:(tag,s)∈uX tag 0 a:=gw.2 ⟨rfl,by simp,by simpa using hs⟩
  refine h.madeF hF hU hV (m:=(tag,s)) rfl (by
   rw[←hL];refine uJ _ ?_
   unfold mkA;exact Om.2 ⟨_,hm,rfl⟩) fun z hz=>?_
  rcases hnm _ _ hz with⟨_,e⟩|⟨e,_⟩
  ·exact e
  ·have:=(gw.1 e).2.1;simp only at this;omega
 have ndM:∀k,k<b→(whole A X Y U V L).nd (tag,a+k)=some (wL x.fresh):=fun k hk=>by
  have hm:(tag,a+k)∈uX tag a b:=gw.2 ⟨rfl,by simp,by simpa using hk⟩
  refine h.madeF hF hU hV (m:=(tag,a+k)) rfl (by
   rw[←hL];refine Uc _ (uJ _ ?_)
   unfold mkA;exact Om.2 ⟨_,hm,rfl⟩) fun z hz=>?_
  rcases hnm _ _ hz with⟨e,_⟩|⟨_,e⟩
  ·have:=(gw.1 e).2.2;simp only at this;omega
  ·exact e
 rw[hL]
 have hold:∀Z z,Z≠X→Z≠Y→A.nd Z=some z→(whole A X Y U V L).nd Z=some z:=fun Z z hX hY hz=>h.oldF hF hU hV hX hY hz
 obtain⟨B,hB⟩:∃B,whole A X Y U V L=B:=⟨_,rfl⟩
 rw[hB]at b1 b2 ndC ndM hold⊢
 obtain⟨T,hT⟩:∃T:NP→NP→Prop,∀q q',T q q'↔((q.1≠X∧q.1≠Y∧q'=q)∨(∃s:Nat,s<a∧q=(X,((s:Nat):Int)+1)∧q'=((tag,s),0))∨∃k:Nat,k<b∧q=(Y,((k:Nat):Int)+1)∧q'=((tag,a+k),0)):=⟨fun q q'=>_,fun _ _=>Iff.rfl⟩
 obtain⟨Env,hEnv⟩:∃Env:Sc→Sc→Prop,∀S R,Env S R↔gD X Y S R∧(y.k=2→∀c,S Y c→∃s:Nat,s<a∧∃c0,Ctl x.k x.lv ((s:Nat)+1) c0 c∧R (tag,s) c0):=⟨fun S R=>_,fun _ _=>Iff.rfl⟩
 have tx:∀{s:Nat} {q'},T (X,((s:Nat):Int)+1) q'→s<a∧q'=((tag,s),0):=fun {s q'} hq=>by
  rcases(hT _ _).1 hq with⟨k,_⟩|⟨s',hs,e,k⟩|⟨s',hs,e,k⟩
  ·exact absurd rfl k
  ·injection e with _ e
   have:s=s':=by omega
   subst this;exact⟨hs,k⟩
  ·injection e with e _;exact absurd e hne
 have ty:∀{s:Int} {q'},T (Y,s) q'→∃k:Nat,s=((k:Nat):Int)+1∧k<b∧q'=((tag,a+k),0):=fun {s q'} hq=>by
  rcases(hT _ _).1 hq with⟨_,k,_⟩|⟨s',hs,e,k⟩|⟨s',hs,e,k⟩
  ·exact absurd rfl k
  ·injection e with e _;exact absurd e.symm hne
  ·injection e with _ e
   exact⟨s',e,hs,k⟩
 have again:∀{p p' q},A.lk p=some q→p≠(X,0)→p≠(Y,0)→Rho L p p'→∃q',B.lk p'=some q'∧T q q':=fun {p p' q} hq z1 z2 hr=>by
  obtain⟨n1,n2⟩:=h.far hq z1 z2
  obtain⟨z,d1,d2,d3⟩:=h.dom _ _ (h.both _ _ hq).2
  obtain⟨W,s⟩:=q
  by_cases e:W=X
  ·subst e
   have d1:A.nd W=some z:=d1
   rw[h.hx]at d1
   rw[←BQ d1]at d3
   simp only at d2 d3
   have hs0:s≠0:=fun e=>n1 (by rw[e])
   obtain⟨u,hu⟩:∃u:Nat,s=(u:Int)+1:=⟨(s-1).toNat,by omega⟩
   subst hu
   exact⟨_,b1 _ _ _ _ hq z1 z2 hr (.inl (mvX u (by omega))),(hT _ _).2 (.inr (.inl ⟨u,by omega,rfl,rfl⟩))⟩
  by_cases e2:W=Y
  ·subst e2
   have d1:A.nd W=some z:=d1
   rw[h.hy]at d1
   rw[←BQ d1]at d3
   simp only at d2 d3
   have hs0:s≠0:=fun e=>n2 (by rw[e])
   obtain⟨u,hu⟩:∃u:Nat,s=(u:Int)+1:=⟨(s-1).toNat,by omega⟩
   subst hu
   exact⟨_,b1 _ _ _ _ hq z1 z2 hr (.inl (mvY u (by omega))),(hT _ _).2 (.inr (.inr ⟨u,by omega,rfl,rfl⟩))⟩
  ·exact⟨_,b1 _ _ _ _ hq z1 z2 hr (hF.self e e2),(hT _ _).2 (.inl ⟨e,e2,rfl⟩)⟩
 have lkC:∀{s:Nat} {r},s<a→A.lk (X,((s:Nat):Int)+1)=some r→∃r',B.lk ((tag,s),0)=some r'∧T r r':=fun {s r} hs hr=>again hr (pn2 (by omega)) (pn1 hne) (.inl (mvX s hs))
 have lkM:∀{k:Nat} {r},k<b→A.lk (Y,((k:Nat):Int)+1)=some r→∃r',B.lk ((tag,a+k),0)=some r'∧T r r':=fun {k r} hk hr=>again hr (pn1 hne.symm) (pn2 (by omega)) (.inl (mvY k hk))
 have xno:¬Ty x.k:=fun hk=>by unfold Ty at hk;omega
 have ctx:∀{s c d},Ctl x.k x.lv s c d→∃u:Nat,s=(u:Int)+1∧u<a:=fun {s c d} hC=>by
  rcases hC.ports h.px with⟨e,k⟩|⟨e,k⟩
  ·exact⟨0,by omega,by omega⟩
  ·exact⟨1,by omega,by omega⟩
 have cty:∀{s c d},Ctl y.k y.lv s c d→∃u:Nat,s=(u:Int)+1∧u<b:=fun {s c d} hC=>by
  rcases hC.ports h.py with⟨e,k⟩|⟨e,k⟩
  ·exact⟨0,by omega,by omega⟩
  ·exact⟨1,by omega,by omega⟩
 refine o9 (X:=X) (Y:=Y) (x:=x) (y:=y) (T:=T) (Env:=Env) ⟨h.both,h.lk,h.hx,h.hy,hold,fun Z s q hX hY hq _=>again hq (pn1 hX) (pn1 hY) (hF.self hX hY),?_,?_,?_,?_,?_,?_⟩ ?_ hX hY hR
 ·intro q q' hq h1 h2
  rcases(hT _ _).1 hq with⟨_,_,k⟩|⟨s',hs,e,k⟩|⟨s',hs,e,k⟩
  ·exact k
  ·exact absurd (by rw[e]) h1
  ·exact absurd (by rw[e]) h2
 ·intro S R Z c hE h1 h2
  rw[hEnv]at hE⊢
  refine⟨hE.1.add,fun hk a ha=>?_⟩
  obtain⟨s,s1,c0,s2,s3⟩:=hE.2 hk a (ha.resolve_right fun k=>h2 k.1.symm)
  exact⟨s,s1,c0,s2,.inl s3⟩
 ·intro S R Z c hE hS h1 h2
  rw[hEnv]at hE
  exact hE.1 Z c hS h1 h2
 ·
  rintro W w hW hkd hent S c hc hsub R hE q' hq
  rcases hW with⟨rfl,rfl⟩|⟨rfl,rfl⟩
  ·exact absurd hkd xno
  ·rw[hEnv]at hE
   obtain⟨k0,hk1,hk2,rfl⟩:=ty hq
   have hk0:k0=0:=by omega
   subst hk0
   have hk8:¬(w.k=8∨w.k=3∧(0:Int)=2):=fun e=>by
    rcases e with e|⟨_,e⟩
    ·rw[e]at hent;simp[ent]at hent
    ·omega
   have hk2':w.k≠2:=fun e=>by rw[e]at hent;simp[ent]at hent
   obtain⟨r0,g1,g2⟩:=hsub 0 ⟨by omega,by omega,by omega,by omega⟩
   rw[h.kl]at g1
   have g1:=BQ g1
   subst g1
   have g3:=(g2 [] (by unfold H7;rw[if_neg hk8])).sx rfl
   cases g3 with
   |node hk=>exact absurd hk xno
   |bw s a0 r hC hl _ hM=>
    obtain⟨u,rfl,hu⟩:=ctx hC
    rw[Qg]at hC
    obtain⟨r',t1,t2⟩:=lkC hu hl
    have hln:=b2 _ _ (lnM u 0 hu hk2)
    refine Ok.bw (x:=wL x.fresh) (ndM 0 hk2) hC hln.1 ?_
    have hE2:∀d,Env (S.add W c) (R.add (tag,u) d):=fun d=>(hEnv _ _).2 ⟨hE.1.addY.more,fun e=>absurd e hk2'⟩
    have hlen:=hC.len.1
    have:Ok B R ((tag,u),ent (wL y'.fresh).k) a0:=by
     refine Ok.node (x:=wL y'.fresh) (fun t=>if t=0 then r' else((tag,a+(t.toNat-1)),((u:Nat):Int)+1)) (ndC u hu) (by show Ty y'.k;rw[y'k];exact hkd) (by show _=y'.lv;rw[y'l,hlv,←hc,hlen]) (fun t ht=>?_) fun t ht e he=>?_
     ·have k1:=ht.1
      have k2:=ht.2.1
      have k3:t≠ent y'.k:=ht.2.2.1
      rw[y'k,hent]at k3
      rw[y'p]at k2
      by_cases t0:t=0
      ·rw[if_pos t0,t0];exact t1
      ·rw[if_neg t0]
       have:=(b2 _ _ (lnM u (t.toNat-1) hu (by omega))).2
       rw[show(((t.toNat-1:Nat):Nat):Int)+1=t by omega]at this
       exact this
     ·have k1:=ht.1
      have k2:=ht.2.1
      have k3:t≠ent y'.k:=ht.2.2.1
      rw[y'k,hent]at k3
      rw[y'p]at k2
      have he:H7 y'.k t e:=he
      rw[y'k]at he
      by_cases t0:t=0
      ·subst t0
       have he':e=[]:=by unfold H7 at he;rw[if_neg hk8]at he;exact he
       subst he'
       rw[if_pos rfl,Qg]
       exact hM _ (hE2 _) r' t2
      ·rw[if_neg t0]
       obtain⟨rt,p1,p2⟩:=hsub t ⟨k1,by omega,by rw[hent];exact k3,fun k=>hk2' k.1⟩
       have p3:=p2 e he
       obtain⟨rt',u1,u2⟩:=lkM (k:=t.toNat-1) (by omega) (r:=rt) (by rw[show(((t.toNat-1:Nat):Nat):Int)+1=t by omega];exact p1)
       obtain⟨m1,m2⟩:=h.far p1 (pn1 hne.symm) (pn2 t0)
       exact Ok.fw (x:=wL x.fresh) (ndM _ (by omega)) (hC.ext e) u1 (p3.mo m1 m2 _ (hE2 _) rt' u2)
    have ee:ent (wL y'.fresh).k=((0:Nat):Int)+1:=by show ent y'.k=_;rw[y'k,hent];rfl
    rw[ee]at this
    exact this
 ·rintro W w hW h2 S c d hS hd R hE q' hq
  rcases hW with⟨rfl,rfl⟩|⟨rfl,rfl⟩
  ·omega
  ·rw[hEnv]at hE
   obtain⟨s,s1,c0,s2,s3⟩:=hE.2 h2 c hS
   obtain⟨k0,hk1,hk2,rfl⟩:=ty hq
   have hk0:k0=1:=by omega
   subst hk0
   have hln:=b2 _ _ (lnM s 1 s1 hk2)
   refine Ok.bw (x:=wL x.fresh) (ndM 1 hk2) (s2.ext d) hln.1 ?_
   exact Ok.var (x:=wL y'.fresh) (ndC s s1) (by show y'.k=2;rw[y'k];exact h2) s3 hd
 ·rintro W w hW S s c d r hC hl hMM R hE q' hq
  rcases hW with⟨rfl,rfl⟩|⟨rfl,rfl⟩
  ·obtain⟨u,rfl,hu⟩:=ctx hC
   obtain⟨_,rfl⟩:=tx hq
   rw[h.lk]at hl
   have hsp:=hMM.sy (BQ hl).symm
   cases hsp with
   |node hkd he hcd hs1=>
    rw[hEnv]at hE
    have hE2:Env (S.add Y d) (R.add (tag,u) c):=(hEnv _ _).2 ⟨hE.1.addY.more,fun hk a ha=>by
     rcases ha with ha|ha
     ·obtain⟨s,s1,c0,s2,s3⟩:=hE.2 hk a ha
      exact⟨s,s1,c0,s2,.inl s3⟩
     ·exact⟨u,hu,c,by rw[ha.2];exact hC,.inr ⟨rfl,rfl⟩⟩⟩
    have hlen:=hC.len.1
    have:Ok B R ((tag,u),ent (wL y'.fresh).k) c:=by
     refine Ok.node (x:=wL y'.fresh) (fun t=>((tag,a+(t.toNat-1)),((u:Nat):Int)+1)) (ndC u hu) (by show Ty y'.k;rw[y'k];exact hkd) (by show _=y'.lv;rw[y'l,hlv,←hcd,hlen]) (fun t ht=>?_) fun t ht e he'=>?_
     ·have k1:=ht.1
      have k2:=ht.2.1
      have k3:t≠ent y'.k:=ht.2.2.1
      rw[y'k,he]at k3
      rw[y'p]at k2
      have:=(b2 _ _ (lnM u (t.toNat-1) hu (by omega))).2
      rw[show(((t.toNat-1:Nat):Nat):Int)+1=t by omega]at this
      exact this
     ·have k1:=ht.1
      have k2:=ht.2.1
      have k3:t≠ent y'.k:=ht.2.2.1
      have k4:¬(y'.k=2∧t=2):=ht.2.2.2
      rw[y'k,he]at k3
      rw[y'k]at k4
      rw[y'p]at k2
      have he':H7 y'.k t e:=he'
      rw[y'k]at he'
      obtain⟨rt,p1,p2⟩:=hs1 t ⟨k1,by omega,by rw[he];exact k3,k4⟩
      obtain⟨rt',u1,u2⟩:=lkM (k:=t.toNat-1) (by omega) (r:=rt) (by rw[show(((t.toNat-1:Nat):Nat):Int)+1=t by omega];exact p1)
      exact Ok.fw (x:=wL w.fresh) (ndM _ (by omega)) (hC.ext e) u1 ((p2 e he').2 _ hE2 rt' u2)
    have ee:ent (wL y'.fresh).k=0:=by show ent y'.k=_;rw[y'k,he]
    rw[ee]at this
    exact this
   |bw t a1 r1 hC' hl' _ hM=>
    obtain⟨d0,q1,q2⟩:=hC.sq hC' hlt
    obtain⟨k,rfl,hk⟩:=cty hC'
    obtain⟨r',t1,t2⟩:=lkM hk hl'
    have hln:=b2 _ _ (lnM u k hu hk)
    refine Ok.bw (x:=wL y'.fresh) (s:=((k:Nat):Int)+1) (c:=d0) (ndC u hu) ?_ hln.2 ?_
    ·show Ctl y'.k y'.lv _ _ _
     rw[y'k,y'l,hlv];exact q1
    ·exact Ok.fw (x:=wL w.fresh) (ndM k hk) q2 t1 (hM R hE r' t2)
  ·obtain⟨k,rfl,hk,rfl⟩:=ty hq
   rw[h.kl]at hl
   have hsp:=hMM.sx (BQ hl).symm
   cases hsp with
   |node hkd=>exact absurd hkd xno
   |bw t a1 r1 hC' hl' _ hM=>
    obtain⟨u,rfl,hu⟩:=ctx hC'
    obtain⟨d0,q1,q2⟩:=hC'.sq hC hlt
    obtain⟨r',t1,t2⟩:=lkC hu hl'
    have hln:=b2 _ _ (lnM u k hu hk)
    refine Ok.bw (x:=wL x.fresh) (s:=((u:Nat):Int)+1) (c:=d0) (ndM k hk) q2 hln.1 ?_
    refine Ok.fw (x:=wL y'.fresh) (ndC u hu) ?_ t1 (hM R hE r' t2)
    show Ctl y'.k y'.lv _ _ _
    rw[y'k,y'l,hlv];exact q1
 ·rw[hEnv]
  exact⟨fun _ _ h=>h.elim,fun _ _ h=>h.elim⟩
end
noncomputable def QQ(n:Nt)(i:Int):Nt×Pl×Int:=
 if(doR n i).2.2≠121 then doR n i else if(doR (if bool n.Good then n.swept else n) i).2.2≠0 then(n,p0,121)else doR (if bool n.Good then n.swept else n) i
theorem Fu{n:Nt}(hn:n.Ok):n.swept.Ok:=Dx hn 0
theorem Ov{n:Nt}{i:Int}{p:Pl}{m:Nt}(h:DoneOk n i p m):1≤p.k∧p.k≤8:=by
 cases h.px<;>omega
structure TurnOkR(n:Nt)(r:Nt×Pl×Int):Prop where
 ok:r.1.Ok
 good:r.1.Good
 cap:r.1.cap=n.cap
 no:r.2.2≠0→r.1=n∧r.2.1=p0
 k:r.2.2=0→1≤r.2.1.k∧r.2.1.k≤8
 e90:r.2.2≠90
theorem OF{a b:Nd}(ha:a.may)(hb:b.may):(ofR a b).2=0∨(ofR a b).2=140∨(ofR a b).2=141:=by
 rcases Dr a b with h|⟨r,h,e⟩
 ·exact(Kw ha hb h).1
 ·have:=(Kw hb ha h).1
  rw[e];unfold S2
  split
  ·exact .inl rfl
  ·exact this
theorem tU{n:Nt}(hn:n.Ok)(hG:n.Good)(i:Int):TurnOkR n (doR n i):=by
 have D:=wa hn i
 obtain⟨r,hr⟩:∃r,doR n i=r:=⟨_,rfl⟩
 rw[hr]at D⊢
 cases D with
 |bad h=>exact absurd hG h
 |none h hm=>exact⟨hn,hG,rfl,fun _=>⟨rfl,rfl⟩,fun h=>by have h:(122:Int)=0:=h;omega,by show(122:Int)≠90;omega⟩
 |pair h e hM he h0=>
  have:=OF hM.ma hM.mb
  exact⟨hn,hG,rfl,fun _=>⟨rfl,rfl⟩,fun h=>absurd h h0,by show e≠90;omega⟩
 |full h p hM hp hu=>exact⟨hn,hG,rfl,fun _=>⟨rfl,rfl⟩,fun h=>by have h:(121:Int)=0:=h;omega,by show(121:Int)≠90;omega⟩
 |done h p m hd=>exact⟨hd.st.ok,hd.st.good,hd.st.cap,fun h=>absurd rfl h,fun _=>Ov hd,by show(0:Int)≠90;omega⟩
theorem Px{n:Nt}(hn:n.Ok)(hG:n.Good)(i:Int):TurnOkR n (QQ n i):=by
 have h1:=tU hn hG i
 unfold QQ
 rw[Pb hG,if_pos rfl]
 have h2:=tU (Fu hn) (jb hG) i
 split
 ·exact h1
 ·split
  ·exact⟨hn,hG,rfl,fun _=>⟨rfl,rfl⟩,fun h=>by have h:(121:Int)=0:=h;omega,by show(121:Int)≠90;omega⟩
  ·rename_i h3 h4
   refine⟨h2.ok,h2.good,h2.cap,fun h=>absurd h h4,h2.k,h2.e90⟩
def bump(t:List Int)(k:Int):List Int:=t.set k.toNat (t.getD k.toNat 0+1)
def YY:List Int→List Int→List Int
 |a::s,b::t=>(a+b)::YY s t
 |_,_=>[]
def tz:List Int:=[0,0,0,0,0,0,0,0,0]
theorem Wg(t:List Int)(k:Int):(bump t k).length=t.length:=by unfold bump;simp
theorem XZ:∀{t:List Int} {k:Nat} {x:Int},k<t.length→(t.set k x).sum=t.sum-t.getD k 0+x
 |[],k,x,h=>by simp at h
 |a::t,0,x,h=>by simp;omega
 |a::t,k+1,x,h=>by
  have h':k<t.length:=by simpa using h
  have:=XZ (x:=x) h'
  simp only[DV,xQ,List.getD_cons_succ,this];omega
theorem Kb{t:List Int}{k:Int}(ht:t.length=9)(h:1≤k∧k≤8):(bump t k).sum=t.sum+1:=by
 unfold bump
 rw[XZ (by omega)];omega
structure Cnt(t:List Int)(d:Int):Prop where
 len:t.length=9
 pos:∀x∈t,0≤x
 sum:t.sum=d
theorem Cnt.bump{t:List Int}{d k:Int}(h:Cnt t d)(hk:1≤k∧k≤8):Cnt (bump t k) (d+1):=by
 refine⟨by rw[Wg,h.len],fun x hx=>?_,by rw[Kb h.len hk,h.sum]⟩
 unfold Go.Proofs.YtmlhgalboabjcaaGreat.bump at hx
 rcases MH hx with hx|rfl
 ·exact h.pos x hx
 ·have hl:=h.len
  have:t.getD k.toNat 0∈t:=by
   rw[Kh,Xb (by omega)];exact xA _
  have:=h.pos _ this
  omega
theorem KJ:∀{t:List Int},(∀x∈t,0≤x)→∀x∈t,x≤t.sum
 |[],_,x,hx=>by simp at hx
 |a::t,h,x,hx=>by
  have h1:=sum_nn (t:=t) (fun y hy=>h y (by simp[hy]))
  have h0:=h a (by simp)
  rw[xQ]
  rcases qY.1 hx with rfl|hx
  ·omega
  ·have:=KJ (t:=t) (fun y hy=>h y (by simp[hy])) x hx;omega
where sum_nn:∀{t:List Int},(∀x∈t,0≤x)→0≤t.sum
 |[],_=>by simp
 |a::t,h=>by
  have:=sum_nn (t:=t) (fun y hy=>h y (by simp[hy]))
  have h0:=h a (by simp)
  rw[xQ];omega
theorem Ut:Cnt tz 0:=⟨rfl,by decide,by decide⟩
theorem xE{x y:Nd}(h:wL y=wL x):y={x with to:=y.to}∧y.to.length=x.to.length:=by
 obtain⟨a1,a2,a3,a4,a5,a6⟩:=x
 obtain⟨b1,b2,b3,b4,b5,b6⟩:=y
 unfold wL at h
 simp only[Nd.mk.injEq]at h⊢
 obtain⟨h1,h2,h3,h4,h5,h6⟩:=h
 have:=congrArg List.length h6
 simp only[Eh]at this
 exact⟨⟨h1,h2,h3,h4,h5,trivial⟩,this⟩
theorem bU{x:Nd}{t:List Pt}(h:t.length=x.to.length):({x with to:=t}:Nd).fresh=x.fresh:=by
 unfold Nd.fresh
 rw[Bk h]
theorem HI{p:Pl}{dx dy ex ey:Nd}{X Y:Nm}{tag:Nat}(h1:wL ex=wL dx)(h2:wL ey=wL dy):I9 p ex ey X Y tag=I9 p dx dy X Y tag:=by
 obtain⟨g1,g2⟩:=xE h1
 obtain⟨k1,k2⟩:=xE h2
 obtain⟨t,ht⟩:∃t,ex.to=t:=⟨_,rfl⟩
 obtain⟨r,hr⟩:∃r,ey.to=r:=⟨_,rfl⟩
 rw[ht]at g1 g2
 rw[hr]at k1 k2
 subst g1 k1
 have m1:∀l,mkA ({dx with to:=t}:Nd) l=mkA dx l:=fun l=>by unfold mkA;rw[bU g2]
 have m2:∀l,mkA ({({dy with to:=r}:Nd)with lv:=p.lv}:Nd) l=mkA ({dy with lv:=p.lv}:Nd) l:=fun l=>by
  unfold mkA
  have:({({dy with to:=r}:Nd)with lv:=p.lv}:Nd)={({dy with lv:=p.lv}:Nd)with to:=r}:=rfl
  rw[this,bU (x:=({dy with lv:=p.lv}:Nd)) k2]
 unfold I9
 simp only[g2,k2,m1]
 rw[show mkA ({k:=dy.k,lv:=p.lv,n:=dy.n,s:=dy.s,al:=dy.al,to:=r}:Nd)=mkA ({dy with lv:=p.lv}:Nd) from funext m2]
 rfl
theorem DZ{p:Pl}{dx dy ex ey:Nd}{X Y U V:Nm}{tag:Nat}(h1:wL ex=wL dx)(h2:wL ey=wL dy):OB p ex ey X Y U V tag=OB p dx dy X Y U V tag:=by
 unfold OB;rw[HI h1 h2]
theorem SI{n m:Nt}{i:Int}{pl:Pl}(hd:DoneOk n i pl m){ν:Int→Nm}{A:Ab}{tag:Nat}(hR:Rep ν n [] A)(hA:∀j,A.nd (tag,j)=none):
  ∃ν',Rep ν' m [] (tw A (OB pl (n.nd (if pl.sw=true then Ga n i else i)) (n.nd (if pl.sw=true then i else Ga n i)) (ν (if pl.sw=true then Ga n i else i)) (ν (if pl.sw=true then i else Ga n i)) (ν (max i (Ga n i))) (ν (min i (Ga n i))) tag))∧∀k,Us n k→k≠i→k≠Ga n i→ν' k=ν k:=by
 have hM:=hd.meet
 have px:=hd.px
 have room:=hd.room
 rw[hd.net]
 cases hsw:pl.sw with
 |true=>
  rw[hsw]at px
  simp only[if_true]at px⊢
  unfold OQ at room
  rw[hsw,if_pos rfl]at room
  obtain⟨ν',r1,r2⟩:=Qu (tag:=tag) hM.swap px room hR hA
  refine⟨ν',?_,fun k h1 h2 h3=>r2 k h1 h3 h2⟩
  rw[Int.max_comm i,Int.min_comm i];exact r1
 |false=>
  rw[hsw]at px
  simp only[SY,if_false]at px⊢
  unfold OQ at room
  rw[hsw,if_neg (by simp)]at room
  obtain⟨ν',r1,r2⟩:=Qu (tag:=tag) hM px room hR hA
  exact⟨ν',r1,r2⟩
structure PlanM(x y:Nd)(p:Pl):Prop where
 m6:p.k=6→x.lv=y.lv
 m7:p.k=7→x.lv<y.lv∧p.lv=y.lv+dl x.k
 m4:p.k=4→p.nd.lv=x.lv∧B0 p.nd.k
theorem uM(x y:Nd):B0 (FD x y).k:=by
 unfold FD B0
 repeat' split
 all_goals first
  |exact .inr (.inr (.inl rfl))
  |exact .inr (.inl rfl)
theorem rG{x y:Nd}(hy:y.may){r:Pl×Int}(h:Src x y r)(h0:r.2=0)(p:Pl)(hk:p.k=r.1.k)(hl:p.lv=r.1.lv)(hn:p.nd=r.1.nd):PlanM x y p:=by
 have y0:=hy.lv0
 have y1:=hy.lv1
 cases h with
 |no=>have h0:(140:Int)=0:=h0;omega
 |drop h=>have hk:p.k=8:=hk;exact⟨fun e=>by omega,fun e=>by omega,fun e=>by omega⟩
 |join h1 h2 h3=>have hk:p.k=6:=hk;exact⟨fun _=>h3,fun e=>by omega,fun e=>by omega⟩
 |pass h1=>
  unfold IB at h0 hk hl hn
  split at h0
  ·have h0:(140:Int)=0:=h0;omega
  rename_i g1
  rw[if_neg g1]at hk hl hn
  split at h0
  ·have h0:(141:Int)=0:=h0;omega
  rename_i g2
  rw[if_neg g2]at hk hl hn
  rw[Mh ⟨y0,y1⟩]at hl
  have hk:p.k=7:=hk
  have hl:p.lv=if x.k=5 then y.lv-1 else if x.k=6 then y.lv+1 else y.lv:=hl
  refine⟨fun e=>by omega,fun e=>⟨by omega,?_⟩,fun e=>by omega⟩
  rw[hl];unfold dl
  split
  ·omega
  ·split<;>omega
 |ask h1 h2=>
  have key:∀k:Int,p.k=k→k≠6→k≠7→k≠4→PlanM x y p:=fun k e a b c=>⟨fun e=>by omega,fun e=>by omega,fun e=>by omega⟩
  unfold Kl at h0 hk hl hn
  split at h0
  ·rename_i c1
   rw[if_pos c1]at hk hl hn
   split at h0
   ·have h0:(140:Int)=0:=h0;omega
   ·rename_i c2;rw[if_neg c2]at hk;exact key 1 hk (by decide) (by decide) (by decide)
  rename_i c1
  rw[if_neg c1]at hk hl hn
  split at h0
  ·rename_i c2
   rw[if_pos c2]at hk hl hn
   unfold To at h0 hk hl hn
   split at h0
   ·have h0:(140:Int)=0:=h0;omega
   ·rename_i c3
    rw[if_neg c3]at hk hl hn
    split at h0
    ·rename_i c4;rw[if_pos c4]at hk;exact key 5 hk (by decide) (by decide) (by decide)
    ·rename_i c4;rw[if_neg c4]at hk;exact key 2 hk (by decide) (by decide) (by decide)
  rename_i c2
  rw[if_neg c2]at hk hl hn
  split at h0
  ·rename_i c3;rw[if_pos c3]at hk;exact key 3 hk (by decide) (by decide) (by decide)
  rename_i c3
  rw[if_neg c3]at hk hl hn
  split at h0
  ·rename_i c4
   rw[if_pos c4]at hk hl hn
   unfold Pq at h0 hk hl hn
   split at h0
   ·rename_i c5;rw[if_pos c5]at hk;exact key 5 hk (by decide) (by decide) (by decide)
   ·rename_i c5
    rw[if_neg c5]at hk hl hn
    have hk:p.k=4:=hk
    refine⟨fun e=>by omega,fun e=>by omega,fun _=>?_⟩
    rw[hn]
    exact⟨rfl,uM x y⟩
  ·rename_i c4;rw[if_neg c4]at hk;exact key 5 hk (by decide) (by decide) (by decide)
theorem Cw{r:Pl×Int}(h:(S2 r).2=0):r.2=0∧S2 r=(⟨r.1.k,true,r.1.lv,r.1.alt,r.1.nd⟩,0):=by
 unfold S2 at h⊢
 by_cases e:r.2=0
 ·rw[if_pos e];exact⟨e,rfl⟩
 ·rw[if_neg e]at h;exact absurd h e
theorem vr{x y:Nd}{r:Pl×Int}(h:Src x y r):r.1.sw=false:=by
 cases h with
 |no=>rfl
 |drop=>rfl
 |join=>rfl
 |pass=>exact(Df x y).sw
 |ask=>exact(ux x y).sw
theorem W3{a b:Nd}(ha:a.may)(hb:b.may){p:Pl}(h:ofR a b=(p,0)):PlanM (if p.sw=true then b else a) (if p.sw=true then a else b) p:=by
 rcases Dr a b with hs|⟨r,hs,e⟩
 ·rw[h]at hs
  have hsw:p.sw=false:=vr hs
  rw[hsw]
  exact rG hb hs rfl p rfl rfl rfl
 ·rw[h]at e
  have e0:(S2 r).2=0:=by rw[←e]
  obtain⟨r0,r1⟩:=Cw e0
  rw[r1]at e
  injection e with e _
  have hsw:p.sw=true:=by rw[e]
  rw[hsw]
  exact rG ha hs r0 p (by rw[e]) (by rw[e]) (by rw[e])
theorem cH{A:Ab}{X Y:Nm}{x y:Nd}{tag:Nat}(h:Sit A X Y x y tag){p:Pl}(hp:PlanX x y p)(hm:PlanM x y p)(lx:x.to.length≤10)(ax:(x.al.length:Int)≤8){U V:Nm}(hU:U=X∨U=Y)(hV:V=X∨V=Y){Z:Nm}(hX:Z≠X)(hY:Z≠Y)(hR:OkR A Z):
  OkR (tw A (OB p x y X Y U V tag)) Z:=by
 show OkR (whole A X Y U V (I9 p x y X Y tag)) Z
 cases hp with
 |beta h1 hx hy=>
  have e:I9 p x y X Y tag=Zf X Y (List.range' 1 (x.to.length-1)):=by unfold I9;rw[h1];simp
  rw[e];exact mV h hx hy hU hV hX hY hR
 |join h1 hx hy=>
  have e:I9 p x y X Y tag=Zf X Y (List.range' 1 (x.to.length-1)):=by unfold I9;rw[h1];simp
  rw[e];exact fP h hy (hm.m6 h1) ((Lq _).1 hx) hU hV hX hY hR
 |pick i B h1 hx hy h2 h3 h4=>
  have hil:=(QU.1 h3).1
  have hA2:x.al.getD p.alt.toNat zA=B:=by rw[h2,KA,Kh,h3];rfl
  have e1:x.to.length=2+x.al.length:=by
   have:=h.px
   unfold Nd.ports at this;rw[hx]at this
   simp at this;omega
  have ly:1≤y.to.length:=by
   obtain⟨z,hz,_,g2⟩:=h.dom _ _ h.kl
   have hz:A.nd Y=some z:=hz
   rw[h.hy]at hz
   rw[←BQ hz]at g2
   have g2:(0:Int)<y.to.length:=g2;omega
  have hil':i<x.al.length:=hil
  have hrest:((Mr X 2 x.to.length).filter fun r=> !decide (r=(X,p.alt+2)))=eV x X i:=by unfold eV;rw[h2]
  obtain⟨N,hN⟩:∃N:Nat,B.n.toNat=N:=⟨_,rfl⟩
  obtain⟨P,hP⟩:∃P,eV x X i=P:=⟨_,rfl⟩
  have e:I9 p x y X Y tag=(mkA (vQ x.lv) (uX tag 0 N)++(mkA (PN x.lv) (uX tag N P.length)++
   ((match uX tag 0 N with|[]=>[AO.jn (X,(i:Int)+2) (X,1)]|d::_=>[AO.mv (X,(i:Int)+2) (d,0)])++
     (wV X Y 0 (uX tag 0 N)++dropA P (uX tag N P.length))))):=by
   unfold I9
   rw[if_neg (by omega),if_pos h1,hA2,hN,hrest,hP,h2]
   try rfl
  rw[e]
  cases N with
  |zero=>
   have e2:uX tag 0 0=[]:=rfl
   rw[e2]
   show OkR (whole A X Y U V ([]++(mkA (PN x.lv) (uX tag 0 P.length)++([AO.jn (X,(i:Int)+2) (X,1)]++([]++dropA P (uX tag 0 P.length)))))) Z
   rw[Es,Es,←hP]
   exact ve h hx hy (by omega) (qi ..) (fun e he=>(gw.1 he).1) (fun o ho=>by
    obtain⟨m,hm,k⟩:=Yf ho
    exact⟨m,_,k,(gw.1 hm).1⟩) hU hV hX hY hR
  |succ N=>
   have e2:uX tag 0 (N+1)=(tag,0)::(uX tag 0 (N+1)).tail:=by
    have:=Qo (t:=tag) (j:=0) (k:=N+1) (i:=0) (by omega)
    cases hd:uX tag 0 (N+1)with
    |nil=>rw[hd]at this;simp at this
    |cons a r=>rw[hd]at this;simp at this;rw[this];rfl
   have e3:(match uX tag 0 (N+1)with|[]=>[AO.jn (X,(i:Int)+2) (X,1)]|d::_=>[AO.mv (X,(i:Int)+2) (d,0)])=[AO.mv (X,(i:Int)+2) ((tag,0),0)]:=by rw[e2]
   rw[e3,←hP]
   exact Lt h hx hy (by omega) (by omega) hU hV hX hY hR
 |half h1 hx hy=>
  have e:I9 p x y X Y tag=[.mk (tag,0) (wL (nz x y).fresh),.mv (X,2) ((tag,0),0),.mv (X,1) ((tag,0),1)]:=by unfold I9;rw[h1];simp
  rw[e];exact Ba h hx hy hU hV hX hY hR
 |out h1 hx hy g1 g2 g3 g4 g5=>
  have e:I9 p x y X Y tag=[.mk (tag,0) (wL p.nd.fresh),.mv (X,1) ((tag,0),0)]:=by unfold I9;rw[h1];simp
  rw[e];exact Ed h hx hy (hm.m4 h1).2 (hm.m4 h1).1 g3 hU hV hX hY hR
 |fail h1 hx hy=>
  have e:I9 p x y X Y tag=Vx x y X Y tag:=by
   unfold I9 Vx
   rw[if_neg (by omega),if_neg (by omega),if_neg (by omega),if_neg (by omega),if_pos h1]
  rw[e];exact MU h hx hy hU hV hX hY hR
 |pass h1 hx hy g1 g2=>
  obtain⟨m1,m2⟩:=hm.m7 h1
  have e:I9 p x y X Y tag=(mkA {y with lv:=p.lv} (uX tag 0 (x.to.length-1))++(mkA x (uX tag (x.to.length-1) (y.to.length-1))++(dropA (Mr X 1 x.to.length) (uX tag 0 (x.to.length-1))++sU Y (uX tag 0 (x.to.length-1)) 0 (uX tag (x.to.length-1) (y.to.length-1))))):=by
   unfold I9
   rw[if_neg (by omega),if_neg (by omega),if_neg (by omega),if_neg (by omega),if_neg (by omega),if_pos h1]
  rw[e];exact zU h ((Lq _).1 hx) m1 m2 hU hV hX hY hR
 |drop h1 hx hy=>
  have e:I9 p x y X Y tag=mkA (PN x.lv) (uX tag 0 (Mr Y 1 y.to.length).length)++dropA (Mr Y 1 y.to.length) (uX tag 0 (Mr Y 1 y.to.length).length):=by
   unfold I9
   rw[if_neg (by omega),if_neg (by omega),if_neg (by omega),if_neg (by omega),if_neg (by omega),if_neg (by omega),if_pos h1]
  rw[e]
  have tn:∀j k,∀d∈uX tag j k,d.1=tag:=fun j k d hd=>(gw.1 hd).1
  exact lS h hx (.app (.mkA (tn _ _)) (.dropA h.nX h.nY (BI ..) (qi ..) (fun p hp=>.inr (Y0 hp)) (tn _ _)) fun o ho u _=>U4 ho) hU hV hX hY hR
def vZ(n:Nt):Prop:=∃ν A,Rep ν n [] A∧OkR A (ν 0)
theorem yb{n:Nt}{ν:Int→Nm}{A:Ab}(hG:n.Good)(hR:Rep ν n [] A):Kv A.lk:=by
 intro r u hu
 obtain⟨p,p1,_,rfl⟩:=hR.out r u hu
 have c1:=hR.cl p p1 (by simp)
 rw[hu]at c1
 have c1:=BQ c1
 subst c1
 obtain⟨l1,l2,l3⟩:=aF hG p1
 refine⟨fun e=>l1 (hR.injP hG.semi l2 p1 e),?_⟩
 rw[hR.cl _ l2 (by simp),l3]
theorem Kz{n:Nt}{ν:Int→Nm}{A:Ab}(hR:Rep ν n [] A):∃tag,∀j,A.nd (tag,j)=none:=by
 obtain⟨t,ht⟩:∃t:Nat,∀i:Nat,i<n.ns.length→(ν i).1<t:=by
  have:∀k:Nat,∃t:Nat,∀i:Nat,i<k→(ν i).1<t:=by
   intro k
   induction k with
   |zero=>exact⟨0,fun i hi=>by omega⟩
   |succ k ih=>
    obtain⟨t,ht⟩:=ih
    refine⟨max t ((ν k).1+1),fun i hi=>?_⟩
    by_cases e:i=k
    ·subst e;omega
    ·have:=ht i (by omega);omega
  exact this _
 refine⟨t,fun j=>?_⟩
 cases h:A.nd (t,j)with
 |none=>rfl
 |some y=>
  obtain⟨i,hi,e⟩:=hR.only _ _ h
  have:=ht i.toNat (by have:=hi.1;have:=hi.2.1;omega)
  rw[show((i.toNat:Nat):Int)=i by have:=hi.1;omega,e]at this
  simp only at this;omega
theorem Cz{x y:Nd}{p:Pl}(h:PlanX x y p):PlanX (wL x) (wL y) p:=by
 cases h with
 |beta h hx hy=>exact .beta h hx hy
 |pick i B h hx hy h1 h2 h3=>exact .pick i B h hx hy h1 h2 (by rw[h3];simp[wL])
 |half h hx hy=>exact .half h hx hy
 |out h hx hy h1 h2 h3 h4 h5=>exact .out h hx hy h1 h2 h3 h4 h5
 |fail h hx hy=>exact .fail h hx hy
 |join h hx hy=>exact .join h hx hy
 |pass h hx hy h1 h2=>exact .pass h hx hy h1 h2
 |drop h hx hy=>exact .drop h hx hy
theorem Gt(x:Nd):(wL x).to.length=x.to.length:=by simp[wL]
theorem NO(x:Nd):wL (wL x)=wL x:=by simp[wL]
theorem P9(x:Nd):(wL x).ports=x.ports:=by unfold wL;exact Bk (by simp)
theorem rq{n:Nt}{a b:Int}(hM:Meet n a b){ν:Int→Nm}{A:Ab}(hR:Rep ν n [] A){tag:Nat}(hA:∀j,A.nd (tag,j)=none):Sit A (ν a) (ν b) (wL (n.nd a)) (wL (n.nd b)) tag:=by
 have hG:=hM.good
 refine⟨yb hG hR,?_,hR.nd a hM.usA,hR.nd b hM.usB,fun p q hpq=>?_,fun Z z s hz h0 h1=>?_,hA,by rw[Gt,P9];exact hM.pa,by rw[Gt,P9];exact hM.pb⟩
 ·have:=hR.cl ⟨a,0⟩ hM.ha (by simp)
  rw[hM.la]at this
  exact this
 ·obtain⟨r,r1,_,rfl⟩:=hR.out p q hpq
  have h1:=sJ.1 r1
  exact⟨_,hR.nd r.n (Kx hG.semi r1),h1.2.2.1,by rw[Gt];exact h1.2.2.2⟩
 ·obtain⟨i,hi,rfl⟩:=hR.only _ _ hz
  rw[hR.nd i hi]at hz
  rw[←BQ hz,Gt]at h1
  exact⟨_,hR.cl ⟨i,s⟩ (sJ.2 ⟨hi.1,hi.2.1,h0,h1⟩) (by simp)⟩
theorem XO{n m:Nt}{i:Int}{pl:Pl}(hd:DoneOk n i pl m)(h:vZ n):vZ m:=by
 obtain⟨ν,A,hR,hO⟩:=h
 obtain⟨tag,hA⟩:=Kz hR
 obtain⟨ν',hR',hν⟩:=SI (tag:=tag) hd hR hA
 have hM:=hd.meet
 have px:=hd.px
 have pm:=W3 hM.ma hM.mb hd.pl
 obtain⟨pa,pb⟩:=iv px
 have h0:Us n 0:=by
  obtain⟨y,hy,hk⟩:=OR hM.good
  have:=P6 (n:=n) (j:=0)
  exact this.2 ⟨y,hy,by omega⟩
 have k0:(n.nd 0).k=1:=by
  obtain⟨y,hy,hk⟩:=OR hM.good
  have:=EZ hy
  have e:n.nd 0=y:=this
  rw[e];exact hk
 have n1:(0:Int)≠i:=by
  rintro rfl
  cases hsw:pl.sw<;>rw[hsw]at pa pb<;>simp only[if_true,if_false,SY]at pa pb
  ·exact pa k0
  ·exact pb k0
 have n2:(0:Int)≠Ga n i:=by
  intro e
  rw[←e]at pa pb
  cases hsw:pl.sw<;>rw[hsw]at pa pb<;>simp only[if_true,if_false,SY]at pa pb
  ·exact pb k0
  ·exact pa k0
 have e0:=hν 0 h0 n1 n2
 refine⟨ν',_,hR',?_⟩
 rw[e0]
 have nn:∀j,Us n j→(0:Int)≠j→ν 0≠ν j:=fun j hj k e=>k (hR.inj 0 j h0 hj e)
 have hmx:ν (max i (Ga n i))=ν i∨ν (max i (Ga n i))=ν (Ga n i):=by
  rcases Int.le_total i (Ga n i)with k|k
  ·rw[Int.max_eq_right k];exact .inr rfl
  ·rw[Int.max_eq_left k];exact .inl rfl
 have hmn:ν (min i (Ga n i))=ν i∨ν (min i (Ga n i))=ν (Ga n i):=by
  rcases Int.le_total i (Ga n i)with k|k
  ·rw[Int.min_eq_left k];exact .inl rfl
  ·rw[Int.min_eq_right k];exact .inr rfl
 cases hsw:pl.sw with
 |true=>
  rw[hsw]at px pm
  simp only[if_true]at px pm⊢
  rw[←DZ (NO _) (NO _)]
  exact cH (rq hM.swap hR hA) (Cz px) ⟨pm.m6,pm.m7,pm.m4⟩ (by rw[Gt];have:=RW hM.mb hM.pb;omega) (hM.mb.al8) hmx.symm hmn.symm (nn _ hM.usB n2) (nn _ hM.usA n1) hO
 |false=>
  rw[hsw]at px pm
  simp only[if_false,SY]at px pm⊢
  rw[←DZ (NO _) (NO _)]
  exact cH (rq hM hR hA) (Cz px) ⟨pm.m6,pm.m7,pm.m4⟩ (by rw[Gt];have:=RW hM.ma hM.pa;omega) (hM.ma.al8) hmx hmn (nn _ hM.usA n1) (nn _ hM.usB n2) hO
theorem Ok.loc{A B:Ab}{P:Nm→Prop}(hn:∀Z z,P Z→A.nd Z=some z→B.nd Z=some z)(hl:∀Z s q,P Z→A.lk (Z,s)=some q→B.lk (Z,s)=some q∧P q.1){S:Sc}{q:NP}{c:Cx}(h:Ok A S q c):P q.1→Ok B S q c:=by
 induction h with
 |node f hx hk hc hf _ ih=>exact fun hP=>.node f (hn _ _ hP hx) hk hc (fun s hs=>(hl _ _ _ hP (hf s hs)).1) fun s hs e he=>ih s hs e he (hl _ _ _ hP (hf s hs)).2
 |var hx hk hS hd=>exact fun hP=>.var (hn _ _ hP hx) hk hS hd
 |fw hx hc hq _ ih=>exact fun hP=>.fw (hn _ _ hP hx) hc (hl _ _ _ hP hq).1 (ih (hl _ _ _ hP hq).2)
 |bw hx hc hq _ ih=>exact fun hP=>.bw (hn _ _ hP hx) hc (hl _ _ _ hP hq).1 (ih (hl _ _ _ hP hq).2)
theorem sB{n:Nt}(hG:n.Good)(i:Int):Us n.swept i↔Us n i∧Rch n i.toNat:=by
 constructor
 ·intro h
  obtain⟨k,rfl⟩:∃k:Nat,i=k:=⟨i.toNat,by have:=h.1;omega⟩
  obtain⟨z,hz,hk⟩:=P6.1 h
  rcases Hf hz with⟨h1,h2⟩|⟨_,h2⟩
  ·exact⟨P6.2 ⟨z,h2,hk⟩,by rwa [KA]⟩
  ·rw[h2]at hk;exact absurd rfl hk
 ·rintro⟨h,hr⟩
  obtain⟨k,rfl⟩:∃k:Nat,i=k:=⟨i.toNat,by have:=h.1;omega⟩
  obtain⟨z,hz,hk⟩:=P6.1 h
  rw[KA]at hr
  exact P6.2 ⟨z,zT hG hr hz,hk⟩
theorem O0{n:Nt}{i:Int}(h:Us n.swept i):n.swept.nd i=n.nd i:=by
 obtain⟨k,rfl⟩:∃k:Nat,i=k:=⟨i.toNat,by have:=h.1;omega⟩
 obtain⟨z,hz,hk⟩:=P6.1 h
 rcases Hf hz with⟨h1,h2⟩|⟨_,h2⟩
 ·rw[EZ hz,EZ h2]
 ·rw[h2]at hk;exact absurd rfl hk
theorem ER{n:Nt}(hG:n.Good){p:Pt}:n.swept.has p=true↔n.has p=true∧Rch n p.n.toNat:=by
 constructor
 ·intro h
  have hu:=Kx (jb hG).semi h
  obtain⟨h1,h2⟩:=(sB hG _).1 hu
  have h3:=sJ.1 h
  rw[O0 hu]at h3
  exact⟨sJ.2 ⟨h1.1,h1.2.1,h3.2.2⟩,h2⟩
 ·rintro⟨h,hr⟩
  have hu:=(sB hG _).2 ⟨Kx hG.semi h,hr⟩
  have h3:=sJ.1 h
  refine sJ.2 ⟨hu.1,hu.2.1,?_⟩
  rw[O0 hu];exact h3.2.2
theorem R1{n:Nt}(hG:n.Good){p:Pt}(h:n.has p=true):Rch n (n.lk p).n.toNat↔Rch n p.n.toNat:=by
 have h1:=sJ.1 h
 have hx:=OA h1.1 h1.2.1
 obtain⟨q,hq⟩:∃q,(n.nd p.n).to[p.s.toNat]? =some q:=⟨_,Xb (by omega)⟩
 have hl:n.lk p=q:=by
  have:=Kp hx hq
  rw[show(⟨((p.n.toNat:Nat):Int),((p.s.toNat:Nat):Int)⟩:Pt)=p by
   obtain⟨u,v⟩:=p
   simp only at h1⊢
   rw[show((u.toNat:Nat):Int)=u by omega,show((v.toNat:Nat):Int)=v by omega]]at this
  exact this
 obtain⟨_,g2,_⟩:=aF hG h
 have g3:=(sJ.1 g2).1
 rw[hl]at g3⊢
 exact Ej hG hx hq (by omega)
theorem ze{n:Nt}(hG:n.Good)(h:vZ n):vZ n.swept:=by
 obtain⟨ν,A,hR,hO⟩:=h
 obtain⟨P,hP⟩:∃P:Nm→Prop,∀u,P u↔∃i,Us n i∧Rch n i.toNat∧ν i=u:=⟨fun u=>_,fun _=>Iff.rfl⟩
 have pi:∀i,Us n i→(P (ν i)↔Rch n i.toNat):=fun i hi=>by
  rw[hP]
  exact⟨fun⟨j,j1,j2,j3⟩=>hR.inj j i j1 hi j3▸j2,fun k=>⟨i,hi,k,rfl⟩⟩
 refine⟨ν,⟨fun u=>if bool (P u)=true then A.nd u else none,fun r=>if bool (P r.1)=true then A.lk r else none⟩,⟨fun i j hi hj e=>hR.inj i j ((sB hG i).1 hi).1 ((sB hG j).1 hj).1 e,fun i hi=>?_,fun u y hu=>?_,fun p hp _=>?_,fun p hp=>by simp at hp,fun r u hu=>?_⟩,?_⟩
 ·have hi':=(sB hG i).1 hi
  show(if bool (P (ν i))=true then A.nd (ν i)else none)=_
  rw[if_pos (Vz.2 ((pi i hi'.1).2 hi'.2)),hR.nd i hi'.1,O0 hi]
 ·have hu:(if bool (P u)=true then A.nd u else none)=some y:=hu
  split at hu
  ·rename_i hb
   obtain⟨i,i1,i2,i3⟩:=(hP u).1 (Vz.1 hb)
   exact⟨i,(sB hG i).2 ⟨i1,i2⟩,i3⟩
  ·cases hu
 ·obtain⟨h1,h2⟩:=(ER hG).1 hp
  have hu:=Kx hG.semi h1
  show(if bool (P (ν p.n))=true then A.lk (nmP ν p)else none)=_
  rw[if_pos (Vz.2 ((pi _ hu).2 h2)),hR.cl p h1 (by simp)]
  have hus:=(sB hG _).2 ⟨hu,h2⟩
  unfold Nt.lk
  rw[O0 hus]
 ·have hu:(if bool (P r.1)=true then A.lk r else none)=some u:=hu
  split at hu
  ·rename_i hb
   obtain⟨p,p1,_,rfl⟩:=hR.out r u hu
   exact⟨p,(ER hG).2 ⟨p1,(pi _ (Kx hG.semi p1)).1 (Vz.1 hb)⟩,by simp,rfl⟩
  ·cases hu
 ·obtain⟨⟨z,z1,z2⟩,q,q1,q2⟩:=hO
  obtain⟨p,p1,_,p3⟩:=hR.out _ _ q1
  have e0:ν 0=ν p.n:=congrArg Prod.fst p3
  have h0:Us n 0:=by
   obtain⟨y,hy,hk⟩:=OR hG
   have:=P6 (n:=n) (j:=0)
   exact this.2 ⟨y,hy,by omega⟩
  have P0:P (ν 0):=(pi 0 h0).2 .root
  have hl:∀Z s q,P Z→A.lk (Z,s)=some q→(if bool (P Z)=true then A.lk (Z,s)else none)=some q∧P q.1:=fun Z s q hZ hq=>by
   refine⟨by rw[if_pos (Vz.2 hZ)];exact hq,?_⟩
   obtain⟨r,r1,_,r3⟩:=hR.out _ _ hq
   have eZ:Z=ν r.n:=congrArg Prod.fst r3
   rw[r3,hR.cl r r1 (by simp)]at hq
   rw[←BQ hq]
   obtain⟨_,g2,_⟩:=aF hG r1
   rw[eZ]at hZ
   exact(pi _ (Kx hG.semi g2)).2 ((R1 hG r1).2 ((pi _ (Kx hG.semi r1)).1 hZ))
  refine⟨⟨z,by show(if bool (P (ν 0))=true then A.nd (ν 0)else none)=_;rw[if_pos (Vz.2 P0)];exact z1,z2⟩,q,(hl _ _ _ P0 q1).1,q2.loc (P:=P) (fun Z z hZ hz=>by show(if bool (P Z)=true then A.nd Z else none)=_;rw[if_pos (Vz.2 hZ)];exact hz) hl (hl _ _ _ P0 q1).2⟩
theorem PU{n:Nt}(hn:n.Ok){p:Pt}(hp:wf p.n∧wf p.s):eP S 53 [.g (Ip n),.g (xN p)]=some (.t [(false,[.i .i64 (DR n p).en]),(false,[.b (DR n p).is]),(false,[.i .i64 (DR n p).e])]):=by
 refine Cf (xO (by decide)) (fc:=F53) rfl rfl ?_
 have c1:=D7 hn hp
 simp only[Ip,xN,cu]at c1
 simp only[F53,c1,nxB,evO,simprocAttr]
structure HR where
 n:Nt
 at_:Int
 t:List Int
 e:Int
noncomputable def gq(p:Pt):Nat→Nt→List Int→HR
 |0,n,t=>if(DR n p).e≠0 then⟨n,0,t,(DR n p).e⟩else if(DR n p).is=false then⟨n,(DR n p).en,t,0⟩else⟨n,0,t,90⟩
 |k+1,n,t=>if(DR n p).e≠0 then⟨n,0,t,(DR n p).e⟩else if(DR n p).is=false then⟨n,(DR n p).en,t,0⟩else
  if(QQ n (DR n p).en).2.2≠0 then⟨n,0,t,(QQ n (DR n p).en).2.2⟩else gq p k (QQ n (DR n p).en).1 (bump t (QQ n (DR n p).en).2.1.k)
structure PR where
 n:Nt
 t:List Int
 e:Int
noncomputable def vK:List Int→Nt→List Int→PR
 |[],n,t=>⟨n,t,0⟩
 |i::l,n,t=>if n.rds.length=0 then⟨n,t,0⟩else
  if(QQ n (n.rds.getD (oJ i n.rds.length) zP).n).2.2≠0 then⟨n,t,(QQ n (n.rds.getD (oJ i n.rds.length) zP).n).2.2⟩
  else vK l (QQ n (n.rds.getD (oJ i n.rds.length) zP).n).1 (bump t (QQ n (n.rds.getD (oJ i n.rds.length) zP).n).2.1.k)
theorem vp(n:Nt):∀(k:Nat) (l:List Int) (p:Pt),(WZ n k l p).e≠90:=by
 intro k
 induction k with
 |zero=>intro l p;unfold WZ;first|(split<;>simp)|simp
 |succ k ih=>
  intro l p
  unfold WZ
  repeat' split
  all_goals first|exact ih _ _|simp
theorem ZG(n:Nt)(p:Pt):(DR n p).e≠90:=by
 unfold DR
 split
 ·split
  ·exact vp _ _ _ _
  ·simp
 ·simp
structure HOk(n0:Nt)(d0:Int)(k:Nat)(r:HR):Prop where
 ok:r.n.Ok
 good:r.n.Good
 cap:r.n.cap=n0.cap
 cnt:∃d,Cnt r.t d∧d0≤d∧d≤d0+k∧(r.e=90→d=d0+k)
theorem head_ok(p:Pt):∀(k:Nat) {n:Nt} {t:List Int} {d:Int},n.Ok→n.Good→Cnt t d→HOk n d k (gq p k n t):=by
 intro k
 induction k with
 |zero=>
  intro n t d hn hG hC
  have h9:=ZG n p
  unfold gq
  split
  ·exact⟨hn,hG,rfl,d,hC,by omega,by omega,fun h=>absurd h h9⟩
  ·split
   ·exact⟨hn,hG,rfl,d,hC,by omega,by omega,fun h=>by simp at h⟩
   ·exact⟨hn,hG,rfl,d,hC,by omega,by omega,fun h=>by omega⟩
 |succ k ih=>
  intro n t d hn hG hC
  have h9:=ZG n p
  have hT:=Px hn hG (DR n p).en
  unfold gq
  split
  ·exact⟨hn,hG,rfl,d,hC,by omega,by omega,fun h=>absurd h h9⟩
  ·split
   ·exact⟨hn,hG,rfl,d,hC,by omega,by omega,fun h=>by simp at h⟩
   ·split
    ·exact⟨hn,hG,rfl,d,hC,by omega,by omega,fun h=>absurd h hT.e90⟩
    ·rename_i h1 h2 h3
     have h3:(QQ n (DR n p).en).2.2=0:=by omega
     have H:=ih hT.ok hT.good (hC.bump (hT.k h3))
     obtain⟨d',e1,e2,e3,e4⟩:=H.cnt
     exact⟨H.ok,H.good,H.cap.trans hT.cap,d',e1,by omega,by omega,fun h=>by have:=e4 h;omega⟩
structure POk(n0:Nt)(d0:Int)(k:Nat)(r:PR):Prop where
 ok:r.n.Ok
 good:r.n.Good
 cap:r.n.cap=n0.cap
 cnt:∃d,Cnt r.t d∧d0≤d∧d≤d0+k
theorem XJ:∀(l:List Int) {n:Nt} {t:List Int} {d:Int},n.Ok→n.Good→Cnt t d→POk n d l.length (vK l n t):=by
 intro l
 induction l with
 |nil=>intro n t d hn hG hC;exact⟨hn,hG,rfl,d,hC,by omega,by simp⟩
 |cons i l ih=>
  intro n t d hn hG hC
  have hT:=Px hn hG (n.rds.getD (oJ i n.rds.length) zP).n
  unfold vK
  simp only[Ce]
  split
  ·exact⟨hn,hG,rfl,d,hC,by omega,by omega⟩
  ·split
   ·exact⟨hn,hG,rfl,d,hC,by omega,by omega⟩
   ·rename_i h1 h2
    have h3:(QQ n (n.rds.getD (oJ i n.rds.length) zP).n).2.2=0:=by omega
    have H:=ih hT.ok hT.good (hC.bump (hT.k h3))
    obtain⟨d',e1,e2,e3⟩:=H.cnt
    exact⟨H.ok,H.good,H.cap.trans hT.cap,d',e1,by omega,by omega⟩
inductive Way(A:Ab):Nat→NP→Prop
 |stop {q:NP}:q.2=0→Way A 0 q
 |step {k:Nat} {q r:NP}:q.2≠0→A.lk (q.1,0)=some r→Way A k r→Way A (k+1) q
theorem Way.det{A:Ab}{k:Nat}{q:NP}(h:Way A k q):∀{m:Nat},Way A m q→k=m:=by
 induction h with
 |stop h0=>
  intro m g
  cases g with
  |stop _=>rfl
  |step g0 _ _=>exact absurd h0 g0
 |step h0 h1 _ ih=>
  intro m g
  cases g with
  |stop g0=>exact absurd g0 h0
  |step g0 g1 g2=>
   rw[h1]at g1
   rw[←BQ g1]at g2
   rw[ih g2]
theorem Way.det'{A:Ab}{k m:Nat}{W:Nm}{s t:Int}(h:Way A k (W,s))(g:Way A m (W,t))(hs:s≠0)(ht:t≠0):k=m:=by
 cases h with
 |stop h0=>exact absurd h0 hs
 |step _ h1 h2=>
  cases g with
  |stop g0=>exact absurd g0 ht
  |step _ g1 g2=>
   have h1:A.lk (W,0)=_:=h1
   have g1:A.lk (W,0)=_:=g1
   rw[h1]at g1
   rw[←BQ g1]at g2
   rw[h2.det g2]
def gT(A:Ab)(S:Sc):Prop:=∀Z d z,S Z d→A.nd Z=some z→z.k≠2
def qW(A:Ab):Prop:=∀Z z,A.nd Z=some z→ent z.k=1→0<z.to.length
theorem iZ{k:Int}(h:ent k=1):H7 k 0 []∧k≠2:=by
 refine⟨?_,?_⟩
 ·unfold H7
  rw[if_neg]
  rintro(e|e)
  ·rw[e]at h;simp[ent]at h
  ·exact absurd e.2 (by decide)
 ·rintro rfl;simp[ent]at h
theorem gT.add{A:Ab}{S:Sc}{X:Nm}{x:Nd}{c:Cx}(h:gT A S)(hx:A.nd X=some x)(hk:x.k≠2):gT A (S.add X c):=by
 rintro Z d z (k|⟨rfl,_⟩) hz
 ·exact h Z d z k hz
 ·rw[hx]at hz;rw[←BQ hz];exact hk
theorem sub0{A:Ab}(hA:qW A){X:Nm}{x:Nd}(hx:A.nd X=some x)(e:ent x.k=1):tW x 0:=⟨kS _,by have:=hA X x hx e;omega,by rw[e];decide,fun h=>absurd h.2 (by decide)⟩
theorem Uu{A:Ab}(hA:qW A){S:Sc}{q:NP}{c:Cx}(h:Ok A S q c):gT A S→∃k,Way A k q:=by
 induction h with
 | @node S X x c f hx hk hc hf h ih=>
   intro hS
   rcases DN x.k with e|e
   ·exact⟨0,.stop e⟩
   ·have hs:=sub0 hA hx e
    obtain⟨k,hk'⟩:=ih 0 hs [] (iZ e).1 (hS.add hx (iZ e).2)
    exact⟨k+1,.step (by show ent x.k≠0;omega) (hf 0 hs) hk'⟩
 |var hx hk hS' hd=>exact fun hS=>absurd hk (hS _ _ _ hS' hx)
 |fw hx hc hl _ ih=>
  intro hS
  obtain⟨k,hk'⟩:=ih hS
  exact⟨k+1,.step hc.ne hl hk'⟩
 |bw hx hc hl _ ih=>exact fun _=>⟨0,.stop rfl⟩
def wE(k lv k' lv':Int):Prop:=(cls k=1∧cls k'=2∧lv=lv')∨(cls k=1∧cls k'=3∧lv'<lv)∨(cls k=3∧cls k'=2∧lv<lv')∨(cls k=3∧cls k'=3∧(lv=lv'→k=k'))
theorem Vg{x y:Nd}(h:x.lv<y.lv):(IB x y).2=0∨(IB x y).2=141:=by
 unfold IB
 rw[if_neg (by omega)]
 split
 ·exact .inr rfl
 ·exact .inl rfl
theorem CH{r:Pl×Int}(h:r.2=0∨r.2=141):(S2 r).2=0∨(S2 r).2=141:=by
 unfold S2
 split
 ·exact .inl rfl
 ·exact h
theorem og{x y:Nd}(hl:x.lv=y.lv):(Kl x y).2=0:=by
 unfold Kl To Vc Pq
 by_cases h1:x.k=3∧y.k=2
 ·rw[if_pos h1,if_neg (by omega)]
 rw[if_neg h1]
 by_cases h2:x.k=9∧y.k=8
 ·rw[if_pos h2,if_neg (by omega)];split<;>rfl
 rw[if_neg h2]
 by_cases h3:x.k=11∧y.k=10
 ·rw[if_pos h3]
 rw[if_neg h3]
 by_cases h4:x.k=12∧y.k=10
 ·rw[if_pos h4];unfold Vc;split<;>rfl
 ·rw[if_neg h4]
theorem Hk{x y:Nd}(h:wE x.k x.lv y.k y.lv):(ofR x y).2=0∨(ofR x y).2=141:=by
 unfold ofR
 rcases h with⟨h1,h2,h3⟩|⟨h1,h2,h3⟩|⟨h1,h2,h3⟩|⟨h1,h2,h3⟩
 ·rw[h1,h2]
  simp only[Int.reduceEq,or_self,if_false,false_and,and_self,true_and,if_true]
  exact .inl (og h3)
 ·rw[h1,h2]
  simp only[Int.reduceEq,or_self,if_false,false_and,and_self,true_and,if_true]
  exact CH (Vg h3)
 ·rw[h1,h2]
  simp only[Int.reduceEq,or_self,if_false,false_and,and_false,and_self,true_and,if_true,ne_eq,not_false_eq_true,true_or]
  exact Vg h3
 ·rw[h1,h2]
  simp only[Int.reduceEq,or_self,if_false,true_and,ne_eq,not_true_eq_false,false_or,if_true]
  by_cases e:x.lv=y.lv
  ·rw[if_pos ⟨e,h3 e⟩];exact .inl rfl
  ·rw[if_neg fun k=>e k.1]
   by_cases e2:x.lv≤y.lv
   ·rw[if_pos e2];exact Vg (by omega)
   ·rw[if_neg e2];exact CH (Vg (by omega))
theorem Ij{k:Int}(h:Ty k)(e:ent k=1):cls k=1∧Ms k 1=true:=by
 unfold Ty at h
 rcases h with rfl|rfl|rfl|rfl|rfl|rfl|rfl|rfl<;>simp[ent]at e<;>decide
theorem Wm{k:Int}(h:Ty k)(e:ent k=0):cls k=2∧B0 k:=by
 unfold Ty at h
 unfold B0
 rcases h with rfl|rfl|rfl|rfl|rfl|rfl|rfl|rfl<;>simp[ent]at e<;>decide
theorem Nv{k lv s:Int}{c d:Cx}(h:Ctl k lv s c d):cls k=3∧Ms k s=true:=by
 rcases h.cls with⟨rfl,rfl|rfl⟩|⟨rfl|rfl,rfl⟩<;>decide
theorem uk{A:Ab}(hA:qW A){S:Sc}{W:Nm}{s:Int}{c:Cx}{w:Nd}(hS:gT A S)(h:Ok A S (W,s) c)(hw:A.nd W=some w)(hs:s≠0):
  Ms w.k s=true∧∃r S' c',A.lk (W,0)=some r∧gT A S'∧Ok A S' r c'∧∀V,r=(V,0)→∃v,A.nd V=some v∧wE w.k w.lv v.k v.lv:=by
 cases h.inv' hw with
 |node hk he hc hh=>
  rcases DN w.k with e|e
  ·rw[e]at he;exact absurd he hs
  rw[e]at he
  obtain⟨r,r1,r2⟩:=hh 0 (sub0 hA hw e)
  have r2:=r2 [] (iZ e).1
  rw[Qg]at r2
  obtain⟨c1,c2⟩:=Ij hk e
  refine⟨by rw[he];exact c2,r,_,c,r1,hS.add hw (iZ e).2,r2,fun V hV=>?_⟩
  subst hV
  obtain⟨v,hv,hi⟩:=r2.inv rfl
  refine⟨v,hv,?_⟩
  cases hi with
  |node hk' he' hc' _=>exact .inl ⟨c1,(Wm hk' he'.symm).1,by omega⟩
  |var _ hs'=>exact absurd hs' (by decide)
  |fw _ _ hc'=>exact absurd rfl hc'.ne
  |bw t a r' _ hc'=>
   have:=hc'.len.2
   exact .inr (.inl ⟨c1,(Nv hc').1,by omega⟩)
 |var hk _ a d hc hS' hd=>exact absurd hk (hS _ _ _ hS' hw)
 |fw d r hc hl h=>
  obtain⟨c1,c2⟩:=Nv hc
  refine⟨c2,r,S,d,hl,hS,h,fun V hV=>?_⟩
  subst hV
  have hlen:=hc.len.2
  obtain⟨v,hv,hi⟩:=h.inv rfl
  refine⟨v,hv,?_⟩
  cases hi with
  |node hk' he' hc' _=>exact .inr (.inr (.inl ⟨c1,(Wm hk' he'.symm).1,by omega⟩))
  |var _ hs'=>exact absurd hs' (by decide)
  |fw _ _ hc'=>exact absurd rfl hc'.ne
  |bw t a r' _ hc'=>
   refine .inr (.inr (.inr ⟨c1,(Nv hc').1,fun e=>?_⟩))
   rw[←e]at hc'
   exact(hc.inj hc').1
 |bw _ _ _ hs'=>exact absurd hs' hs
structure Come(n:Nt)(w:Wy):Prop where
 e:w.e=0
 is:w.is=true
 has:n.has ⟨w.en,0⟩=true
 s:(n.lk ⟨w.en,0⟩).s=0
 meets:wE (n.nd w.en).k (n.nd w.en).lv (n.nd (n.lk ⟨w.en,0⟩).n).k (n.nd (n.lk ⟨w.en,0⟩).n).lv
theorem BJ{n:Nt}{ν:Int→Nm}{A:Ab}(hG:n.Good)(hR:Rep ν n [] A)(hA:qW A):∀(k:Nat) (l:List Int) (p:Pt) (S:Sc) (c:Cx) (d:Nat),n.has p=true→Passed n l→n.ns.length+1≤k+l.length→p.s≠0→gT A S→Ok A S (nmP ν p) c→Way A d (nmP ν p)→
  (∀x∈l,∃t m,t≠0∧d<m∧Way A m (ν x,t))→Come n (WZ n k l p)
 |0,l,p,S,c,d,hp,hP,hk,hs,hS,hO,hw,hl=>by have:=hP.len;omega
 |k+1,l,p,S,c,d,hp,hP,hk,hs,hS,hO,hw,hl=>by
  rw[WZ]
  have h1:¬(l.any fun y=>decide (y=p.n))=true:=by
   simp only[qB,decide_eq_true_eq,not_exists,not_and]
   rintro x hx rfl
   obtain⟨t,m,ht,hm,hw'⟩:=hl _ hx
   have:=Way.det' (W:=ν p.n) (s:=p.s) hw hw' hs ht
   omega
  rw[if_neg h1,if_neg hs]
  have hP2:=hP.add hG hp h1
  have hu:=Kx hG.semi hp
  have hz:=Qk hp
  have hlz:=hR.cl ⟨p.n,0⟩ hz (by simp)
  obtain⟨t1,r,S',c',r1,r2,r3,r4⟩:=uk hA hS (W:=ν p.n) (s:=p.s) hO (hR.nd p.n hu) hs
  have r1:A.lk (nmP ν ⟨p.n,0⟩)=some r:=r1
  rw[hlz]at r1
  obtain rfl:=BQ r1
  have t1:Ms (n.nd p.n).k p.s=true:=t1
  rw[if_neg (by rw[t1];decide)]
  have hlh:=(aF hG hz).2.1
  by_cases h4:(n.lk ⟨p.n,0⟩).s=0
  ·rw[if_pos h4]
   obtain⟨v,hv,hm⟩:=r4 (ν (n.lk ⟨p.n,0⟩).n) (by unfold nmP;rw[h4])
   rw[hR.nd _ (Kx hG.semi hlh)]at hv
   rw[←BQ hv]at hm
   exact⟨rfl,rfl,hz,h4,hm⟩
  rw[if_neg h4]
  cases hw with
  |stop h0=>exact absurd h0 hs
  | @step d' _ r g0 g1 g2=>
    have g1:A.lk (nmP ν ⟨p.n,0⟩)=some r:=g1
    rw[hlz]at g1
    obtain rfl:=BQ g1
    refine BJ hG hR hA k (l++[p.n]) (n.lk ⟨p.n,0⟩) S' c' d' hlh hP2 (by simp;omega) h4 r2 r3 g2 fun x hx=>?_
    rcases Sw.1 hx with hx|hx
    ·obtain⟨t,m,ht,hm,hw'⟩:=hl x hx
     exact⟨t,m,ht,by omega,hw'⟩
    ·rw[bK]at hx
     subst hx
     exact⟨p.s,d'+1,hs,by omega,.step (q:=(ν p.n,p.s)) g0 hlz g2⟩
structure Comes(n:Nt)(w:Wy):Prop where
 e:w.e=0
 told:w.is=false→B0 (n.nd w.en).k∧0<w.en∧w.en<n.ns.length
 come:w.is=true→Come n w
theorem VZ{n:Nt}(hG:n.Good)(h:vZ n):Comes n (DR n zP):=by
 obtain⟨ν,A,hR,⟨_,q,q1,q2⟩⟩:=h
 obtain⟨y,hy,hyk⟩:=OR hG
 have hy0:n.nd 0=y:=EZ hy
 have hz:n.has zP=true:=by
  have hl:=(hG.nds 0 y hy).2.1
  refine Hl (i:=0) (j:=0) hy ?_
  have:y.ports=1:=by unfold Nd.ports;rw[hyk];simp
  omega
 have hlz:=hR.cl zP hz (by simp)
 have hlz:A.lk (ν 0,0)=some (nmP ν (n.lk zP)):=hlz
 rw[hlz]at q1
 obtain rfl:=BQ q1
 have hA:qW A:=fun Z z hZ he=>by
  obtain⟨i,hi,rfl⟩:=hR.only Z z hZ
  rw[hR.nd i hi]at hZ
  rw[←BQ hZ]at he⊢
  rw[Gt]
  have hg:=OA hi.1 hi.2.1
  have hp:=(hG.nds _ _ hg).2.1
  have he:ent (n.nd i).k=1:=he
  have:2≤(n.nd i).ports:=by
   unfold ent at he
   split at he
   ·rename_i hk
    unfold Nd.ports
    rcases hk with e|e|e|e<;>rw[e]<;>simp<;>omega
   ·simp at he
  omega
 have hlh:=(aF hG hz).2.1
 have hu:=Kx hG.semi hlh
 have hg:=OA hu.1 hu.2.1
 have h0:gT A (fun _ _=>False):=fun _ _ _ h=>h.elim
 unfold DR
 rw[Pb hG,if_pos rfl,hz,if_pos rfl]
 by_cases hs:(n.lk zP).s=0
 ·have e:WZ n (n.ns.length+1) [] (n.lk zP)=⟨[(n.lk zP).n],(n.lk zP).n,false,0⟩:=by rw[WZ,if_neg (by simp),if_pos hs];rfl
  rw[e]
  refine⟨rfl,fun _=>?_,fun h=>by simp at h⟩
  have q2:Ok A (fun _ _=>False) (ν (n.lk zP).n,(n.lk zP).s) []:=q2
  rw[hs]at q2
  have key:B0 (n.nd (n.lk zP).n).k:=by
   cases q2.inv' (hR.nd _ hu)with
   |node hk he hc _=>exact(Wm hk he.symm).2
   |var _ hs'=>exact absurd hs' (by decide)
   |fw _ _ hc=>exact absurd rfl hc.ne
   |bw t a r _ hc=>
    have h1:=hc.len.2
    have h2:=(hG.nds _ _ hg).1.lv0
    have h1:(n.nd (n.lk zP).n).lv<((([]:Cx).length:Nat):Int):=h1
    simp only[sI]at h1
    omega
  refine⟨key,?_,hu.2.1⟩
  show 0<(n.lk zP).n
  have hne:(n.lk zP).n≠0:=fun e=>by
   rw[e,hy0,hyk]at key
   unfold B0 at key;omega
  have:=hu.1;omega
 ·obtain⟨d,hd⟩:=Uu hA q2 h0
  have C:=BJ hG hR hA (n.ns.length+1) [] (n.lk zP) _ [] d hlh ⟨tj,fun x hx=>by simp at hx⟩ (by simp) hs h0 q2 hd fun x hx=>by simp at hx
  exact⟨C.e,fun h=>(by rw[C.is]at h;cases h),fun _=>C⟩
theorem uQ{n:Nt}(hn:n.Ok)(i:Int)(h:vZ n):vZ (doR n i).1:=by
 have D:=wa hn i
 obtain⟨r,hr⟩:∃r,doR n i=r:=⟨_,rfl⟩
 rw[hr]at D⊢
 cases D with
 |bad=>exact h
 |none=>exact h
 |pair=>exact h
 |full=>exact h
 |done _ p m hd=>exact XO hd h
theorem XN{n:Nt}(hn:n.Ok)(hG:n.Good)(i:Int)(h:vZ n):vZ (QQ n i).1:=by
 unfold QQ
 rw[Pb hG,if_pos rfl]
 split
 ·exact uQ hn i h
 ·split
  ·exact h
  ·exact uQ (Fu hn) i (ze hG h)
theorem dN{n:Nt}(hn:n.Ok)(hG:n.Good){i:Int}(hm:¬Ga n i<0):(QQ n i).2.2=0∨(QQ n i).2.2=121∨(QQ n i).2.2=(ofR (n.nd i) (n.nd (Ga n i))).2:=by
 unfold QQ
 rw[Pb hG,if_pos rfl]
 split
 ·have D:=wa hn i
  obtain⟨r,hr⟩:∃r,doR n i=r:=⟨_,rfl⟩
  rw[hr]at D⊢
  cases D with
  |bad h=>exact absurd hG h
  |none _ h=>exact absurd h hm
  |pair _ e _ he=>exact .inr (.inr he)
  |full=>exact .inr (.inl rfl)
  |done=>exact .inl rfl
 ·split
  ·exact .inr (.inl rfl)
  ·rename_i h;left;omega
theorem VL{i:Int}{m:Nat}(hm:0<m):oJ i m<m:=by
 unfold oJ
 have h:(0:Int)<m:=by omega
 have b0:=Int.lt_tmod_of_pos i h
 have h1:=ft (i.tmod m+m) h
 omega
theorem Vf:∀(l:List Int) {n:Nt} {t:List Int},n.Ok→n.Good→vZ n→vZ (vK l n t).n∧((vK l n t).e=0∨(vK l n t).e=121):=by
 intro l
 induction l with
 |nil=>intro n t hn hG h;exact⟨h,.inl rfl⟩
 |cons i l ih=>
  intro n t hn hG h
  unfold vK
  split
  ·exact⟨h,.inl rfl⟩
  rename_i h0
  obtain⟨p,hp⟩:∃p,n.rds.getD (oJ i n.rds.length) zP=p:=⟨_,rfl⟩
  have hpm:p∈n.rds:=by
   have hlt:=VL (i:=i) (m:=n.rds.length) (by omega)
   rw[Kh,Xb hlt]at hp
   rw[←hp];exact xA _
  rw[hp]
  have hT:=Px hn hG p.n
  have herr:(QQ n p.n).2.2=0∨(QQ n p.n).2.2=121:=by
   unfold Nt.rds at hpm
   rw[Pb hG,if_pos rfl,Bo]at hpm
   obtain⟨m1,m2⟩:=hpm
   unfold Nt.prs jY at m1
   obtain⟨j,_,hj⟩:=List.mem_filterMap.1 m1
   obtain⟨g1,g2,g3,g4⟩:=PC hj
   have hmt:Ga n p.n=p.s:=by
    unfold Ga
    rw[g1,g3,if_pos ⟨g2,rfl⟩]
   unfold rdy at m2
   rw[decide_eq_true_eq]at m2
   rcases dN hn hG (i:=p.n) (by rw[hmt];omega)with e|e|e
   ·exact .inl e
   ·exact .inr e
   ·rw[hmt,m2]at e;exact .inl e
  split
  ·rename_i h1
   exact⟨h,.inr (herr.resolve_left h1)⟩
  ·exact ih hT.ok hT.good (XN hn hG p.n h)
structure HeadK(r:HR):Prop where
 okn:vZ r.n
 e:r.e=0∨r.e=90∨r.e=121∨r.e=141
 at_:r.e=0→(DR r.n zP).e=0∧(DR r.n zP).is=false∧(DR r.n zP).en=r.at_
theorem ZL:∀(k:Nat) {n:Nt} {t:List Int},n.Ok→n.Good→vZ n→HeadK (gq zP k n t):=by
 intro k
 induction k with
 |zero=>
  intro n t hn hG h
  have C:=VZ hG h
  unfold gq
  rw[if_neg (by rw[C.e];decide)]
  split
  ·rename_i h1
   exact⟨h,.inl rfl,fun _=>⟨C.e,h1,rfl⟩⟩
  ·exact⟨h,.inr (.inl rfl),fun e=>absurd e (by show¬(90:Int)=0;decide)⟩
 |succ k ih=>
  intro n t hn hG h
  have C:=VZ hG h
  have hT:=Px hn hG (DR n zP).en
  unfold gq
  rw[if_neg (by rw[C.e];decide)]
  split
  ·rename_i h1
   exact⟨h,.inl rfl,fun _=>⟨C.e,h1,rfl⟩⟩
  rename_i h1
  have D:=C.come (by cases hh:(DR n zP).is with|true=>rfl|false=>exact absurd hh h1)
  split
  ·rename_i h2
   have hmt:Ga n (DR n zP).en=(n.lk ⟨(DR n zP).en,0⟩).n:=by unfold Ga;rw[if_pos ⟨D.has,D.s⟩]
   have hb:=(sJ.1 (aF hG D.has).2.1).1
   refine⟨h,?_,fun e=>absurd e h2⟩
   show(QQ n (DR n zP).en).2.2=0∨_
   rcases dN hn hG (i:=(DR n zP).en) (by rw[hmt];omega)with e|e|e
   ·exact .inl e
   ·exact .inr (.inr (.inl e))
   ·rw[hmt]at e
    rcases Hk D.meets with k|k
    ·rw[k]at e;exact .inl e
    ·rw[k]at e;exact .inr (.inr (.inr e))
  ·exact ih hT.ok hT.good (XN hn hG _ h)
end Go.Proofs.YtmlhgalboabjcaaGreat
namespace Go.Proofs.YtmlhgalboabjcaaGreat.Tm
open Go.Fx
noncomputable def ab1(n:Nt):Ab:=
 ⟨fun u=>if u.1=0∧bool (Us n (u.2:Int))=true then some (wL (n.nd (u.2:Int)))else none,fun r=>if r.1.1=0∧n.has ⟨(r.1.2:Int),r.2⟩=true then some (nmP ν1 (n.lk ⟨(r.1.2:Int),r.2⟩))else none⟩
theorem Wa(n:Nt):Rep ν1 n [] (ab1 n):=by
 have hr:∀p,n.has p=true→(⟨((nmP ν1 p).1.2:Int),(nmP ν1 p).2⟩:Pt)=p:=fun p hp=>by
  have:=(sJ.1 hp).1
  obtain⟨a,b⟩:=p
  show(⟨((a.toNat:Nat):Int),b⟩:Pt)=_
  simp only at this
  rw[show((a.toNat:Nat):Int)=a by omega]
 refine⟨fun i j hi hj e=>?_,fun i hi=>?_,fun x y hx=>?_,fun p hp _=>?_,fun p hp=>by simp at hp,fun r u hu=>?_⟩
 ·unfold ν1 at e
  injection e with _ e
  have:=hi.1;have:=hj.1;omega
 ·have hi0:=hi.1
  show(if(0:Nat)=0∧bool (Us n ((i.toNat:Nat):Int))=true then some (wL (n.nd ((i.toNat:Nat):Int)))else none)=_
  rw[show((i.toNat:Nat):Int)=i by omega,if_pos ⟨rfl,Pb hi⟩]
 ·have hx:(if x.1=0∧bool (Us n (x.2:Int))=true then some (wL (n.nd (x.2:Int)))else none)=some y:=hx
  split at hx
  ·rename_i h
   refine⟨(x.2:Int),Vz.1 h.2,?_⟩
   unfold ν1
   rw[KA,←h.1]
  ·cases hx
 ·show(if(nmP ν1 p).1.1=0∧n.has ⟨((nmP ν1 p).1.2:Int),(nmP ν1 p).2⟩=true then some (nmP ν1 (n.lk ⟨((nmP ν1 p).1.2:Int),(nmP ν1 p).2⟩))else none)=_
  rw[hr p hp,if_pos ⟨rfl,hp⟩]
 ·have hu:(if r.1.1=0∧n.has ⟨(r.1.2:Int),r.2⟩=true then some (nmP ν1 (n.lk ⟨(r.1.2:Int),r.2⟩))else none)=some u:=hu
  split at hu
  ·rename_i h
   refine⟨⟨(r.1.2:Int),r.2⟩,h.2,by simp,?_⟩
   unfold nmP ν1
   simp only[KA]
   rw[←h.1]
  ·cases hu
theorem Xr{t:T}(h:Cl 0 false t)(ht:T.Ok t)(hs:sizeZ t≤80)(hd:dep t≤50):vZ (D0 t):=by
 have hR:=Wa (D0 t)
 have hw:=RZ h ht hs hd
 exact⟨ν1,_,hR,hw.okR _ ⟨fun i h0 h1=>⟨_,hR.nd i ⟨h0,h1,hw.full _ (oP h0 h1)⟩,rfl,rfl,Gt _⟩,fun p hp _=>hR.cl p hp (by simp)⟩⟩
theorem M7{l:List En}{i:Nat}{x:En}(h:l[i]? =some x):l.drop i=x::l.drop (i+1):=by
 obtain⟨hi,rfl⟩:=QU.1 h
 rw[iM hi]
def ap(b:St)(d1:Nat)(x:Blk)(k:Key)(d2:Nat)(y:Blk):St:=((b.add d1 x).kill k).add d2 y
theorem Keep.ap{c:Nat}{a b:St}(h:Keep c a b)(hc:c≤b.clk){k:Key}(hk:c≤k.2)(d1:Nat)(x:Blk)(d2:Nat)(y:Blk):Keep c a (((b.add d1 x).kill k).add d2 y):=
 ((h.add hc d1 x).kill hk).add (by simp only[ME,Bv];omega) d2 y
theorem D2(b:St)(d1:Nat)(x:Blk)(k:Key)(d2:Nat)(y:Blk):(((b.add d1 x).kill k).add d2 y).bs (d2,b.clk+1)=some y:=by
 simp only[Mq,ME,Bv,if_true]
theorem FF(b:St)(d1:Nat)(x:Blk)(k:Key)(d2:Nat)(y:Blk):(((b.add d1 x).kill k).add d2 y).clk=b.clk+2:=rfl
theorem bb1{a b:Nat}(h:a≤2*b)(hb:b≤1099511627776):(a+1)*24≤140737488355328:=by omega
theorem bb2{a b:Nat}(h:a≤2*b)(hb:b≤1099511627776):(a+1+1)*24≤140737488355328:=by omega
theorem Zw{l:List En}{x:En}(hl:l.length≤1099511627776){c:Nat}{σ:St}{X:AV}(hc:c≤σ.clk)(hX:TM c σ X l):
  ∃v σ',eS S (.f 130) [.a X,.g ((xu x).map .p)] σ=some (v,σ')∧∃X',v= .a X'∧TM c σ' X' (TD x false l)∧Keep σ.clk σ σ':=by
 refine ZE (fc:=F130) rfl rfl ?_
 obtain⟨c0,hc0⟩:∃c0,σ.clk=c0:=⟨_,rfl⟩
 rw[hc0]
 simp only[F130,hc0,xu,zx,XM,Ce,sI,nxB,evO,simprocAttr]
 refine Fs l.length (fun i e τ=>e 0= .a X∧e 3= .a (.ptr (3,c0) 0 0)∧e 7= .a (.p (.i .i64 (i:Nat)))∧∃(done:List En) (laid:Bool) (d q:Nat),e 6= .a (.p (.b laid))∧e 5= .a (.own (d,q) 0 done.length)∧τ.bs (d,q)=some (.row 3 104 (done.map xu))∧(¬d=3∧¬3=d)∧c0≤q∧q<τ.clk∧τ.bs (3,c0)=some (.var ((xu x).map .p))∧c0<τ.clk∧Keep c0 σ τ∧done.length≤2*i∧done++TD x laid (l.drop i)=TD x false l) (i0:=0) (ji _) ?_ ?_ ?_
 ·refine⟨rfl,by simp only[nxB,evO,simprocAttr],rfl,[],false,8,c0+1,rfl,by simp only[nxB,evO,simprocAttr],?_,by omega,by omega,?_,?_,?_,((Keep.refl c0 σ).add (by omega) _ _).add (by simp only[Bv];omega) _ _,by simp,by simp⟩
  ·simp only[hc0,nxB,evO,simprocAttr];try rfl
  ·simp only[hc0,nxB,evO,simprocAttr];try omega
  ·simp only[hc0,xu,nxB,evO,simprocAttr]
  ·simp only[hc0,nxB,evO,simprocAttr];try omega
 ·rintro i e τ hi ⟨e0,e3,e7,done,laid,d,q,e6,e5,hb,hd,hcq,hq,b3,hct,hK,hdl,hdone⟩
  obtain⟨y,hy⟩:∃y,l[i]? =some y:=⟨_,Xb hi⟩
  have hy':=cL hy
  rcases hX with⟨rfl,rfl⟩|⟨xd,xq,rfl,hXb,hX0,hX1⟩
  ·simp at hi
  have bX:=(hK.bs (xd,xq) (by show xq<c0;omega)).trans hXb
  have hlt:((i:Nat):Int)<(l.length:Int):=by omega
  have hge:(0:Int)≤((i:Nat):Int):=by omega
  have hw:=zz i (by omega)
  have htk:List.take done.length (done.map xu)=done.map xu:=Ea (by simp)
  have hil:i≤1099511627776:=fm (Nat.le_of_lt hi) hl
  have hbb:=bb1 hdl hil
  have hbb2:=bb2 hdl hil
  have q0:¬q=τ.clk∧¬q=τ.clk+1∧¬q=τ.clk+1+1∧¬q=τ.clk+1+1+1:=by omega
  have x0:¬xq=τ.clk∧¬xq=τ.clk+1∧¬xq=τ.clk+1+1∧¬xq=τ.clk+1+1+1∧¬xq=q∧¬q=xq:=by omega
  have c1:¬c0=τ.clk∧¬c0=τ.clk+1∧¬c0=τ.clk+1+1∧¬c0=τ.clk+1+1+1:=by omega
  have k1:¬τ.clk+1=τ.clk+1+1∧¬τ.clk+1=τ.clk+1+1+1:=by omega
  simp only[xu,zx,XM]at b3
  rw[M7 hy]at hdone
  simp only[TD]at hdone
  by_cases hcond:laid=false∧y.1>x.1
  ·obtain⟨rfl,hgt⟩:=hcond
   have htk2:List.take (done.length+1) (done.map xu++[[PV.i .i64 x.1,PV.i .i64 x.2.n,PV.i .i64 x.2.s]])=done.map xu++[[PV.i .i64 x.1,PV.i .i64 x.2.n,PV.i .i64 x.2.s]]:=Ea (by simp)
   simp only[if_pos (⟨rfl,hgt⟩:false=false∧y.1>x.1),hgt,fF,decide_true]at hdone
   simp only[F130b0,e0,e3,e5,e6,e7,b3,hb,bX,hlt,hge,hw,hy',hgt,hd,htk,htk2,hbb,hbb2,q0,x0,c1,k1,Ci,CC,KA,mB,GM,Ce,sI,nh,Fy,SZ,nxB,evO,simprocAttr]
   refine⟨done++[x]++[y],true,37,τ.clk+1+1+1,rfl,by simp,by simp[xu],by omega,by omega,by omega,by simp[xu],by omega,?_,by simp only[GM,Ce,sI];omega,by simpa using hdone⟩
   exact Keep.ap (Keep.ap hK (Nat.le_of_lt hct) (k:=(d,q)) hcq 29 _ 30 _) (by rw[FF];omega) (k:=(30,τ.clk+1)) (Nat.le_succ_of_le (Nat.le_of_lt hct)) 36 _ 37 _
  ·have hL:(laid||decide (y.1>x.1))=laid:=by
    cases laid with
    |true=>rfl
    |false=>
     have:¬y.1>x.1:=fun h=>hcond ⟨rfl,h⟩
     simp[this]
   have hcb:(!laid&&decide (y.1>x.1))=false:=by
    cases laid with
    |true=>rfl
    |false=>
     have:¬y.1>x.1:=fun h=>hcond ⟨rfl,h⟩
     simp[this]
   rw[if_neg hcond,hL,Es]at hdone
   have fin:Keep c0 σ (((τ.add 36 (.row 3 104 [xu y])).kill (d,q)).add 37 (.row 3 104 (done.map xu++[xu y]))):=((hK.add (by omega) _ _).kill (by show c0≤q;omega)).add (by simp only[ME,Bv];omega) _ _
   cases laid with
   |true=>
    simp only[F130b0,e0,e3,e5,e6,e7,b3,hb,bX,hlt,hge,hw,hy',hd,htk,hbb,q0,x0,c1,k1,Ci,CC,KA,mB,GM,Ce,sI,nh,Fy,SZ,nxB,evO,simprocAttr]
    exact⟨done++[y],true,37,τ.clk+1,rfl,by simp,by simp[xu],by omega,by omega,by omega,by simp[xu],by omega,fin,by simp only[GM,Ce,sI];omega,by simpa using hdone⟩
   |false=>
    have hgt:¬y.1>x.1:=fun h=>hcond ⟨rfl,h⟩
    simp only[F130b0,e0,e3,e5,e6,e7,b3,hb,bX,hlt,hge,hw,hy',hgt,hd,htk,hbb,q0,x0,c1,k1,Ci,CC,KA,mB,GM,Ce,sI,nh,Fy,SZ,nxB,evO,simprocAttr]
    exact⟨done++[y],false,37,τ.clk+1,rfl,by simp,by simp[xu],by omega,by omega,by omega,by simp[xu],by omega,fin,by simp only[GM,Ce,sI];omega,by simpa using hdone⟩
 ·rintro e τ ⟨e0,e3,e7,done,laid,d,q,e6,e5,hb,hd,hcq,hq,b3,hct,hK,hdl,hdone⟩
  have hlt:¬((l.length:Nat):Int)<(l.length:Int):=by omega
  have hlen:∀e:Env,e 0= .a X→evR (eP S) S.sp e τ (.len false (.t 0))=some (.a (.p (.i .i64 (l.length:Nat)))):=by
   intro e h0
   rcases hX with⟨rfl,rfl⟩|⟨xd,xq,rfl,hXb,hX0,hX1⟩
   ·simp only[h0,nxB,evO,simprocAttr]
   ·simp only[h0,nxB,evO,simprocAttr]
  have htk:List.take done.length (done.map xu)=done.map xu:=Ea (by simp)
  have hbb:=bb1 hdl hl
  have q0:¬q=τ.clk∧¬q=τ.clk+1:=by omega
  simp only[xu,zx,XM]at b3
  rw[Bn]at hdone
  cases laid with
  |true=>
   simp only[TD,if_true,Qg]at hdone
   rw[←hdone]
   rcases hX with⟨rfl,rfl⟩|⟨xd,xq,rfl,hXb,hX0,hX1⟩
   ·simp only[F130b0,e0,e3,e5,e6,e7,hlt,sI,Mz,gG,nxB,evO,simprocAttr]
    exact⟨_,rfl,.inr ⟨d,q,rfl,hb,by omega,hq⟩,hK⟩
   ·simp only[F130b0,e0,e3,e5,e6,e7,hlt,nxB,evO,simprocAttr]
    exact⟨_,rfl,.inr ⟨d,q,rfl,hb,by omega,hq⟩,hK⟩
  |false=>
   simp only[TD,SY,if_false]at hdone
   rw[←hdone]
   have fin:Keep c0 σ (((τ.add 42 (.row 3 104 [xu x])).kill (d,q)).add 43 (.row 3 104 (done.map xu++[xu x]))):=((hK.add (by omega) _ _).kill (by show c0≤q;omega)).add (by simp only[ME,Bv];omega) _ _
   rcases hX with⟨rfl,rfl⟩|⟨xd,xq,rfl,hXb,hX0,hX1⟩
   ·simp only[F130b0,e0,e3,e5,e6,e7,b3,hb,hlt,htk,hbb,q0,hd,mB,sI,Ce,GM,Mz,gG,nh,Fy,SZ,nxB,evO,simprocAttr]
    exact⟨_,rfl,.inr ⟨43,τ.clk+1,by simp,by rw[D2];simp[xu],by omega,by rw[FF];omega⟩,fin⟩
   ·simp only[F130b0,e0,e3,e5,e6,e7,b3,hb,hlt,htk,hbb,q0,hd,mB,sI,Ce,GM,nh,Fy,SZ,nxB,evO,simprocAttr]
    exact⟨_,rfl,.inr ⟨43,τ.clk+1,by simp,by rw[D2];simp[xu],by omega,by rw[FF];omega⟩,fin⟩
theorem NW{n:Nt}{out:Pt}{l:List En}{lv:Int}(hn:Room n)(hlv:0≤lv∧lv≤60)(hroom:((n.ns.length+l.length:Nat):Int)≤n.cap)(hE:∀x∈l,OkE x){c:Nat}{σ:St}{X:AV}(hc:c≤σ.clk)(hX:TM c σ X l):
  ∃v σ',eS S (.f 129) [.g (BU n out X),.a (.p (.i .i64 lv))] σ=some (v,σ')∧∃X',v= .g (BU (Io lv l n).1 out X')∧TM c σ' X' (Io lv l n).2∧Keep c σ σ':=by
 refine ZE (fc:=F129) rfl rfl ?_
 obtain⟨c0,hc0⟩:∃c0,σ.clk=c0:=⟨_,rfl⟩
 obtain⟨R,hR⟩:∃R,Io lv l n=R:=⟨_,rfl⟩
 have hcap:=hn.cap
 have hbl:=RH lv l n
 rw[hR]at hbl⊢
 simp only[F129,hc0,BU,Ce,sI,nxB,evO,simprocAttr]
 refine Fs l.length (fun i e τ=>e 1= .a (.p (.i .i64 lv))∧e 2= .a (.ptr (2,c0) 0 0)∧e 4= .a (.ptr (4,c0+1) 0 0)∧e 5= .a (.p (.i .i64 (i:Nat)))∧∃(m:Nt) (M:List En),τ.bs (2,c0)=some (.var (BU m out X))∧τ.bs (4,c0+1)=some (.var [.nil,.p (.i .i64 0),.p (.i .i64 0),.p (.i .i64 0),.nil,.p (.i .i64 0)])∧Room m∧m.ns.length=n.ns.length+i∧m.cap=n.cap∧TM c τ X M∧M.length=l.length∧M.drop i=l.drop i∧(Io lv (l.drop i) m).1=R.1∧M.take i++(Io lv (l.drop i) m).2=R.2∧Keep c σ τ∧c0+2≤τ.clk) (i0:=0) (ji _) ?_ ?_ ?_
 ·refine⟨by simp only[nxB,evO,Nat.reduceLT,Nat.reduceSub,Nat.reduceBEq,Nat.reduceEqDiff,Nat.reduceAdd,Nat.reduceLeDiff,reduceCtorEq,Nat.reduceMul],by simp only[nxB,evO,Nat.reduceLT,Nat.reduceSub,Nat.reduceBEq,Nat.reduceEqDiff,Nat.reduceAdd,Nat.reduceLeDiff,reduceCtorEq,Nat.reduceMul],by simp only[nxB,evO,Nat.reduceLT,Nat.reduceSub,Nat.reduceBEq,Nat.reduceEqDiff,Nat.reduceAdd,Nat.reduceLeDiff,reduceCtorEq,Nat.reduceMul],by simp only[nxB,evO,Nat.reduceLT,Nat.reduceSub,Nat.reduceBEq,Nat.reduceEqDiff,Nat.reduceAdd,Nat.reduceLeDiff,reduceCtorEq,Nat.reduceMul];rfl,n,l,?_,?_,hn,rfl,rfl,hX.keep (((Keep.refl _ σ).add (by omega) _ _).add (by simp only[Bv];omega) _ _),rfl,rfl,by rw[yA,hR],by rw[yA,hR];rfl,((Keep.refl _ σ).add (by omega) _ _).add (by simp only[Bv];omega) _ _,?_⟩
  ·simp only[hc0,BU,nxB,evO,simprocAttr]
  ·simp only[hc0,nxB,evO,simprocAttr]
  ·simp only[hc0,nxB,evO,simprocAttr];try omega
 ·rintro i e τ hi ⟨e1,e2,e4,e5,m,M,b2,b4,hm,hml,hmc,hXM,hMl,hMd,hG1,hG2,hK,hct⟩
  obtain⟨x,hx⟩:∃x,l[i]? =some x:=⟨_,Xb hi⟩
  have hxE:=hE x (yu hx)
  have hMx:M[i]? =some x:=by
   have h1:(M.drop i)[0]? =some x:=by rw[hMd,L9];simpa using hx
   rw[L9]at h1;simpa using h1
  have hMx':=cL hMx
  rcases hXM with⟨rfl,rfl⟩|⟨d,q,rfl,hXb,hX0,hX1⟩
  ·simp at hMl;omega
  have hqc:q<c0:=by
   rcases hX with⟨h,_⟩|⟨d',q',h,_,_,h4⟩
   ·cases h
   ·injection h with h1 _ _
    injection h1 with _ h2
    omega
  have hlt:((i:Nat):Int)<(M.length:Int):=by omega
  have hge:(0:Int)≤((i:Nat):Int):=by omega
  have hw:=zz i (by omega)
  have hN6:=ZM (k:=6) (by omega) hlv
  have hrm:((m.ns.length+1:Nat):Int)≤m.cap:=by omega
  have c1:=QA (x:=RV 6 lv) hm hN6 (by show¬(6:Int)<2;decide) (Ns hlv (by omega)) (by show lv≤60;omega) hrm
  have hm1:=Za hm hN6 (by show(6:Int)≠0;decide) hrm
  have hwp:=fB m.ns.length 1 (by omega) (by omega)
  have c2:=xh (p:=⟨(m.ns.length:Nat),1⟩) (q:=x.2) hm1.ok hwp hxE.wf
  have hm2:=jr (p:=⟨(m.ns.length:Nat),1⟩) (q:=x.2) hm1 hwp hxE.wf
  have hl2:=EI (Hc m (RV 6 lv)) ⟨(m.ns.length:Nat),1⟩ x.2
  rw[ql,tu]at hl2
  have a1:=DJ (m.ns.length:Nat) 1
  have a0:=DJ (m.ns.length:Nat) 0
  obtain⟨m2,hm2e⟩:∃m2,lnk (Hc m (RV 6 lv)) ⟨(m.ns.length:Nat),1⟩ x.2=m2:=⟨_,rfl⟩
  rw[M7 hx]at hG1 hG2
  simp only[Io]at hG1 hG2
  rw[hm2e]at c2 hm2 hl2 hG1 hG2
  obtain⟨f,hf⟩:∃f,m.ns.length=f:=⟨_,rfl⟩
  rw[hf]at c1 c2 a1 a0 hG2
  have q0:¬q=c0∧¬q=c0+1∧¬q=τ.clk∧¬c0=q∧¬c0+1=q:=by omega
  have k0:¬c0=τ.clk∧¬c0+1=τ.clk:=by omega
  have hset:(M.map xu).set i [.i .i64 x.1,.i .i64 (f:Nat),.i .i64 0]=(M.set i (x.1,⟨(f:Nat),0⟩)).map xu:=by rw[JV];rfl
  have hsp:=B7 (M:=M) (i:=i) (by omega) (x.1,(⟨(f:Nat),0⟩:Pt))
  simp only[Ip,xN,RV,Ug,XM]at c1 c2
  simp only[BU]at b2
  simp only[F129b0,e1,e2,e4,e5,b2,b4,hXb,hlt,hge,hw,hMx',c1,c2,a1,a0,q0,k0,hset,Ci,CC,KA,mB,rm,Ce,sI,Hh,Es,nh,Fy,SZ,nxB,evO,simprocAttr]
  have hMd1:M.drop (i+1)=l.drop (i+1):=by
   have:=congrArg (List.drop 1) hMd
   rwa [dJ,dJ]at this
  refine⟨m2,M.set i (x.1,⟨(f:Nat),0⟩),rfl,hm2,by omega,by omega,.inr ⟨d,q,by rw[rm],by show(if(d,q)=(d,q)then _ else _)=_;rw[if_pos rfl],hX0,by show q<τ.clk+1;omega⟩,by rw[rm];exact hMl,hsp.2.trans hMd1,hG1,by rw[hsp.1,qg];exact hG2,?_,by omega⟩
  exact((((hK.add (by omega) _ _).put (k:=(6,τ.clk)) (by show c≤τ.clk;omega) _).put (k:=(2,c0)) (by show c≤c0;omega) _).put (k:=(2,c0)) (by show c≤c0;omega) _).put (k:=(d,q)) hX0 _
 ·rintro e τ ⟨e1,e2,e4,e5,m,M,b2,b4,hm,hml,hmc,hXM,hMl,hMd,hG1,hG2,hK,hct⟩
  rw[Bn]at hG1 hG2
  simp only[Io,Qg]at hG1 hG2
  rw[←hMl,QL]at hG2
  have hlt:¬((l.length:Nat):Int)<(M.length:Int):=by omega
  have k0:¬c0=c0+1:=by omega
  simp only[BU]at b2
  rw[hG1]at b2
  have fin:Keep c σ (τ.put (4,c0+1) (.var [.p (.l (R.1.ns.map Ug)),.p (.i .i64 R.1.cap),.p (.i .i64 out.n),.p (.i .i64 out.s),X,.p (.i .i64 0)])):=hK.put (k:=(4,c0+1)) (by show c≤c0+1;omega) _
  have ow:TM c (τ.put (4,c0+1) (.var [.p (.l (R.1.ns.map Ug)),.p (.i .i64 R.1.cap),.p (.i .i64 out.n),.p (.i .i64 out.s),X,.p (.i .i64 0)])) X R.2:=by
   rw[←hG2]
   rcases hXM with h|⟨d,q,h1,h2,h3,h4⟩
   ·exact .inl h
   ·refine .inr ⟨d,q,h1,?_,h3,h4⟩
    have:¬(d,q)=(4,c0+1):=by rintro e;rw[e,b4]at h2;cases h2
    simp only[xL,this,if_false];exact h2
  rcases hXM with⟨rfl,hM0⟩|⟨d,q,rfl,hXb,hX0,hX1⟩
  ·have hl0:l.length=0:=by rw[←hMl,hM0];rfl
   rw[hl0]at e5
   simp only[F129b0,e1,e2,e4,e5,b2,b4,hl0,hlt,mB,Ce,sI,Mz,gG,nxB,evO,simprocAttr]
   exact⟨_,rfl,ow,fin⟩
  ·simp only[F129b0,e1,e2,e4,e5,b2,b4,hlt,hXb,mB,Ce,sI,nxB,evO,simprocAttr]
   exact⟨_,rfl,ow,fin⟩
theorem TM.putv{c:Nat}{σ:St}{X:AV}{l:List En}(h:TM c σ X l){k:Key}{v:List AV}(hk:σ.bs k=some (.var v))(b:Blk):TM c (σ.put k b) X l:=by
 rcases h with h|⟨d,q,h1,h2,h3,h4⟩
 ·exact .inl h
 ·refine .inr ⟨d,q,h1,?_,h3,h4⟩
  have:¬(d,q)=k:=by rintro rfl;rw[hk]at h2;cases h2
  simp only[xL,this,if_false];exact h2
theorem U9{n:Nt}{out:Pt}{yl l:List En}{lv:Int}(hn:Room n)(hlv:0≤lv∧lv≤60)(hroom:((C5 lv yl l n).1.ns.length:Int)≤n.cap)(hy:∀x∈yl,OkE x)(hE:∀x∈l,OkE x)(hll:l.length+yl.length≤1099511627776){c:Nat}{σ:St}{X:AV}(hc:c≤σ.clk)(hX:TM c σ X l):
  ∃v σ',eS S (.f 91) [.g (BU n out (.p (.l (yl.map xu)))),.a X,.a (.p (.i .i64 lv))] σ=some (v,σ')∧∃X',v= .g (BU (C5 lv yl l n).1 out X')∧TM c σ' X' (C5 lv yl l n).2∧Keep σ.clk σ σ'∧(∀x∈(C5 lv yl l n).2,OkE x)∧Room (C5 lv yl l n).1:=by
 obtain⟨c0,hc0⟩:∃c0,σ.clk=c0:=⟨_,rfl⟩
 obtain⟨R,hR⟩:∃R,C5 lv yl l n=R:=⟨_,rfl⟩
 have hcap:=hn.cap
 rw[hR]at hroom⊢
 rw[hc0]
 refine ZE (fc:=F91) rfl rfl ?_
 simp only[F91,hc0,BU,Ce,sI,nxB,evO,simprocAttr]
 refine Fs yl.length (fun i e τ=>e 2= .a (.p (.i .i64 lv))∧e 3= .a (.ptr (3,c0) 0 0)∧e 6= .a (.ptr (6,c0+1) 0 0)∧e 7= .a (.p (.i .i64 (i:Nat)))∧∃(m:Nt) (M:List En) (Y:AV),e 1= .a Y∧τ.bs (3,c0)=some (.var (BU m out (.p (.l (yl.map xu)))))∧τ.bs (6,c0+1)=some (.var [.nil,.p (.i .i64 0),.p (.i .i64 0),.p (.i .i64 0),.nil,.p (.i .i64 0)])∧Room m∧m.cap=n.cap∧TM c τ Y M∧M.length≤l.length+i∧(∀x∈M,OkE x)∧C5 lv (yl.drop i) M m=R∧Keep c0 σ τ∧c0+2≤τ.clk) (i0:=0) (ji _) ?_ ?_ ?_
 ·refine⟨by simp only[nxB,evO,simprocAttr],by simp only[nxB,evO,simprocAttr],by simp only[nxB,evO,simprocAttr],by simp only[nxB,evO,simprocAttr];try rfl,n,l,X,by simp only[nxB,evO,simprocAttr],?_,?_,hn,rfl,hX.keep (((Keep.refl _ σ).add (by omega) _ _).add (by simp only[Bv];omega) _ _),by omega,hE,by rw[yA,hR],((Keep.refl _ σ).add (by omega) _ _).add (by simp only[Bv];omega) _ _,?_⟩
  ·simp only[hc0,BU,nxB,evO,simprocAttr]
  ·simp only[hc0,nxB,evO,simprocAttr]
  ·simp only[hc0,nxB,evO,simprocAttr];try omega
 ·rintro i e τ hi ⟨e2,e3,e6,e7,m,M,Y,e1,b3,b6,hm,hmc,hXM,hMl,hME,hG,hK,hct⟩
  obtain⟨x,hx⟩:∃x,yl[i]? =some x:=⟨_,Xb hi⟩
  have hxE:=hy x (yu hx)
  have hx':=cL hx
  have hlt:((i:Nat):Int)<(yl.length:Int):=by omega
  have hge:(0:Int)≤((i:Nat):Int):=by omega
  have hw:=zz i (by omega)
  have hfr:=hXM.fr
  have f1:=cU (l:=M) (v:=x.1) (by omega)
  have k0:¬c0=τ.clk∧¬c0+1=τ.clk:=by omega
  rw[M7 hx]at hG
  simp only[BU]at b3
  unfold C5 at hG
  by_cases hk:dP M x.1<0
  ·rw[if_pos hk]at hG
   obtain⟨v,τ1,c1,X1,rfl,o1,o2⟩:=Zw (x:=x) (l:=M) (by omega) (c:=c) (σ:=τ) (X:=Y) (by omega) hXM
   simp only[xu,zx,XM]at c1
   have b3':=(o2.bs (3,c0) (by show c0<τ.clk;omega)).trans b3
   have b6':=(o2.bs (6,c0+1) (by show c0+1<τ.clk;omega)).trans b6
   simp only[F91b0,e1,e2,e3,e6,e7,b3,b3',b6',hlt,hge,hw,hx',hfr,f1,hk,c1,Ci,CC,KA,mB,Ce,sI,nh,Fy,nxB,evO,simprocAttr]
   refine⟨m,TD x false M,X1,rfl,by simp only[BU],hm,hmc,o1,by have:=Gn x false M;omega,fun y hy'=>?_,hG,hK.trans (o2.mono (by omega)),by have:=o2.clk;omega⟩
   rcases Xy x _ M y hy' with rfl|h
   ·exact hxE
   ·exact hME y h
  ·rw[if_neg hk]at hG
   obtain⟨k,hkk,hkl,y,hyk,hyv⟩:=Et hk
   rw[hkk]at f1 hG hk
   rw[KA]at hG
   have hgd:M.getD k zE=y:=by rw[Kh,hyk];rfl
   rw[hgd]at hG
   have hyE:=hME y (yu hyk)
   have hyk':=cL hyk
   rcases hXM with⟨rfl,rfl⟩|⟨d,q,rfl,hXb,hX0,hX1⟩
   ·simp at hkl
   have hlv4:=ZM (k:=4) (by omega) hlv
   have hmono:=jH lv (yl.drop (i+1)) (M.set k (y.1,⟨(m.ns.length:Nat),0⟩)) (lnk (lnk (Hc m (RV 4 lv)) ⟨(m.ns.length:Nat),1⟩ y.2) ⟨(m.ns.length:Nat),2⟩ x.2)
   have hl2:=EI (Hc m (RV 4 lv)) ⟨(m.ns.length:Nat),1⟩ y.2
   have hl3:=EI (lnk (Hc m (RV 4 lv)) ⟨(m.ns.length:Nat),1⟩ y.2) ⟨(m.ns.length:Nat),2⟩ x.2
   rw[hG,hl3.1,hl2.1,ql]at hmono
   have hrm:((m.ns.length+1:Nat):Int)≤m.cap:=by omega
   have c1:=QA (x:=RV 4 lv) hm hlv4 (by show¬(4:Int)<2;decide) (Ns hlv (by omega)) (by show lv≤60;omega) hrm
   have hm1:=Za hm hlv4 (by show(4:Int)≠0;decide) hrm
   have hwp:=fB m.ns.length 1 (by omega) (by omega)
   have hwq:=fB m.ns.length 2 (by omega) (by omega)
   have c2:=xh (p:=⟨(m.ns.length:Nat),1⟩) (q:=y.2) hm1.ok hwp hyE.wf
   have hm2:=jr (p:=⟨(m.ns.length:Nat),1⟩) (q:=y.2) hm1 hwp hyE.wf
   have c3:=xh (p:=⟨(m.ns.length:Nat),2⟩) (q:=x.2) hm2.ok hwq hxE.wf
   have hm3:=jr (p:=⟨(m.ns.length:Nat),2⟩) (q:=x.2) hm2 hwq hxE.wf
   have a1:=DJ (m.ns.length:Nat) 1
   have a2:=DJ (m.ns.length:Nat) 2
   have a0:=DJ (m.ns.length:Nat) 0
   rw[hl2.2,tu]at hl3
   obtain⟨m3,hm3e⟩:∃m3,lnk (lnk (Hc m (RV 4 lv)) ⟨(m.ns.length:Nat),1⟩ y.2) ⟨(m.ns.length:Nat),2⟩ x.2=m3:=⟨_,rfl⟩
   obtain⟨m2,hm2e⟩:∃m2,lnk (Hc m (RV 4 lv)) ⟨(m.ns.length:Nat),1⟩ y.2=m2:=⟨_,rfl⟩
   rw[hm3e]at c3 hm3 hl3 hG
   rw[hm2e]at c2 c3
   obtain⟨f,hf⟩:∃f,m.ns.length=f:=⟨_,rfl⟩
   rw[hf]at c1 c2 c3 a1 a2 a0 hG
   have hbb:M.length*24≤140737488355328:=by omega
   have htk:List.take M.length (M.map xu)=M.map xu:=Ea (by simp)
   have q0:¬(d=3∧q=c0)∧¬(3=d∧c0=q)∧¬(d=6∧q=c0+1)∧¬(6=d∧c0+1=q):=by
    refine⟨?_,?_,?_,?_⟩
    ·rintro⟨rfl,rfl⟩;rw[b3]at hXb;cases hXb
    ·rintro⟨rfl,rfl⟩;rw[b3]at hXb;cases hXb
    ·rintro⟨rfl,rfl⟩;rw[b6]at hXb;cases hXb
    ·rintro⟨rfl,rfl⟩;rw[b6]at hXb;cases hXb
   have q1:¬q=τ.clk∧¬q=τ.clk+1∧¬q=τ.clk+1+1:=by omega
   have k1:¬c0=τ.clk+1∧¬c0+1=τ.clk+1∧¬c0=τ.clk+1+1∧¬c0+1=τ.clk+1+1:=by omega
   have hset:(M.map xu).set k [.i .i64 y.1,.i .i64 (f:Nat),.i .i64 0]=(M.set k (y.1,⟨(f:Nat),0⟩)).map xu:=by rw[JV];rfl
   have hk0:(0:Int)≤(k:Int):=by omega
   have hkl':(k:Int)<(M.length:Int):=by omega
   simp only[Ip,xN,RV,Ug,XM]at c1 c2 c3
   simp only[F91b0,e1,e2,e3,e6,e7,b3,b6,hXb,hlt,hge,hw,hx',hyk',hfr,f1,hk,hk0,hkl',c1,c2,c3,a1,a2,a0,q0,q1,k0,k1,hbb,htk,hset,Ci,CC,KA,mB,rm,Ce,sI,Hh,Es,nh,Fy,SZ,nxB,evO,simprocAttr]
   refine⟨m3,M.set k (y.1,⟨(f:Nat),0⟩),.own (73,τ.clk+1+1) 0 M.length,rfl,by simp only[BU],hm3,by omega,.inr ⟨73,τ.clk+1+1,by rw[rm],by show(if(73,τ.clk+1+1)=(73,τ.clk+1+1)then _ else _)=_;rw[if_pos rfl],by omega,by show τ.clk+1+1<τ.clk+1+1+1;omega⟩,by rw[rm];omega,fun z hz=>?_,hG,?_,by omega⟩
   ·rcases MH hz with h|rfl
    ·exact hME z h
    ·exact⟨hyE.1,⟨by show(0:Int)≤((f:Nat):Int);omega,by show((f:Nat):Int)≤_;omega⟩,⟨by show(0:Int)≤0;decide,by show(0:Int)≤_;decide⟩⟩
   ·have k1:=(((hK.add (by omega) 9 (.var [.nil,.p (.i .i64 0)])).put (k:=(9,τ.clk)) (by show c0≤τ.clk;omega) (.var [.p (.l ((Hc m (RV 4 lv)).ns.map Ug)),.p (.i .i64 (Hc m (RV 4 lv)).cap)])).put (k:=(3,c0)) (nh c0) (.var [.p (.l (m.ns.map Ug)),.p (.i .i64 m.cap),.p (.i .i64 out.n),.p (.i .i64 out.s),.p (.l (yl.map xu)),.p (.i .i64 0)])).put (k:=(3,c0)) (nh c0) (.var [.p (.l (m3.ns.map Ug)),.p (.i .i64 m3.cap),.p (.i .i64 out.n),.p (.i .i64 out.s),.p (.l (yl.map xu)),.p (.i .i64 0)])
    exact((Keep.ap k1 (by show c0≤τ.clk+1;omega) (k:=(71,τ.clk+1)) (by show c0≤τ.clk+1;omega) 71 _ 73 _).put (k:=(73,τ.clk+1+1)) (by show c0≤τ.clk+1+1;omega) _)
 ·rintro e τ ⟨e2,e3,e6,e7,m,M,Y,e1,b3,b6,hm,hmc,hXM,hMl,hME,hG,hK,hct⟩
  rw[Bn]at hG
  unfold C5 at hG
  subst hG
  have hlt:¬((yl.length:Nat):Int)<(yl.length:Int):=by omega
  simp only[BU]at b3
  simp only[F91b0,e1,e2,e3,e6,e7,b3,b6,hlt,mB,Ce,sI,nxB,evO,simprocAttr]
  have b6':(τ.put (3,c0) (.var [.p (.l (m.ns.map Ug)),.p (.i .i64 m.cap),.p (.i .i64 out.n),.p (.i .i64 out.s),Y,.p (.i .i64 0)])).bs (6,c0+1)=some (.var [.nil,.p (.i .i64 0),.p (.i .i64 0),.p (.i .i64 0),.nil,.p (.i .i64 0)]):=by
   have:¬((6,c0+1):Key)=(3,c0):=by intro e;injection e with e _;omega
   simp only[xL,this,if_false];exact b6
  refine⟨Y,rfl,(hXM.putv b3 _).putv b6' _,(hK.put (k:=(3,c0)) (nh c0) _).put (k:=(6,c0+1)) (by show c0≤c0+1;omega) _,hME,hm⟩
def qT(g:FuncId)(args:Nt→List TV)(f:Nt→W):Prop:=∀m:Nt,Room m→((f m).n.ns.length:Int)≤m.cap→
 Room (f m).n∧(∀x∈(f m).l,OkE x)∧((0≤(f m).out.n∧(f m).out.n≤5000)∧(0≤(f m).out.s∧(f m).out.s≤100))∧
 ∀σ:St,∃v σ',eS S (.f g) (args m) σ=some (v,σ')∧∃X,v= .g (BU (f m).n (f m).out X)∧TM σ.clk σ' X (f m).l∧Keep σ.clk σ σ'
theorem zr{l:List En}(hl:l.length≤1099511627776)(hE:∀x∈l,OkE x){σ:St}{c1 q0:Nat}{m:Nt}{out:Pt}{X:AV}{c:Nat}(hX:TM c σ X l)(hq0:c1<q0∧q0<σ.clk)(hb:σ.bs (11,c1)=some (.var (BU m out X)))(h94:σ.bs (94,q0)=some (.row 3 104 []))(hXq:∀d q,X= .own (d,q) 0 l.length→q<q0)(e:Env)
  (e11:e 11= .a (.ptr (11,c1) 0 0)) (e16:e 16= .a (.own (94,q0) 0 0)) (e17:e 17= .a (.p (.i .i64 0))):
  wp S false (.loop F49b0) e σ (fun z e' σ'=>z= .exit 0∧e' 11= .a (.ptr (11,c1) 0 0)∧e' 8=e 8∧(∃Y,e' 16= .a Y∧TM q0 σ' Y (TT l))∧Keep q0 σ σ'):=by
 obtain⟨u8,hu8⟩:∃z,e 8=z:=⟨_,rfl⟩
 rw[hu8]
 refine Fs l.length (fun i e τ=>e 11= .a (.ptr (11,c1) 0 0)∧e 8=u8∧e 17= .a (.p (.i .i64 (i:Nat)))∧∃d q,e 16= .a (.own (d,q) 0 (TT (l.take i)).length)∧τ.bs (d,q)=some (.row 3 104 ((TT (l.take i)).map xu))∧q0≤q∧q<τ.clk∧Keep q0 σ τ∧(TT (l.take i)).length≤i) (i0:=0) (ji _) ⟨e11,hu8,e17,94,q0,e16,h94,nh _,hq0.2,Keep.refl _ _,nh _⟩ ?_ ?_
 ·rintro i e τ hi ⟨e11,e8,e17,d,q,e16,hbq,hq,hqc,hK,hdl⟩
  obtain⟨x,hx⟩:∃x,l[i]? =some x:=⟨_,Xb hi⟩
  have hxE:=hE x (yu hx)
  have hx':=cL hx
  have hlt:((i:Nat):Int)<(l.length:Int):=by omega
  have hge:(0:Int)≤((i:Nat):Int):=by omega
  have hw:=zz i (by omega)
  rcases hX with⟨rfl,rfl⟩|⟨xd,xq,rfl,hXb,hX0,hX1⟩
  ·simp at hi
  have hxq:=hXq xd xq rfl
  have bX:=(hK.bs (xd,xq) hxq).trans hXb
  have b11:=(hK.bs (11,c1) hq0.1).trans hb
  simp only[BU]at b11
  have htk:l.take (i+1)=l.take i++[x]:=by rw[Oq,hx];rfl
  rw[htk,IP]
  obtain⟨D,hD⟩:∃D,TT (l.take i)=D:=⟨_,rfl⟩
  rw[hD]at e16 hbq hdl⊢
  by_cases h:x.1>0
  ·have hbb:(D.length+1)*24≤140737488355328:=by omega
   have htk2:List.take D.length (D.map xu)=D.map xu:=Ea (by simp)
   have hw1:IntKind.i64.wrap (x.1-1)=x.1-1:=by have:=hxE.1;exact qI _ (by omega)
   have n0:¬q=τ.clk∧¬q=τ.clk+1:=by omega
   rw[if_pos h]
   simp only[F49b0,e11,e8,e16,e17,b11,bX,hbq,hlt,hge,hw,hw1,hx',h,htk2,hbb,n0,Ci,CC,KA,mB,Ce,sI,nh,Fy,SZ,nxB,evO,simprocAttr]
   exact⟨125,τ.clk+1,by simp,by simp[xu],by omega,by omega,((hK.add (by omega) 124 _).kill hq).add (by simp only[ME,Bv];omega) 125 _,by simp only[GM,Ce,sI];omega⟩
  ·rw[if_neg h,Qg]
   simp only[F49b0,e11,e8,e16,e17,b11,bX,hbq,hlt,hge,hw,hx',h,Ci,CC,KA,mB,Ce,sI,nh,Fy,SZ,nxB,evO,simprocAttr]
   exact⟨d,q,rfl,hbq,hq,hqc,hK,by omega⟩
 ·rintro e τ ⟨e11,e8,e17,d,q,e16,hbq,hq,hqc,hK,hdl⟩
  have b11:=(hK.bs (11,c1) hq0.1).trans hb
  simp only[BU]at b11
  rw[QL]at e16 hbq
  rcases hX with⟨rfl,rfl⟩|⟨xd,xq,rfl,hXb,hX0,hX1⟩
  ·simp only[F49b0,e11,e8,e16,e17,b11,sI,Mz,gG,nxB,evO,simprocAttr]
   exact⟨⟨_,rfl,.inr ⟨d,q,rfl,hbq,hq,hqc⟩⟩,hK⟩
  ·have hlt:¬((l.length:Nat):Int)<(l.length:Int):=by omega
   simp only[F49b0,e11,e8,e16,e17,b11,hlt,nxB,evO,simprocAttr]
   exact⟨⟨_,rfl,.inr ⟨d,q,rfl,hbq,hq,hqc⟩⟩,hK⟩
end Go.Proofs.YtmlhgalboabjcaaGreat.Tm
