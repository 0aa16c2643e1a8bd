/- Part 2 of what is proved for the law TurnLast: it returns true, whatever the input. No condition. -/
import Derived.TacticsIn
import Derived.RangeFuncRecord
import Derived.RangeFuncLeaves
import Derived.ProofKit
import Derived.OpenShut
import Derived.SizedLaws
import Derived.ChangeKeysEq
import Derived.Test.YtmlhgalboabjcaaGreatPTurnLasta
set_option maxHeartbeats 8000000
set_option maxRecDepth 100000
set_option linter.unusedSimpArgs false
set_option linter.unusedVariables false
section
namespace Go.Fx
open Go.RowKit
section
variable{P:Program}{eqs:List (TypeId×List Nat)}{CR:Nat→Code→C→Prop}{m m':Mt}{σ σ':St}{w w':World}{e:Env}{a:Act}
theorem il{op:Op}{x:O}(h:ccO P eqs op=some x)(c:Call):op≠ .defer c:=by
 rintro rfl;simp[ccO]at h
theorem vq{rr:Option Nat}{n:Nat}{o:Oper}{K:Act→World→Prop}{Q:Exit→Act→World→Prop}(hd:∀c,o.op≠ .defer c)
  (h:o.uponIn (FW rr) n P a K Q ((execOp a.eval o).run P w)):o.wpIn (FW rr) n P a w K Q:=by
 refine⟨fun _ _=>trivial,?_⟩
 have:o.semAt (FW rr).round a.eval=execOp a.eval o:=by
  cases rr with
  |none=>exact Oper.semAt_none _ _
  |some l=>exact Oper.semAt_some l _ o hd
 rw[this];exact h
def rK(CR:Nat→Code→C→Prop)(m:Mt)(σ:St)(w:World)(a:Act)(d:Option Nat)(t:TV)(σ':St)(K:Act→World→Prop):Prop:=
 ∀v w' m',SR CR m' σ' w'→RT m' σ' w' t v→Xt m σ w m' σ' w'→K (a.put d v) w'
theorem X5{rr:Option Nat}{n:Nat}{o:Oper}{K:Act→World→Prop}{Q:Exit→Act→World→Prop}{t:TV}(hd:∀c,o.op≠ .defer c)
  (h:Eff P CR m σ w (execOp a.eval o) t σ') (hK:rK CR m σ w a o.dst t σ' K):o.wpIn (FW rr) n P a w K Q:=by
 obtain⟨v,w',m',hr|⟨hr,rfl⟩,h1,h2,h3⟩:=h
 ·exact vq hd (by rw[hr];exact hK v w' m' h1 h2 h3)
 ·exact vq hd (by rw[hr];exact hK _ w' m' h1 h2 h3)
theorem Kj{rr:Option Nat}{n:Nat}{o:Oper}{K:Act→World→Prop}{Q:Exit→Act→World→Prop}{t:TV}{f:FuncId}{args:Array Value}(hd:∀c,o.op≠ .defer c)
  (hr:(execOp a.eval o).run P w= .ok (.enter f args) w) (hc:CallsIn (FW rr) (n-1) P f args w (HQ CR m σ w t σ')) (hK:rK CR m σ w a o.dst t σ' K):o.wpIn (FW rr) n P a w K Q:=by
 refine vq hd ?_
 rw[hr,Oper.uponIn_enter]
 refine⟨fun h=>by simp[FW]at h,hc.mono ?_⟩
 rintro e w' ⟨v,m',rfl,h1,h2,h3⟩
 exact hK v w' m' h1 h2 h3
theorem iB{rr:Option Nat}{n:Nat}{o:Oper}{K:Act→World→Prop}{Q:Exit→Act→World→Prop}{t:TV}{l:Nat}{f:FuncId}{tmps:Array Value}{assign body:Code}(hd:∀c,o.op≠ .defer c)
  (hr:(execOp a.eval o).run P w= .ok (.round l f tmps assign body) w) (hc:RoundIn (FW rr) (n-1) P l f tmps assign body w (HQ CR m σ w t σ')) (hK:rK CR m σ w a o.dst t σ' K):o.wpIn (FW rr) n P a w K Q:=by
 refine vq hd ?_
 rw[hr,Oper.uponIn_round]
 refine⟨fun h=>by simp[FW]at h,hc.mono ?_⟩
 rintro e w' ⟨v,m',rfl,h1,h2,h3⟩
 exact hK v w' m' h1 h2 h3
theorem QR(hE:RE m σ w e a.tmps):∀{xs:List Operand} {ys:List X},Fq ccX xs=some ys→F2 (RT m σ w) (ys.map (ev e)) (xs.map a.eval)
 |[],ys,h=>by simp[Fq]at h;subst h;exact .nil
 |x::xs,ys,h=>by
  simp only[Fq]at h
  obtain⟨y,h1,h⟩:=pT h
  obtain⟨zs,h2,h⟩:=pT h
  simp only[Lo]at h;subst h
  exact .cons (VV hE h1) (QR hE h2)
theorem jD{caps:List Key}{vs:List Value}(h:F2 (fun s u=>C9 m σ s 0 0 u∧∃A,u= .pointer (some A)) caps vs):F2 (RT m σ w) (caps.map fun s=>.a (.ptr s 0 0)) vs:=by
 induction h with
 |nil=>exact .nil
 |cons x _ ih=>exact .cons x ih
theorem pR{ts:List TV}(h:ts.any PZ=false)(σ:St):KW σ ts=σ:=by
 rw[oX]
 refine F6 _ _ fun x hx=>?_
 obtain⟨t,ht,hx⟩:=cP.1 hx
 simp only[GL]at h
 exact yj (by simpa using h t ht) x hx
theorem rF{cp:FuncId→List PT→Option PT}{cs:Cal→List TV→St→Option (TV×St)}{sp:FuncId→Bool}{op:O}{t:TV}(h:evR cp sp e σ op=some t)(d:Option Nat):evO cp cs sp d e σ op=some (t,σ):=by
 cases op with
 |call f args=>
  simp only[evR]at h
  split at h
  ·rename_i g hg
   split at h
   ·cases h
   ·rename_i hsp
    obtain⟨ps,h1,h⟩:=pT h
    obtain⟨r,h2,h⟩:=pT h
    split at h
    ·rename_i hfl
     simp only[Lo]at h;subst h
     simp only[evO,hg,h1,h2,wA,if_neg hsp]
     by_cases hr:r.flat=true
     ·simp[hr]
     ·have:(args.map (ev e)).any PZ=false:=by simpa [hr]using hfl
      simp[hr,pR this]
    ·cases h
  ·cases h
 |slc k el x lo hi mx=>
  cases mx with
  |none=>simp only[evO,h,wA]
  |some mx=>simp[evR]at h
 |new z=>simp[evR]at h
 |box n x=>simp[evR]at h
 |bsl k el z len ps=>simp[evR]at h
 |msl k el bytes z len cap=>simp[evR]at h
 |mslF k el bytes z len cap=>simp[evR]at h
 |st n a x=>simp[evR]at h
 |app k el bytes x y=>simp[evR]at h
 |mpt k x y z=>simp[evR]at h
 |_=>simp only[evO,h,wA]
theorem op_ok(hR:SR CR m σ w)(hE:RE m σ w e a.tmps)(hEq:Oi P eqs){cp:FuncId→List PT→Option PT}{cs:Cal→List TV→St→Option (TV×St)}{sp:FuncId→Bool}(hp:Ua P cp)(hs:dI P CR cs)
  {o:Oper} {op:O} {t:TV} (hcc:ccO P eqs o.op=some op) (hev:evO cp cs sp o.dst e σ op=some (t,σ')) {rr:Option Nat} {n:Nat} {K:Act→World→Prop} {Q:Exit→Act→World→Prop}
  (hK:rK CR m σ w a o.dst t σ' K):o.wpIn (FW rr) n P a w K Q:=by
 have hd:=il hcc
 have rd:∀{t_:TV},evR cp sp e σ op=some t_→(∀f args,op≠ .call f args)→t_=t→σ=σ'→o.wpIn (FW rr) n P a w K Q:=by
  intro t_ h1 h2 h3 h4
  subst h3 h4
  obtain⟨v,hr,hv⟩:=js hR hE hEq hcc h1 h2
  exact vq hd (by rw[hr];exact hK v w m hR hv (Xt.refl _ _ _))
 have rd':(evR cp sp e σ op).bind (fun v=>some (v,σ))=some (t,σ')→(∀f args,op≠ .call f args)→o.wpIn (FW rr) n P a w K Q:=by
  intro h1 h2
  obtain⟨v,h3,h1⟩:=pT h1
  simp only[Lo,ZP]at h1
  exact rd h3 h2 h1.1 h1.2
 obtain⟨dst,opc,ty,pos,after,guard⟩:=o
 simp only at hcc hd hev hK
 cases opc with
 |alloc t0=>
  simp only[ccO]at hcc
  obtain⟨z,hz,hcc⟩:=pT hcc
  simp only[Lo]at hcc;subst hcc
  cases dst with
  |none=>simp[evO]at hev
  |some d=>
   simp only[evO,Lo,ZP]at hev
   obtain⟨rfl,rfl⟩:=hev
   exact X5 hd (Zz hR hz d) hK
 |box t0 x=>
  simp only[ccO]at hcc
  obtain⟨y,hy,hcc⟩:=pT hcc
  obtain⟨k,hk,hcc⟩:=pT hcc
  simp only[Lo]at hcc;subst hcc
  simp only[evO]at hev
  split at hev
  ·rename_i d vs hvs
   split at hev
   ·simp only[Lo,ZP]at hev
    obtain⟨rfl,rfl⟩:=hev
    exact X5 hd (NW hR (oD (VV hE hy) hvs) d) hK
   ·cases hev
  ·cases hev
 |buildSlice t0 len ps=>
  simp only[ccO]at hcc
  obtain⟨el,hel,hcc⟩:=pT hcc
  obtain⟨z,hz,hcc⟩:=pT hcc
  split at hcc
  ·rename_i hlen
   obtain⟨ps',hps,hcc⟩:=pT hcc
   simp only[Lo]at hcc;subst hcc
   simp only[evO]at hev
   split at hev
   ·rename_i d
    obtain⟨z',hz',hev⟩:=pT hev
    obtain⟨rows,hrows,hev⟩:=pT hev
    simp only[Lo,ZP]at hev
    obtain⟨rfl,rfl⟩:=hev
    exact X5 hd (LP hR hE hel hz hlen.2 hz' hlen.1 hps hrows d) hK
   ·cases hev
  ·cases hcc
 |makeSlice t0 l c=>
  simp only[ccO]at hcc
  obtain⟨l',hl,hcc⟩:=pT hcc
  obtain⟨c',hc,hcc⟩:=pT hcc
  obtain⟨el,hel,hcc⟩:=pT hcc
  obtain⟨z,hz,hcc⟩:=pT hcc
  split at hcc
  ·rename_i hzl
   simp only[Lo]at hcc
   split at hcc
   ·subst hcc
    simp only[evO]at hev
    split at hev
    ·rename_i d li ci hli hci
     split at hev
     ·rename_i hb
      obtain⟨z',hz',hev⟩:=pT hev
      simp only[Lo,ZP]at hev
      obtain⟨rfl,rfl⟩:=hev
      obtain⟨k1,e1⟩:=zG (VV hE hl) hli
      obtain⟨k2,e2⟩:=zG (VV hE hc) hci
      refine X5 hd ?_ hK
      have h9:=nS (P:=P) hR hel hz hzl hz' (kl:=k1) (kc:=k2) hb.1 hb.2.1 hb.2.2 d
      have h10:Eff P CR m σ w (do pure (Next.value (←Instr.makeSlice t0 (.int k1 li) (.int k2 ci)))) (.a (.p (.l (List.replicate li.toNat z')))) ((σ.add d (.row el.2.1 el.1 (List.replicate li.toNat z'))).kill (d,σ.clk)):=by
       obtain⟨v,w1,m1,g1,g2,g3,g4⟩:=h9
       obtain⟨m2,k1,k2,k3⟩:=Hn g2 (.own (d,σ.clk) 0 li.toNat)
       refine⟨v,w1,m2,g1,k1,?_,g4.trans k2⟩
       have hfr:frA (σ.add d (.row el.2.1 el.1 (List.replicate li.toNat z'))) (.own (d,σ.clk) 0 li.toNat)=some (.l (List.replicate li.toNat z')):=by
        simp[frA,St.add,St.put]
       have g3':RA m1 (σ.add d (.row el.2.1 el.1 (List.replicate li.toNat z'))) w1 (.own (d,σ.clk) 0 li.toNat) v:=g3
       have g5:=RP.mono (fun b hb=>⟨k3 b hb,rfl⟩) (I8 g2 g3' hfr)
       exact g5
      simpa only[execOp,e1,e2]using h10
     ·cases hev
    ·cases hev
   ·subst hcc
    simp only[evO]at hev
    split at hev
    ·rename_i d li ci hli hci
     split at hev
     ·rename_i hb
      obtain⟨z',hz',hev⟩:=pT hev
      simp only[Lo,ZP]at hev
      obtain⟨rfl,rfl⟩:=hev
      obtain⟨k1,e1⟩:=zG (VV hE hl) hli
      obtain⟨k2,e2⟩:=zG (VV hE hc) hci
      refine X5 hd ?_ hK
      have:=nS (P:=P) hR hel hz hzl hz' (kl:=k1) (kc:=k2) hb.1 hb.2.1 hb.2.2 d
      simpa only[execOp,e1,e2]using this
     ·cases hev
    ·cases hev
  ·cases hcc
 |store t0 x y=>
  simp only[ccO]at hcc
  obtain⟨x',hx,hcc⟩:=pT hcc
  obtain⟨y',hy,hcc⟩:=pT hcc
  obtain⟨k,hk,hcc⟩:=pT hcc
  simp only[Lo]at hcc;subst hcc
  simp only[evO]at hev
  split at hev
  ·rename_i s i j vs hs1 hvs
   split at hev
   ·rename_i hvn
    have hx1:=VV hE hx
    rw[hs1]at hx1
    have ht:t= .u:=by
     split at hev
     ·split at hev
      ·simp only[Lo,ZP]at hev;exact hev.1.symm
      ·cases hev
     ·split at hev
      ·split at hev
       ·simp only[Lo,ZP]at hev;exact hev.1.symm
       ·cases hev
      ·cases hev
     ·cases hev
    subst ht
    exact X5 hd (st_ok hR hk hx1 (oD (VV hE hy) hvs) hvn hev) hK
   ·cases hev
  ·cases hev
 |slice t0 x lo hi mx=>
  have hcc':=hcc
  simp only[ccO]at hcc
  obtain⟨x',hx,hcc⟩:=pT hcc
  obtain⟨lo',hlo,hcc⟩:=pT hcc
  obtain⟨hi',hhi,hcc⟩:=pT hcc
  obtain⟨mx',hmx,hcc⟩:=pT hcc
  split at hcc
  ·obtain⟨el,hel,hcc⟩:=pT hcc
   simp only[Lo]at hcc;subst hcc
   cases mx' with
   |none=>exact rd' hev (by simp)
   |some mz=>
    have fin:∀{d:Nat},dst=some d→Bp e lo' 0=some 0→(hi'.map (ev e)).bind mO=some 0→mO (ev e mz)=some 0→(∃b n c,a.eval x= .slice b n c)→
      t= .a (.own (d,σ.clk) 0 0)→σ'=σ.add d (.row el.2.1 el.1 [])→Oper.wpIn (FW rr) n P {dst:=dst,op:=.slice t0 x lo hi mx,type:=ty,pos:=pos,after:=after,guard:=guard} a w K Q:=by
     intro d h1 h2 h3 h4 h5 h6 h7
     subst h1 h6 h7
     exact X5 hd (Zu hR hE hel hlo hhi hmx h2 h3 h4 h5 d) hK
    have hx1:=VV hE hx
    simp only[evO]at hev
    split at hev
    ·rename_i d _ _ _ rows h1 h2 h3 h4
     simp only[Lo,ZP]at hev
     rw[h4]at hx1
     obtain⟨b,c,hb⟩:=RP.slice hx1
     exact fin rfl h1 h2 h3 ⟨b,_,c,hb⟩ hev.1.symm hev.2.symm
    ·rename_i d _ _ _ s off len h1 h2 h3 h4
     simp only[Lo,ZP]at hev
     rw[h4]at hx1
     obtain⟨_,⟨b,c,hb,_⟩,_⟩:=hx1
     exact fin rfl h1 h2 h3 ⟨b,_,c,hb⟩ hev.1.symm hev.2.symm
    ·rename_i d _ _ _ h1 h2 h3 h4
     simp only[Lo,ZP]at hev
     rw[h4]at hx1
     exact fin rfl h1 h2 h3 ⟨_,_,_,hx1⟩ hev.1.symm hev.2.symm
    ·cases hev
  ·split at hcc
   ·cases hcc
   ·simp only[Lo]at hcc;subst hcc
    exact rd' hev (by simp)
  ·cases hcc
 |call c=>
  obtain⟨callee,args,argTypes⟩:=c
  cases callee with
  |builtin b=>
   cases b with
   |append=>
    simp only[ccO]at hcc
    split at hcc
    ·rename_i x y t1 u1 hxs hts
     obtain⟨x',hx,hcc⟩:=pT hcc
     obtain⟨y',hy,hcc⟩:=pT hcc
     obtain⟨el,hel,hcc⟩:=pT hcc
     split at hcc
     ·rename_i hh
      obtain⟨htu,hzl⟩:=hh
      simp only[Lo]at hcc;subst hcc
      subst htu
      have hxs':args= #[x,y]:=by rw[←Array.toList_inj,hxs]
      have hts':argTypes= #[t1,t1]:=by rw[←Array.toList_inj,hts]
      subst hxs' hts'
      have hx1:=VV hE hx
      have hy1:=VV hE hy
      simp only[evO]at hev
      have fin:∀{d:Nat} {xa ya:AV},dst=some d→ev e x'= .a xa→ev e y'= .a ya→(match xa with
        | .nil=>(B2 σ ya).bind fun ns=>
          if ns.length*el.2.2≤140737488355328∧ns.all (fun r=>r.length=el.2.1)then some (TV.a (.own (d,σ.clk) 0 ns.length),σ.add d (.row el.2.1 el.1 ns))else none
        | .own s off len=>match σ.bs s,B2 σ ya with
          |some (.row k' el' rows),some ns=>
           if off=0∧k'=el.2.1∧el'=el.1∧len≤rows.length∧(len+ns.length)*el.2.2≤140737488355328∧ns.all (fun r=>r.length=el.2.1)then
            some (TV.a (.own (d,σ.clk) 0 (len+ns.length)),(σ.kill s).add d (.row el.2.1 el.1 (rows.take len++ns)))
           else none
          |_,_=>none
        |_=>none)=some (t,σ')→Oper.wpIn (FW rr) n P {dst:=dst,op:=.call {callee:=.builtin .append,args:= #[x,y],argTypes:= #[t1,t1]},type:=ty,pos:=pos,after:=after,guard:=guard} a w K Q:=by
       intro d xa ya h1 h2 h3 h4
       subst h1
       rw[h2]at hx1;rw[h3]at hy1
       refine X5 hd ?_ hK
       have hrun:(execOp a.eval {dst:=some d,op:=.call {callee:=.builtin .append,args:= #[x,y],argTypes:= #[t1,t1]},type:=ty,pos:=pos,after:=after,guard:=guard}).run P w=
         (do pure (Next.value (←Builtin.append_ #[t1,t1] ty #[a.eval x,a.eval y])):Sem Next).run P w:=by
        simp[execOp,resolve,invoke,builtin]
       unfold Eff
       rw[hrun]
       cases xa with
       |nil=>exact iL (P:=P) (ty:=ty) (x:=.nil) (y:=ya) hR hel hzl hx1 hy1 d h4
       |own s off len=>exact iL (P:=P) (ty:=ty) (x:=.own s off len) (y:=ya) hR hel hzl hx1 hy1 d h4
       |_=>cases h4
      split at hev
      ·rename_i d y0 h2 h3
       exact fin rfl h2 h3 hev
      ·rename_i d s off len y0 h2 h3
       exact fin rfl h2 h3 hev
      ·cases hev
     ·cases hcc
    ·cases hcc
   |len=>
    have hnc:∀f as,op≠ .call f as:=by
     intro f as hh;subst hh
     simp only[ccO]at hcc
     split at hcc
     ·obtain⟨x',hx,hcc⟩:=pT hcc
      split at hcc<;>simp at hcc
     ·cases hcc
    cases op with
    |len str x=>exact rd' hev hnc
    |_=>
     simp only[ccO]at hcc
     split at hcc
     ·obtain⟨x',hx,hcc⟩:=pT hcc
      split at hcc<;>simp at hcc
     ·cases hcc
   |max=>
    cases op with
    |mx x y=>exact rd' hev (by simp)
    |_=>
     simp only[ccO]at hcc
     split at hcc
     ·obtain⟨x',hx,hcc⟩:=pT hcc
      obtain⟨y',hy,hcc⟩:=pT hcc
      simp at hcc
     ·cases hcc
   |min=>
    cases op with
    |mn x y=>exact rd' hev (by simp)
    |_=>
     simp only[ccO]at hcc
     split at hcc
     ·obtain⟨x',hx,hcc⟩:=pT hcc
      obtain⟨y',hy,hcc⟩:=pT hcc
      simp at hcc
     ·cases hcc
   |_=>simp[ccO]at hcc
  |invoke r nm=>simp[ccO]at hcc
  |value f=>
   simp only[ccO]at hcc
   obtain⟨f',hf,hcc⟩:=pT hcc
   obtain⟨as,has,hcc⟩:=pT hcc
   simp only[Lo]at hcc;subst hcc
   have hf1:=VV hE hf
   have has1:=QR hE has
   simp only[evO]at hev
   split at hev
   ·rename_i g caps hg
    rw[hg]at hf1
    obtain⟨cv,hfv,hcv⟩:=hf1
    have hrun:∀{g':FuncId},Ent P g'→g'=g→(execOp a.eval {dst:=dst,op:=.call {callee:=.value f,args:=args,argTypes:=argTypes},type:=ty,pos:=pos,after:=after,guard:=guard}).run P w=
      .ok (.enter g (args.toList.map a.eval++cv).toArray) w:=by
     intro g' hen hgg
     subst hgg
     simp only[execOp,resolve,hfv,Sem.run_bind,Deferred.ofValue,Sem.run_pure,Result.andThen_ok,invoke]
     rw[Vs hen]
     congr 1
     simp
    have sp_case:∀{r:TV},cs (.f g) (as.map (ev e)++caps.map fun s=>.a (.ptr s 0 0)) σ=some (r,σ')→r=t→Oper.wpIn (FW rr) n P {dst:=dst,op:=.call {callee:=.value f,args:=args,argTypes:=argTypes},type:=ty,pos:=pos,after:=after,guard:=guard} a w K Q:=by
     intro r h1 h2
     subst h2
     obtain⟨hen,hc⟩:=hs _ _ _ _ _ h1
     exact Kj hd (hrun hen rfl) (hc m w _ hR (has1.append (jD hcv)) rr (n-1)) hK
    split at hev
    ·exact sp_case hev rfl
    ·split at hev
     ·rename_i ps hps
      obtain⟨r,h1,hev⟩:=pT hev
      simp only[Lo,ZP]at hev
      obtain⟨rfl,rfl⟩:=hev
      obtain⟨hen,hc⟩:=hp _ _ _ h1
      cases hcv
      refine Kj hd (hrun hen rfl) ?_ hK
      rw[Qg]
      exact zK hR hc has1 hps rfl rr (n-1)
     ·exact sp_case hev rfl
   ·rename_i l hl
    rw[hl]at hf1
    obtain⟨hll,hfv⟩:=hf1
    obtain⟨lo,hlo,_⟩:=hR.lrs l _ (Xb hll)
    obtain⟨hsz,hc⟩:=hs _ _ _ _ _ hev m w _ hR has1 lo hlo
    refine iB hd ?_ (hc rr (n-1)) hK
    simp only[execOp,resolve,hfv,Sem.run_bind,Deferred.ofValue,Sem.run_pure,Result.andThen_ok,invoke]
    have hmap:args.map a.eval=(args.toList.map a.eval).toArray:=by apply SV;simp
    rw[hmap,Array.empty_append,run_yield hlo (by simpa using hsz)]
   ·cases hev
 |move x=>simp only[ccO]at hcc;obtain⟨_,_,hcc⟩:=pT hcc;simp only[Lo]at hcc;subst hcc;exact rd' hev (by simp)
 |assign x=>simp only[ccO]at hcc;obtain⟨_,_,hcc⟩:=pT hcc;simp only[Lo]at hcc;subst hcc;exact rd' hev (by simp)
 |pick c x y=>simp only[ccO]at hcc;obtain⟨_,_,hcc⟩:=pT hcc;obtain⟨_,_,hcc⟩:=pT hcc;obtain⟨_,_,hcc⟩:=pT hcc;simp only[Lo]at hcc;subst hcc;exact rd' hev (by simp)
 |build t0 ps=>
  cases op with
  |build z qs=>exact rd' hev (by simp)
  |_=>
   simp only[ccO]at hcc
   obtain⟨_,_,hcc⟩:=pT hcc
   split at hcc
   ·split at hcc
    ·obtain⟨_,_,hcc⟩:=pT hcc;simp at hcc
    ·cases hcc
   ·obtain⟨_,_,hcc⟩:=pT hcc;obtain⟨_,_,hcc⟩:=pT hcc;simp at hcc
   ·cases hcc
 |load t0 x=>
  simp only[ccO]at hcc
  obtain⟨_,_,hcc⟩:=pT hcc;obtain⟨_,_,hcc⟩:=pT hcc;obtain⟨_,_,hcc⟩:=pT hcc
  split at hcc
  ·cases hcc
  ·simp only[Lo]at hcc;subst hcc;exact rd' hev (by simp)
 |nilCheck x=>simp only[ccO]at hcc;obtain⟨_,_,hcc⟩:=pT hcc;simp only[Lo]at hcc;subst hcc;exact rd' hev (by simp)
 |binOp bop t0 x y ty'=>
  simp only[ccO]at hcc
  obtain⟨_,_,hcc⟩:=pT hcc;obtain⟨_,_,hcc⟩:=pT hcc
  cases op with
  |bin b x y=>exact rd' hev (by simp)
  |eqb g x y=>exact rd' hev (by simp)
  |eqg g s x y=>exact rd' hev (by simp)
  |nq g x=>exact rd' hev (by simp)
  |_=>
   split at hcc
   all_goals first
    |(split at hcc
      all_goals first
       |(obtain⟨_,_,hcc⟩:=pT hcc;simp at hcc;done)
       |(simp at hcc;done))
    |(simp at hcc;done)
 |unOp uop t0 x=>
  cases uop with
  |not=>simp only[ccO]at hcc;obtain⟨_,_,hcc⟩:=pT hcc;simp only[Lo]at hcc;subst hcc;exact rd' hev (by simp)
  |neg=>simp only[ccO]at hcc;obtain⟨_,_,hcc⟩:=pT hcc;simp only[Lo]at hcc;subst hcc;exact rd' hev (by simp)
  |_=>simp[ccO]at hcc
 |convert src dst' x=>
  simp only[ccO]at hcc
  obtain⟨_,_,hcc⟩:=pT hcc
  cases op with
  |cvi k x=>exact rd' hev (by simp)
  |_=>
   split at hcc
   ·simp at hcc
   ·cases hcc
 |makeFunc fn first caps=>
  cases op with
  |fn f cs'=>exact rd' hev (by simp)
  |_=>
   cases fn with
   |func f=>
    simp only[ccO]at hcc
    split at hcc
    ·obtain⟨_,_,hcc⟩:=pT hcc;simp at hcc
    ·cases hcc
   |_=>simp[ccO]at hcc
 |fieldAddr t0 x f=>
  simp only[ccO]at hcc
  obtain⟨_,_,hcc⟩:=pT hcc;obtain⟨_,_,hcc⟩:=pT hcc;obtain⟨_,_,hcc⟩:=pT hcc
  split at hcc
  ·cases hcc
  ·simp only[Lo]at hcc;subst hcc;exact rd' hev (by simp)
 |field t0 x f=>
  simp only[ccO]at hcc
  obtain⟨_,_,hcc⟩:=pT hcc;obtain⟨_,_,hcc⟩:=pT hcc;obtain⟨_,_,hcc⟩:=pT hcc;obtain⟨_,_,hcc⟩:=pT hcc
  split at hcc
  ·cases hcc
  ·simp only[Lo]at hcc;subst hcc;exact rd' hev (by simp)
 |indexAddr t0 x ix=>
  simp only[ccO]at hcc
  obtain⟨_,_,hcc⟩:=pT hcc;obtain⟨_,_,hcc⟩:=pT hcc
  split at hcc
  ·obtain⟨_,_,hcc⟩:=pT hcc;simp only[Lo]at hcc;subst hcc;exact rd' hev (by simp)
  ·obtain⟨_,_,hcc⟩:=pT hcc;simp only[Lo]at hcc;subst hcc;exact rd' hev (by simp)
  ·cases hcc
 |index t0 x ix=>
  simp only[ccO]at hcc
  obtain⟨_,_,hcc⟩:=pT hcc;obtain⟨_,_,hcc⟩:=pT hcc
  split at hcc
  ·simp only[Lo]at hcc;subst hcc;exact rd' hev (by simp)
  ·obtain⟨_,_,hcc⟩:=pT hcc;obtain⟨_,_,hcc⟩:=pT hcc
   split at hcc
   ·cases hcc
   ·simp only[Lo]at hcc;subst hcc;exact rd' hev (by simp)
  ·cases hcc
 |extract x i=>simp only[ccO]at hcc;obtain⟨_,_,hcc⟩:=pT hcc;simp only[Lo]at hcc;subst hcc;exact rd' hev (by simp)
 |_=>simp[ccO]at hcc
end
end Go.Fx
namespace Go.Fx
section
variable{e e':Env}{σ σ':St}{cp:FuncId→List PT→Option PT}{cs:Cal→List TV→St→Option (TV×St)}{sp:FuncId→Bool}
def AgX(e e':Env)(xs:List X):Prop:=∀x,x∈xs→ev e' x=ev e x
theorem jM:∀{ps:List (Nat×Nat×X)} {z:List AV},AgX e e' (ps.map (·.2.2))→I2 e' z ps=I2 e z ps
 |[],_,_=>rfl
 |(off,size,x)::r,z,h=>by
  simp only[I2,h x (by simp)]
  refine congrArg (Option.bind _) (funext fun vs=>?_)
  split
  ·exact jM fun y hy=>h y (tT _ hy)
  ·rfl
theorem SE:∀{xs:List X},AgX e e' xs→Wk e' xs=Wk e xs
 |[],_=>rfl
 |x::r,h=>by simp only[Wk,h x (by simp),SE fun y hy=>h y (tT _ hy)]
theorem Bm{xs:List X}(h:AgX e e' xs):xs.map (ev e')=xs.map (ev e):=GO h
theorem qH{x:Option X}{d:Int}(h:AgX e e' x.toList):Bp e' x d=Bp e x d:=by
 cases x with
 |none=>rfl
 |some x=>simp only[Bp,h x (by simp)]
theorem l5:∀{ps:List (Nat×X)} {σ:St} {k:Nat} {rows:List (List PV)},AgX e e' (ps.map (·.2))→evO.bslRows e' σ k rows ps=evO.bslRows e σ k rows ps
 |[],_,_,_,_=>rfl
 |(i,x)::r,σ,k,rows,h=>by
  simp only[evO.bslRows,h x (by simp)]
  refine congrArg (Option.bind _) (funext fun vs=>congrArg (Option.bind _) (funext fun ws=>?_))
  split
  ·exact l5 fun y hy=>h y (tT _ hy)
  ·rfl
theorem ko{o:O}(h:AgX e e' o.xs):evR cp sp e' σ o=evR cp sp e σ o:=by
 cases o with
 |build z ps=>simp only[evR,jM h]
 |fn f caps=>have h1:=SE (xs:=caps) h;simp only[evR,h1]
 |call f args=>
  have h1:ev e' f=ev e f:=h f (by simp[O.xs])
  have h2:args.map (ev e')=args.map (ev e):=Bm fun y hy=>h y (by simp[O.xs,hy])
  simp only[evR,h1,h2]
 |slc k el x lo hi most=>
  have h1:ev e' x=ev e x:=h x (by simp[O.xs])
  have h2:∀d,Bp e' lo d=Bp e lo d:=fun d=>qH fun y hy=>h y (by simp only[O.xs,qY,Sw];exact .inr (.inl (.inl hy)))
  have h3:∀d,Bp e' hi d=Bp e hi d:=fun d=>qH fun y hy=>h y (by simp only[O.xs,qY,Sw];exact .inr (.inl (.inr hy)))
  cases most<;>simp only[evR,h1,h2,h3]
 |sub x lo hi=>
  have h1:ev e' x=ev e x:=h x (by simp[O.xs])
  have h2:∀d,Bp e' lo d=Bp e lo d:=fun d=>qH fun y hy=>h y (by simp only[O.xs,qY,Sw];exact .inr (.inl hy))
  have h3:∀d,Bp e' hi d=Bp e hi d:=fun d=>qH fun y hy=>h y (by simp only[O.xs,qY,Sw];exact .inr (.inr hy))
  simp only[evR,h1,h2,h3]
 |pick c a b=>
  have h1:ev e' c=ev e c:=h c (by simp[O.xs])
  have h2:ev e' a=ev e a:=h a (by simp[O.xs])
  have h3:ev e' b=ev e b:=h b (by simp[O.xs])
  simp only[evR,h1,h2,h3]
 |new z=>rfl
 |bsl k el z len ps=>rfl
 |mv x=>have h1:ev e' x=ev e x:=h x (by simp[O.xs]);simp only[evR,h1]
 |box n x=>rfl
 |ld n g x=>have h1:ev e' x=ev e x:=h x (by simp[O.xs]);simp only[evR,h1]
 |st n x y=>rfl
 |mpt k x y z=>rfl
 |nck x=>have h1:ev e' x=ev e x:=h x (by simp[O.xs]);simp only[evR,h1]
 |bin op x y=>have h1:ev e' x=ev e x:=h x (by simp[O.xs]);have h2:ev e' y=ev e y:=h y (by simp[O.xs]);simp only[evR,h1,h2]
 |eqb g x y=>have h1:ev e' x=ev e x:=h x (by simp[O.xs]);have h2:ev e' y=ev e y:=h y (by simp[O.xs]);simp only[evR,h1,h2]
 |eqg g s x y=>have h1:ev e' x=ev e x:=h x (by simp[O.xs]);have h2:ev e' y=ev e y:=h y (by simp[O.xs]);simp only[evR,h1,h2]
 |nq g x=>have h1:ev e' x=ev e x:=h x (by simp[O.xs]);simp only[evR,h1]
 |not x=>have h1:ev e' x=ev e x:=h x (by simp[O.xs]);simp only[evR,h1]
 |neg x=>have h1:ev e' x=ev e x:=h x (by simp[O.xs]);simp only[evR,h1]
 |cvi k x=>have h1:ev e' x=ev e x:=h x (by simp[O.xs]);simp only[evR,h1]
 |cvs x=>have h1:ev e' x=ev e x:=h x (by simp[O.xs]);simp only[evR,h1]
 |msl k el b z l c=>rfl
 |mslF k el b z l c=>rfl
 |fad o x=>have h1:ev e' x=ev e x:=h x (by simp[O.xs]);simp only[evR,h1]
 |fld o n g x=>have h1:ev e' x=ev e x:=h x (by simp[O.xs]);simp only[evR,h1]
 |ias k x y=>have h1:ev e' x=ev e x:=h x (by simp[O.xs]);have h2:ev e' y=ev e y:=h y (by simp[O.xs]);simp only[evR,h1,h2]
 |iaa n k x y=>have h1:ev e' x=ev e x:=h x (by simp[O.xs]);have h2:ev e' y=ev e y:=h y (by simp[O.xs]);simp only[evR,h1,h2]
 |ixs x y=>have h1:ev e' x=ev e x:=h x (by simp[O.xs]);have h2:ev e' y=ev e y:=h y (by simp[O.xs]);simp only[evR,h1,h2]
 |ixa n k g x y=>have h1:ev e' x=ev e x:=h x (by simp[O.xs]);have h2:ev e' y=ev e y:=h y (by simp[O.xs]);simp only[evR,h1,h2]
 |ext x i=>have h1:ev e' x=ev e x:=h x (by simp[O.xs]);simp only[evR,h1]
 |len s x=>have h1:ev e' x=ev e x:=h x (by simp[O.xs]);simp only[evR,h1]
 |app k el b x y=>rfl
 |mx x y=>have h1:ev e' x=ev e x:=h x (by simp[O.xs]);have h2:ev e' y=ev e y:=h y (by simp[O.xs]);simp only[evR,h1,h2]
 |mn x y=>have h1:ev e' x=ev e x:=h x (by simp[O.xs]);have h2:ev e' y=ev e y:=h y (by simp[O.xs]);simp only[evR,h1,h2]
theorem eg{o:O}{d:Option Nat}(h:AgX e e' o.xs):evO cp cs sp d e' σ o=evO cp cs sp d e σ o:=by
 have hr:=ko (cp:=cp) (sp:=sp) (σ:=σ) h
 cases o with
 |new z=>rfl
 |box n x=>have h1:ev e' x=ev e x:=h x (by simp[O.xs]);simp only[evO,h1]
 |bsl k el z len ps=>simp only[evO,l5 h]
 |mslF k el b z l c=>have h1:ev e' l=ev e l:=h l (by simp[O.xs]);have h2:ev e' c=ev e c:=h c (by simp[O.xs]);simp only[evO,h1,h2]
 |msl k el b z l c=>have h1:ev e' l=ev e l:=h l (by simp[O.xs]);have h2:ev e' c=ev e c:=h c (by simp[O.xs]);simp only[evO,h1,h2]
 |st n x y=>have h1:ev e' x=ev e x:=h x (by simp[O.xs]);have h2:ev e' y=ev e y:=h y (by simp[O.xs]);simp only[evO,h1,h2]
 |app k el b x y=>have h1:ev e' x=ev e x:=h x (by simp[O.xs]);have h2:ev e' y=ev e y:=h y (by simp[O.xs]);simp only[evO,h1,h2]
 |slc k el x lo hi most=>
  cases most with
  |none=>simp only[evO,hr]
  |some most=>
   have h1:ev e' x=ev e x:=h x (by simp[O.xs])
   have h2:∀d,Bp e' lo d=Bp e lo d:=fun d=>qH fun y hy=>h y (by simp only[O.xs,qY,Sw];exact .inr (.inl (.inl hy)))
   have h4:ev e' most=ev e most:=h most (by simp[O.xs])
   have h3:hi.map (ev e')=hi.map (ev e):=by
    cases hi with
    |none=>rfl
    |some y=>simp only[lT,h y (by simp[O.xs])]
   simp only[evO,h1,h2,h3,h4]
 |call f args=>
  have h1:ev e' f=ev e f:=h f (by simp[O.xs])
  have h2:args.map (ev e')=args.map (ev e):=Bm fun y hy=>h y (by simp[O.xs,hy])
  simp only[evO,h1,h2]
 |mpt k x y z=>
  have h1:ev e' x=ev e x:=h x (by simp[O.xs])
  have h2:ev e' y=ev e y:=h y (by simp[O.xs])
  have h3:ev e' z=ev e z:=h z (by simp[O.xs])
  simp only[evO,h1,h2,h3]
 |_=>simp only[evO,hr]
theorem sf{o:O}(h:AgX e e' o.xs):o.adds e'=o.adds e:=by
 cases o with
 |bsl k el z len ps=>
  simp only[O.adds]
  have:∀{ps:List (Nat×X)},AgX e e' (ps.map (·.2))→(ps.all fun x=> !PZ (ev e' x.2))=ps.all fun x=> !PZ (ev e x.2):=by
   intro ps
   induction ps with
   |nil=>intro _;rfl
   |cons p ps ih=>intro h;simp only[KF,h p.2 (by simp),ih fun y hy=>h y (tT _ hy)]
  exact this h
 |_=>rfl
def Up(σ σ':St)(ks:List Key):Prop:=∀s,s∈ks→∀b,σ.bs s=some b→σ'.bs s=some b
theorem OG{x:AV}(h:Up σ σ' (J8 x)){p:PV}(hp:frA σ x=some p):frA σ' x=some p:=by
 cases x with
 |own s off len=>
  simp only[frA]at hp⊢
  cases hb:σ.bs s with
  |none=>simp[hb]at hp
  |some b=>rw[h s (by simp[J8]) b hb];rw[hb]at hp;exact hp
 |_=>exact hp
theorem jJ:∀{xs:List AV} {ps:List PV},Up σ σ' (xs.flatMap J8)→frL σ xs=some ps→frL σ' xs=some ps
 |[],_,_,hp=>hp
 |x::r,ps,h,hp=>by
  simp only[frL]at hp
  obtain⟨v,h1,hp⟩:=pT hp
  obtain⟨vs,h2,hp⟩:=pT hp
  simp only[Lo]at hp;subst hp
  simp only[frL,OG (fun s hs=>h s (by simp[hs])) h1,jJ (fun s hs=>h s (by simp only[aC,Sw];exact .inr hs)) h2,wA]
theorem DM:∀{xs:List (Bool×List AV)} {ps:List (Bool×List PV)},Up σ σ' (xs.flatMap fun x=>x.2.flatMap J8)→frV σ xs=some ps→frV σ' xs=some ps
 |[],_,_,hp=>hp
 |x::r,ps,h,hp=>by
  simp only[frV]at hp
  obtain⟨v,h1,hp⟩:=pT hp
  obtain⟨vs,h2,hp⟩:=pT hp
  simp only[Lo]at hp;subst hp
  simp only[frV,jJ (fun s hs=>h s (by simp only[aC,Sw];exact .inl hs)) h1,DM (fun s hs=>h s (by simp only[aC,Sw];exact .inr hs)) h2,wA]
theorem Ru{t:TV}(h:Up σ σ' (yQ t)){p:PT}(hp:frT σ t=some p):frT σ' t=some p:=by
 cases t with
 |u=>exact hp
 |a x=>simp only[frT]at hp⊢;obtain⟨v,h1,hp⟩:=pT hp;rw[OG h h1];exact hp
 |g cs=>simp only[frT]at hp⊢;obtain⟨v,h1,hp⟩:=pT hp;rw[jJ h h1];exact hp
 |t vs=>simp only[frT]at hp⊢;obtain⟨v,h1,hp⟩:=pT hp;rw[DM h h1];exact hp
theorem rk:∀{ts:List TV} {ps:List PT},Up σ σ' (ts.flatMap yQ)→Kt σ ts=some ps→Kt σ' ts=some ps
 |[],_,_,hp=>hp
 |x::r,ps,h,hp=>by
  simp only[Kt]at hp
  obtain⟨v,h1,hp⟩:=pT hp
  obtain⟨vs,h2,hp⟩:=pT hp
  simp only[Lo]at hp;subst hp
  simp only[Kt,Ru (fun s hs=>h s (by simp only[aC,Sw];exact .inl hs)) h1,rk (fun s hs=>h s (by simp only[aC,Sw];exact .inr hs)) h2,wA]
theorem JZ{n:Nat}{x:AV}(h:Up σ σ' (J8 x)){cs:List AV}(hp:cM σ n x=some cs):cM σ' n x=some cs:=by
 cases x with
 |ptr s i j=>
  simp only[cM]at hp⊢
  cases hb:σ.bs s with
  |none=>simp[hb]at hp
  |some b=>rw[h s (by simp[J8]) b hb];rw[hb]at hp;exact hp
 |_=>exact hp
theorem wb{s:Key}{k:Nat}(h:Up σ σ' [s])(hp:Ci σ s=some k):Ci σ' s=some k:=by
 simp only[Ci]at hp⊢
 cases hb:σ.bs s with
 |none=>simp[hb]at hp
 |some b=>rw[h s (by simp) b hb];rw[hb]at hp;exact hp
theorem Jr{x:AV}(h:Up σ σ' (J8 x)){rows:List (List PV)}(hp:B2 σ x=some rows):B2 σ' x=some rows:=by
 simp only[B2]at hp⊢
 cases hb:frA σ x with
 |none=>simp[hb]at hp
 |some p=>rw[OG h hb];rw[hb]at hp;exact hp
theorem qP{o:O}(h:∀x,x∈o.xs→Up σ σ' (yQ (ev e x))){t:TV}(hp:evR cp sp e σ o=some t):evR cp sp e σ' o=some t:=by
 cases o with
 |ld n g x=>
  have h1:=h x (by simp[O.xs])
  simp only[evR]at hp⊢
  split at hp
  ·rename_i y hy
   rw[hy]at h1
   obtain⟨c,h2,hp⟩:=pT hp
   rw[JZ h1 h2];exact hp
  ·cases hp
 |cvs x=>
  have h1:=h x (by simp[O.xs])
  simp only[evR]at hp⊢
  split at hp
  ·rename_i y hy
   rw[hy]at h1
   obtain⟨c,h2,hp⟩:=pT hp
   rw[Jr h1 h2];exact hp
  ·cases hp
 |slc k el x lo hi most=>
  cases most with
  |some most=>simp[evR]at hp
  |none=>
   have h1:=h x (by simp[O.xs])
   simp only[evR]at hp⊢
   split at hp
   ·rename_i s off len hy
    rw[hy]at h1
    obtain⟨l,h2,hp⟩:=pT hp
    obtain⟨u,h3,hp⟩:=pT hp
    split at hp
    ·rename_i hc
     simp only[h2,h3,wA]
     rw[if_pos ⟨hc.1,hc.2.1,hc.2.2.1,wb h1 hc.2.2.2⟩];exact hp
    ·cases hp
   ·exact hp
   ·exact hp
   ·cases hp
 |ias k x ix=>
  have h1:=h x (by simp[O.xs])
  simp only[evR]at hp⊢
  split at hp
  ·rename_i s off len i hy hi
   rw[hy]at h1
   split at hp
   ·rename_i hc
    rw[if_pos ⟨hc.1,hc.2.1,wb h1 hc.2.2⟩];exact hp
   ·cases hp
  ·exact hp
  ·cases hp
 |call f args=>
  simp only[evR]at hp⊢
  split at hp
  ·split at hp
   ·cases hp
   ·rename_i hsp
    rw[if_neg hsp]
    obtain⟨ps,h2,hp⟩:=pT hp
    rw[rk (fun s hs=>by
     obtain⟨t,ht,hs⟩:=cP.1 hs
     obtain⟨x,hx,rfl⟩:=Om.1 ht
     exact h x (by simp[O.xs,hx]) s hs) h2]
    exact hp
  ·cases hp
 |_=>exact hp
theorem Z7:∀{ps:List (Nat×X)} {σ:St} {k:Nat} {rows:List (List PV)} {r:List (List PV)×St},(ps.all fun x=> !PZ (ev e x.2))=true→evO.bslRows e σ k rows ps=some r→r.2=σ
 |[],_,_,_,_,_,h=>by simp only[evO.bslRows,Lo]at h;subst h;rfl
 |(i,x)::ps,σ,k,rows,r,ha,h=>by
  simp only[KF,Cd,qp]at ha
  simp only[evO.bslRows]at h
  obtain⟨vs,h1,h⟩:=pT h
  obtain⟨ws,h2,h⟩:=pT h
  split at h
  ·have:=Z7 ha.2 h
   rw[this]
   refine F6 _ _ fun y hy=>yj ha.1 y ?_
   cases hx:ev e x with
   |u=>rw[hx]at h1;simp[dV]at h1
   |a z=>rw[hx]at h1;simp only[dV,Lo]at h1;subst h1;exact hy
   |g cs=>rw[hx]at h1;simp only[dV,Lo]at h1;subst h1;exact hy
   |t vs=>rw[hx]at h1;simp[dV]at h1
  ·cases h
theorem V3{o:O}(ha:o.adds e=true){d:Option Nat}{r:TV×St}(h:evO cp cs sp d e σ o=some r):∃d b,r.2=σ.add d b∨r.2=(σ.add d b).kill (d,σ.clk):=by
 cases o with
 |new z=>
  cases d with
  |none=>simp[evO]at h
  |some d=>simp only[evO,Lo]at h;subst h;exact⟨_,_,.inl rfl⟩
 |box n x=>
  simp only[evO]at h
  split at h
  ·split at h
   ·simp only[Lo]at h;subst h;exact⟨_,_,.inl rfl⟩
   ·cases h
  ·cases h
 |bsl k el z len ps=>
  cases d with
  |none=>simp[evO]at h
  |some d=>
   simp only[evO]at h
   obtain⟨z',h1,h⟩:=pT h
   obtain⟨x,h2,h⟩:=pT h
   simp only[Lo]at h;subst h
   have:=Z7 ha h2
   simp only[this]
   exact⟨_,_,.inl rfl⟩
 |msl k el b z l c=>
  simp only[evO]at h
  split at h
  ·split at h
   ·obtain⟨z',h1,h⟩:=pT h
    simp only[Lo]at h;subst h;exact⟨_,_,.inl rfl⟩
   ·cases h
  ·cases h
 |mslF k el b z l c=>
  simp only[evO]at h
  split at h
  ·split at h
   ·obtain⟨z',h1,h⟩:=pT h
    simp only[Lo]at h;subst h;exact⟨_,_,.inr rfl⟩
   ·cases h
  ·cases h
 |_=>simp[O.adds]at ha
end
def evV(cp:FuncId→List PT→Option PT)(cs:Cal→List TV→St→Option (TV×St))(sp:FuncId→Bool)(i:Ins)(e:Env)(σ:St):Option (TV×St):=
 let run:Option (TV×St):=match i.cl with
  | .rd=>(evR cp sp e σ i.op).bind fun v=>some (v,σ)
  | .any=>evO cp cs sp i.dst e σ i.op
  | .ad=>if i.op.adds e then evO cp cs sp i.dst e σ i.op else none
  | .wr ts=>if eh e σ i.op ts then evO cp cs sp i.dst e σ i.op else none
  | .cl ys ns=>(evO cp cs sp i.dst e σ i.op).bind fun x=>if Of e σ x.2 ys ns then some x else none
 match i.gd with
 |none=>run
 |some (t,w)=>match e t with
  | .a (.p (.b x))=>if x=w then run else some (.u,σ)
  | .u=>some (.u,σ)
  |_=>none
section
variable{e e':Env}{σ σ':St}{cp:FuncId→List PT→Option PT}{cs:Cal→List TV→St→Option (TV×St)}{sp:FuncId→Bool}
theorem dr(i:Ins):evI cp cs sp i e σ=(evV cp cs sp i e σ).bind fun x=>some (e.putD i.dst x.1,x.2):=by
 obtain⟨d,g,o,cl⟩:=i
 have run:(match cl with
  | .rd=>(evR cp sp e σ o).bind fun v=>some (e.putD d v,σ)
  | .any=>(evO cp cs sp d e σ o).bind fun x=>some (e.putD d x.1,x.2)
  | .ad=>if o.adds e then(evO cp cs sp d e σ o).bind fun x=>some (e.putD d x.1,x.2)else none
  | .wr ts=>if eh e σ o ts then(evO cp cs sp d e σ o).bind fun x=>some (e.putD d x.1,x.2)else none
  | .cl ys ns=>(evO cp cs sp d e σ o).bind fun x=>if Of e σ x.2 ys ns then some (e.putD d x.1,x.2)else none)=(match cl with
  | .rd=>(evR cp sp e σ o).bind fun v=>some (v,σ)
  | .any=>evO cp cs sp d e σ o
  | .ad=>if o.adds e then evO cp cs sp d e σ o else none
  | .wr ts=>if eh e σ o ts then evO cp cs sp d e σ o else none
  | .cl ys ns=>(evO cp cs sp d e σ o).bind fun x=>if Of e σ x.2 ys ns then some x else none).bind fun x=>some (e.putD d x.1,x.2):=by
  cases cl with
  |cl ys ns=>
   cases h:evO cp cs sp d e σ o with
   |none=>rfl
   |some x=>
    simp only[wA]
    split<;>rfl
  |wr ts=>simp only[];split<;>rfl
  |rd=>simp only[Option.bind_assoc,wA]
  |any=>rfl
  |ad=>simp only[];split<;>rfl
 unfold evI evV
 cases g with
 |none=>exact run
 |some g=>
  obtain⟨t,w⟩:=g
  simp only[]
  cases ht:e t with
  |u=>rfl
  |g cs=>rfl
  |t vs=>rfl
  |a x=>
   cases x with
   |p v=>
    cases v with
    |b x=>
     simp only[]
     split
     ·exact run
     ·rfl
    |_=>rfl
   |_=>rfl
theorem wC{i:Ins}(h:∀t,t∈i.looks→e' t=e t):AgX e e' i.op.xs:=by
 intro x hx
 cases x with
 |t n=>exact h n (by simp only[Ins.looks,Sw,cP];exact .inr ⟨_,hx,by simp[xT]⟩)
 |c v=>rfl
 |f f=>rfl
def Ins.loose(i:Ins):Ins:=match i.cl with| .wr _=>{i with cl:=.any}| .cl _ _=>{i with cl:=.any}|_=>i
theorem CN(i:Ins):i.loose.dst=i.dst:=by unfold Ins.loose;split<;>rfl
theorem GQ(i:Ins):i.loose.op=i.op:=by unfold Ins.loose;split<;>rfl
theorem pU(i:Ins):i.loose.gd=i.gd:=by unfold Ins.loose;split<;>rfl
theorem Fv(i:Ins):i.loose.looks=i.looks:=by unfold Ins.looks;rw[GQ,pU]
theorem Dw(i:Ins):i.loose.cl.chk=false:=by
 obtain⟨d,g,o,cl⟩:=i
 cases cl<;>rfl
theorem M1{i:Ins}(h:i.cl.eff=false):i.loose=i:=by
 obtain⟨d,g,o,cl⟩:=i
 cases cl<;>first|rfl|simp[Cls.eff]at h
theorem Qd{i:Ins}{r:TV×St}(h:evV cp cs sp i e σ=some r):evV cp cs sp i.loose e σ=some r:=by
 obtain⟨d,g,o,cl⟩:=i
 cases cl with
 |wr ts=>
  have run:∀{r},(if eh e σ o ts then evO cp cs sp d e σ o else none)=some r→evO cp cs sp d e σ o=some r:=by
   intro r h;split at h
   ·exact h
   ·cases h
  simp only[evV,Ins.loose]at h⊢
  cases g with
  |none=>exact run h
  |some g=>
   obtain⟨t,w⟩:=g
   simp only[]at h⊢
   split at h
   ·split at h
    ·rename_i h1 h2;rw[if_pos h2];exact run h
    ·rename_i h1 h2;rw[if_neg h2];exact h
   ·exact h
   ·cases h
 |cl ys ns=>
  have run:∀{r},((evO cp cs sp d e σ o).bind fun x=>if Of e σ x.2 ys ns then some x else none)=some r→evO cp cs sp d e σ o=some r:=by
   intro r h
   obtain⟨x,h1,h⟩:=pT h
   split at h
   ·rw[h1];exact h
   ·cases h
  simp only[evV,Ins.loose]at h⊢
  cases g with
  |none=>exact run h
  |some g=>
   obtain⟨t,w⟩:=g
   simp only[]at h⊢
   split at h
   ·split at h
    ·rename_i h1 h2;rw[if_pos h2];exact run h
    ·rename_i h1 h2;rw[if_neg h2];exact h
   ·exact h
   ·cases h
 |_=>exact h
theorem Dn{i:Ins}(hw:i.cl.chk=false)(h:∀t,t∈i.looks→e' t=e t):evV cp cs sp i e' σ=evV cp cs sp i e σ:=by
 have hx:=wC h
 have hg:∀g,i.gd=some g→e' g.1=e g.1:=fun g hg=>h g.1 (by simp[Ins.looks,hg])
 obtain⟨d,g,o,cl⟩:=i
 cases cl with
 |wr ts=>simp[Cls.chk]at hw
 |cl ys ns=>simp[Cls.chk]at hw
 |rd=>
  simp only[evV,ko (cp:=cp) (sp:=sp) hx]
  cases g with
  |none=>rfl
  |some g=>obtain⟨t,w⟩:=g;simp only[hg _ rfl]
 |any=>
  simp only[evV,eg (cp:=cp) (cs:=cs) (sp:=sp) hx]
  cases g with
  |none=>rfl
  |some g=>obtain⟨t,w⟩:=g;simp only[hg _ rfl]
 |ad=>
  simp only[evV,eg (cp:=cp) (cs:=cs) (sp:=sp) hx,sf hx]
  cases g with
  |none=>rfl
  |some g=>obtain⟨t,w⟩:=g;simp only[hg _ rfl]
theorem uf{o:O}(h:o.pure=true)(σ σ':St):evR cp sp e σ o=evR cp sp e σ' o:=by
 cases o<;>first|rfl|simp[O.pure]at h
theorem rC{i:Ins}(hc:i.cl.eff=false)(hp:i.op.pure=true)(σ σ':St){v:TV}{σ1:St}(h:evV cp cs sp i e σ=some (v,σ1)):σ1=σ∧evV cp cs sp i e σ'=some (v,σ'):=by
 obtain⟨d,g,o,cl⟩:=i
 have hcl:cl= .rd:=by cases cl<;>first|rfl|simp[Cls.eff]at hc
 subst hcl
 have run:∀{v σ1},((evR cp sp e σ o).bind fun v=>some (v,σ))=some (v,σ1)→σ1=σ∧((evR cp sp e σ' o).bind fun v=>some (v,σ'))=some (v,σ'):=by
  intro v σ1 h
  obtain⟨t,h1,h⟩:=pT h
  simp only[Lo,ZP]at h
  obtain⟨rfl,rfl⟩:=h
  rw[←uf (o:=o) hp σ σ',h1];exact⟨rfl,rfl⟩
 simp only[evV]at h⊢
 cases g with
 |none=>exact run h
 |some g=>
  obtain⟨t,w⟩:=g
  simp only[]at h⊢
  split at h
  ·split at h
   ·rename_i h1 h2;rw[if_pos h2];exact run h
   ·rename_i h1 h2
    simp only[Lo,ZP]at h
    obtain⟨rfl,rfl⟩:=h
    rw[if_neg h2];exact⟨rfl,rfl⟩
  ·simp only[Lo,ZP]at h
   obtain⟨rfl,rfl⟩:=h
   exact⟨rfl,rfl⟩
  ·cases h
theorem rH{i:Ins}{ts:List Nat}(hc:i.cl= .wr ts){v:TV}{σ1:St}(h:evV cp cs sp i e σ=some (v,σ1)):
  σ1=σ∨∃s cs0 cs1,σ.bs s=some (.var cs0)∧σ1=σ.put s (.var cs1)∧∀t,t∈ts→s∉yQ (e t):=by
 obtain⟨d,g,o,cl⟩:=i
 simp only at hc
 subst hc
 have run:(if eh e σ o ts then evO cp cs sp d e σ o else none)=some (v,σ1)→σ1=σ∨∃s cs0 cs1,σ.bs s=some (.var cs0)∧σ1=σ.put s (.var cs1)∧∀t,t∈ts→s∉yQ (e t):=by
  intro h
  split at h
  ·rename_i hw
   unfold eh at hw
   split at hw
   ·rename_i n a x
    split at hw
    ·rename_i s i0 j0 ha
     split at hw
     ·rename_i cs0 hs
      simp only[evO,ha]at h
      split at h
      ·rename_i s' i' j' vs h1 h2
       simp only[TV.a.injEq,AV.ptr.injEq]at h1
       obtain⟨rfl,rfl,rfl⟩:=h1
       split at h
       ·simp only[hs]at h
        split at h
        ·simp only[Lo,ZP]at h
         refine .inr ⟨s,cs0,_,hs,h.2.symm,fun t ht hk=>?_⟩
         have:=Gc.1 (Gc.1 hw t ht) s hk
         simp at this
        ·cases h
       ·cases h
      ·cases h
     ·cases hw
    ·cases hw
   ·cases hw
  ·cases h
 simp only[evV]at h
 cases g with
 |none=>exact run h
 |some g=>
  obtain⟨t,w⟩:=g
  simp only[]at h
  split at h
  ·split at h
   ·exact run h
   ·simp only[Lo,ZP]at h;exact .inl h.2.symm
  ·simp only[Lo,ZP]at h;exact .inl h.2.symm
  ·cases h
theorem kt{i:Ins}(hc:i.cl.eff=false)(hpl:i.op.xs.all X.plain=true)(h:∀t,t∈i.looks→Up σ σ' (yQ (e t))){v:TV}{σ1:St}(hp:evV cp cs sp i e σ=some (v,σ1)):σ1=σ∧evV cp cs sp i e σ'=some (v,σ'):=by
 obtain⟨d,g,o,cl⟩:=i
 cases cl with
 |any=>simp[Cls.eff]at hc
 |ad=>simp[Cls.eff]at hc
 |wr ts=>simp[Cls.eff]at hc
 |cl ys ns=>simp[Cls.eff]at hc
 |rd=>
  have run:∀{v σ1},((evR cp sp e σ o).bind fun v=>some (v,σ))=some (v,σ1)→σ1=σ∧((evR cp sp e σ' o).bind fun v=>some (v,σ'))=some (v,σ'):=by
   intro v σ1 hp
   obtain⟨t,h1,hp⟩:=pT hp
   simp only[Lo,ZP]at hp
   obtain⟨rfl,rfl⟩:=hp
   refine⟨rfl,?_⟩
   rw[qP (fun x hx=>?_) h1];rfl
   cases x with
   |t n=>exact h n (by simp only[Ins.looks,Sw,cP];exact .inr ⟨_,hx,by simp[xT]⟩)
   |c w=>
    intro s hs
    have:=Gc.1 hpl _ hx
    simp only[X.plain,List.isEmpty_iff]at this
    simp only[ev]at hs
    rw[this]at hs;simp at hs
   |f f=>intro s hs;simp[ev,yQ,J8]at hs
  simp only[evV]at hp⊢
  cases g with
  |none=>exact run hp
  |some g=>
   obtain⟨t,w⟩:=g
   simp only[]at hp⊢
   split at hp
   ·split at hp
    ·rename_i h1 h2;rw[if_pos h2];exact run hp
    ·rename_i h1 h2
     simp only[Lo,ZP]at hp
     obtain⟨rfl,rfl⟩:=hp
     rw[if_neg h2];exact⟨rfl,rfl⟩
   ·simp only[Lo,ZP]at hp
    obtain⟨rfl,rfl⟩:=hp
    exact⟨rfl,rfl⟩
   ·cases hp
end
end Go.Fx
namespace Go.Fx
section
variable{α β:Type}
theorem jq(g:Array β→α→β):∀(l:List α) (acc0:Array β),(∀j,j<acc0.size→(l.foldl (fun acc x=>acc.push (g acc x)) acc0)[j]? =acc0[j]?)∧
  ∀(i:Nat) (x:α),l[i]? =some x→∃acc,(l.foldl (fun acc x=>acc.push (g acc x)) acc0)[acc0.size+i]? =some (g acc x)∧∀j,j<acc0.size+i→acc[j]? =(l.foldl (fun acc x=>acc.push (g acc x)) acc0)[j]?
 |[],acc0=>⟨fun _ _=>rfl,fun i x h=>by simp at h⟩
 |y::r,acc0=>by
  obtain⟨h1,h2⟩:=jq g r (acc0.push (g acc0 y))
  simp only[VP]
  have h1':∀j,j<acc0.size→(r.foldl (fun acc x=>acc.push (g acc x)) (acc0.push (g acc0 y)))[j]? =acc0[j]? :=by
   intro j hj
   rw[h1 j (by simp;omega),Array.getElem?_push_lt hj,zp hj]
  refine⟨h1',fun i x hx=>?_⟩
  cases i with
  |zero=>
   simp only[aT,Lo]at hx;subst hx
   refine⟨acc0,?_,fun j hj=>(h1' j (by omega)).symm⟩
   rw[Ln,h1 acc0.size (by simp)];simp
  |succ i=>
   simp only[cw]at hx
   obtain⟨acc,h3,h4⟩:=h2 i x hx
   simp only[Array.size_push]at h3 h4
   exact⟨acc,by rw[←h3];congr 1;omega,fun j hj=>h4 j (by omega)⟩
end
theorem tA(acc:Array Nat)(k:Nat):∀(es:List Edge) (s:Nat),(es.foldl (fun s e=>if Region.binds .any e then s|||2^e.on|||acc.getD e.on 0 else s) s).testBit k=true→
  s.testBit k=true∨∃e,e∈es∧Region.binds .any e=true∧(e.on=k∨(acc.getD e.on 0).testBit k=true)
 |[],s,h=>.inl h
 |e::r,s,h=>by
  simp only[VP]at h
  rcases tA acc k r _ h with h1|⟨e',he,hb⟩
  ·split at h1
   ·rename_i hb
    simp only[Nat.testBit_or,gS]at h1
    rcases h1 with(h1|h1)|h1
    ·exact .inl h1
    ·rw[Nat.testBit_two_pow]at h1
     exact .inr ⟨e,by simp,hb,.inl (by simpa using h1)⟩
    ·exact .inr ⟨e,by simp,hb,.inr h1⟩
   ·exact .inl h1
  ·exact .inr ⟨e',by simp[he],hb⟩
theorem cY{ops:Array Oper}{L:Nat→Prop}(back:∀i o,ops[i]? =some o→∀e,e∈o.after→Region.binds .any e=true→e.on<i)
  (closed:∀i o,ops[i]? =some o→L i→∀e,e∈o.after→Region.binds .any e=true→L e.on):∀(i:Nat) (o:Oper),ops[i]? =some o→(∀e,e∈o.after→Region.binds .any e=true→L e.on)→
  ∀k,((ub ops).getD i 0).testBit k=true→L k:=by
 intro i
 induction i using Nat.strongRecOn with
 |_ i ih=>
  intro o ho hE k hk
  have hp:=jq (fun acc (o:Oper)=>o.after.toList.foldl (fun s e=>if Region.binds .any e then s|||2^e.on|||acc.getD e.on 0 else s) 0) ops.toList #[]
  have hB:ub ops=ops.toList.foldl (fun acc (o:Oper)=>acc.push (o.after.toList.foldl (fun s e=>if Region.binds .any e then s|||2^e.on|||acc.getD e.on 0 else s) 0)) #[]:=by
   unfold ub Region.before
   rw[←eD]
   congr 1
   funext acc o
   rw[←eD]
  rw[←hB]at hp
  obtain⟨acc,h3,h4⟩:=hp.2 i o (by simpa using ho)
  simp only[Array.size_empty,Fy]at h3 h4
  rw[wF,h3]at hk
  simp only[M0]at hk
  rcases tA acc k _ _ hk with h5|⟨e,he,hb,h6⟩
  ·simp at h5
  ·have he':e∈o.after:=by simpa using he
   have hlt:=back i o ho e he' hb
   rcases h6 with rfl|h6
   ·exact hE e he' hb
   ·rw[wF,h4 e.on hlt,←wF]at h6
    have hi:i<ops.size:=(ei.1 ho).1
    obtain⟨o',ho'⟩:∃o',ops[e.on]? =some o':=⟨_,zp (by omega)⟩
    exact ih e.on hlt o' ho' (closed e.on o' ho' (hE e he' hb)) k h6
section
variable{P:Program}{eqs:List (TypeId×List Nat)}{CR:Nat→Code→C→Prop}{m m':Mt}{σ σ':St}{w w':World}{e e':Env}{a:Act}
variable{cp:FuncId→List PT→Option PT}{cs:Cal→List TV→St→Option (TV×St)}{sp:FuncId→Bool}
def wJ(P:Program)(eqs:List (TypeId×List Nat))(nt:Nat)(ops:Array Oper)(o:Oper)(i:Ins):Prop:=
 ccO P eqs o.op=some i.op∧ccG ops o.guard=some i.gd∧i.dst=o.dst∧M4 nt o.dst=true
theorem oF{nt:Nat}{ops:Array Oper}{cl:Cls}{o:Oper}{i:Ins}(h:ccI P eqs nt ops cl o=some i):wJ P eqs nt ops o i∧i.cl=cl:=by
 unfold ccI at h
 obtain⟨op,h1,h⟩:=pT h
 obtain⟨g,h2,h⟩:=pT h
 split at h
 ·rename_i hd
  simp only[Lo]at h;subst h
  exact⟨⟨h1,h2,rfl,hd⟩,rfl⟩
 ·cases h
theorem Ub(hE:RE m σ w e a.tmps){ops:Array Oper}{g:Option (Nat×Bool)}{o:Oper}(h:ccG ops o.guard=some g):
  (g=none→Region.wanted o (yielded ops a.tmps)=true)∧
  (∀t q x,g=some (t,q)→e t= .a (.p (.b x))→Region.wanted o (yielded ops a.tmps)=decide (x=q))∧
  (∀t q,g=some (t,q)→e t= .u→Region.wanted o (yielded ops a.tmps)=false):=by
 cases hg:o.guard with
 |none=>
  rw[hg]at h
  simp only[ccG,Lo]at h;subst h
  refine⟨fun _=>by simp[Region.wanted,hg],by simp,by simp⟩
 |some g'=>
  obtain⟨j,q⟩:=g'
  rw[hg]at h
  simp only[ccG]at h
  obtain⟨t,h1,h⟩:=pT h
  simp only[Lo]at h;subst h
  have hy:yielded ops a.tmps j=match a.tmps[t]? with|some (.bool b)=>some b|_=>none:=by
   simp only[yielded,h1,wA]
   rfl
  refine⟨by simp,?_,?_⟩
  ·intro t' q' x ht hx
   simp only[Lo,ZP]at ht
   obtain⟨rfl,rfl⟩:=ht
   have h2:=hE t
   rw[hx]at h2
   have h2:=h2.b
   have h3:a.tmps[t]? =some (.bool x):=by
    rw[wF]at h2
    cases h4:a.tmps[t]? with
    |none=>rw[h4]at h2;simp[undef]at h2
    |some v=>rw[h4]at h2;simp at h2;rw[h2]
   simp only[Region.wanted,hg,hy,h3]
   cases x<;>cases q<;>rfl
  ·intro t' q' ht hx
   simp only[Lo,ZP]at ht
   obtain⟨rfl,rfl⟩:=ht
   have h2:=hE t
   rw[hx]at h2
   have h2:a.tmps.getD t undef=undef:=h2
   simp only[Region.wanted,hg,hy]
   rw[wF]at h2
   cases h4:a.tmps[t]? with
   |none=>simp
   |some v=>rw[h4]at h2;simp at h2;rw[h2];simp[undef]
def zY(r:Nat):Deferred:={target:=.collected r,args:= #[]}
def JA(base:Nat)(m:Mt)(σ:St)(w:World)(ds:List Deferred):Prop:=
 ∃rs:List Nat,ds=rs.map zY∧rs.Nodup∧∀r,r∈rs→base≤r∧w.heap[r]? =some (.deferred (some []))∧¬InS m σ r∧¬m.D r
theorem JA.nil(base:Nat)(m:Mt)(σ:St)(w:World):JA base m σ w []:=⟨[],rfl,tj,fun r hr=>by simp at hr⟩
theorem JA.xt{base:Nat}{ds:List Deferred}(h:JA base m σ w ds)(x:Xt m σ w m' σ' w'):JA base m' σ' w' ds:=by
 obtain⟨rs,h1,h2,h3⟩:=h
 refine⟨rs,h1,h2,fun r hr=>?_⟩
 obtain⟨k1,k2,k3,k4⟩:=h3 r hr
 have hlt:r<w.heap.size:=(ei.1 k2).1
 refine⟨k1,by rw[x.kept r hlt k3];exact k2,fun hi=>?_,fun hD=>?_⟩
 ·rcases x.img r hi with h|h
  ·exact k3 h
  ·omega
 ·rcases x.new r hD with h|h|h
  ·exact k4 h
  ·omega
  ·exact k3 h
structure At(CR:Nat→Code→C→Prop)(m0:Mt)(σ0:St)(w0:World)(a0:Act)(m:Mt)(e:Env)(σ:St)(a:Act)(w:World):Prop where
 sr:SR CR m σ w
 re:RE m σ w e a.tmps
 xt:Xt m0 σ0 w0 m σ w
 sz:a.tmps.size=a0.tmps.size
 df:JA w0.heap.size m σ w a.defers
theorem EJ{m0:Mt}{σ0:St}{w0:World}{a0:Act}(hA:At CR m0 σ0 w0 a0 m e σ a w)(hEq:Oi P eqs)(hp:Ua P cp)(hs:dI P CR cs)
  {ops:Array Oper} {o:Oper} {i:Ins} (hi:wJ P eqs a0.tmps.size ops o i) {v:TV} (hev:evV cp cs sp i e σ=some (v,σ')) {rr:Option Nat} {n:Nat} {K:Act→World→Prop} {Q:Exit→Act→World→Prop}
  (hK:∀m' a' w',At CR m0 σ0 w0 a0 m' (e.putD i.dst v) σ' a' w'→Xt m σ w m' σ' w'→K a' w'):
  if Region.wanted o (yielded ops a.tmps)then o.wpIn (FW rr) n P a w K Q else(∀f,o.about P w a.eval=some f→(FW rr).fn f)∧K (a.put o.dst undef) w:=by
 obtain⟨h1,h2,h3,h4⟩:=hi
 obtain⟨y1,y2,y3⟩:=Ub (o:=o) hA.re h2
 have run:evO cp cs sp o.dst e σ i.op=some (v,σ')→o.wpIn (FW rr) n P a w K Q:=by
  intro hr
  refine op_ok hA.sr hA.re hEq hp hs h1 hr ?_
  intro u w' m' k1 k2 k3
  refine hK m' _ w' ⟨k1,?_,hA.xt.trans k3,by rw[uL];exact hA.sz,by rw[Ds];exact hA.df.xt k3⟩ k3
  rw[h3]
  exact(k3.re hA.sr hA.re).putD (by rw[hA.sz];exact h4) k2
 have run':(match i.cl with
  | .rd=>(evR cp sp e σ i.op).bind fun v=>some (v,σ)
  | .any=>evO cp cs sp i.dst e σ i.op
  | .ad=>if i.op.adds e then evO cp cs sp i.dst e σ i.op else none
  | .wr ts=>if eh e σ i.op ts then evO cp cs sp i.dst e σ i.op else none
  | .cl ys ns=>(evO cp cs sp i.dst e σ i.op).bind fun x=>if Of e σ x.2 ys ns then some x else none)=some (v,σ')→o.wpIn (FW rr) n P a w K Q:=by
  intro hr
  refine run ?_
  rw[h3]at hr
  split at hr
  ·obtain⟨t,k1,hr⟩:=pT hr
   simp only[Lo,ZP]at hr
   obtain⟨rfl,rfl⟩:=hr
   exact rF k1 _
  ·exact hr
  ·split at hr
   ·exact hr
   ·cases hr
  ·split at hr
   ·exact hr
   ·cases hr
  ·obtain⟨x,k1,hr⟩:=pT hr
   split at hr
   ·rw[k1];exact hr
   ·cases hr
 have skip:v= .u→σ'=σ→K (a.put o.dst undef) w:=by
  rintro rfl rfl
  refine hK m _ w ⟨hA.sr,?_,hA.xt,by rw[uL];exact hA.sz,by rw[Ds];exact hA.df⟩ (Xt.refl _ _ _)
  rw[h3]
  exact hA.re.putD (by rw[hA.sz];exact h4) rfl
 unfold evV at hev
 cases hg:i.gd with
 |none=>
  rw[hg]at hev
  rw[if_pos (y1 hg)]
  exact run' hev
 |some g=>
  obtain⟨t,q⟩:=g
  rw[hg]at hev
  simp only[]at hev
  split at hev
  ·rename_i x hx
   have:=y2 t q x hg hx
   split at hev
   ·rename_i hxq
    rw[if_pos (by rw[this];simpa using hxq)]
    exact run' hev
   ·rename_i hxq
    rw[if_neg (by rw[this];simpa using hxq)]
    simp only[Lo,ZP]at hev
    exact⟨fun _ _=>trivial,skip hev.1.symm hev.2.symm⟩
  ·rename_i hx
   rw[if_neg (by rw[y3 t q hg hx];simp)]
   simp only[Lo,ZP]at hev
   exact⟨fun _ _=>trivial,skip hev.1.symm hev.2.symm⟩
  ·cases hev
theorem dU(d:Nat)(z:List AV):Xt m σ w (m.add (d,σ.clk) none) (σ.add d (.var z)) w where
 mu s hs:=by simp only[Mt.add];rw[if_neg];intro e;subst e;simp at hs
 la l hl:=rfl
 clk:=by simp[St.add]
 len:=nh _
 bs s b' hs hc:=by
  simp only[St.add,St.put]at hs
  rw[if_neg (by intro e;subst e;simp at hc)]at hs
  exact⟨b',hs,Yu.refl _⟩
 D b hb:=hb
 new b hb:=.inl hb
 img b hb:=by
  rcases hb with⟨s,bl,c',hs,hm⟩|⟨l,hl,e⟩
  ·simp only[St.add,St.put]at hs
   simp only[Mt.add]at hm
   by_cases e:s=(d,σ.clk)
   ·rw[if_pos e]at hm;cases hm
   ·rw[if_neg e]at hs hm;exact .inl (.inl ⟨s,bl,c',hs,hm⟩)
  ·exact .inl (.inr ⟨l,hl,e⟩)
 kept b hb hn:=rfl
 os:=rfl
 tape:=rfl
 output:=rfl
 size:=nh _
theorem Bl(h:SR CR m σ w)(d:Nat)(z:List AV):SR CR (m.add (d,σ.clk) none) (σ.add d (.var z)) w:=by
 have x:=dU (m:=m) (σ:=σ) (w:=w) d z
 have old:∀s b,(σ.add d (.var z)).bs s=some b→s≠(d,σ.clk)→σ.bs s=some b∧(m.add (d,σ.clk) none).mu s=m.mu s:=by
  intro s b hs e
  simp only[St.add,St.put]at hs
  rw[if_neg e]at hs
  exact⟨hs,by simp[Mt.add,e]⟩
 refine SR.step h x ?_ ?_ ?_ ?_ ?_ rfl ?_
 ·intro s b hs
  by_cases e:s=(d,σ.clk)
  ·subst e
   simp only[St.add,St.put,if_true,Lo]at hs
   subst hs;exact .inl (.inl (by simp[Mt.add]))
  ·obtain⟨h1,h2⟩:=old s b hs e
   exact .inr ⟨h1,h2,fun B c' hm=>rfl⟩
 ·intro s b hs
  by_cases e:s=(d,σ.clk)
  ·subst e;simp[St.add]
  ·have:=h.gen s b (old s b hs e).1;simp[St.add];omega
 ·intro s s' b b' B c1 c2 hs hs' hm hm'
  by_cases e:s=(d,σ.clk)
  ·simp only[Mt.add,e,if_true,reduceCtorEq]at hm
  ·by_cases e':s'=(d,σ.clk)
   ·simp only[Mt.add,e',if_true,reduceCtorEq]at hm'
   ·obtain⟨h1,h2⟩:=old s b hs e
    obtain⟨h3,h4⟩:=old s' b' hs' e'
    rw[h2]at hm;rw[h4]at hm'
    exact h.inj s s' b b' B c1 c2 h1 h3 hm hm'
 ·intro b hb hD
  rcases x.img b hb with h1|h1
  ·exact h.dj b h1 hD
  ·have:=h.dlt b hD;omega
 ·intro b hb
  exact h.dlt b hb
 ·intro l hl
  rfl
theorem At.virt{m0:Mt}{σ0:St}{w0:World}{a0:Act}(hA:At CR m0 σ0 w0 a0 m e σ a w)(d:Nat)(z:List AV):At CR m0 σ0 w0 a0 (m.add (d,σ.clk) none) e (σ.add d (.var z)) a w:=
 have x:=dU (m:=m) (σ:=σ) (w:=w) d z
 ⟨Bl hA.sr d z,x.re hA.sr hA.re,hA.xt.trans x,hA.sz,hA.df.xt x⟩
section
variable{s:Key}{z:List AV}
theorem JN(hm:m.mu s=none){c:Option (Nat×Nat)}{s':Key}{i j:Nat}{v:Value}(hp:C9 m σ s' i j v):C9 (m.add s c) σ s' i j v:=by
 refine⟨hp.1,fun b hb=>?_⟩
 obtain⟨B,c',h1,h2⟩:=hp.2 b hb
 refine⟨B,c',?_,h2⟩
 have:s'≠s:=by rintro rfl;rw[hm]at h1;cases h1
 simp only[Mt.add];rw[if_neg this];exact h1
theorem FN(h:SR CR m σ w){c:Option (Nat×Nat)}(o:Obj){p:PV}{v:Value}(hp:RP w m.D p v):RP (w.alloc o) (m.add s c).D p v:=
 hp.mono fun b hb=>⟨hb,RowKit.Below.heap_alloc w o b (h.dlt b hb)⟩
theorem iw(h:SR CR m σ w)(hm:m.mu s=none)(hb:σ.bs s=some (.var z)){c:Option (Nat×Nat)}(o:Obj){x:AV}{v:Value}(hp:RA m σ w x v):RA (m.add s c) σ (w.alloc o) x v:=by
 cases x with
 |p y=>exact FN h o hp
 |nil=>exact hp
 |ptr s' i j=>exact⟨JN hm hp.1,hp.2⟩
 |cptr r j=>
  obtain⟨B,off,vals,hD,hv,hr⟩:=hp
  have hk:=RowKit.Below.heap_alloc w o B (h.dlt B hD)
  exact⟨B,off,vals,hD,hv,fun i c hc=>⟨(World.cell?_of_block (w:=w) (a:=⟨B,_,none⟩) hk).trans (hr i c hc).1,FN h o (hr i c hc).2⟩⟩
 |own s' off len=>
  refine⟨hp.1,hp.2.1,fun k e rows hbs=>?_⟩
  rcases hp.2.2 k e rows hbs with h1|⟨B,c',hm',hv,hl⟩
  ·exact .inl h1
  ·refine .inr ⟨B,c',?_,hv,hl⟩
   have:s'≠s:=by rintro rfl;rw[hm]at hm';cases hm'
   simp only[Mt.add];rw[if_neg this];exact hm'
 |fn f caps=>
  obtain⟨vs,hv,h2⟩:=hp
  exact⟨vs,hv,h2.imp fun _ _ hx=>⟨JN hm hx.1,hx.2⟩⟩
 |yl l=>exact hp
 |raw c=>exact hp
 |mp s'=>
  refine⟨⟨hp.1.1,fun b hb'=>?_⟩,hp.2⟩
  obtain⟨B,c,hm',hv⟩:=hp.1.2 b hb'
  refine⟨B,c,?_,hv⟩
  have:s'≠s:=by rintro rfl;rw[hm]at hm';cases hm'
  simp only[Mt.add];rw[if_neg this];exact hm'
theorem Gs(h:SR CR m σ w)(hm:m.mu s=none)(hb:σ.bs s=some (.var z)){t:TypeId}{vs:List Value}(hz:∀m σ w,F2 (RA m σ w) z vs):
  SR CR (m.add s (some (w.heap.size,0))) σ (w.alloc (.cells vs.toArray t)) where
 blk s' b hs:=by
  by_cases e:s'=s
  ·subst e
   rw[hb]at hs;simp only[Lo]at hs;subst hs
   exact .inr ⟨w.heap.size,t,vs,by simp[Mt.add],World.alloc_heap_new w _,hz _ _ _⟩
  ·have hb':=h.blk s' b hs
   have hmu:(m.add s (some (w.heap.size,0))).mu s'=m.mu s':=by simp only[Mt.add];rw[if_neg e]
   cases b with
   |var cs=>
    rcases hb' with h1|⟨B,T,us,h1,h2,h3⟩
    ·exact .inl (hmu.trans h1)
    ·exact .inr ⟨B,T,us,hmu.trans h1,(RowKit.Below.heap_alloc w _ B (ei.1 h2).1).trans h2,h3.imp fun _ _ hx=>iw h hm hb _ hx⟩
   |row k el rows=>
    obtain⟨h0,h1,h2⟩:=hb'
    refine⟨h0,h1,?_⟩
    rcases h2 with⟨h3,h4⟩|⟨B,c,cur,h3,h4,h5,h6,h7,h8⟩
    ·exact .inl ⟨hmu.trans h3,h4⟩
    ·exact .inr ⟨B,c,cur,hmu.trans h3,(RowKit.Below.heap_alloc w _ B (ei.1 h4).1).trans h4,h5,h6,h7,fun i r j p hr hp=>let⟨v,hv,hp'⟩:=h8 i r j p hr hp;⟨v,hv,FN h _ hp'⟩⟩
   |map k ks=>
    obtain⟨B,es,clock,h1,h2,h3⟩:=hb'
    exact⟨B,es,clock,hmu.trans h1,(RowKit.Below.heap_alloc w _ B (ei.1 h2).1).trans h2,h3⟩
 gen:=h.gen
 inj s1 s2 b b' B c c' hs hs' h1 h2:=by
  simp only[Mt.add]at h1 h2
  by_cases e:s1=s<;>by_cases e':s2=s
  ·rw[e,e']
  ·rw[if_pos e]at h1;rw[if_neg e']at h2
   simp only[Lo,ZP]at h1
   have:=h.inS_lt (.inl ⟨s2,b',c',hs',h2⟩);omega
  ·rw[if_neg e]at h1;rw[if_pos e']at h2
   simp only[Lo,ZP]at h2
   have:=h.inS_lt (.inl ⟨s1,b,c,hs,h1⟩);omega
  ·rw[if_neg e]at h1;rw[if_neg e']at h2
   exact h.inj s1 s2 b b' B c c' hs hs' h1 h2
 dj b hbI hD:=by
  rcases hbI with⟨s',blk,c,hs,h1⟩|⟨l,hl,e⟩
  ·simp only[Mt.add]at h1
   by_cases e:s'=s
   ·rw[if_pos e]at h1
    simp only[Lo,ZP]at h1
    have:=h.dlt b hD;omega
   ·rw[if_neg e]at h1;exact h.dj b (.inl ⟨s',blk,c,hs,h1⟩) hD
  ·exact h.dj b (.inr ⟨l,hl,e⟩) hD
 dlt b hbD:=by have:=h.dlt b hbD;simp;omega
 lrs l r hl:=by
  obtain⟨lo,h1,h2,h3⟩:=h.lrs l r hl
  exact⟨lo,(RowKit.Below.heap_alloc w _ _ (ei.1 h1).1).trans h1,fun n=>(h2 n).imp fun _ _ hx=>iw h hm hb _ hx,h3⟩
 linj:=h.linj
theorem At.real{m0:Mt}{σ0:St}{w0:World}{a0:Act}(hA:At CR m0 σ0 w0 a0 m e σ a w)(hm:m.mu s=none)(hb:σ.bs s=some (.var z))(h0:σ0.clk≤s.2)(h1:s.2<σ.clk){d:Nat}(hd:d<a0.tmps.size)
  {t:TypeId} {vs:List Value} (hz:∀m σ w,F2 (RA m σ w) z vs):
  At CR m0 σ0 w0 a0 (m.add s (some (w.heap.size,0))) (e.put d (.a (.ptr s 0 0))) σ (a.put (some d) (.pointer (some ⟨w.heap.size,0,none⟩))) (w.alloc (.cells vs.toArray t)):=by
 have hsr:=Gs (t:=t) hA.sr hm hb hz
 have img:∀b,InS (m.add s (some (w.heap.size,0))) σ b→InS m σ b∨b=w.heap.size:=by
  rintro b (⟨s',blk,c,hs,h1⟩|⟨l,hl,e⟩)
  ·simp only[Mt.add]at h1
   by_cases e:s'=s
   ·rw[if_pos e]at h1
    simp only[Lo,ZP]at h1
    exact .inr h1.1.symm
   ·rw[if_neg e]at h1;exact .inl (.inl ⟨s',blk,c,hs,h1⟩)
  ·exact .inl (.inr ⟨l,hl,e⟩)
 refine⟨hsr,?_,?_,by rw[uL];exact hA.sz,?_⟩
 ·have hre:RE (m.add s (some (w.heap.size,0))) σ (w.alloc (.cells vs.toArray t)) e a.tmps:=fun n=>(hA.re n).imp fun _ _ hx=>iw hA.sr hm hb _ hx
  refine hre.put (by rw[hA.sz];exact hd) ⟨⟨h1,fun b _=>⟨w.heap.size,0,by simp[Mt.add],by simp⟩⟩,_,rfl⟩
 ·have x:=hA.xt
  exact {
   mu:=fun s' hs=>by
    have:s'≠s:=by rintro rfl;omega
    simp only[Mt.add];rw[if_neg this];exact x.mu s' hs
   la:=x.la
   clk:=x.clk
   len:=x.len
   bs:=x.bs
   D:=x.D
   new:=x.new
   img:=fun b hb=>by
    rcases img b hb with h|h
    ·exact x.img b h
    ·have:=x.size;exact .inr (by omega)
   kept:=fun b hb hn=>(RowKit.Below.heap_alloc w _ b (yz hb x.size)).trans (x.kept b hb hn)
   os:=x.os
   tape:=x.tape
   output:=x.output
   size:=by have:=x.size;simp;omega}
 ·rw[Ds]
  obtain⟨rs,g1,g2,g3⟩:=hA.df
  refine⟨rs,g1,g2,fun r hr=>?_⟩
  obtain⟨k1,k2,k3,k4⟩:=g3 r hr
  have hlt:r<w.heap.size:=(ei.1 k2).1
  refine⟨k1,(RowKit.Below.heap_alloc w _ r hlt).trans k2,fun hi=>?_,k4⟩
  rcases img r hi with h|h
  ·exact k3 h
  ·omega
theorem TC{op:Op}(h:ccO P eqs op=some (.new z)):∃t,op= .alloc t∧NU P t=some z:=by
 cases op
 case alloc t=>
  simp only[ccO]at h
  obtain⟨z',h0,h⟩:=pT h
  simp only[Lo,O.new.injEq]at h;subst h
  exact⟨t,rfl,h0⟩
 all_goals
  exfalso
  simp only[ccO]at h
  repeat' (first
   |(simp only[Lo,reduceCtorEq]at h;done)
   |(rw[X4]at h;obtain⟨_,_,h⟩:=h)
   |(split at h))
 all_goals
  rename_i hq _ _
  cases hq
theorem PI{m0:Mt}{σ0:St}{w0:World}{a0:Act}(hA:At CR m0 σ0 w0 a0 m e σ a w)(hm:m.mu s=none)(hb:σ.bs s=some (.var z))(h0:σ0.clk≤s.2)(h1:s.2<σ.clk){d:Nat}
  {ops:Array Oper} {o:Oper} (hi:wJ P eqs a0.tmps.size ops o ⟨some d,none,.new z,.ad⟩) {rr:Option Nat} {n:Nat} {K:Act→World→Prop} {Q:Exit→Act→World→Prop}
  (hK:∀m' a' w',At CR m0 σ0 w0 a0 m' (e.put d (.a (.ptr s 0 0))) σ a' w'→(∀t,t≠s→m'.mu t=m.mu t)→K a' w'):
  if Region.wanted o (yielded ops a.tmps)then o.wpIn (FW rr) n P a w K Q else(∀f,o.about P w a.eval=some f→(FW rr).fn f)∧K (a.put o.dst undef) w:=by
 obtain⟨g1,g2,g3,g4⟩:=hi
 rw[if_pos ((Ub (o:=o) hA.re g2).1 rfl)]
 obtain⟨t,ho,hz⟩:=TC g1
 obtain⟨zv,hr,hf⟩:=yF hz w
 have hs:(Instr.alloc t true (.tuple #[])).run P w= .ok (.pointer (some ⟨w.heap.size,0,none⟩)) (w.alloc (.cells zv.cells t)):=by
  simp[Instr.alloc,hr,newVar,newRow]
 obtain⟨dst,opc,ty,pos,after,guard⟩:=o
 simp only at g1 g2 g3 g4 ho
 subst ho;subst g3
 refine vq (by simp) ?_
 have he:(execOp a.eval ⟨some d,.alloc t,ty,pos,after,guard⟩).run P w= .ok (.value (.pointer (some ⟨w.heap.size,0,none⟩))) (w.alloc (.cells zv.cells t)):=by
  simp[execOp,hs]
 rw[he]
 have:=hA.real (t:=t) hm hb h0 h1 (d:=d) (by simpa [M4]using g4) (vs:=zv.cells.toList) (fun m σ w=>hf m σ w)
 exact hK _ _ _ (by simpa using this) (fun t' ht=>by simp only[Mt.add];rw[if_neg ht])
end
theorem Yh{m0:Mt}{σ0:St}{w0:World}{a0:Act}(hEq:Oi P eqs)(hp:Ua P cp)(hs:dI P CR cs){ops:Array Oper}{rr:Option Nat}{n:Nat}{Q:Exit→Act→World→Prop}:
  ∀{l:List Oper} {is:List Ins} {m:Mt} {e:Env} {σ:St} {a:Act} {w:World},F2 (fun o i=>wJ P eqs a0.tmps.size ops o i) l is→At CR m0 σ0 w0 a0 m e σ a w→
   wz cp cs sp is e σ=some (e',σ')→(∀m' a' w',At CR m0 σ0 w0 a0 m' e' σ' a' w'→Q .normal a' w')→wpListIn (FW rr) n P ops Q l a w
 |[],_,m,e,σ,a,w,.nil,hA,hev,hQ=>by
  simp only[wz,Lo,ZP]at hev
  obtain⟨rfl,rfl⟩:=hev
  exact hQ _ _ _ hA
 |o::l,_,m,e,σ,a,w,.cons hi ht,hA,hev,hQ=>by
  simp only[wz]at hev
  obtain⟨x,h1,hev⟩:=pT hev
  rw[dr]at h1
  obtain⟨y,h2,h1⟩:=pT h1
  simp only[Lo]at h1;subst h1
  exact EJ hA hEq hp hs hi h2 fun m' a' w' hA' _=>Yh hEq hp hs ht hA' hev hQ
end
end Go.Fx
namespace Go.Fx
section
variable{cp:FuncId→List PT→Option PT}{cs:Cal→List TV→St→Option (TV×St)}{sp:FuncId→Bool}
structure TR(cp:FuncId→List PT→Option PT)(cs:Cal→List TV→St→Option (TV×St))(sp:FuncId→Bool)(is:List Ins)(E:Nat→Env)(S:Nat→St):Prop where
 step:∀(i:Nat) (ins:Ins),is[i]? =some ins→∃v,evV cp cs sp ins (E i) (S i)=some (v,S (i+1))∧E (i+1)=(E i).putD ins.dst v
theorem HK:∀{is:List Ins} {e e':Env} {σ σ':St},wz cp cs sp is e σ=some (e',σ')→∃E S,E 0=e∧S 0=σ∧E is.length=e'∧S is.length=σ'∧TR cp cs sp is E S
 |[],e,e',σ,σ',h=>by
  simp only[wz,Lo,ZP]at h
  exact⟨fun _=>e,fun _=>σ,rfl,rfl,h.1,h.2,⟨fun i ins h=>by simp at h⟩⟩
 |i::is,e,e',σ,σ',h=>by
  simp only[wz]at h
  obtain⟨x,h1,h⟩:=pT h
  rw[dr]at h1
  obtain⟨y,h2,h1⟩:=pT h1
  simp only[Lo]at h1;subst h1
  obtain⟨E,S,e0,s0,en,sn,ht⟩:=HK h
  refine⟨fun|0=>e|k+1=>E k,fun|0=>σ|k+1=>S k,rfl,rfl,en,sn,⟨fun k ins hk=>?_⟩⟩
  cases k with
  |zero=>
   simp only[aT,Lo]at hk;subst hk
   exact⟨y.1,by simp only[s0];exact h2,e0⟩
  |succ k=>exact ht.step k ins (by simpa using hk)
def sR(x:Ins)(i:Nat)(y:Ins)(j:Nat):Prop:=∃ys ns d,x.cl= .cl ys ns∧y.nw=true∧y.dst=some d∧j<i∧d∈ns
structure DO(ops:Array Oper)(b:Array Nat)(is:List Ins):Prop where
 back:∀(i:Nat) (o:Oper),ops[i]? =some o→∀e,e∈o.after→Region.binds .any e=true→e.on<i
 pl:∀(i:Nat) (ins:Ins),is[i]? =some ins→ins.op.xs.all X.plain=true
 one:∀(i j:Nat) (x y:Ins) (d:Nat),is[i]? =some x→is[j]? =some y→i≠j→x.dst=some d→y.dst≠some d
 look:∀(i j:Nat) (x y:Ins) (d:Nat),is[i]? =some x→is[j]? =some y→i≠j→x.dst=some d→d∈y.looks→pK b i j=true
 eff:∀(i j:Nat) (x y:Ins),is[i]? =some x→is[j]? =some y→i≠j→x.cl.eff=true→y.cl.eff=true→pK b i j=true∨(x.nw=true∧y.nw=true)∨sR x i y j∨sR y j x i
 alone:∀(i j:Nat) (x y:Ins),is[i]? =some x→is[j]? =some y→i≠j→x.cl.alone=true→pK b i j=true
 wrs:∀(i j:Nat) (x y:Ins) (ts:List Nat),is[i]? =some x→is[j]? =some y→i≠j→x.cl.wrs=some ts→pK b i j=true∨y.op.pure=true∨(j<i∧∀t,t∈y.looks→t∈ts∧∀(k:Nat) (z:Ins),is[k]? =some z→j≤k→k<i→z.dst≠some t)
 cls:∀(i j:Nat) (x y:Ins) (ys:List (Nat×Nat)) (ns:List Nat),is[i]? =some x→is[j]? =some y→i≠j→x.cl= .cl ys ns→pK b i j=true∨y.op.pure=true∨y.nw=true∨
  (j<i∧y.cl.eff=false∧(∃p,ldO y.op=some p∧p∈ys)∧∀t,t∈y.looks→∀(k:Nat) (z:Ins),is[k]? =some z→j≤k→k<i→z.dst≠some t)
theorem KO{ops:Array Oper}{b:Array Nat}{is:List Ins}(h:JQ ops b is=true):DO ops b is:=by
 unfold JQ at h
 simp only[Cd]at h
 obtain⟨⟨h1,h2⟩,h3⟩:=h
 have key:∀i j x y,is[i]? =some x→is[j]? =some y→i≠j→(match x.dst with
   |some d=>y.dst !=some d&&(!(y.looks).contains d||pK b i j)
   |none=>true)=true∧(!x.cl.eff|| !y.cl.eff||pK b i j||(x.nw&&y.nw)||oY (x,i) (y,j)||oY (y,j) (x,i))=true∧(!x.cl.alone||pK b i j)=true∧(match x.cl.wrs with
   |some ts=>pK b i j||y.op.pure||(decide (j<i)&&y.looks.all fun t=>ts.contains t&&is.zipIdx.all fun z=> !(decide (j≤z.2)&&decide (z.2<i))||z.1.dst !=some t)
   |none=>true)=true∧(!x.cl.cls.isSome||pK b i j||y.op.pure||y.nw||(decide (j<i)&& !y.cl.eff&&lJ x y.op&&y.looks.all fun t=>is.zipIdx.all fun z=> !(decide (j≤z.2)&&decide (z.2<i))||z.1.dst !=some t))=true:=by
  intro i j x y hi hj hne
  have:=Gc.1 (Gc.1 h3 (x,i) (ET.2 hi)) (y,j) (ET.2 hj)
  simp only[gS,beq_iff_eq]at this
  rcases this with h|h
  ·exact absurd h hne
  ·rw[Cd,Cd,Cd,Cd]at h
   exact⟨h.1.1.1.1,h.1.1.1.2,h.1.1.2,h.1.2,h.2⟩
 have nwi:∀{x y:Ins} {i j:Nat},oY (x,i) (y,j)=true→sR x i y j:=by
  intro x y i j h
  unfold oY at h
  simp only at h
  split at h
  ·rename_i c d h1 h2
   simp only[Cd,decide_eq_true_eq,yI]at h
   unfold Cls.cls at h1
   split at h1
   ·rename_i ys ns hc
    simp only[Lo]at h1;subst h1
    exact⟨ys,ns,d,hc,h.1.1,h2,h.1.2,h.2⟩
   ·cases h1
  ·cases h
 refine⟨?_,?_,?_,?_,?_,?_,?_,?_⟩
 ·intro i o ho e he hb
  have:=Gc.1 h1 (o,i) (ET.2 (by simpa using ho))
  simp only[ZT,gS,qp,decide_eq_true_eq]at this
  rcases this e he with h|h
  ·rw[hb]at h;cases h
  ·exact h
 ·intro i ins hi
  exact Gc.1 h2 ins (yu hi)
 ·intro i j x y d hi hj hne hd
  have:=(key i j x y hi hj hne).1
  rw[hd]at this
  simp only[Cd]at this
  simpa using this.1
 ·intro i j x y d hi hj hne hd hl
  have:=(key i j x y hi hj hne).1
  rw[hd]at this
  simp only[Cd,gS,qp]at this
  rcases this.2 with h|h
  ·rw[yI]at h;simp[hl]at h
  ·exact h
 ·intro i j x y hi hj hne hx hy
  have:=(key i j x y hi hj hne).2.1
  simp only[hx,hy,WQ,fF,gS,Cd]at this
  rcases this with((h|h)|h)|h
  ·exact .inl h
  ·exact .inr (.inl h)
  ·exact .inr (.inr (.inl (nwi h)))
  ·exact .inr (.inr (.inr (nwi h)))
 ·intro i j x y hi hj hne hx
  have:=(key i j x y hi hj hne).2.2.1
  simpa [hx]using this
 ·intro i j x y ts hi hj hne hx
  have:=(key i j x y hi hj hne).2.2.2.1
  rw[hx]at this
  simp only[gS,Cd,decide_eq_true_eq]at this
  rcases this with(h|h)|⟨h1,h2⟩
  ·exact .inl h
  ·exact .inr (.inl h)
  ·refine .inr (.inr ⟨h1,fun t ht=>?_⟩)
   have h3:=Gc.1 h2 t ht
   rw[Cd]at h3
   refine⟨by have:=h3.1;rwa [yI,decide_eq_true_eq]at this,fun k z hk hk1 hk2 hd=>?_⟩
   have h4:=Gc.1 h3.2 (z,k) (ET.2 hk)
   simp[hk1,hk2,hd]at h4
 ·intro i j x y ys ns hi hj hne hx
  have:=(key i j x y hi hj hne).2.2.2.2
  simp only[hx,Cls.cls,Option.isSome_some,WQ,fF,gS,Cd,decide_eq_true_eq,qp]at this
  rcases this with((h|h)|h)|⟨⟨⟨h1,h2⟩,h3⟩,h4⟩
  ·exact .inl h
  ·exact .inr (.inl h)
  ·exact .inr (.inr (.inl h))
  ·refine .inr (.inr (.inr ⟨h1,h2,?_,fun t ht k z hk hk1 hk2 hd=>?_⟩))
   ·unfold lJ at h3
    simp only[hx,Cls.cls]at h3
    split at h3
    ·rename_i c p h5 h6
     simp only[Lo]at h5;subst h5
     exact⟨p,h6,by simpa [yI]using h3⟩
    ·cases h3
   ·have h5:=Gc.1 (Gc.1 h4 t ht) (z,k) (ET.2 hk)
    simp[hk1,hk2,hd]at h5
theorem RO(b:Array Nat)(i j:Nat):pK b i j=pK b j i:=by unfold pK;rw[Nat.max_comm,Nat.min_comm]
theorem Lw{i:Ins}(h:i.nw=true):∃d z,i=⟨some d,none,.new z,.ad⟩:=by
 obtain⟨d,g,o,cl⟩:=i
 unfold Ins.nw at h
 split at h
 ·rename_i d' z h1 h2 h3 h4
  simp only at h1 h2 h3 h4
  subst h1 h2 h3 h4
  exact⟨_,_,rfl⟩
 ·cases h
theorem qh{i:Ins}(h:i.cl.alone=true):i.nw=false:=by
 cases hn:i.nw with
 |false=>rfl
 |true=>obtain⟨d,z,rfl⟩:=Lw hn;simp[Cls.alone]at h
theorem GY{i:Ins}{ts:List Nat}(h:i.cl.wrs=some ts):i.nw=false:=by
 cases hn:i.nw with
 |false=>rfl
 |true=>obtain⟨d,z,rfl⟩:=Lw hn;simp[Cls.wrs]at h
theorem DO.sures{ops:Array Oper}{b:Array Nat}{is:List Ins}(ho:DO ops b is){i j:Nat}{x y:Ins}(hi:is[i]? =some x)(hj:is[j]? =some y)(hne:i≠j)(hx:x.cl.eff=true)(hy:y.cl.eff=true)
  (hn:(x.nw=false∧y.nw=false)∨(x.cl.cls=none∧y.cl.cls=none∧(x.nw=false∨y.nw=false))):pK b i j=true:=by
 rcases ho.eff i j x y hi hj hne hx hy with h|⟨h1,h2⟩|⟨ys,ns,d,h1,h2,_⟩|⟨ys,ns,d,h1,h2,_⟩
 ·exact h
 ·rw[h1,h2]at hn;simp at hn
 ·rw[h1,h2]at hn;simp[Cls.cls]at hn
 ·rw[h1,h2]at hn;simp[Cls.cls]at hn
theorem M3{i:Ins}{c:List (Nat×Nat)×List Nat}(h:i.cl.cls=some c):i.nw=false:=by
 cases hn:i.nw with
 |false=>rfl
 |true=>obtain⟨d,z,rfl⟩:=Lw hn;simp[Cls.cls]at h
theorem M9{a b:AV}(h:Vr a b=true):a=b:=by
 unfold Vr at h
 split at h
 ·rw[sameP_eq h]
 ·rfl
 ·simp_all
 ·simp_all
 ·cases h
theorem nI:∀{a b:List AV},zD a b=true→a=b
 |[],[],_=>rfl
 |x::xs,y::ys,h=>by
  simp only[zD,Cd]at h
  rw[M9 h.1,nI h.2]
 |[],_::_,h=>by simp[zD]at h
 |_::_,[],h=>by simp[zD]at h
theorem vD{a b:Option (List AV)}(h:Dv a b=true):a=b:=by
 unfold Dv at h
 split at h
 ·rfl
 ·rw[nI h]
 ·cases h
theorem Dg{e e':Env}{σ σ':St}{o:O}{p:Nat×Nat}(ho:ldO o=some p)(he:e p.2=e' p.2)(h:aV e' σ σ' p=true):evR cp sp e σ o=evR cp sp e σ' o:=by
 unfold ldO at ho
 split at ho
 ·rename_i n g m
  split at ho
  ·cases ho
  ·rename_i hn
   simp only[Lo]at ho;subst ho
   simp only at he
   simp only[aV,if_neg hn,←he]at h
   simp only[evR,ev]
   cases hm:e m with
   |a x=>
    rw[hm]at h
    simp only[Nl]at h⊢
    rw[vD h]
   |_=>rfl
 ·rename_i k m ix
  simp only[Lo]at ho;subst ho
  simp only at he
  simp only[aV,if_true,←he]at h
  simp only[evR]
  rw[show ev e (.t m)=e m from rfl]
  cases hm:e m with
  |a x=>
   rw[hm]at h
   cases x with
   |own s off len=>
    simp only[jP,decide_eq_true_eq]at h
    cases mO (ev e ix)with
    |none=>rfl
    |some i=>simp only[h]
   |p v=>cases v<;>cases mO (ev e ix)<;>rfl
   |_=>cases mO (ev e ix)<;>rfl
  |_=>cases mO (ev e ix)<;>rfl
 ·cases ho
theorem Hm{i:Ins}{e:Env}{σ σ' σ1:St}{v:TV}(hc:i.cl.eff=false)(hr:evR cp sp e σ i.op=evR cp sp e σ' i.op)(h:evV cp cs sp i e σ=some (v,σ1)):evV cp cs sp i e σ'=some (v,σ'):=by
 obtain⟨d,g,o,cl⟩:=i
 cases cl with
 |rd=>
  have run:∀{v σ1},((evR cp sp e σ o).bind fun v=>some (v,σ))=some (v,σ1)→((evR cp sp e σ' o).bind fun v=>some (v,σ'))=some (v,σ'):=by
   intro v σ1 hp
   obtain⟨t,h1,hp⟩:=pT hp
   simp only[Lo,ZP]at hp
   obtain⟨rfl,rfl⟩:=hp
   simp only at hr
   rw[←hr,h1];rfl
  simp only[evV]at h⊢
  cases g with
  |none=>exact run h
  |some g=>
   obtain⟨t,w⟩:=g
   simp only[]at h⊢
   split at h
   ·split at h
    ·rename_i h1 h2;rw[if_pos h2];exact run h
    ·rename_i h1 h2
     simp only[Lo,ZP]at h
     obtain⟨rfl,rfl⟩:=h
     rw[if_neg h2]
   ·simp only[Lo,ZP]at h
    obtain⟨rfl,rfl⟩:=h
    rfl
   ·cases h
 |_=>simp[Cls.eff]at hc
theorem cN{i:Ins}{ys:List (Nat×Nat)}{ns:List Nat}(hc:i.cl= .cl ys ns){e:Env}{σ σ1:St}{v:TV}(h:evV cp cs sp i e σ=some (v,σ1)):σ1=σ∨Of e σ σ1 ys ns=true:=by
 obtain⟨d,g,o,cl⟩:=i
 simp only at hc
 subst hc
 have run:((evO cp cs sp d e σ o).bind fun x=>if Of e σ x.2 ys ns then some x else none)=some (v,σ1)→σ1=σ∨Of e σ σ1 ys ns=true:=by
  intro h
  obtain⟨x,h1,h⟩:=pT h
  split at h
  ·rename_i hok
   simp only[Lo]at h;subst h
   exact .inr hok
  ·cases h
 simp only[evV]at h
 cases g with
 |none=>exact run h
 |some g=>
  obtain⟨t,w⟩:=g
  simp only[]at h
  split at h
  ·split at h
   ·exact run h
   ·simp only[Lo,ZP]at h;exact .inl h.2.symm
  ·simp only[Lo,ZP]at h;exact .inl h.2.symm
  ·cases h
def Gen(σ:St):Prop:=∀s b,σ.bs s=some b→s.2<σ.clk
structure DI(is:List Ins)(E:Nat→Env)(S:Nat→St)(L:Nat→Prop)(e:Env)(j:Nat):Prop where
 env:∀t,(∃(i:Nat) (ins:Ins),is[i]? =some ins∧ins.dst=some t∧L i∧e t=E (i+1) t)∨((∀(i:Nat) (ins:Ins),is[i]? =some ins→L i→ins.dst≠some t)∧e t=E 0 t)
 st:∃k,k≤j∧j≤is.length∧(∀(i:Nat) (ins:Ins),is[i]? =some ins→ins.cl.eff=true→(L i→i<j)∧(i<j→ins.nw=false→L i))∧
  (∀i,i<k→L i)∧(∀(i:Nat) (ins:Ins),is[i]? =some ins→ins.cl.alone=true→L i→i<k)∧∀p,k≤p→p≤j→Gen (S p)
variable{is:List Ins}{E:Nat→Env}{S:Nat→St}{ops:Array Oper}{b:Array Nat}
theorem fT{e:Env}{d:Option Nat}{v:TV}{t:Nat}(h:d≠some t):e.putD d v t=e t:=by
 cases d with
 |none=>rfl
 |some d=>simp only[Env.putD,Env.put];rw[if_neg];intro h';exact h (by rw[h'])
theorem TR.env(ht:TR cp cs sp is E S)(ho:DO ops b is):∀(j:Nat),j≤is.length→∀(t:Nat),
  (∀(i:Nat) (ins:Ins),is[i]? =some ins→ins.dst=some t→i<j→E j t=E (i+1) t)∧((∀(i:Nat) (ins:Ins),is[i]? =some ins→i<j→ins.dst≠some t)→E j t=E 0 t)
 |0,_,t=>⟨fun i ins _ _ h=>by omega,fun _=>rfl⟩
 |j+1,hj,t=>by
  obtain⟨h1,h2⟩:=TR.env ht ho j (by omega) t
  obtain⟨ins',hi'⟩:∃ins,is[j]? =some ins:=⟨_,Xb (by omega)⟩
  obtain⟨v,_,hE⟩:=ht.step j ins' hi'
  refine⟨fun i ins hi hd hlt=>?_,fun hno=>?_⟩
  ·by_cases e:i=j
   ·rw[e]
   ·rw[hE,fT (ho.one i j ins ins' t hi hi' e hd)]
    exact h1 i ins hi hd (by omega)
  ·rw[hE,fT (hno j ins' hi' (by omega))]
   exact h2 fun i ins hi hlt=>hno i ins hi (by omega)
theorem TR.quiet(ht:TR cp cs sp is E S){i:Nat}{ins:Ins}(hi:is[i]? =some ins)(hc:ins.cl.eff=false)(hpl:ins.op.xs.all X.plain=true):S (i+1)=S i:=by
 obtain⟨v,h,_⟩:=ht.step i ins hi
 exact(kt (σ':=S i) hc hpl (fun t _ s _ b hb=>hb) h).1
theorem TR.still(ht:TR cp cs sp is E S)(ho:DO ops b is){p:Nat}:∀(q:Nat),p≤q→q≤is.length→(∀(i:Nat) (ins:Ins),is[i]? =some ins→p≤i→i<q→ins.cl.eff=false)→S q=S p:=by
 intro q hpq
 induction hpq with
 |refl=>intro _ _;rfl
 |step hpq ih=>
  rename_i q
  intro hq hn
  obtain⟨ins,hi⟩:∃ins,is[q]? =some ins:=⟨_,Xb (by omega)⟩
  have hpq':p≤q:=hpq
  rw[ht.quiet hi (hn q ins hi hpq' (by omega)) (ho.pl q ins hi)]
  exact ih (by omega) fun i ins hi h1 h2=>hn i ins hi h1 (by omega)
theorem TR.seg(ht:TR cp cs sp is E S)(ho:DO ops b is){k:Nat}(hg:Gen (S k)):∀(q:Nat),k≤q→q≤is.length→(∀(i:Nat) (ins:Ins),is[i]? =some ins→k≤i→i<q→ins.cl.alone=false∧ins.cl.cls=none)→
  Gen (S q)∧∀p,k≤p→p≤q→(S p).clk≤(S q).clk∧∀s,(∀(i:Nat) (ins:Ins) (ts:List Nat),is[i]? =some ins→p≤i→i<q→ins.cl.wrs=some ts→(S (i+1)).bs s=(S i).bs s)→
   (∀bl,(S p).bs s=some bl→(S q).bs s=some bl)∧(s.2<(S p).clk→(S q).bs s=(S p).bs s):=by
 intro q hkq
 induction hkq with
 |refl=>intro _ _;exact⟨hg,fun p h1 h2=>by have:p=k:=by omega
                                           subst this;exact⟨nh _,fun _ _=>⟨fun _ h=>h,fun _=>rfl⟩⟩⟩
 |step hkq ih=>
  rename_i q
  intro hq hn
  obtain⟨ins,hi⟩:∃ins,is[q]? =some ins:=⟨_,Xb (by omega)⟩
  have hkq':k≤q:=hkq
  have hal:=hn q ins hi hkq' (by omega)
  obtain⟨ihg,ihp⟩:=ih (by omega) fun i ins hi h1 h2=>hn i ins hi h1 (by omega)
  have one:S (q+1)=S q∨(∃d bl,S (q+1)=(S q).add d bl∨S (q+1)=((S q).add d bl).kill (d,(S q).clk))∨∃ts s cs0 cs1,ins.cl.wrs=some ts∧(S q).bs s=some (.var cs0)∧S (q+1)=(S q).put s (.var cs1):=by
   by_cases hc:ins.cl.eff=true
   ·obtain⟨v,h,_⟩:=ht.step q ins hi
    cases hw:ins.cl.wrs with
    |some ts=>
     have hcl:ins.cl= .wr ts:=by cases hcl:ins.cl<;>rw[hcl]at hw<;>simp[Cls.wrs]at hw;rw[hw]
     rcases rH hcl h with h1|⟨s,cs0,cs1,h1,h2,_⟩
     ·exact .inl h1
     ·exact .inr (.inr ⟨ts,s,cs0,cs1,rfl,h1,h2⟩)
    |none=>
    have had:ins.cl= .ad:=by
     obtain⟨hal1,hal2⟩:=hal
     clear ih ihp hn
     cases hcl:ins.cl<;>simp_all [Cls.eff,Cls.alone,Cls.wrs,Cls.cls]
    have run:(if ins.op.adds (E q)then evO cp cs sp ins.dst (E q) (S q) ins.op else none)=some (v,S (q+1))→S (q+1)=S q∨∃d bl,S (q+1)=(S q).add d bl∨S (q+1)=((S q).add d bl).kill (d,(S q).clk):=by
     intro h
     split at h
     ·rename_i ha
      obtain⟨d,bl,h'⟩:=V3 ha h
      exact .inr ⟨d,bl,h'⟩
     ·cases h
    have fin:S (q+1)=S q∨∃d bl,S (q+1)=(S q).add d bl∨S (q+1)=((S q).add d bl).kill (d,(S q).clk):=by
     unfold evV at h
     simp only[had]at h
     split at h
     ·exact run h
     ·split at h
      ·split at h
       ·exact run h
       ·simp only[Lo,ZP]at h;exact .inl h.2.symm
      ·simp only[Lo,ZP]at h;exact .inl h.2.symm
      ·cases h
    rcases fin with h|h
    ·exact .inl h
    ·exact .inr (.inl h)
   ·exact .inl (ht.quiet hi (by simpa using hc) (ho.pl q ins hi))
  have step1:Gen (S (q+1))∧(S q).clk≤(S (q+1)).clk∧∀s,(∀ts,ins.cl.wrs=some ts→(S (q+1)).bs s=(S q).bs s)→(∀bl,(S q).bs s=some bl→(S (q+1)).bs s=some bl)∧(s.2<(S q).clk→(S (q+1)).bs s=(S q).bs s):=by
   rcases one with h|⟨d,bl,h|h⟩|⟨ts,s',cs0,cs1,hw,h1,h⟩
   ·rw[h];exact⟨ihg,nh _,fun _ _=>⟨fun _ h=>h,fun _=>rfl⟩⟩
   ·rw[h]
    have old:∀s:Key,s.2<(S q).clk→((S q).add d bl).bs s=(S q).bs s:=by
     intro s hs
     simp only[St.add,St.put]
     rw[if_neg (by intro e;subst e;simp at hs)]
    refine⟨?_,by simp[St.add],fun s _=>⟨fun bl' hs=>by rw[old s (ihg s bl' hs)];exact hs,old s⟩⟩
    intro s bl' hs
    simp only[St.add,St.put]at hs⊢
    by_cases e:s=(d,(S q).clk)
    ·subst e;simp
    ·rw[if_neg e]at hs
     have:=ihg s bl' hs;omega
   ·rw[h]
    have old:∀s:Key,s.2<(S q).clk→(((S q).add d bl).kill (d,(S q).clk)).bs s=(S q).bs s:=by
     intro s hs
     simp only[St.kill,St.add,St.put]
     rw[if_neg (by intro e;subst e;simp at hs),if_neg (by intro e;subst e;simp at hs)]
    refine⟨?_,by simp[St.kill,St.add],fun s _=>⟨fun bl' hs=>by rw[old s (ihg s bl' hs)];exact hs,old s⟩⟩
    intro s bl' hs
    simp only[St.kill,St.add,St.put]at hs⊢
    by_cases e:s=(d,(S q).clk)
    ·subst e;simp
    ·rw[if_neg e,if_neg e]at hs
     have:=ihg s bl' hs;omega
   ·refine⟨?_,by rw[h];simp[St.put],fun s hs=>⟨fun bl hb=>by rw[hs ts hw];exact hb,fun _=>hs ts hw⟩⟩
    rw[h]
    intro s bl' hs
    simp only[St.put]at hs⊢
    by_cases e:s=s'
    ·subst e;exact ihg s _ h1
    ·rw[if_neg e]at hs;exact ihg s bl' hs
  refine⟨step1.1,fun p h1 h2=>?_⟩
  by_cases e:p=q+1
  ·subst e;exact⟨nh _,fun _ _=>⟨fun _ h=>h,fun _=>rfl⟩⟩
  ·obtain⟨a1,a2⟩:=ihp p h1 (by omega)
   refine⟨fm a1 step1.2.1,fun s hs=>?_⟩
   obtain⟨b1,b2⟩:=a2 s fun i ins ts hi g1 g2 g3=>hs i ins ts hi g1 (by omega) g3
   obtain⟨c1,c2⟩:=step1.2.2 s fun ts hts=>hs q ins ts hi (by omega) (by omega) hts
   exact⟨fun bl hb=>c1 bl (b1 bl hb),fun hlt=>(c2 (by omega)).trans (b2 hlt)⟩
theorem TR.kept(ht:TR cp cs sp is E S){p t:Nat}:∀(q:Nat),p≤q→q≤is.length→(∀(k:Nat) (z:Ins),is[k]? =some z→p≤k→k<q→z.dst≠some t)→E q t=E p t:=by
 intro q hpq
 induction hpq with
 |refl=>intro _ _;rfl
 |step hpq ih=>
  rename_i q
  intro hq hn
  obtain⟨ins,hi⟩:∃ins,is[q]? =some ins:=⟨_,Xb (by omega)⟩
  obtain⟨v,_,hE⟩:=ht.step q ins hi
  have hpq':p≤q:=hpq
  rw[hE,fT (hn q ins hi hpq' (by omega))]
  exact ih (by omega) fun k z hk h1 h2=>hn k z hk h1 (by omega)
theorem DI.env_step{L:Nat→Prop}{e:Env}{j:Nat}(hD:DI is E S L e j){i:Nat}{ins:Ins}(hi:is[i]? =some ins)(hL:¬L i){v:TV}(hE:E (i+1)=(E i).putD ins.dst v):
  ∀t,(∃(k:Nat) (x:Ins),is[k]? =some x∧x.dst=some t∧(L k∨k=i)∧e.putD ins.dst v t=E (k+1) t)∨((∀(k:Nat) (x:Ins),is[k]? =some x→(L k∨k=i)→x.dst≠some t)∧e.putD ins.dst v t=E 0 t):=by
 intro t
 by_cases hd:ins.dst=some t
 ·refine .inl ⟨i,ins,hi,hd,.inr rfl,?_⟩
  rw[hE,hd];simp[Env.putD,Env.put]
 ·rw[fT hd]
  rcases hD.env t with⟨k,x,hk,hdk,hLk,he⟩|⟨hno,he⟩
  ·exact .inl ⟨k,x,hk,hdk,.inl hLk,he⟩
  ·refine .inr ⟨fun k x hk hLk=>?_,he⟩
   rcases hLk with hLk|rfl
   ·exact hno k x hk hLk
   ·rw[hi]at hk;cases hk;exact hd
theorem DI.step(ht:TR cp cs sp is E S)(ho:DO ops b is){L:Nat→Prop}{e:Env}{j:Nat}(hD:DI is E S L e j){i:Nat}{ins:Ins}(hi:is[i]? =some ins)(hnw:ins.nw=false)(hcl:ins.cl.cls=none)(hL:¬L i)
  (hord:∀k,k<is.length→k≠i→pK b i k=true→(L k↔k<i)) (hkeys:∀t,t∈ins.looks→∀s,s∈yQ (e t)→s.2<(S j).clk):
  ∃v j',evV cp cs sp ins.loose e (S j)=some (v,S j')∧(Gen (S j')→DI is E S (fun k=>L k∨k=i) (e.putD ins.dst v) j')∧
   (j'=j∨∀(k:Nat) (x:Ins),is[k]? =some x→x.nw=true→k<j'→L k):=by
 have hin:i<is.length:=(QU.1 hi).1
 obtain⟨v,hv,hE⟩:=ht.step i ins hi
 obtain⟨k0,hkj,hjn,heff,hpre,hal,hgen⟩:=hD.st
 have hki:k0≤i:=by
  rcases N2 i k0 with h|h
  ·exact absurd (hpre i h) hL
  ·exact h
 have hagr:∀t,t∈ins.looks→e t=E i t:=by
  intro t hlk
  rcases hD.env t with⟨k,x,hk,hd,hLk,he⟩|⟨hno,he⟩
  ·have hne:k≠i:=by rintro rfl;exact hL hLk
   have hlt:=(hord k (QU.1 hk).1 hne (by rw[RO];exact ho.look k i x ins t hk hi hne hd hlk)).1 hLk
   rw[he,((ht.env ho i (by omega) t).1 k x hk hd hlt)]
  ·rw[he,(ht.env ho i (by omega) t).2]
   intro k x hk hlt hd
   have hne:k≠i:=by omega
   have:=(hord k (QU.1 hk).1 hne (by rw[RO];exact ho.look k i x ins t hk hi hne hd hlk)).2 hlt
   exact hno k x hk this hd
 have henv:=hD.env_step (L:=L) hi hL hE
 by_cases hc:ins.cl.eff=true
 ·
  have hji:j≤i:=by
   rcases N2 i j with h|h
   ·exact absurd ((heff i ins hi hc).2 h hnw) hL
   ·exact h
  have hsur:∀{k:Nat} {x:Ins},is[k]? =some x→i≠k→x.cl.eff=true→pK b i k=true:=fun {k x} hk hne hx=>by
   cases hxn:x.nw with
   |false=>exact ho.sures hi hk hne hc hx (.inl ⟨hnw,hxn⟩)
   |true=>exact ho.sures hi hk hne hc hx (.inr ⟨hcl,by obtain⟨d,z,rfl⟩:=Lw hxn;rfl,.inl hnw⟩)
  have hSp:∀p,j≤p→p≤i→S p=S j:=fun p hjp hpi=>ht.still ho p hjp (by omega) fun k x hk h1 h2=>by
   cases hx:x.cl.eff with
   |false=>rfl
   |true=>
    have hLk:=(hord k (QU.1 hk).1 (by omega) (hsur hk (by omega) hx)).2 (by omega)
    have:=(heff k x hk hx).1 hLk
    omega
  have hS:S i=S j:=hSp i hji (nh _)
  have hev:evV cp cs sp ins.loose e (S j)=some (v,S (i+1)):=by
   rw[Dn (Dw ins) (fun t htl=>hagr t (by rw[Fv]at htl;exact htl)),←hS];exact Qd hv
  refine⟨v,i+1,hev,fun hg=>⟨henv,?_⟩,.inr fun k x hk hx hlt=>?_⟩
  case refine_2=>
   have hne:k≠i:=by rintro rfl;rw[hi]at hk;cases hk;rw[hx]at hnw;cases hnw
   have hxe:x.cl.eff=true:=by obtain⟨d,z,rfl⟩:=Lw hx;rfl
   exact(hord k (QU.1 hk).1 hne (hsur hk (fun h=>hne h.symm) hxe)).2 (by omega)
  have heff':∀(k:Nat) (x:Ins),is[k]? =some x→x.cl.eff=true→((L k∨k=i)→k<i+1)∧(k<i+1→x.nw=false→(L k∨k=i)):=by
   intro k x hk hx
   by_cases e:k=i
   ·subst e;simp
   ·have:=hord k (QU.1 hk).1 e (hsur hk (fun h=>e h.symm) hx)
    constructor
    ·rintro(h|h)
     ·have:=this.1 h;omega
     ·exact absurd h e
    ·intro h _;exact .inl (this.2 (by omega))
  by_cases ha:ins.cl.alone=true
  ·have hall:∀k,k<is.length→k≠i→(L k↔k<i):=fun k hk hne=>by
    obtain⟨x,hx⟩:∃x,is[k]? =some x:=⟨_,Xb hk⟩
    exact hord k hk hne (ho.alone i k ins x hi hx (fun h=>hne h.symm) ha)
   refine⟨i+1,nh _,by omega,heff',fun k hk=>?_,fun k x hk hx hLk=>?_,fun p h1 h2=>?_⟩
   rotate_left
   rotate_left
   ·have e:p=i+1:=by omega
    rw[e];exact hg
   ·by_cases e:k=i
    ·exact .inr e
    ·exact .inl ((hall k (by omega) e).2 (by omega))
   ·rcases hLk with hLk|rfl
    ·by_cases e:k=i
     ·omega
     ·have:=(hall k (QU.1 hk).1 e).1 hLk;omega
    ·omega
  ·refine⟨k0,by omega,by omega,heff',fun k hk=>.inl (hpre k hk),fun k x hk hx hLk=>?_,fun p h1 h2=>?_⟩
   rotate_left
   ·rcases N2 j p with h3|h3
    ·by_cases e:p=i+1
     ·rw[e];exact hg
     ·rw[hSp p (by omega) (by omega)];exact hgen j hkj (nh _)
    ·exact hgen p h1 h3
   rcases hLk with hLk|rfl
   ·exact hal k x hk hx hLk
   ·rw[hi]at hk;cases hk;exact absurd hx ha
 ·
  have hc':ins.cl.eff=false:=by simpa using hc
  have ha':ins.cl.alone=false:=by cases hcl:ins.cl<;>simp_all [Cls.eff,Cls.alone]
  have noal:∀(k:Nat) (x:Ins),is[k]? =some x→k0≤k→k<max i j→x.cl.alone=false:=by
   intro k x hk h1 h2
   cases hx:x.cl.alone with
   |false=>rfl
   |true=>
    have hxe:x.cl.eff=true:=by cases hcl:x.cl<;>simp_all [Cls.eff,Cls.alone]
    have hnL:¬L k:=fun h=>by have:=hal k x hk hx h;omega
    have hkj:¬k<j:=fun h=>hnL ((heff k x hk hxe).2 h (qh hx))
    have hki':k<i:=by omega
    exact absurd ((hord k (QU.1 hk).1 (by omega) (by rw[RO];exact ho.alone k i x ins hk hi (by omega) hx)).2 hki') hnL
  have hwn:∀(k:Nat) (x:Ins) (ts:List Nat),is[k]? =some x→x.cl.wrs=some ts→x.cl.eff=true:=by
   intro k x ts _ h
   cases hcl:x.cl<;>rw[hcl]at h<;>simp_all [Cls.eff,Cls.wrs]
  have hev:evV cp cs sp ins (E i) (S j)=some (v,S j):=by
   by_cases hpu:ins.op.pure=true
   ·exact(rC hc' hpu (S i) (S j) hv).2
   ·have upone:∀(k:Nat) (x:Ins),is[k]? =some x→i≤k→k<j→x.cl.eff=true→x.cl.cls=none→evV cp cs sp ins (E i) (S k)=some (v,S k)→evV cp cs sp ins (E i) (S (k+1))=some (v,S (k+1)):=by
     intro k x hk hik hkj' hxe hxc h0
     have hne:k≠i:=by rintro rfl;rw[hi]at hk;cases hk;exact hc hxe
     have hkl:=(QU.1 hk).1
     obtain⟨_,hp⟩:=ht.seg ho (hgen k (by omega) (by omega)) (k+1) (by omega) (by omega) (fun k' x' hk' h1 h2=>by
      have:k'=k:=by omega
      subst this;rw[hk]at hk';cases hk'
      exact⟨noal k' x hk (by omega) (by omega),hxc⟩)
     refine(kt (σ':=S (k+1)) hc' (ho.pl i ins hi) (fun t hlk s hs bl hb=>?_) h0).2
     refine((hp k (nh _) (by omega)).2 s fun k' x' ts hk' h1 h2 hw=>?_).1 bl hb
     have e:k'=k:=by omega
     subst e;rw[hk]at hk';cases hk'
     have hLk:=(heff k' x hk hxe).2 hkj' (GY hw)
     have huns:¬pK b k' i=true:=fun hsu=>by
      have:=(hord k' hkl hne (by rw[RO];exact hsu)).1 hLk
      omega
     rcases ho.wrs k' i x ins ts hk hi hne hw with h3|h3|⟨_,h3⟩
     ·exact absurd h3 huns
     ·exact absurd h3 hpu
     ·obtain⟨h4,h5⟩:=h3 t hlk
      have hcl':x.cl= .wr ts:=by cases hcl:x.cl<;>rw[hcl]at hw<;>simp[Cls.wrs]at hw;rw[hw]
      obtain⟨v',hv',_⟩:=ht.step k' x hk
      have hkt:E k' t=E i t:=ht.kept k' (by omega) (by omega) h5
      rcases rH hcl' hv' with h6|⟨s',cs0,cs1,h6,h7,h8⟩
      ·rw[h6]
      ·have hss:s≠s':=by
        rintro rfl
        have:=h8 t h4
        rw[hkt]at this
        exact this hs
       rw[h7];simp only[St.put];rw[if_neg hss]
    have hquiet:S (i+1)=S i:=ht.quiet hi hc' (ho.pl i ins hi)
    have chain:∀q,i≤q→q≤j→evV cp cs sp ins (E i) (S q)=some (v,S q):=by
     intro q hiq
     induction hiq with
     |refl=>intro _;rw[hv,hquiet]
     |step hiq ih=>
      rename_i q
      intro hq
      have hiq':i≤q:=hiq
      have h0:=ih (by omega)
      obtain⟨x,hx⟩:∃x,is[q]? =some x:=⟨_,Xb (by omega)⟩
      by_cases hxe:x.cl.eff=true
      case neg=>rw[ht.quiet hx (by simpa using hxe) (ho.pl q x hx)];exact h0
      cases hxc:x.cl.cls with
      |none=>exact upone q x hx hiq' (by omega) hxe hxc h0
      |some c=>
       have hne:q≠i:=by rintro rfl;rw[hi]at hx;cases hx;exact hc hxe
       have hLq:=(heff q x hx hxe).2 (by omega) (M3 hxc)
       have huns:¬pK b q i=true:=fun hsu=>by
        have:=(hord q (by omega) hne (by rw[RO];exact hsu)).1 hLq
        omega
       obtain⟨ys,ns⟩:=c
       have hxcl:x.cl= .cl ys ns:=by
        cases h:x.cl<;>rw[h]at hxc<;>simp[Cls.cls]at hxc
        rw[hxc.1,hxc.2]
       rcases ho.cls q i x ins ys ns hx hi hne hxcl with h3|h3|h3|⟨_,_,⟨⟨n,mm⟩,h4,h5⟩,h6⟩
       ·exact absurd h3 huns
       ·exact absurd h3 hpu
       ·rw[hnw]at h3;cases h3
       ·obtain⟨v',hv',_⟩:=ht.step q x hx
        rcases cN hxcl hv' with h7|h7
        ·rw[h7];exact h0
        ·have hlk:mm∈ins.looks:=by
          have h4':=h4
          unfold ldO at h4'
          unfold Ins.looks
          split at h4'
          ·rename_i ho;rw[ho]
           split at h4'
           ·cases h4'
           ·simp only[Lo,ZP]at h4'
            obtain⟨_,rfl⟩:=h4'
            simp[O.xs,xT]
          ·rename_i ho;rw[ho]
           simp only[Lo,ZP]at h4'
           obtain⟨_,rfl⟩:=h4'
           simp[O.xs,xT]
          ·cases h4'
         have hkt:E q mm=E i mm:=ht.kept q (by omega) (by omega) (h6 mm hlk)
         unfold Of at h7
         rw[Cd]at h7
         have h8:=Gc.1 h7.1 (n,mm) h5
         exact Hm hc' (Dg h4 hkt.symm h8) h0
    rcases Nat.le_total i j with h|h
    ·exact chain j h (nh _)
    ·have noc:∀(k:Nat) (x:Ins),is[k]? =some x→j≤k→k<i→x.cl.alone=false∧x.cl.cls=none:=by
      intro k x hk h1 h2
      refine⟨noal k x hk (by omega) (by omega),?_⟩
      cases hxc:x.cl.cls with
      |none=>rfl
      |some c=>
       exfalso
       obtain⟨ys,ns⟩:=c
       have hxcl:x.cl= .cl ys ns:=by
        cases h:x.cl<;>rw[h]at hxc<;>simp[Cls.cls]at hxc
        rw[hxc.1,hxc.2]
       have hxe:x.cl.eff=true:=by rw[hxcl];rfl
       have hnL:¬L k:=fun hLk=>by have:=(heff k x hk hxe).1 hLk;omega
       rcases ho.cls k i x ins ys ns hk hi (by omega) hxcl with h3|h3|h3|⟨h3,_⟩
       ·exact hnL ((hord k (QU.1 hk).1 (by omega) (by rw[RO];exact h3)).2 h2)
       ·exact hpu h3
       ·rw[hnw]at h3;cases h3
       ·omega
     obtain⟨_,hp⟩:=ht.seg ho (hgen j hkj (nh _)) i h (by omega) noc
     refine(kt (σ':=S j) hc' (ho.pl i ins hi) (fun t hlk s hs bl hb=>?_) hv).2
     have hk:=hkeys t hlk s (by rw[hagr t hlk];exact hs)
     rw[←((hp j (nh _) h).2 s fun k x ts hk h1 h2 hw=>?_).2 hk];exact hb
     exfalso
     have hxe:=hwn k x ts hk hw
     have hne:k≠i:=by omega
     have hnL:¬L k:=fun hLk=>by have:=(heff k x hk hxe).1 hLk;omega
     have huns:¬pK b k i=true:=fun hsu=>hnL ((hord k (QU.1 hk).1 hne (by rw[RO];exact hsu)).2 h2)
     rcases ho.wrs k i x ins ts hk hi hne hw with h3|h3|⟨h3,_⟩
     ·exact huns h3
     ·exact hpu h3
     ·omega
  refine⟨v,j,by rw[M1 hc',Dn (by rw[←M1 hc'];exact Dw ins) hagr];exact hev,fun _=>⟨henv,k0,hkj,hjn,fun k x hk hx=>?_,fun k hk=>.inl (hpre k hk),fun k x hk hx hLk=>?_,hgen⟩,.inl rfl⟩
  ·have hne:k≠i:=by rintro rfl;rw[hi]at hk;cases hk;exact hc hx
   constructor
   ·rintro(h|h)
    ·exact(heff k x hk hx).1 h
    ·exact absurd h hne
   ·intro h hn;exact .inl ((heff k x hk hx).2 h hn)
  ·rcases hLk with hLk|rfl
   ·exact hal k x hk hx hLk
   ·rw[hi]at hk;cases hk;rw[ha']at hx;cases hx
theorem TR.nw(ht:TR cp cs sp is E S){i d:Nat}{z:List AV}(hi:is[i]? =some ⟨some d,none,.new z,.ad⟩):S (i+1)=(S i).add d (.var z)∧E (i+1)=(E i).put d (.a (.ptr (d,(S i).clk) 0 0)):=by
 obtain⟨v,hv,hE⟩:=ht.step i _ hi
 simp only[evV,O.adds,evO,if_true,Lo,ZP]at hv
 obtain⟨rfl,h2⟩:=hv
 exact⟨h2.symm,hE⟩
theorem DI.step_nw(ht:TR cp cs sp is E S)(ho:DO ops b is){L:Nat→Prop}{e:Env}{j:Nat}(hD:DI is E S L e j){i d:Nat}{z:List AV}(hi:is[i]? =some ⟨some d,none,.new z,.ad⟩)(hL:¬L i)
  (hord:∀k,k<is.length→k≠i→pK b i k=true→(L k↔k<i)):
  DI is E S (fun k=>L k∨k=i) (e.put d (.a (.ptr (d,(S i).clk) 0 0))) (max j (i+1))∧∀(p:Nat) (x:Ins),is[p]? =some x→j≤p→p<max j (i+1)→x.cl.eff=false∨(x.nw=true∧¬L p):=by
 have hin:i<is.length:=(QU.1 hi).1
 obtain⟨k0,hkj,hjn,heff,hpre,hal,hgen⟩:=hD.st
 have hnot:∀(k:Nat) (x:Ins),is[k]? =some x→x.cl.eff=true→x.nw=false→k<i→L k:=by
  intro k x hk hx hn hlt
  have hne:k≠i:=by omega
  have hsu:pK b i k=true:=by
   rcases ho.eff i k _ x hi hk (fun h=>hne h.symm) rfl hx with h|⟨_,h⟩|⟨ys,ns,d,h,_⟩|⟨ys,ns,d,_,_,_,h,_⟩
   ·exact h
   ·rw[h]at hn;cases hn
   ·simp at h
   ·omega
  exact(hord k (QU.1 hk).1 hne hsu).2 hlt
 have hbet:∀(p:Nat) (x:Ins),is[p]? =some x→j≤p→p<max j (i+1)→x.cl.eff=false∨(x.nw=true∧¬L p):=by
  intro p x hp h1 h2
  cases hx:x.cl.eff with
  |false=>exact .inl rfl
  |true=>
   have hnL:¬L p:=fun h=>by have:=(heff p x hp hx).1 h;omega
   cases hn:x.nw with
   |true=>exact .inr ⟨rfl,hnL⟩
   |false=>
    have hne:p≠i:=by rintro rfl;rw[hi]at hp;cases hp;cases hn
    exact absurd (hnot p x hp hx hn (by omega)) hnL
 refine⟨⟨hD.env_step hi hL (ht.nw hi).2,k0,by omega,by omega,fun k x hk hx=>⟨?_,fun hlt hn=>?_⟩,fun k hk=>.inl (hpre k hk),fun k x hk hx hLk=>?_,fun p h1 h2=>?_⟩,hbet⟩
 ·rintro(h|h)
  ·have:=(heff k x hk hx).1 h;omega
  ·omega
 ·rcases N2 k j with h|h
  ·exact .inl ((heff k x hk hx).2 h hn)
  ·have hne:k≠i:=by rintro rfl;rw[hi]at hk;cases hk;cases hn
   exact .inl (hnot k x hk hx hn (by omega))
 ·rcases hLk with hLk|rfl
  ·exact hal k x hk hx hLk
  ·rw[hi]at hk;cases hk;simp[Cls.alone]at hx
 ·rcases N2 j p with h3|h3
  ·refine(ht.seg ho (hgen j hkj (nh _)) p (by omega) (by omega) fun q x hq g1 g2=>?_).1
   rcases hbet q x hq g1 (by omega)with h|⟨h,_⟩
   ·cases hcl:x.cl<;>rw[hcl]at h<;>simp_all [Cls.eff,Cls.alone,Cls.cls]
   ·obtain⟨d,z,rfl⟩:=Lw h;exact⟨rfl,rfl⟩
  ·exact hgen p h1 h3
theorem DI.step_cl(ht:TR cp cs sp is E S)(ho:DO ops b is){L:Nat→Prop}{e:Env}{j:Nat}(hD:DI is E S L e j){i:Nat}{ins:Ins}{ys:List (Nat×Nat)}{ns:List Nat}(hi:is[i]? =some ins)(hc:ins.cl= .cl ys ns)(hL:¬L i)
  (hord:∀k,k<is.length→k≠i→pK b i k=true→(L k↔k<i)):
  j≤i∧(∀(p:Nat) (x:Ins),is[p]? =some x→j≤p→p<i→x.cl.eff=false∨(x.nw=true∧¬L p))∧∃v,evV cp cs sp ins.loose e (S i)=some (v,S (i+1))∧
   (Gen (S (i+1))→DI is E S (fun k=>L k∨k=i) (e.putD ins.dst v) (i+1))∧
   ∀(k d:Nat) (z:List AV),is[k]? =some ⟨some d,none,.new z,.ad⟩→k<i→¬L k→(S i).bs (d,(S k).clk)=some (.var z)→(S (i+1)).bs (d,(S k).clk)=some (.var z):=by
 have hin:i<is.length:=(QU.1 hi).1
 have hce:ins.cl.eff=true:=by rw[hc];rfl
 have hnw:ins.nw=false:=M3 (by rw[hc];rfl)
 obtain⟨v,hv,hE⟩:=ht.step i ins hi
 obtain⟨k0,hkj,hjn,heff,hpre,hal,hgen⟩:=hD.st
 have hagr:∀t,t∈ins.looks→e t=E i t:=by
  intro t hlk
  rcases hD.env t with⟨k,x,hk,hd,hLk,he⟩|⟨hno,he⟩
  ·have hne:k≠i:=by rintro rfl;exact hL hLk
   have hlt:=(hord k (QU.1 hk).1 hne (by rw[RO];exact ho.look k i x ins t hk hi hne hd hlk)).1 hLk
   rw[he,((ht.env ho i (by omega) t).1 k x hk hd hlt)]
  ·rw[he,(ht.env ho i (by omega) t).2]
   intro k x hk hlt hd
   have hne:k≠i:=by omega
   have:=(hord k (QU.1 hk).1 hne (by rw[RO];exact ho.look k i x ins t hk hi hne hd hlk)).2 hlt
   exact hno k x hk this hd
 have hji:j≤i:=by
  rcases N2 i j with h|h
  ·exact absurd ((heff i ins hi hce).2 h hnw) hL
  ·exact h
 have hsur:∀{k:Nat} {x:Ins},is[k]? =some x→i≠k→x.cl.eff=true→x.nw=false→pK b i k=true:=fun {k x} hk hne hx hxn=>ho.sures hi hk hne hce hx (.inl ⟨hnw,hxn⟩)
 have hbet:∀(p:Nat) (x:Ins),is[p]? =some x→j≤p→p<i→x.cl.eff=false∨(x.nw=true∧¬L p):=by
  intro p x hp h1 h2
  cases hx:x.cl.eff with
  |false=>exact .inl rfl
  |true=>
   have hnL:¬L p:=fun h=>by have:=(heff p x hp hx).1 h;omega
   cases hn:x.nw with
   |true=>exact .inr ⟨rfl,hnL⟩
   |false=>exact absurd ((hord p (QU.1 hp).1 (by omega) (hsur hp (by omega) hx hn)).2 h2) hnL
 have hgi:∀p,j≤p→p≤i→Gen (S p):=fun p h1 h2=>
  (ht.seg ho (hgen j hkj (nh _)) p h1 (by omega) fun q x hq g1 g2=>by
   rcases hbet q x hq g1 (by omega)with h|⟨h,_⟩
   ·cases hcl:x.cl<;>rw[hcl]at h<;>simp_all [Cls.eff,Cls.alone,Cls.cls]
   ·obtain⟨d,z,rfl⟩:=Lw h;exact⟨rfl,rfl⟩).1
 refine⟨hji,hbet,v,?_,fun hg=>⟨hD.env_step hi hL hE,k0,by omega,by omega,fun k x hk hx=>?_,fun k hk=>.inl (hpre k hk),fun k x hk hx hLk=>?_,fun p h1 h2=>?_⟩,fun k d z hk hki hnL hb=>?_⟩
 ·rw[Dn (Dw ins) (fun t htl=>hagr t (by rw[Fv]at htl;exact htl))];exact Qd hv
 ·by_cases e:k=i
  ·subst e;simp
  ·cases hn:x.nw with
   |false=>
    have:=hord k (QU.1 hk).1 e (hsur hk (fun h=>e h.symm) hx hn)
    constructor
    ·rintro(h|h)
     ·have:=this.1 h;omega
     ·exact absurd h e
    ·intro h _;exact .inl (this.2 (by omega))
   |true=>
    refine⟨?_,fun _ h=>by cases h⟩
    rintro(h|h)
    ·have:=(heff k x hk hx).1 h;omega
    ·exact absurd h e
 ·rcases hLk with hLk|rfl
  ·exact hal k x hk hx hLk
  ·rw[hi]at hk;cases hk;rw[hc]at hx;simp[Cls.alone]at hx
 ·by_cases e:p=i+1
  ·rw[e];exact hg
  ·rcases Nat.le_total p j with h3|h3
   ·exact hgen p h1 h3
   ·exact hgi p h3 (by omega)
 ·have hne:k≠i:=by omega
  have huns:¬pK b i k=true:=fun hsu=>hnL ((hord k (QU.1 hk).1 hne hsu).2 hki)
  have hin2:d∈ns:=by
   rcases ho.eff i k ins _ hi hk (fun h=>hne h.symm) hce rfl with h|⟨h,_⟩|⟨ys',ns',d',h1,_,h3,_,h5⟩|⟨ys',ns',d',h1,_⟩
   ·exact absurd h huns
   ·rw[hnw]at h;cases h
   ·rw[hc]at h1
    simp only[Cls.cl.injEq]at h1
    simp only[Lo]at h3
    rw[h1.2,h3];exact h5
   ·simp at h1
  have hEd:E i d= .a (.ptr (d,(S k).clk) 0 0):=by
   rw[(ht.env ho i (by omega) d).1 k _ hk rfl hki,(ht.nw hk).2];simp[Env.put]
  rcases cN hc hv with h|h
  ·rw[h];exact hb
  ·unfold Of at h
   rw[Cd]at h
   have h2:=Gc.1 h.2 d hin2
   unfold pV at h2
   rw[hEd]at h2
   simp only[hb]at h2
   split at h2
   ·rename_i z1 z2 h3 h4
    simp only[Lo,Blk.var.injEq]at h3
    rw[h4,←nI h2,h3]
   ·cases h2
theorem DI.fin(ht:TR cp cs sp is E S)(ho:DO ops b is){L:Nat→Prop}{e:Env}{j:Nat}(hD:DI is E S L e j)(hall:∀i,i<is.length→L i):e=E is.length∧S j=S is.length:=by
 constructor
 ·funext t
  rcases hD.env t with⟨k,x,hk,hd,hLk,he⟩|⟨hno,he⟩
  ·rw[he,(ht.env ho _ (nh _) t).1 k x hk hd (QU.1 hk).1]
  ·rw[he,(ht.env ho _ (nh _) t).2]
   intro k x hk hlt
   exact hno k x hk (hall k hlt)
 ·obtain⟨k0,hkj,hjn,heff,_⟩:=hD.st
  refine(ht.still ho _ hjn (nh _) fun k x hk h1 h2=>?_).symm
  cases hx:x.cl.eff with
  |false=>rfl
  |true=>have:=(heff k x hk hx).1 (hall k h2);omega
end
section
variable{P:Program}{eqs:List (TypeId×List Nat)}{CR:Nat→Code→C→Prop}{m m':Mt}{σ σ':St}{w w':World}{e e':Env}{a:Act}
variable{cp:FuncId→List PT→Option PT}{cs:Cal→List TV→St→Option (TV×St)}{sp:FuncId→Bool}
theorem JU{t:TV}{v:Value}(h:RT m σ w t v):∀s,s∈yQ t→s.2<σ.clk:=by
 have one:∀{x:AV} {v:Value},RA m σ w x v→∀s,s∈J8 x→s.2<σ.clk:=by
  intro x v h s hs
  cases x with
  |ptr k i j=>simp only[J8,bK]at hs;subst hs;exact h.1.1
  |own k o l=>simp only[J8,bK]at hs;subst hs;exact h.1
  |mp k=>simp only[J8,bK]at hs;subst hs;exact h.1.1
  |_=>simp[J8]at hs
 have list:∀{xs:List AV} {vs:List Value},F2 (RA m σ w) xs vs→∀s,s∈xs.flatMap J8→s.2<σ.clk:=by
  intro xs vs h
  induction h with
  |nil=>intro s hs;simp at hs
  |cons x _ ih=>
   intro s hs
   simp only[aC,Sw]at hs
   rcases hs with hs|hs
   ·exact one x s hs
   ·exact ih s hs
 cases t with
 |u=>intro s hs;simp[yQ]at hs
 |a x=>exact one h
 |g cs=>obtain⟨vs,_,h2⟩:=h;exact list h2
 |t ts=>
  obtain⟨us,hus,h2⟩:=h
  clear hus
  intro s hs
  simp only[yQ]at hs
  revert hs
  induction h2 with
  |nil=>intro hs;simp at hs
  |cons x _ ih=>
   intro hs
   simp only[aC,Sw]at hs
   rcases hs with hs|hs
   ·unfold RGA at x
    split at x
    ·obtain⟨vs,_,h3⟩:=x;exact list h3 s hs
    ·obtain⟨y,he,h3⟩:=x
     rw[he]at hs
     simp only[aC,SN,Qg]at hs
     exact one h3 s hs
   ·exact ih hs
theorem Yw:∀(l:List Bool) (i:Nat),l[i]? =some false→(l.set i true).count false+1=l.count false
 |[],i,h=>by simp at h
 |x::l,0,h=>by simp at h;subst h;simp
 |x::l,i+1,h=>by
  simp only[cw]at h
  have:=Yw l i h
  simp only[DV,J7]
  omega
def Vir(is:List Ins)(S:Nat→St)(L:Nat→Prop)(c0:Nat)(j:Nat)(m:Mt)(σ:St):Prop:=
 ∀(i d:Nat) (z:List AV),is[i]? =some ⟨some d,none,.new z,.ad⟩→i<j→¬L i→m.mu (d,(S i).clk)=none∧σ.bs (d,(S i).clk)=some (.var z)∧c0≤(S i).clk∧(S i).clk<σ.clk
theorem Z6{m0:Mt}{σ0:St}{w0:World}{a0:Act}{ops:Array Oper}{b:Array Nat}{is:List Ins}(ho:DO ops b is){E:Nat→Env}{S:Nat→St}(ht:TR cp cs sp is E S){L:Nat→Prop}{j:Nat}
  (hA:At CR m0 σ0 w0 a0 m e (S j) a w) (hV:Vir is S L σ0.clk j m (S j)):
  ∀(q:Nat),j≤q→q≤is.length→(∀(p:Nat) (x:Ins),is[p]? =some x→j≤p→p<q→x.cl.eff=false∨(x.nw=true∧¬L p))→∃m',At CR m0 σ0 w0 a0 m' e (S q) a w∧Vir is S L σ0.clk q m' (S q):=by
 intro q hjq
 induction hjq with
 |refl=>intro _ _;exact⟨m,hA,hV⟩
 |step hjq ih=>
  rename_i q
  intro hq hn
  have hjq':j≤q:=hjq
  obtain⟨m1,hA1,hV1⟩:=ih (by omega) fun p x hp h1 h2=>hn p x hp h1 (by omega)
  obtain⟨ins,hi⟩:∃ins,is[q]? =some ins:=⟨_,Xb (by omega)⟩
  rcases hn q ins hi hjq' (by omega)with h|⟨h,hL⟩
  ·rw[ht.quiet hi h (ho.pl q ins hi)]
   refine⟨m1,hA1,fun i d z hii hlt hLi=>?_⟩
   by_cases e:i=q
   ·subst e;rw[hi]at hii;cases hii;simp[Cls.eff]at h
   ·exact hV1 i d z hii (by omega) hLi
  ·obtain⟨d,z,rfl⟩:=Lw h
   obtain⟨h1,_⟩:=ht.nw hi
   rw[h1]
   refine⟨_,hA1.virt d z,fun i d' z' hii hlt hLi=>?_⟩
   by_cases e:i=q
   ·subst e
    rw[hi]at hii;cases hii
    refine⟨by simp[Mt.add],by simp[St.add,St.put],hA1.xt.clk,by simp[St.add]⟩
   ·obtain⟨g1,g2,g3,g4⟩:=hV1 i d' z' hii (by omega) hLi
    have hne:(d',(S i).clk)≠(d,(S q).clk):=by intro h;rw[ZP]at h;omega
    refine⟨?_,?_,g3,by simp[St.add];omega⟩
    ·simp only[Mt.add];rw[if_neg hne];exact g1
    ·simp only[St.add,St.put];rw[if_neg hne];exact g2
theorem CB{m0:Mt}{σ0:St}{w0:World}{a0:Act}(hEq:Oi P eqs)(hp:Ua P cp)(hs:dI P CR cs){ops:Array Oper}{rr:Option Nat}{n:Nat}{Q:Exit→Act→World→Prop}
  {is:List Ins} (hlen:is.length=ops.size) (hins:∀(i:Nat) (o:Oper),ops[i]? =some o→∃ins,is[i]? =some ins∧wJ P eqs a0.tmps.size ops o ins) (ho:DO ops (ub ops) is)
  {E:Nat→Env} {S:Nat→St} (ht:TR cp cs sp is E S) (hQ:∀m' a' w',At CR m0 σ0 w0 a0 m' (E is.length) (S is.length) a' w'→Q .normal a' w'):
  ∀(fuel:Nat) (listed:Array Bool) {m:Mt} {e:Env} {j:Nat} {a:Act} {w:World},listed.size=ops.size→listed.toList.count false≤fuel→
   (∀(i:Nat) (o:Oper),ops[i]? =some o→listed[i]? =some true→∀ed,ed∈o.after→Region.binds .any ed=true→listed[ed.on]? =some true)→
   DI is E S (fun i=>listed[i]? =some true) e j→At CR m0 σ0 w0 a0 m e (S j) a w→Vir is S (fun i=>listed[i]? =some true) σ0.clk j m (S j)→wpAnyIn (FW rr) n P .any ops Q fuel listed a w:=by
 have ends:∀(listed:Array Bool) {m:Mt} {e:Env} {j:Nat} {a:Act} {w:World},listed.size=ops.size→
   (∀i,i<ops.size→listed[i]? =some true)→DI is E S (fun i=>listed[i]? =some true) e j→At CR m0 σ0 w0 a0 m e (S j) a w→Q .normal a w:=by
  intro listed m e j a w hsz hall hD hA
  obtain⟨rfl,hS⟩:=hD.fin ht ho (fun i hi=>hall i (by omega))
  rw[hS]at hA
  exact hQ _ _ _ hA
 have isready:∀(listed:Array Bool) (i:Nat),listed.size=ops.size→(i∈Region.ready .any ops listed↔∃o,ops[i]? =some o∧listed[i]? =some false∧∀ed,ed∈o.after→Region.binds .any ed=true→listed[ed.on]? =some true):=by
  intro listed i hsz
  simp only[Region.ready,Bo,MD,Cd,qp]
  constructor
  ·rintro⟨h1,h2,h3⟩
   obtain⟨o,ho'⟩:∃o,ops[i]? =some o:=⟨_,zp h1⟩
   refine⟨o,ho',?_,?_⟩
   ·rw[wF]at h2
    cases h4:listed[i]? with
    |none=>rw[h4]at h2;simp at h2
    |some x=>rw[h4]at h2;simp at h2;rw[h2]
   ·intro ed hed hb
    rw[ho']at h3
    simp only[lT,M0,ZT,gS,qp]at h3
    rcases h3 ed hed with h5|h5
    ·rw[hb]at h5;cases h5
    ·rw[wF]at h5
     cases h4:listed[ed.on]? with
     |none=>rw[h4]at h5;simp at h5
     |some x=>rw[h4]at h5;simp at h5;rw[h5]
  ·rintro⟨o,ho',h2,h3⟩
   refine⟨(ei.1 ho').1,by rw[wF,h2];rfl,?_⟩
   rw[ho']
   simp only[lT,M0,ZT,gS,qp]
   intro ed hed
   cases hb:Region.binds .any ed with
   |false=>exact .inl rfl
   |true=>exact .inr (by rw[wF,h3 ed hed hb];rfl)
 have nilall:∀(listed:Array Bool),listed.size=ops.size→Region.ready .any ops listed=[]→∀i,i<ops.size→listed[i]? =some true:=by
  intro listed hsz hnil i
  induction i using Nat.strongRecOn with
  |_ i ih=>
   intro hi
   obtain⟨o,ho'⟩:∃o,ops[i]? =some o:=⟨_,zp hi⟩
   cases h4:listed[i]? with
   |none=>have:=Array.getElem?_eq_none_iff.1 h4;omega
   |some x=>
    cases x with
    |true=>rfl
    |false=>
     have:i∈Region.ready .any ops listed:=(isready listed i hsz).2 ⟨o,ho',h4,fun ed hed hb=>by
      have:=ho.back i o ho' ed hed hb
      exact ih ed.on this (by omega)⟩
     rw[hnil]at this;simp at this
 intro fuel
 induction fuel with
 |zero=>
  intro listed m e j a w hsz hcnt hcl hD hA hV
  have hall:∀i,i<ops.size→listed[i]? =some true:=by
   intro i hi
   have h0:listed.toList.count false=0:=by omega
   rw[List.count_eq_zero]at h0
   rw[zp (by omega)]
   cases hx:listed[i]with
   |true=>rfl
   |false=>exact absurd (by rw[←hx];simp) h0
  refine⟨?_,ends listed hsz hall hD hA⟩
  cases hr:Region.ready .any ops listed with
  |nil=>rfl
  |cons i r=>
   obtain⟨o,ho',h2,_⟩:=(isready listed i hsz).1 (by rw[hr];simp)
   rw[hall i (ei.1 ho').1]at h2;cases h2
 |succ fuel ih=>
  intro listed m e j a w hsz hcnt hcl hD hA hV
  refine⟨fun hnil=>ends listed hsz (nilall listed hsz hnil) hD hA,fun i hi=>?_⟩
  obtain⟨o,ho',hun,hed⟩:=(isready listed i hsz).1 hi
  obtain⟨ins,hii,hok⟩:=hins i o ho'
  have hilt:i<ops.size:=(ei.1 ho').1
  have hlt2:i<listed.size:=by rw[hsz];exact hilt
  have bl:=cY (L:=fun i=>listed[i]? =some true) ho.back hcl
  have hord:∀k,k<is.length→k≠i→pK (ub ops) i k=true→(listed[k]? =some true↔k<i):=by
   intro k hk hne hsu
   unfold pK at hsu
   rcases N2 k i with h|h
   ·rw[Wc (by omega),Nat.min_eq_right (by omega)]at hsu
    exact⟨fun _=>h,fun _=>bl i o ho' hed k hsu⟩
   ·rw[KS (by omega),Vi (by omega)]at hsu
    obtain⟨o',ho''⟩:∃o',ops[k]? =some o':=⟨_,zp (by omega)⟩
    refine⟨fun hLk=>?_,fun h'=>by omega⟩
    have:=bl k o' ho'' (hcl k o' ho'' hLk) i hsu
    rw[this]at hun;cases hun
  have hset:∀k,(listed.setIfInBounds i true)[k]? =some true↔(listed[k]? =some true∨k=i):=by
   intro k
   by_cases e:k=i
   ·rw[e];simp[hlt2]
   ·simp[L1 (Mu e),e]
  have hfun:(fun k=>(listed.setIfInBounds i true)[k]? =some true)=fun k=>(listed[k]? =some true∨k=i):=funext fun k=>propext (hset k)
  have go:∀{m':Mt} {e':Env} {j':Nat} {a':Act} {w':World},DI is E S (fun k=>listed[k]? =some true∨k=i) e' j'→At CR m0 σ0 w0 a0 m' e' (S j') a' w'→Vir is S (fun k=>listed[k]? =some true∨k=i) σ0.clk j' m' (S j')→
    wpAnyIn (FW rr) n P .any ops Q fuel (listed.setIfInBounds i true) a' w':=by
   intro m' e' j' a' w' hD' hA' hV'
   refine ih (listed.setIfInBounds i true) (by simpa using hsz) ?_ ?_ (by rw[hfun];exact hD') hA' (by rw[hfun];exact hV')
   ·have:=Yw listed.toList i (by simpa using hun)
    simp only[Array.toList_setIfInBounds]
    omega
   ·intro k o' hk hLk ed hed' hb
    rw[hset]at hLk⊢
    rcases hLk with hLk|rfl
    ·exact .inl (hcl k o' hk hLk ed hed' hb)
    ·rw[ho']at hk;cases hk
     exact .inl (hed ed hed' hb)
  have hnL:¬listed[i]? =some true:=by rw[hun];simp
  unfold wpOpIn
  simp only[ho']
  cases hnw:ins.nw with
  |true=>
   obtain⟨d,z,rfl⟩:=Lw hnw
   obtain⟨hD',hbet⟩:=DI.step_nw ht ho hD hii hnL hord
   obtain⟨m1,hA1,hV1⟩:=Z6 ho ht hA hV (max j (i+1)) (by omega) (by obtain⟨k0,_,h2,_⟩:=hD'.st;exact h2) hbet
   obtain⟨g1,g2,g3,g4⟩:=hV1 i d z hii (by omega) hnL
   refine PI hA1 g1 g2 g3 g4 hok fun m' a' w' hA' hmu=>?_
   refine go hD' hA' fun k d' z' hk hlt hLk=>?_
   have hne:k≠i:=fun h=>hLk (.inr h)
   obtain⟨q1,q2,q3,q4⟩:=hV1 k d' z' hk hlt (fun h=>hLk (.inl h))
   refine⟨?_,q2,q3,q4⟩
   rw[hmu _ (by intro h;rw[ZP]at h;exact ho.one k i _ _ d' hk hii hne rfl (by rw[h.1]))]
   exact q1
  |false=>
   cases hcs:ins.cl.cls with
   |some c=>
    obtain⟨ys,ns⟩:=c
    have hcl:ins.cl= .cl ys ns:=by
     cases h:ins.cl<;>rw[h]at hcs<;>simp[Cls.cls]at hcs
     rw[hcs.1,hcs.2]
    obtain⟨hji,hbet,v,hev,hD',hkeep⟩:=DI.step_cl ht ho hD hii hcl hnL hord
    obtain⟨m1,hA1,hV1⟩:=Z6 ho ht hA hV i hji (by omega) hbet
    refine EJ hA1 hEq hp hs (i:=ins.loose) (by obtain⟨g1,g2,g3,g4⟩:=hok;exact⟨by rw[GQ];exact g1,by rw[pU];exact g2,by rw[CN];exact g3,g4⟩) hev fun m' a' w' hA' hx=>?_
    rw[CN]at hA'
    refine go (hD' hA'.sr.gen) hA' fun k d' z' hk hlt hLk=>?_
    have hki:k<i:=by
     have:k≠i:=fun h=>hLk (.inr h)
     omega
    have hnLk:¬listed[k]? =some true:=fun h=>hLk (.inl h)
    obtain⟨q1,q2,q3,q4⟩:=hV1 k d' z' hk hki hnLk
    exact⟨(hx.mu _ q4).trans q1,hkeep k d' z' hk hki hnLk q2,q3,yz q4 hx.clk⟩
   |none=>
    obtain⟨v,j',hev,hD',hj'⟩:=DI.step ht ho hD hii hnw hcs hnL hord (fun t _=>JU (hA.re t))
    refine EJ hA hEq hp hs (i:=ins.loose) (by obtain⟨g1,g2,g3,g4⟩:=hok;exact⟨by rw[GQ];exact g1,by rw[pU];exact g2,by rw[CN];exact g3,g4⟩) hev fun m' a' w' hA' hx=>?_
    rw[CN]at hA'
    refine go (hD' hA'.sr.gen) hA' fun k d' z' hk hlt hLk=>?_
    rcases hj' with rfl|hj'
    ·obtain⟨q1,q2,q3,q4⟩:=hV k d' z' hk hlt (fun h=>hLk (.inl h))
     exact⟨(hx.mu _ q4).trans q1,q2,q3,q4⟩
    ·exact absurd (.inl (hj' k _ hk rfl hlt)) hLk
end
section
structure Ren(f g:Nat→Nat)(ops ops':Array Oper):Prop where
 size:ops'.size=ops.size
 lt:∀i,i<ops.size→f i<ops.size
 glt:∀i,i<ops.size→g i<ops.size
 fg:∀i,i<ops.size→f (g i)=i
 gf:∀i,i<ops.size→g (f i)=i
 get:∀(i:Nat) (o:Oper),ops[i]? =some o→ops'[f i]? =some (OC f o)
 edge:∀(i:Nat) (o:Oper),ops[i]? =some o→(∀e,e∈o.after→e.on<ops.size)∧∀b,o.guard=some b→b.1<ops.size
variable{F:Fence}{n:Nat}{P:Program}{ops ops':Array Oper}{Q:Exit→Act→World→Prop}{f g:Nat→Nat}
theorem Ren.ready(h:Ren f g ops ops'){l l':Array Bool}(hl:l.size=ops.size)(hl':l'.size=ops.size)(hh:∀i,i<ops.size→l[i]? =l'[f i]?){i:Nat}(hi:i<ops.size):
  i∈Region.ready .any ops l↔f i∈Region.ready .any ops' l':=by
 obtain⟨o,ho⟩:∃o,ops[i]? =some o:=⟨_,zp hi⟩
 have ho':=h.get i o ho
 have hd:∀j,j<ops.size→∀b,l.getD j b=l'.getD (f j) b:=by
  intro j hj b
  rw[wF,wF,hh j hj]
 simp only[Region.ready,Bo,MD,h.size,hi,h.lt i hi,true_and,ho,ho',lT,M0,Cd,hd i hi,OC]
 refine and_congr_right fun _=>?_
 rw[Array.all_map]
 have:(o.after.all fun e=> !Region.binds .any e||l.getD e.on false)=(o.after.all ((fun e=> !Region.binds .any e||l'.getD e.on false)∘fun e=>{e with on:=f e.on})):=by
  rw[Gy,ZT,ZT]
  refine forall_congr' fun e=>forall_congr' fun he=>?_
  rw[hd e.on ((h.edge i o ho).1 e he)]
  rfl
 rw[this]
theorem vb{o:Oper}{a:Act}{w:World}{K:Act→World→Prop}:(OC f o).wpIn F n P a w K Q=o.wpIn F n P a w K Q:=rfl
theorem TB(h:Ren f g ops ops'){i:Nat}{o:Oper}(ho:ops[i]? =some o)(tm:Array Value):Region.wanted (OC f o) (yielded ops' tm)=Region.wanted o (yielded ops tm):=by
 unfold Region.wanted
 cases hg:o.guard with
 |none=>simp[OC,hg]
 |some b=>
  have hb:=(h.edge i o ho).2 b hg
  obtain⟨p,hp⟩:∃p,ops[b.1]? =some p:=⟨_,zp hb⟩
  have hp':=h.get b.1 p hp
  have:yielded ops' tm (f b.1)=yielded ops tm b.1:=by unfold yielded;rw[hp,hp'];rfl
  simp only[OC,hg,lT,this]
theorem UU(h:Ren f g ops ops'):∀(fuel:Nat) (l l':Array Bool) (a:Act) (w:World),l.size=ops.size→l'.size=ops.size→(∀i,i<ops.size→l[i]? =l'[f i]?)→
  wpAnyIn F n P .any ops' Q fuel l' a w→wpAnyIn F n P .any ops Q fuel l a w:=by
 have nil:∀{l l':Array Bool},l.size=ops.size→l'.size=ops.size→(∀i,i<ops.size→l[i]? =l'[f i]?)→Region.ready .any ops l=[]→Region.ready .any ops' l'=[]:=by
  intro l l' hl hl' hh hn
  rw[GN]
  intro p hp
  have hpl:p<ops.size:=by
   have:p<ops'.size:=by simp only[Region.ready,Bo,MD]at hp;exact hp.1
   rwa [h.size]at this
  have:=(h.ready hl hl' hh (h.glt p hpl)).2 (by rw[h.fg p hpl];exact hp)
  rw[hn]at this;simp at this
 have nil':∀{l l':Array Bool},l.size=ops.size→l'.size=ops.size→(∀i,i<ops.size→l[i]? =l'[f i]?)→Region.ready .any ops' l'=[]→Region.ready .any ops l=[]:=by
  intro l l' hl hl' hh hn
  rw[GN]
  intro p hp
  have hpl:p<ops.size:=by simp only[Region.ready,Bo,MD]at hp;exact hp.1
  have:=(h.ready hl hl' hh hpl).1 hp
  rw[hn]at this;simp at this
 intro fuel
 induction fuel with
 |zero=>
  intro l l' a w hl hl' hh hw
  exact⟨nil' hl hl' hh hw.1,hw.2⟩
 |succ fuel ih=>
  intro l l' a w hl hl' hh hw
  refine⟨fun hn=>hw.1 (nil hl hl' hh hn),fun i hi=>?_⟩
  have hil:i<ops.size:=by simp only[Region.ready,Bo,MD]at hi;exact hi.1
  have h1:=hw.2 (f i) ((h.ready hl hl' hh hil).1 hi)
  obtain⟨o,ho⟩:∃o,ops[i]? =some o:=⟨_,zp hil⟩
  have hset:∀k,k<ops.size→(l.setIfInBounds i true)[k]? =(l'.setIfInBounds (f i) true)[f k]? :=by
   intro k hk
   by_cases e:k=i
   ·subst e
    rw[R4 (by omega),R4 (by have:=h.lt k hil;omega)]
   ·have e2:f i≠f k:=fun e3=>e (by rw[←h.gf k hk,←e3,h.gf i hil])
    rw[L1 (Mu e),L1 e2,hh k hk]
  have hK:∀a w,wpAnyIn F n P .any ops' Q fuel (l'.setIfInBounds (f i) true) a w→wpAnyIn F n P .any ops Q fuel (l.setIfInBounds i true) a w:=
   fun a w=>ih _ _ a w (by simpa using hl) (by simpa using hl') hset
  unfold wpOpIn at h1⊢
  rw[h.get i o ho]at h1
  rw[ho]
  simp only at h1⊢
  rw[TB h ho]at h1
  split
  ·rename_i hwt
   rw[if_pos hwt]at h1
   exact Oper.wpIn_mono hK (vb▸h1)
  ·rename_i hwt
   rw[if_neg hwt]at h1
   exact⟨h1.1,hK _ _ h1.2⟩
theorem SD{π:List Nat}{ops:Array Oper}(h:fX π ops=true):Ren (fun i=>π.idxOf i) (fun i=>π.getD i ops.size) ops (EV π ops):=by
 unfold fX at h
 simp only[Cd,beq_iff_eq]at h
 obtain⟨⟨h1,h2⟩,h3⟩:=h
 have key:∀i,i<ops.size→π.idxOf i<ops.size∧π.getD i ops.size<ops.size∧π.idxOf (π.getD i ops.size)=i∧π.getD (π.idxOf i) ops.size=i:=by
  intro i hi
  have:=Gc.1 h2 i (MD.2 hi)
  simp only[Cd,decide_eq_true_eq,beq_iff_eq]at this
  exact⟨this.1.1.1,this.1.1.2,this.1.2,this.2⟩
 refine⟨h1,fun i hi=>(key i hi).1,fun i hi=>(key i hi).2.1,fun i hi=>(key i hi).2.2.1,fun i hi=>(key i hi).2.2.2,fun i o ho=>?_,fun i o ho=>?_⟩
 ·have hi:i<ops.size:=(ei.1 ho).1
  obtain⟨k1,_,_,k4⟩:=key i hi
  unfold EV
  rw[F4,Qy,CY k1]
  simp only[lT,k4]
  rw[wF,ho];rfl
 ·have:=Gc.1 h3 o (by have:=mX ho;simpa using this)
  simp only[Cd]at this
  refine⟨fun e he=>?_,fun g hg=>?_⟩
  ·have:=ZT.1 this.1 e he
   simpa using this
  ·have:=this.2
   rw[hg]at this;simpa using this
end
end Go.Fx
namespace Go.Fx
open Go.RowKit
section
variable{P:Program}{eqs:List (TypeId×List Nat)}{CR:Nat→Code→C→Prop}{m m':Mt}{σ σ':St}{w w':World}{e e':Env}{a:Act}
theorem RP.world(h:∀b,m.D b→w'.heap[b]? =w.heap[b]?){p:PV}{v:Value}(hp:RP w m.D p v):RP w' m.D p v:=RP.mono (fun b hb=>⟨hb,h b hb⟩) hp
theorem RA.world(h:∀b,m.D b→w'.heap[b]? =w.heap[b]?){x:AV}{v:Value}(hx:RA m σ w x v):RA m σ w' x v:=by
 cases x with
 |p y=>exact RP.world h hx
 |cptr r j=>
  obtain⟨B,o,vals,hD,hv,hr⟩:=hx
  exact⟨B,o,vals,hD,hv,fun i c hc=>⟨(World.cell?_of_block (w:=w) (a:=⟨B,_,none⟩) (h B hD)).trans (hr i c hc).1,RP.world h (hr i c hc).2⟩⟩
 |_=>exact hx
theorem RT.world(h:∀b,m.D b→w'.heap[b]? =w.heap[b]?){t:TV}{v:Value}(hx:RT m σ w t v):RT m σ w' t v:=hx.imp fun _ _=>RA.world h
theorem SR.world(h:SR CR m σ w)(hD:∀b,m.D b→w'.heap[b]? =w.heap[b]?)(hI:∀b,InS m σ b→w'.heap[b]? =w.heap[b]?)(hs:w.heap.size≤w'.heap.size):SR CR m σ w' where
 blk s b hs:=by
  have hb:=h.blk s b hs
  cases b with
  |var cs=>
   rcases hb with h1|⟨B,T,vs,h1,h2,h3⟩
   ·exact .inl h1
   ·exact .inr ⟨B,T,vs,h1,(hI B (.inl ⟨s,_,0,hs,h1⟩)).trans h2,h3.imp fun _ _=>RA.world hD⟩
  |row k e rows=>
   obtain⟨h0,h1,h2⟩:=hb
   refine⟨h0,h1,?_⟩
   rcases h2 with h3|⟨B,c,cur,h3,h4,h5,h6,h7,h8⟩
   ·exact .inl h3
   ·exact .inr ⟨B,c,cur,h3,(hI B (.inl ⟨s,_,c,hs,h3⟩)).trans h4,h5,h6,h7,fun i r j p hr hp=>let⟨v,hv,hp'⟩:=h8 i r j p hr hp;⟨v,hv,RP.world hD hp'⟩⟩
  |map k ks=>
   obtain⟨B,es,clock,h1,h2,h3⟩:=hb
   exact⟨B,es,clock,h1,(hI B (.inl ⟨s,_,0,hs,h1⟩)).trans h2,h3⟩
 gen:=h.gen
 inj:=h.inj
 dj:=h.dj
 dlt b hb:=yz (h.dlt b hb) hs
 lrs l r hl:=by
  obtain⟨lo,h1,h2,h3⟩:=h.lrs l r hl
  exact⟨lo,(hI _ (.inr ⟨l,(QU.1 hl).1,rfl⟩)).trans h1,fun n=>RT.world hD (h2 n),h3⟩
 linj:=h.linj
theorem oV(h:SR CR m σ w)(o:Obj):SR CR m σ (w.alloc o)∧Xt m σ w m σ (w.alloc o):=by
 have hk:∀b,b<w.heap.size→(w.alloc o).heap[b]? =w.heap[b]? :=fun b hb=>Below.heap_alloc w o b hb
 refine⟨h.world (fun b hb=>hk b (h.dlt b hb)) (fun b hb=>hk b (h.inS_lt hb)) (by simp),?_⟩
 exact {mu:=fun _ _=>rfl,la:=fun _ _=>rfl,clk:=nh _,len:=nh _
        bs:=fun s b hs _=>⟨b,hs,Yu.refl _⟩
        D:=fun _ hb=>hb,new:=fun _ hb=>.inl hb,img:=fun _ hb=>.inl hb
        kept:=fun b hb _=>hk b hb,os:=rfl,tape:=rfl,output:=rfl,size:=by simp}
theorem dq(h:SR CR m σ w){r:Nat}(o:Obj)(hD:¬m.D r)(hI:¬InS m σ r):SR CR m σ (w.putObj r o):=
 h.world (fun b hb=>World.putObj_heap_other (by rintro rfl;exact hD hb)) (fun b hb=>World.putObj_heap_other (by rintro rfl;exact hI hb)) (by simp)
theorem Xt.put{m0:Mt}{σ0:St}{w0:World}(x:Xt m0 σ0 w0 m σ w){r:Nat}(o:Obj)(hr:w0.heap.size≤r):Xt m0 σ0 w0 m σ (w.putObj r o):=
 {x with
  kept:=fun b hb hn=>(World.putObj_heap_other (by omega)).trans (x.kept b hb hn)
  os:=x.os,tape:=x.tape,output:=x.output,size:=by simpa using x.size}
def Mt.addL(m:Mt)(l B:Nat):Mt:={m with la:=fun k=>if k=l then B else m.la k}
def St.addL(σ:St)(r:LRec):St:={σ with ls:=σ.ls++[r]}
theorem vw(h:SR CR m σ w)(r:LRec)(o:Obj):Xt m σ w (m.addL σ.ls.length w.heap.size) (σ.addL r) (w.alloc o) where
 mu _ _:=rfl
 la l hl:=by simp only[Mt.addL];rw[if_neg (by omega)]
 clk:=nh _
 len:=by simp[St.addL]
 bs s b hs _:=⟨b,hs,Yu.refl _⟩
 D _ hb:=hb
 new _ hb:=.inl hb
 img b hb:=by
  rcases hb with hb|⟨l,hl,e⟩
  ·exact .inl (.inl hb)
  ·simp only[St.addL,GM,WX]at hl
   by_cases e':l=σ.ls.length
   ·subst e';simp only[Mt.addL,if_true]at e;exact .inr (by omega)
   ·simp only[Mt.addL,if_neg e']at e;exact .inl (.inr ⟨l,by omega,e⟩)
 kept b hb _:=Below.heap_alloc w o b hb
 os:=rfl
 tape:=rfl
 output:=rfl
 size:=by simp
theorem ai(h:SR CR m σ w){r:LRec}{lo:Loop}(hr:LR CR (m.addL σ.ls.length w.heap.size) (σ.addL r) (w.alloc (.loop lo)) σ.ls.length r):
  SR CR (m.addL σ.ls.length w.heap.size) (σ.addL r) (w.alloc (.loop lo)):=by
 have x:=vw h r (.loop lo)
 have hk:∀b,b<w.heap.size→(w.alloc (.loop lo)).heap[b]? =w.heap[b]? :=fun b hb=>Below.heap_alloc w _ b hb
 refine {blk:=fun s b hs=>?_,gen:=h.gen,inj:=h.inj,dj:=fun b hb hD=>?_,dlt:=fun b hb=>yz (h.dlt b hb) (by simp),lrs:=fun l r' hl=>?_,linj:=fun l l' h1 h2 h3=>?_}
 ·exact BR.xt h x (h.blk s b hs) rfl fun B c hm=>hk B (h.inS_lt (.inl ⟨s,b,c,hs,hm⟩))
 ·rcases x.img b hb with h1|h1
  ·exact h.dj b h1 hD
  ·have:=h.dlt b hD;omega
 ·by_cases e:l=σ.ls.length
  ·subst e
   simp only[St.addL,bO (nh _),IZ,aT,Lo]at hl
   subst hl;exact hr
  ·have hlt:l<σ.ls.length:=by
    have:=(QU.1 hl).1
    simp only[St.addL,GM,WX]at this
    omega
   have hl':σ.ls[l]? =some r':=by
    simp only[St.addL]at hl
    rw[GV hlt]at hl;exact hl
   exact LR.xt h x (h.lrs l r' hl') hlt (hk _ (h.inS_lt (.inr ⟨l,hlt,rfl⟩)))
 ·simp only[St.addL,GM,WX]at h1 h2
  simp only[Mt.addL]at h3
  by_cases e:l=σ.ls.length<;>by_cases e':l'=σ.ls.length
  ·omega
  ·rw[if_pos e,if_neg e']at h3
   have:=h.inS_lt (b:=m.la l') (.inr ⟨l',by omega,rfl⟩);omega
  ·rw[if_neg e,if_pos e']at h3
   have:=h.inS_lt (b:=m.la l) (.inr ⟨l,by omega,rfl⟩);omega
  ·rw[if_neg e,if_neg e']at h3
   exact h.linj l l' (by omega) (by omega) h3
theorem Br(h:SR CR m σ w){l:Nat}(hl:l<σ.ls.length)(r:LRec)(o:Obj):Xt m σ w m (ud σ l r) (w.putObj (m.la l) o) where
 mu _ _:=rfl
 la _ _:=rfl
 clk:=nh _
 len:=by simp[ud]
 bs s b hs _:=⟨b,hs,Yu.refl _⟩
 D _ hb:=hb
 new _ hb:=.inl hb
 img b hb:=by
  rcases hb with hb|⟨k,hk,e⟩
  ·exact .inl (.inl hb)
  ·exact .inl (.inr ⟨k,by simpa [ud]using hk,e⟩)
 kept b hb hn:=World.putObj_heap_other (by rintro rfl;exact hn (.inr ⟨l,hl,rfl⟩))
 os:=rfl
 tape:=rfl
 output:=rfl
 size:=by simp
theorem eE(h:SR CR m σ w){l:Nat}{r0 r:LRec}{lo0 lo:Loop}(hl:σ.ls[l]? =some r0)(h0:w.heap[m.la l]? =some (.loop lo0))(he:r.env=r0.env)(hp:r.params=r0.params)(ha:r.assign=r0.assign)(hb:r.body=r0.body)
  (k1:lo.tmps=lo0.tmps) (k2:lo.params=lo0.params) (k3:lo.assign=lo0.assign) (k4:lo.body=lo0.body) (k5:lo.state=stR r.st) (k6:lo.pending=r.pend.map exC) (k7:r.pend≠some .norm):
  SR CR m (ud σ l r) (w.putObj (m.la l) (.loop lo)):=by
 have hll:l<σ.ls.length:=(QU.1 hl).1
 have x:=Br h hll r (.loop lo)
 have hin:m.la l<w.heap.size:=h.inS_lt (.inr ⟨l,hll,rfl⟩)
 refine {blk:=fun s b hs=>?_,gen:=h.gen,inj:=h.inj,dj:=fun b hb hD=>?_,dlt:=fun b hb=>by simpa using h.dlt b hb,lrs:=fun k r' hk=>?_,linj:=fun k k' h1 h2 h3=>?_}
 ·exact BR.xt h x (h.blk s b hs) rfl fun B c hm=>World.putObj_heap_other (fun e=>h.loop_ne hs hm hll e.symm)
 ·rcases x.img b hb with h1|h1
  ·exact h.dj b h1 hD
  ·have:=h.dlt b hD;omega
 ·by_cases e:k=l
  ·subst e
   simp only[ud]at hk
   rw[List.getElem?_set_self hll]at hk
   simp only[Lo]at hk;subst hk
   obtain⟨lo',g1,g2,g3,g4,g5,g6,_⟩:=h.lrs k r0 hl
   rw[h0]at g1;simp only[Lo,Obj.loop.injEq]at g1;subst g1
   refine⟨lo,World.putObj_heap_same hin,?_,by rw[k2,hp];exact g3,by rw[k1,hp];exact g4,by rw[k1,k3,ha];exact g5,by rw[k1,k4,hb];exact g6,k5,k6,k7⟩
   rw[he,k1];exact x.re h g2
  ·have hk':σ.ls[k]? =some r':=by
    simp only[ud]at hk
    rwa [xM (Mu e)]at hk
   have hkl:k<σ.ls.length:=(QU.1 hk').1
   exact LR.xt h x (h.lrs k r' hk') hkl (World.putObj_heap_other fun e'=>e (h.linj k l hkl hll e'))
 ·simp only[ud,rm]at h1 h2
  exact h.linj k k' h1 h2 h3
theorem least{p:Nat→Prop}(h:∃k,p k):∃k,p k∧∀j,p j→k≤j:=by
 obtain⟨k,hk⟩:=h
 induction k using Nat.strongRecOn with
 |_ k ih=>
  by_cases hc:∃j,j<k∧p j
  ·obtain⟨j,hj,hp⟩:=hc;exact ih j hj hp
  ·refine⟨k,hk,fun j hj=>?_⟩
   rcases N2 j k with h|h
   ·exact absurd ⟨j,h,hj⟩ hc
   ·exact h
theorem lQ{F:Fence}{n:Nat}{c:Code}{Q:Exit→Act→World→Prop}(R:Nat→Act→World→Prop){k:Nat}{a:Act}{w:World}(h0:R k a w)
  (hstep:∀k a w,R k a w→c.wpIn F n P (Exit.then (fun a' w'=>∃j,j<k∧R j a' w') Q) a w):(Code.loop c).wpIn F n P Q a w:=by
 have hex:∀a w,(∃k,R k a w)→∃k,R k a w∧∀j,R j a w→k≤j:=fun a w h=>least h
 let μ:Act→World→Nat:=fun a w=>open Classical in if h:∃k,R k a w then Classical.choose (hex a w h)else 0
 have hμ:∀a w (h:∃k,R k a w),R (μ a w) a w∧∀j,R j a w→μ a w≤j:=by
  intro a w h
  have:μ a w=Classical.choose (hex a w h):=dif_pos h
  rw[this];exact Gb (hex a w h)
 refine wpIn_loop (fun a w=>∃k,R k a w) μ ⟨k,h0⟩ fun a w h=>?_
 obtain⟨h1,h2⟩:=hμ a w h
 refine Code.wpIn_mono (fun e a' w' q=>?_) (hstep _ a w h1)
 cases e with
 |normal=>
  obtain⟨j,hj,hR⟩:=q
  exact⟨⟨j,hR⟩,Nat.lt_of_le_of_lt ((hμ a' w' ⟨j,hR⟩).2 j hR) hj⟩
 |_=>exact q
theorem Wj{F:Fence}{n:Nat}{fn:Func}{tmps:Array Value}{R:Ending→World→Prop}{m0:Mt}{σ0:St}{w0:World}:
  ∀{rs:List Nat} {w:World},rs.Nodup→(∀r,r∈rs→w0.heap.size≤r∧w.heap[r]? =some (.deferred (some []))∧¬InS m σ r∧¬m.D r)→SR CR m σ w→Xt m0 σ0 w0 m σ w→
   (∀w',SR CR m σ w'→Xt m0 σ0 w0 m σ w'→(∀x v,RT m σ w x v→RT m σ w' x v)→∃v,(results fn tmps).run P w'= .ok v w'∧R (.returned v) w')→LeavesInM F n P fn tmps R (rs.map zY) .returning w
 |[],w,_,_,hR,hx,hfin=>hfin w hR hx fun _ _ h=>h
 |r::rs,w,hn,hm,hR,hx,hfin=>by
  obtain⟨k1,k2,k3,k4⟩:=hm r (by simp)
  obtain⟨hnr,hn'⟩:=TL.1 hn
  refine⟨by simp,.inl ⟨r,w.putObj r (.deferred none),rfl,run_takeDeferred k2,?_⟩⟩
  have hR':=dq (o:=.deferred none) hR k4 k3
  have hx':=hx.put (.deferred none) k1
  refine Wj hn' (fun q hq=>?_) hR' hx' fun w' g1 g2 g3=>hfin w' g1 g2 fun x v h=>g3 x v (RT.world (fun b hb=>World.putObj_heap_other (by rintro rfl;exact k4 hb)) h)
  obtain⟨j1,j2,j3,j4⟩:=hm q (by simp[hq])
  exact⟨j1,(World.putObj_heap_other (by rintro rfl;exact hnr hq)).trans j2,j3,j4⟩
end
end Go.Fx
namespace Go.Fx
open Go.RowKit
section
variable{P:Program}{eqs:List (TypeId×List Nat)}{m m':Mt}{σ σ':St}{w w':World}{e e':Env}{a:Act}
variable{cp:FuncId→List PT→Option PT}{cs:Cal→List TV→St→Option (TV×St)}{sp:FuncId→Bool}
def CRP(P:Program)(eqs:List (TypeId×List Nat)):Nat→Code→C→Prop:=fun n code c=>ccC P eqs n code=some (MA c)
def exE:Ex→Exit
 | .norm=>.normal
 | .exit id=>.exit id
 | .ret=>.ret
def QC(P:Program)(eqs:List (TypeId×List Nat))(m0:Mt)(σ0:St)(w0:World)(a0:Act)(x:Ex×Env×St):Exit→Act→World→Prop:=
 fun ex a' w'=>ex=exE x.1∧∃m',At (CRP P eqs) m0 σ0 w0 a0 m' x.2.1 x.2.2 a' w'
theorem At.drew{CR:Nat→Code→C→Prop}{m0:Mt}{σ0:St}{w0:World}{a0:Act}(h:At CR m0 σ0 w0 a0 m e σ a w):At CR m0 σ0 w0 a0 m e σ a w.drew:=by
 obtain⟨h1,h2⟩:=gv h.sr
 exact⟨h1,h2.re h.sr h.re,h.xt.trans h2,h.sz,h.df.xt h2⟩
theorem Me{α β:Type}{f:α→Option β}{R:α→β→Prop}(h:∀x y,f x=some y→R x y):∀{l:List α} {l':List β},Fq f l=some l'→F2 R l l'
 |[],l',hl=>by simp[Fq]at hl;subst hl;exact .nil
 |x::r,l',hl=>by
  simp only[Fq]at hl
  obtain⟨y,h1,hl⟩:=pT hl
  obtain⟨ys,h2,hl⟩:=pT hl
  simp only[Lo]at hl;subst hl
  exact .cons (h x y h1) (Me h h2)
theorem zi{α β:Type}{f:Nat→α→Option β}:∀{l:List α} {k:Nat} {l':List β},fO f k l=some l'→l'.length=l.length∧∀(i:Nat) (x:α),l[i]? =some x→∃y,l'[i]? =some y∧f (k+i) x=some y
 |[],k,l',hl=>by simp[fO]at hl;subst hl;exact⟨rfl,fun i x h=>by simp at h⟩
 |z::r,k,l',hl=>by
  simp only[fO]at hl
  obtain⟨y,h1,hl⟩:=pT hl
  obtain⟨ys,h2,hl⟩:=pT hl
  simp only[Lo]at hl;subst hl
  obtain⟨h3,h4⟩:=zi h2
  refine⟨by simp[h3],fun i x hx=>?_⟩
  cases i with
  |zero=>simp only[aT,Lo]at hx;subst hx;exact⟨y,by simp,by simpa using h1⟩
  |succ i=>
   obtain⟨q,h5,h6⟩:=h4 i x (by simpa using hx)
   exact⟨q,by simpa using h5,by rw[←h6];congr 1;omega⟩
theorem F2_mapl{α β γ:Type}{R:β→γ→Prop}{f:α→β}:∀{as:List α} {cs:List γ},F2 (fun a c=>R (f a) c) as cs→F2 R (as.map f) cs
 |_,_,.nil=>.nil
 |_,_,.cons x t=>.cons x (F2_mapl t)
theorem zk{CR:Nat→Code→C→Prop}(h:SR CR m σ w){v:TV}(hf:fz1 σ v=some σ'):∃m',SR CR m' σ' w∧Xt m σ w m' σ' w:=by
 unfold fz1 at hf
 split at hf
 ·rename_i s
  split at hf
  ·rename_i cs hs
   split at hf
   ·rename_i hne
    obtain⟨ps,h1,hf⟩:=pT hf
    simp only[Lo]at hf;subst hf
    obtain⟨m1,h2,x1,d1⟩:=gH (xs:=cs) h
    have hb1:(klL σ cs).bs s=some (.var cs):=by
     rw[Rp,hs]
     intro x hx o l e
     subst e
     have:=Gc.1 hne _ hx
     simp at this
    have hlen:(ps.map AV.p).length=cs.length:=by rw[mB];exact((dC h1).length).symm
    have old:∀t b,((klL σ cs).put s (.var (ps.map .p))).bs t=some b→t≠s→(klL σ cs).bs t=some b:=by
     intro t b ht e
     simp only[St.put]at ht
     rw[if_neg e]at ht;exact ht
    have alive:∀t b,((klL σ cs).put s (.var (ps.map .p))).bs t=some b→∃b0,(klL σ cs).bs t=some b0:=by
     intro t b ht
     by_cases e:t=s
     ·subst e;exact⟨_,hb1⟩
     ·exact⟨b,old t b ht e⟩
    have img:∀b,InS m1 ((klL σ cs).put s (.var (ps.map .p))) b→InS m1 (klL σ cs) b:=by
     rintro b (⟨t,bl,c,ht,hm⟩|hl)
     ·obtain⟨b0,h0⟩:=alive t bl ht
      exact .inl ⟨t,b0,c,h0,hm⟩
     ·exact .inr hl
    have x2:Xt m1 (klL σ cs) w m1 ((klL σ cs).put s (.var (ps.map .p))) w:=
     {mu:=fun _ _=>rfl,la:=fun _ _=>rfl,clk:=nh _,len:=nh _
      bs:=fun t b' ht _=>by
       by_cases e:t=s
       ·subst e
        simp only[St.put,if_true,Lo]at ht
        subst ht
        exact⟨_,hb1,hlen.symm⟩
       ·exact⟨b',old t b' ht e,Yu.refl _⟩
      D:=fun _ hb=>hb,new:=fun _ hb=>.inl hb,img:=fun b hb=>.inl (img b hb),kept:=fun _ _ _=>rfl,os:=rfl,tape:=rfl,output:=rfl,size:=nh _}
    refine⟨m1,SR.step h2 x2 ?_ ?_ ?_ ?_ ?_ rfl (fun _ _=>rfl),x1.trans x2⟩
    ·intro t b ht
     by_cases e:t=s
     ·subst e
      simp only[St.put,if_true,Lo]at ht
      subst ht
      left
      rcases h.blk t _ hs with g1|⟨B,T,vs,g1,g2,g3⟩
      ·exact .inl ((x1.mu t (h.gen t _ hs)).trans g1)
      ·exact .inr ⟨B,T,vs,(x1.mu t (h.gen t _ hs)).trans g1,g2,F2_mapl (F2_comp (fun x p v hx a b=>d1 x hx p v b a) (dC h1) g3)⟩
     ·exact .inr ⟨old t b ht e,rfl,fun _ _ _=>rfl⟩
    ·intro t b ht
     obtain⟨b0,h0⟩:=alive t b ht
     exact h2.gen t b0 h0
    ·intro t t' b b' B1 c1 c2 g1 g2 g3 g4
     obtain⟨b0,h0⟩:=alive t b g1
     obtain⟨b0',h0'⟩:=alive t' b' g2
     exact h2.inj t t' b0 b0' B1 c1 c2 h0 h0' g3 g4
    ·exact fun b hb=>h2.dj b (img b hb)
    ·exact h2.dlt
   ·cases hf
  ·cases hf
 ·cases hf
theorem y8{CR:Nat→Code→C→Prop}:∀{ts:List Nat} {m:Mt} {σ:St},SR CR m σ w→fzS e ts σ=some σ'→∃m',SR CR m' σ' w∧Xt m σ w m' σ' w
 |[],m,σ,h,hf=>by simp only[fzS,Lo]at hf;subst hf;exact⟨m,h,Xt.refl _ _ _⟩
 |t::ts,m,σ,h,hf=>by
  simp only[fzS]at hf
  obtain⟨σ1,h1,hf⟩:=pT hf
  obtain⟨m1,g1,x1⟩:=zk h h1
  obtain⟨m2,g2,x2⟩:=y8 g1 hf
  exact⟨m2,g2,x1.trans x2⟩
def nfz:C→Bool
 | .fz _ _=>false
 |_=>true
theorem Jc{CR:Nat→Code→C→Prop}{m0:Mt}{σ0:St}{w0:World}{a0:Act}{n:Nat}{rd:Bool}{x:Ex×Env×St}:∀(c:C) {m:Mt} {σ:St},At CR m0 σ0 w0 a0 m e σ a w→evC cp cs sp n rd c e σ=some x→
  ∃c1 σ1 m1,nfz c1=true∧MA c1=MA c∧evC cp cs sp n rd c1 e σ1=some x∧At CR m0 σ0 w0 a0 m1 e σ1 a w
 | .fz ts c,m,σ,hA,hev=>by
   simp only[evC]at hev
   obtain⟨σ1,h1,hev⟩:=pT hev
   obtain⟨m1,g1,x1⟩:=y8 hA.sr h1
   exact Jc c (m:=m1) ⟨g1,x1.re hA.sr hA.re,hA.xt.trans x1,hA.sz,hA.df.xt x1⟩ hev
 | .skip,m,σ,hA,hev=>⟨_,σ,m,rfl,rfl,hev,hA⟩
 | .reg _,m,σ,hA,hev=>⟨_,σ,m,rfl,rfl,hev,hA⟩
 | .seq _ _,m,σ,hA,hev=>⟨_,σ,m,rfl,rfl,hev,hA⟩
 | .cond _ _ _,m,σ,hA,hev=>⟨_,σ,m,rfl,rfl,hev,hA⟩
 | .block _ _,m,σ,hA,hev=>⟨_,σ,m,rfl,rfl,hev,hA⟩
 | .loop _,m,σ,hA,hev=>⟨_,σ,m,rfl,rfl,hev,hA⟩
 | .exit _,m,σ,hA,hev=>⟨_,σ,m,rfl,rfl,hev,hA⟩
 | .ret,m,σ,hA,hev=>⟨_,σ,m,rfl,rfl,hev,hA⟩
 | .rng _ _ _ _,m,σ,hA,hev=>⟨_,σ,m,rfl,rfl,hev,hA⟩
theorem yW{c:C}(hn:nfz c=true)(h:C.skip=MA c):c= .skip:=by cases c<;>simp_all [MA,nfz]
theorem Ia{c:C}{id:Nat}(hn:nfz c=true)(h:C.exit id=MA c):c= .exit id:=by cases c<;>simp_all [MA,nfz]
theorem lu{c:C}(hn:nfz c=true)(h:C.ret=MA c):c= .ret:=by cases c<;>simp_all [MA,nfz]
theorem ZV{c:C}{is:List Ins}(hn:nfz c=true)(h:C.reg is=MA c):c= .reg is:=by cases c<;>simp_all [MA,nfz]
theorem bM{c p q:C}(hn:nfz c=true)(h:C.seq p q=MA c):∃p' q',c= .seq p' q'∧p=MA p'∧q=MA q':=by
 cases c<;>simp_all [MA,nfz]
 exact⟨_,_,⟨rfl,rfl⟩,rfl,rfl⟩
theorem uP{c p q:C}{y:X}(hn:nfz c=true)(h:C.cond y p q=MA c):∃p' q',c= .cond y p' q'∧p=MA p'∧q=MA q':=by
 cases c<;>simp_all [MA,nfz]
 exact⟨_,_,⟨rfl,rfl⟩,rfl,rfl⟩
theorem Z5{c p:C}{id:Nat}(hn:nfz c=true)(h:C.block id p=MA c):∃p',c= .block id p'∧p=MA p':=by cases c<;>simp_all [MA,nfz]
theorem EY{c p:C}(hn:nfz c=true)(h:C.loop p=MA c):∃p',c= .loop p'∧p=MA p':=by cases c<;>simp_all [MA,nfz]
theorem vt{c p q:C}{f:X}{ps:List Nat}(hn:nfz c=true)(h:C.rng f ps p q=MA c):∃p' q',c= .rng f ps p' q'∧p=MA p'∧q=MA q':=by
 cases c<;>simp_all [MA,nfz]
 exact⟨_,_,⟨rfl,rfl⟩,rfl,rfl⟩
theorem Sv(hEq:Oi P eqs)(hp:Ua P cp)(hs:dI P (CRP P eqs) cs){m0:Mt}{σ0:St}{w0:World}{a0:Act}{rr:Option Nat}{n:Nat}{ops:Array Oper}{is:List Ins}(hl:is.length=ops.size)
  (hins:∀(i:Nat) (o:Oper),ops[i]? =some o→∃ins,is[i]? =some ins∧wJ P eqs a0.tmps.size ops o ins) (ho:DO ops (ub ops) is) {m:Mt} {e e':Env} {σ σ':St} {a:Act} {w:World}
  (hA:At (CRP P eqs) m0 σ0 w0 a0 m e σ a w) (hev:wz cp cs sp is e σ=some (e',σ')) {Q:Exit→Act→World→Prop} (hQ:∀m' a' w',At (CRP P eqs) m0 σ0 w0 a0 m' e' σ' a' w'→Q .normal a' w'):
  wpAnyIn (FW rr) n P .any ops Q ops.size (Array.replicate ops.size false) a w:=by
 obtain⟨E,S,e0,s0,en,sn,ht⟩:=HK hev
 refine CB (a0:=a0) hEq hp hs hl hins ho ht (fun m' a' w' hA'=>hQ m' a' w' (by rw[en,sn]at hA';exact hA')) ops.size (Array.replicate ops.size false) (by simp) (by simp) (fun i o ho h=>?_) ?_ (by rw[←e0,←s0]at hA;exact hA) (fun i d z _ hlt=>absurd hlt (Nat.not_lt_zero _))
 ·rw[I1]at h;split at h<;>simp at h
 ·have hno:∀i:Nat,¬(Array.replicate ops.size false)[i]? =some true:=by
   intro i h
   rw[I1]at h;split at h<;>simp at h
  exact {env:=fun t=>.inr ⟨fun i ins hi hL=>absurd hL (hno i),rfl⟩
         st:=⟨0,nh _,ji _,fun i ins hi _=>⟨fun hL=>absurd hL (hno i),fun h=>by omega⟩,fun i h=>by omega,fun i ins hi _ hL=>absurd hL (hno i),fun p h1 h2=>by
          have:p=0:=by omega
          subst this;rw[s0];exact hA.sr.gen⟩}
theorem ZX{b:Array Nat}{is:List Ins}:(ui b is).length=is.length∧∀(i:Nat) (x:Ins),is[i]? =some x→∃y,(ui b is)[i]? =some y∧y.op=x.op∧y.gd=x.gd∧y.dst=x.dst:=by
 refine⟨by simp[ui],fun i x hx=>?_⟩
 unfold ui
 rw[Qy,List.getElem?_zipIdx,hx]
 simp only[lT]
 refine⟨_,rfl,?_⟩
 split<;>exact⟨rfl,rfl,rfl⟩
theorem qA{mk:O→Bool}{b:Array Nat}{is:List Ins}:(Fi mk b is).length=is.length∧∀(i:Nat) (x:Ins),is[i]? =some x→∃y,(Fi mk b is)[i]? =some y∧y.op=x.op∧y.gd=x.gd∧y.dst=x.dst:=by
 refine⟨by simp[Fi],fun i x hx=>?_⟩
 unfold Fi
 rw[Qy,List.getElem?_zipIdx,hx]
 simp only[lT]
 refine⟨_,rfl,?_⟩
 split<;>exact⟨rfl,rfl,rfl⟩
theorem cO(hm:P.follows .mixedOrders=true)(hEq:Oi P eqs)(hp:Ua P cp)(hs:dI P (CRP P eqs) cs){m0:Mt}{σ0:St}{w0:World}{a0:Act}{rr:Option Nat}{n:Nat}{fuel:Nat}{rd:Bool}
  {id:Nat} {ops:Array Oper} {b:Array Nat} {cf:Array Nat→Nat→Oper→Cls} {mk:O→Bool} {is:List Ins} {c:C} {m:Mt} {e:Env} {σ:St} {a:Act} {w:World} {x:Ex×Env×St} (hn:nfz c=true)
  (hc:DQ P eqs a0.tmps.size ops b cf mk is=some (MA c)) (hev:evC cp cs sp fuel rd c e σ=some x) (hA:At (CRP P eqs) m0 σ0 w0 a0 m e σ a w):
   (Code.region id ops true).wpIn (FW rr) n P (QC P eqs m0 σ0 w0 a0 x) a w:=by
 simp only[DQ,Sh]at hc
 generalize Je (fun i=>match is[i]? with|some x=> !x.cl.eff&&mk x.op|none=>false) b ops.size (List.range ops.size)=π at hc
 obtain⟨is',his',hc⟩:=pT hc
 split at hc
 ·rename_i hok
  rw[Cd]at hok
  simp only[Lo]at hc;obtain rfl:=ZV hn hc
  simp only[evC]at hev
  obtain⟨y,h1,hev⟩:=pT hev
  simp only[Lo]at hev;subst hev
  have hr:=SD hok.1
  obtain⟨hl,hg⟩:=zi his'
  refine wpIn_region_any hm ?_
  refine UU hr ops.size _ (Array.replicate (EV π ops).size false) _ _ (by simp) (by simp[hr.size]) (fun i hi=>?_) ?_
  ·rw[I1,I1,if_pos hi,if_pos (by rw[hr.size];exact hr.lt i hi)]
  ·have hd:=hA.drew
   rw[←hr.size]
   refine Sv (e':=y.1) (σ':=y.2) hEq hp hs (by rw[qA.1,ZX.1,hl];simp) (fun i o ho=>?_) (KO (R3 hok.2)) hd h1 (fun m' a' w' hA'=>⟨rfl,m',hA'⟩)
   obtain⟨ins,h2,h3⟩:=hg i o (by simpa using ho)
   obtain⟨y1,h4,h5,h6,h7⟩:=ZX.2 i ins h2
   obtain⟨y2,k4,k5,k6,k7⟩:=(qA (mk:=mk)).2 i y1 h4
   obtain⟨g1,g2,g3,g4⟩:=(oF h3).1
   exact⟨y2,k4,by rw[k5,h5];exact g1,by rw[k6,h6];exact g2,by rw[k7,h7];exact g3,g4⟩
 ·cases hc
theorem Ro(hm:P.follows .mixedOrders=true)(hEq:Oi P eqs)(hp:Ua P cp)(hs:dI P (CRP P eqs) cs){m0:Mt}{σ0:St}{w0:World}{a0:Act}{rr:Option Nat}{n:Nat}{fuel:Nat}{rd:Bool}(hrd:rr.isSome=rd):
  ∀(code:Code) {c:C} {m:Mt} {e:Env} {σ:St} {a:Act} {w:World} {x:Ex×Env×St},ccC P eqs a0.tmps.size code=some (MA c)→evC cp cs sp fuel rd c e σ=some x→At (CRP P eqs) m0 σ0 w0 a0 m e σ a w→
   code.wpIn (FW rr) n P (QC P eqs m0 σ0 w0 a0 x) a w
 | .skip,c,m,e,σ,a,w,x,hc,hev,hA=>by
   obtain⟨c,σ,m,hn,hst,hev,hA⟩:=Jc c hA hev
   rw[←hst]at hc
   clear hst
   simp only[ccC,Lo]at hc;obtain rfl:=yW hn hc
   simp only[evC,Lo]at hev;subst hev
   exact wpIn_skip ⟨rfl,m,hA⟩
 | .region id ops draw,c,m,e,σ,a,w,x,hc,hev,hA=>by
   obtain⟨c,σ,m,hn,hst,hev,hA⟩:=Jc c hA hev
   rw[←hst]at hc
   clear hst
   simp only[ccC]at hc
   cases draw with
   |true=>
    simp only[if_true,Sh]at hc
    obtain⟨is,his,hc⟩:=pT hc
    split at hc
    ·exact cO hm hEq hp hs hn hc hev hA
    ·split at hc
     ·rename_i hok
      simp only[Lo]at hc;obtain rfl:=ZV hn hc
      simp only[evC]at hev
      obtain⟨y,h1,hev⟩:=pT hev
      simp only[Lo]at hev;subst hev
      obtain⟨hl,hg⟩:=zi his
      refine wpIn_region_any hm ?_
      refine Sv (e':=y.1) (σ':=y.2) hEq hp hs (by rw[ZX.1,hl];simp) (fun i o ho=>?_) (KO (R3 hok)) hA.drew h1 (fun m' a' w' hA'=>⟨rfl,m',hA'⟩)
      obtain⟨ins,h2,h3⟩:=hg i o (by simpa using ho)
      obtain⟨y1,h4,h5,h6,h7⟩:=ZX.2 i ins h2
      obtain⟨g1,g2,g3,g4⟩:=(oF h3).1
      exact⟨y1,h4,by rw[h5];exact g1,by rw[h6];exact g2,by rw[h7];exact g3,g4⟩
     ·obtain⟨is2,his2,hc⟩:=pT hc
      exact cO hm hEq hp hs hn hc hev hA
   |false=>
    simp only[SY,if_false]at hc
    obtain⟨is,his,hc⟩:=pT hc
    simp only[Lo]at hc;obtain rfl:=ZV hn hc
    simp only[evC]at hev
    obtain⟨y,h1,hev⟩:=pT hev
    simp only[Lo]at hev;subst hev
    exact wpIn_region_list (Yh (a0:=a0) (e':=y.1) (σ':=y.2) hEq hp hs (Me (fun o i h=>(oF h).1) his) hA h1 fun m' a' w' hA'=>⟨rfl,m',hA'⟩)
 | .seq p q,c,m,e,σ,a,w,x,hc,hev,hA=>by
   obtain⟨c,σ,m,hn,hst,hev,hA⟩:=Jc c hA hev
   rw[←hst]at hc
   clear hst
   simp only[ccC]at hc
   obtain⟨p',h1,hc⟩:=pT hc
   obtain⟨q',h2,hc⟩:=pT hc
   simp only[Lo]at hc;obtain⟨p',q',rfl,rfl,rfl⟩:=bM hn hc
   simp only[evC]at hev
   obtain⟨y,h3,hev⟩:=pT hev
   obtain⟨ex,e1,σ1⟩:=y
   refine wpIn_seq (Code.wpIn_mono (fun z a' w' q=>?_) (Ro hm hEq hp hs hrd p h1 h3 hA))
   obtain⟨rfl,m',hA'⟩:=q
   cases ex with
   |norm=>exact Ro hm hEq hp hs hrd _ h2 hev hA'
   |exit id=>simp only[Lo]at hev;subst hev;exact⟨rfl,m',hA'⟩
   |ret=>simp only[Lo]at hev;subst hev;exact⟨rfl,m',hA'⟩
 | .cond x0 p q,c,m,e,σ,a,w,x,hc,hev,hA=>by
   obtain⟨c,σ,m,hn,hst,hev,hA⟩:=Jc c hA hev
   rw[←hst]at hc
   clear hst
   simp only[ccC]at hc
   obtain⟨y0,h0,hc⟩:=pT hc
   obtain⟨p',h1,hc⟩:=pT hc
   obtain⟨q',h2,hc⟩:=pT hc
   simp only[Lo]at hc;obtain⟨p',q',rfl,rfl,rfl⟩:=uP hn hc
   simp only[evC]at hev
   split at hev
   ·rename_i t ht
    have h3:=VV hA.re h0
    rw[ht]at h3
    refine wpIn_cond h3.b ?_
    cases t with
    |true=>simp only[if_true]at hev⊢;exact Ro hm hEq hp hs hrd p h1 hev hA
    |false=>simp only[SY,if_false]at hev⊢;exact Ro hm hEq hp hs hrd q h2 hev hA
   ·cases hev
 | .block id p,c,m,e,σ,a,w,x,hc,hev,hA=>by
   obtain⟨c,σ,m,hn,hst,hev,hA⟩:=Jc c hA hev
   rw[←hst]at hc
   clear hst
   simp only[ccC]at hc
   obtain⟨p',h1,hc⟩:=pT hc
   simp only[Lo]at hc;obtain⟨p',rfl,rfl⟩:=Z5 hn hc
   simp only[evC]at hev
   obtain⟨y,h3,hev⟩:=pT hev
   obtain⟨ex,e1,σ1⟩:=y
   simp only[Lo]at hev;subst hev
   refine wpIn_block (Code.wpIn_mono (fun z a' w' q=>?_) (Ro hm hEq hp hs hrd p h1 h3 hA))
   obtain⟨rfl,m',hA'⟩:=q
   cases ex with
   |norm=>exact⟨rfl,m',hA'⟩
   |ret=>exact⟨rfl,m',hA'⟩
   |exit id'=>
    simp only[exE,Exit.inBlock]
    by_cases hid:id'=id
    ·subst hid;simp only[if_true];exact⟨rfl,m',hA'⟩
    ·rw[if_neg hid]
     have:(if Ex.exit id'=Ex.exit id then Ex.norm else Ex.exit id')=Ex.exit id':=if_neg (fun h=>hid (by cases h;rfl))
     exact⟨by rw[this];rfl,m',hA'⟩
 | .loop p,c,m,e,σ,a,w,x,hc,hev,hA=>by
   obtain⟨c,σ,m,hn,hst,hev,hA⟩:=Jc c hA hev
   rw[←hst]at hc
   clear hst
   simp only[ccC]at hc
   obtain⟨p',h1,hc⟩:=pT hc
   simp only[Lo]at hc;obtain⟨p',rfl,rfl⟩:=EY hn hc
   simp only[evC]at hev
   refine lQ (fun k a w=>∃m e σ,At (CRP P eqs) m0 σ0 w0 a0 m e σ a w∧rE (evC cp cs sp fuel rd p') k e σ=some x) (k:=fuel) ⟨m,e,σ,hA,hev⟩ ?_
   rintro k a w ⟨m,e,σ,hA,hev⟩
   cases k with
   |zero=>simp[rE]at hev
   |succ k=>
    simp only[rE]at hev
    obtain⟨y,h3,hev⟩:=pT hev
    obtain⟨ex,e1,σ1⟩:=y
    refine Code.wpIn_mono (fun z a' w' q=>?_) (Ro hm hEq hp hs hrd p h1 h3 hA)
    obtain⟨rfl,m',hA'⟩:=q
    cases ex with
    |norm=>exact⟨k,Nat.lt_succ_self k,m',e1,σ1,hA',hev⟩
    |exit id=>simp only[Lo]at hev;subst hev;exact⟨rfl,m',hA'⟩
    |ret=>simp only[Lo]at hev;subst hev;exact⟨rfl,m',hA'⟩
 | .exit id,c,m,e,σ,a,w,x,hc,hev,hA=>by
   obtain⟨c,σ,m,hn,hst,hev,hA⟩:=Jc c hA hev
   rw[←hst]at hc
   clear hst
   simp only[ccC,Lo]at hc;obtain rfl:=Ia hn hc
   simp only[evC,Lo]at hev;subst hev
   exact wpIn_exit ⟨rfl,m,hA⟩
 | .ret,c,m,e,σ,a,w,x,hc,hev,hA=>by
   obtain⟨c,σ,m,hn,hst,hev,hA⟩:=Jc c hA hev
   rw[←hst]at hc
   clear hst
   simp only[ccC,Lo]at hc;obtain rfl:=lu hn hc
   simp only[evC,Lo]at hev;subst hev
   exact wpIn_ret ⟨rfl,m,hA⟩
 | .rangeFunc f ps assign body,c,m,e,σ,a,w,x,hc,hev,hA=>by
   obtain⟨c,σ,m,hn,hst,hev,hA⟩:=Jc c hA hev
   rw[←hst]at hc
   clear hst
   simp only[ccC]at hc
   obtain⟨f',hf,hc⟩:=pT hc
   obtain⟨as',has,hc⟩:=pT hc
   obtain⟨bd',hbd,hc⟩:=pT hc
   split at hc
   ·rename_i hps
    simp only[Lo]at hc;obtain⟨as',bd',rfl,rfl,rfl⟩:=vt hn hc
    simp only[evC]at hev
    split at hev
    ·cases hev
    ·rename_i hrd'
     have hrr:rr=none:=by
      cases rr with
      |none=>rfl
      |some l=>exact absurd hrd.symm hrd'
     subst hrr
     split at hev
     ·rename_i g caps hg
      obtain⟨y,h1,hev⟩:=pT hev
      have hf1:=VV hA.re hf
      rw[hg]at hf1
      obtain⟨cv,hfv,hcv⟩:=hf1
      obtain⟨hen,hcall⟩:=hs _ _ _ _ _ h1
      refine wpIn_rangeFunc fun fn _=>?_
      obtain⟨b1,x1⟩:=oV hA.sr (.deferred (some []))
      let lo:Loop:={state:=.ready,pending:=none,fn,tmps:=a.tmps,params:=ps,assign,body,defers:=w.heap.size}
      let r:LRec:={env:=e,params:=ps.toList,assign:=as',body:=bd',st:=.ready,pend:=none}
      have x2:=vw b1 r (.loop lo)
      have re1:=x1.re hA.sr hA.re
      have b2:SR (CRP P eqs) (m.addL σ.ls.length (w.alloc (.deferred (some []))).heap.size) (σ.addL r) ((w.alloc (.deferred (some []))).alloc (.loop lo)):=by
       refine ai b1 ⟨lo,?_,x2.re b1 re1,by simp[lo,r],?_,?_,?_,rfl,rfl,by simp[r]⟩
       ·simp only[Mt.addL,if_true];exact World.alloc_heap_new _ _
       ·intro p hp
        have:=(ZT.1 hps) p (by simpa [r]using hp)
        simp only[lo,hA.sz];simpa using this
       ·simp only[lo,r,hA.sz];exact has
       ·simp only[lo,r,hA.sz];exact hbd
      have x12:=x1.trans x2
      have hmark:JA w0.heap.size (m.addL σ.ls.length (w.alloc (.deferred (some []))).heap.size) (σ.addL r) ((w.alloc (.deferred (some []))).alloc (.loop lo)) ([zY w.heap.size]++a.defers):=by
       obtain⟨rs,g1,g2,g3⟩:=hA.df.xt x12
       obtain⟨rs0,k1,k2,k3⟩:=hA.df
       have hrs:rs=rs0:=by
        have:rs.map zY=rs0.map zY:=g1.symm.trans k1
        have inj:∀(p q:List Nat),p.map zY=q.map zY→p=q:=by
         intro p
         induction p with
         |nil=>intro q h;cases q with
          |nil=>rfl
          |cons _ _=>simp at h
         |cons a p ih=>intro q h;cases q with
          |nil=>simp at h
          |cons b q=>simp only[zx,KB,zY,Deferred.mk.injEq,Target.collected.injEq]at h;rw[h.1.1,ih q h.2]
        exact inj _ _ this
       subst hrs
       refine⟨w.heap.size::rs,by simp[g1],TL.2 ⟨fun hh=>?_,g2⟩,fun q hq=>?_⟩
       ·have:=(ei.1 (k3 _ hh).2.1).1;omega
       ·rcases qY.1 hq with rfl|hq
        ·refine⟨hA.xt.size,?_,fun hi=>?_,fun hD=>?_⟩
         ·rw[Below.heap_alloc _ _ _ (by simp)];exact World.alloc_heap_new w _
         ·rcases hi with⟨s,bl,c,hs1,hm1⟩|⟨l,hl,hle⟩
          ·have:=hA.sr.inS_lt (.inl ⟨s,bl,c,hs1,hm1⟩);omega
          ·simp only[St.addL,GM,WX]at hl
           simp only[Mt.addL]at hle
           split at hle
           ·simp at hle
           ·have:=hA.sr.inS_lt (b:=m.la l) (.inr ⟨l,by omega,rfl⟩);omega
         ·have:=hA.sr.dlt _ hD;omega
        ·exact g3 q hq
      have hargs:F2 (RT (m.addL σ.ls.length (w.alloc (.deferred (some []))).heap.size) (σ.addL r) ((w.alloc (.deferred (some []))).alloc (.loop lo))) (.a (.yl σ.ls.length)::caps.map fun s=>.a (.ptr s 0 0))
        (.func (.yield (w.heap.size+1)) #[] #[]::cv):=by
       refine .cons ⟨by simp[St.addL],by simp[Mt.addL]⟩ ?_
       have h0:F2 (RT m σ w) (caps.map fun s=>.a (.ptr s 0 0)) cv:=jD hcv
       exact h0.imp fun _ _ hx=>x12.rt hA.sr hx
      refine⟨w.heap.size+1,[zY w.heap.size],(w.alloc (.deferred (some []))).alloc (.loop lo),{target:=.fn (.func g) cv.toArray,args:= #[.func (.yield (w.heap.size+1)) #[] #[]]},(w.alloc (.deferred (some []))).alloc (.loop lo),g,(.func (.yield (w.heap.size+1)) #[] #[]::cv).toArray,(w.alloc (.deferred (some []))).alloc (.loop lo),
       run_enterLoop_outer fn a.tmps ps assign body,?_,fun _ _=>trivial,?_,fun h=>by simp[FW]at h,?_⟩
      ·simp only[resolve,hfv]
       simp[Deferred.ofValue,go_sem]
      ·simp only[invoke]
       rw[Vs hen]
       simp
      ·refine(hcall _ _ _ b2 hargs none (n-1)).mono ?_
       rintro en w2 ⟨v,m2,rfl,j1,j2,j3⟩
       split at hev
       ·rename_i r2 hr2
        split at hev
        ·cases hev
        ·rename_i hst
         simp only[Lo]at hev;subst hev
         obtain⟨lo2,q1,q2,q3,q4,q5,q6,q7,q8,q9⟩:=j1.lrs _ r2 hr2
         have hla:m2.la σ.ls.length=w.heap.size+1:=by
          rw[j3.la _ (by simp[St.addL])]
          simp[Mt.addL]
         rw[hla]at q1
         have hend:=run_endLoop (P:=P) q1 (by rw[q7];cases hh:r2.st<;>simp_all [stR])
         have hsr:SR (CRP P eqs) m2 (ud y.2 σ.ls.length {r2 with st:=.gone}) (w2.putObj (m2.la σ.ls.length) (.loop {lo2 with state:=.exhausted})):=
          eE (lo0:=lo2) j1 hr2 (by rw[hla];exact q1) rfl rfl rfl rfl rfl rfl rfl rfl rfl q8 q9
         have hxt:=Br j1 (QU.1 hr2).1 {r2 with st:=.gone} (.loop {lo2 with state:=.exhausted})
         rw[hla]at hsr hxt
         have xall:=x12.trans (j3.trans hxt)
         have hAt:At (CRP P eqs) m0 σ0 w0 a0 m2 e (ud y.2 σ.ls.length {r2 with st:=.gone}) {a with defers:=[zY w.heap.size]++a.defers} (w2.putObj (w.heap.size+1) (.loop {lo2 with state:=.exhausted})):=
          ⟨hsr,xall.re hA.sr hA.re,hA.xt.trans xall,hA.sz,hmark.xt (j3.trans hxt)⟩
         have hpd:r2.pend=none∨∃ex,r2.pend=some ex:=by cases r2.pend<;>simp
         rcases hpd with hpd|⟨ex,hpd⟩
         ·have hj:lo2.pending=none:=by rw[q8,hpd];rfl
          exact⟨none,w2.putObj (w.heap.size+1) (.loop {lo2 with state:=.exhausted}),hend.trans (by rw[hj]),by rw[hpd];rfl,m2,hAt⟩
         ·have hj:lo2.pending=some (exC ex):=by rw[q8,hpd];rfl
          refine⟨some (exC ex),w2.putObj (w.heap.size+1) (.loop {lo2 with state:=.exhausted}),hend.trans (by rw[hj]),?_⟩
          cases ex with
          |norm=>exact absurd hpd q9
          |exit id=>exact wpIn_exit ⟨by rw[hpd];rfl,m2,hAt⟩
          |ret=>exact wpIn_ret ⟨by rw[hpd];rfl,m2,hAt⟩
       ·cases hev
     ·cases hev
   ·cases hc
 | .goto _,c,m,e,σ,a,w,x,hc,hev,hA=>by simp[ccC]at hc
 | .label _,c,m,e,σ,a,w,x,hc,hev,hA=>by simp[ccC]at hc
 | .scope _,c,m,e,σ,a,w,x,hc,hev,hA=>by simp[ccC]at hc
 | .refuse _,c,m,e,σ,a,w,x,hc,hev,hA=>by simp[ccC]at hc
end
end Go.Fx
namespace Go.Fx
open Go.RowKit
section
variable{P:Program}{eqs:List (TypeId×List Nat)}{CR:Nat→Code→C→Prop}{m m':Mt}{σ σ':St}{w w':World}{e e':Env}{a:Act}
variable{cp:FuncId→List PT→Option PT}{cs:Cal→List TV→St→Option (TV×St)}{sp:FuncId→Bool}
theorem Jg(hR:SR CR m σ w){x:AV}{v:Value}(hx:RA m σ w x v){t:TypeId}{n:Nat}{g:Bool}(hn:tsz P t=some n)(hg:tag P t=some g)(hg1:¬(g=false∧n≠1)){r:TV}
  (h:(cM σ n x).bind (mkT g)=some r):∃u,(do loadVar t (←asAddr v):Sem Value).run P w= .ok u w∧RT m σ w r u:=by
 obtain⟨u,h1,h2⟩:=RI (P:=P) hR hx hn hg hg1 h
 obtain⟨cs,h3,h4⟩:=pT h
 obtain⟨B,o,vs,rfl,_⟩:=Ly hR hx h3
 refine⟨u,?_,h2⟩
 simpa only[Instr.loadAt,Instr.sureAddr,asAddr]using h1
theorem vV{g:Bool}{cs:List AV}{t:TV}{u:Value}(h:mkT g cs=some t)(hr:RT m σ w t u):RGA (RA m σ w) g cs u:=by
 unfold RGA
 cases g with
 |true=>simp only[mkT,if_true,Lo]at h⊢;subst h;exact hr
 |false=>
  simp only[mkT,SY,if_false]at h⊢
  split at h
  ·simp only[Lo]at h;subst h;exact⟨_,rfl,hr⟩
  ·cases h
theorem rt_of{g:Bool}{cs:List AV}{t:TV}{u:Value}(h:mkT g cs=some t)(hr:RGA (RA m σ w) g cs u):RT m σ w t u:=by
 unfold RGA at hr
 cases g with
 |true=>simp only[mkT,if_true,Lo]at h hr;subst h;exact hr
 |false=>
  simp only[mkT,SY,if_false]at h hr
  obtain⟨x,rfl,hx⟩:=hr
  simp only[Lo]at h;subst h;exact hx
def UQ(tmps:Array Value):ResultVar→Sem Value
 | .tmp t=>pure (tmps.getD t undef)
 | .cell a t=>do loadVar t (←asAddr (tmps.getD a undef))
theorem TH(hR:SR CR m σ w){tmps:Array Value}(hE:RE m σ w e tmps){r:ResultVar}{s:Rs}(hc:ccR P r=some s){x:Bool×List AV}(h:JC e σ s=some x):
  ∃u,(UQ tmps r).run P w= .ok u w∧RGA (RA m σ w) x.1 x.2 u:=by
 cases r with
 |tmp t=>
  simp only[ccR,Lo]at hc;subst hc
  have h1:=hE t
  simp only[JC]at h
  split at h
  ·rename_i y hy
   simp only[Lo]at h;subst h
   rw[hy]at h1
   exact⟨_,rfl,by unfold RGA;exact⟨_,rfl,h1⟩⟩
  ·rename_i cs hy
   simp only[Lo]at h;subst h
   rw[hy]at h1
   exact⟨_,rfl,by unfold RGA;simp only[if_true];exact h1⟩
  ·cases h
 |cell a t=>
  simp only[ccR]at hc
  obtain⟨n,hn,hc⟩:=pT hc
  obtain⟨g,hg,hc⟩:=pT hc
  split at hc
  ·cases hc
  ·rename_i hg1
   simp only[Lo]at hc;subst hc
   have h1:=hE a
   simp only[JC]at h
   split at h
   ·rename_i y hy
    rw[hy]at h1
    obtain⟨cs,h2,h⟩:=pT h
    obtain⟨t',h3,h⟩:=pT h
    simp only[Lo]at h;subst h
    obtain⟨u,h4,h5⟩:=Jg (P:=P) hR h1 hn hg hg1 (r:=t') (by rw[h2];exact h3)
    exact⟨u,h4,vV h3 h5⟩
   ·cases h
theorem I7(hR:SR CR m σ w){tmps:Array Value}(hE:RE m σ w e tmps):∀{l:List ResultVar} {l':List Rs} {vs:List (Bool×List AV)},F2 (fun r s=>ccR P r=some s) l l'→EP e σ l'=some vs→
  ∃us:List Value,(l.mapM (UQ tmps)).run P w= .ok us w∧F2 (fun x u=>RGA (RA m σ w) x.1 x.2 u) vs us
 |[],_,vs,.nil,h=>by simp[EP]at h;subst h;exact⟨[],by simp,.nil⟩
 |r::l,_,vs,.cons hr ht,h=>by
  simp only[EP]at h
  obtain⟨x,h1,h⟩:=pT h
  obtain⟨xs,h2,h⟩:=pT h
  simp only[Lo]at h;subst h
  obtain⟨u,h3,h4⟩:=TH (P:=P) hR hE hr h1
  obtain⟨us,h5,h6⟩:=I7 hR hE ht h2
  exact⟨u::us,by simp[List.mapM_cons,h3,h5],.cons h4 h6⟩
theorem TA(hR:SR CR m σ w){tmps:Array Value}(hE:RE m σ w e tmps){fn:Func}{l':List Rs}(hl:Fq (ccR P) fn.results.toList=some l'){vs:List (Bool×List AV)}(h:EP e σ l'=some vs){t:TV}(ht:O2 vs=some t):
  ∃v,(results fn tmps).run P w= .ok v w∧RT m σ w t v:=by
 obtain⟨us,h1,h2⟩:=I7 (P:=P) hR hE (Me (R:=fun r s=>ccR P r=some s) (fun _ _ h=>h) hl) h
 have hrun:(results fn tmps).run P w= .ok (if hh:us.toArray.size=1 then us.toArray[0]else .tuple us.toArray) w:=by
  have:(results fn tmps)=(do let vs←fn.results.mapM (UQ tmps);pure (if h:vs.size=1 then vs[0]else .tuple vs)):=by
   unfold results
   congr 1
  rw[this,Array.mapM_eq_mapM_toList]
  simp[h1]
 refine⟨_,hrun,?_⟩
 cases h2 with
 |nil=>simp only[O2,Lo]at ht;subst ht;rfl
 |cons x r=>
  cases r with
  |nil=>
   rename_i y u
   obtain⟨g,cs⟩:=y
   simp only[O2]at ht
   exact rt_of ht x
  |cons y r=>
   simp only[O2,Lo]at ht;subst ht
   rw[dif_neg (by simp)]
   exact⟨_,rfl,.cons x (.cons y r)⟩
theorem Jp{args:List TV}{vs:List Value}(h:F2 (RT m σ w) args vs)(k:Nat):RE m σ w (Env.init args) (vs.toArray++Array.replicate k undef):=by
 intro n
 unfold Env.init
 have hl:=h.length
 rcases N2 n args.length with hn|hn
 ·obtain⟨v,h1,h2⟩:=h.get (Xb hn)
  rw[Kh,Xb hn,wF,Array.getElem?_append_left (by simp;omega)]
  simp only[F4,h1]
  exact h2
 ·rw[Kh,eF hn,wF,Array.getElem?_append_right (by simp;omega)]
  simp only[EO,List.size_toArray,I1]
  show _=undef
  split<;>rfl
theorem Xv(hm:P.follows .mixedOrders=true)(hEq:Oi P eqs)(hp:Ua P cp)(hs:dI P (CRP P eqs) cs){f:FuncId}{fn:Func}{fc:FnC}(hf:P.funcs[f]? =some fn)(hc:ccF P eqs fn=some (lH fc))
  {args:List TV} {fuel:Nat} {x:Ex×Env×St} (hl:args.length=fc.np) (hev:evC cp cs sp fuel false fc.body (Env.init args) σ=some x) (hx:x.1= .norm∨x.1= .ret)
  {vs:List (Bool×List AV)} (hvs:EP x.2.1 x.2.2 fc.res=some vs) {t:TV} (ht:O2 vs=some t):Ent P f∧∀m w vals,SR (CRP P eqs) m σ w→F2 (RT m σ w) args vals→∀rr n,
   CallsIn (FW rr) n P f vals.toArray w (HQ (CRP P eqs) m σ w t x.2.2):=by
 unfold ccF at hc
 obtain⟨code,hb,hc⟩:=pT hc
 obtain⟨c,h1,hc⟩:=pT hc
 obtain⟨rs,h2,hc⟩:=pT hc
 split at hc
 ·rename_i hn
  simp only[Lo]at hc
  obtain⟨np,body,res⟩:=fc
  simp only[lH,FnC.mk.injEq]at hc
  obtain⟨hnp,rfl,rfl⟩:=hc
  subst hnp
  simp only at hl hev hvs
  refine⟨⟨fn,hf,by rw[hb];rfl,by simpa using hn.2⟩,fun m w vals hR hargs rr n=>?_⟩
  have hlen:=hargs.length
  have main:CallsIn (FW none) n P f vals.toArray w (HQ (CRP P eqs) m σ w t x.2.2):=by
   refine callsIn_of_wp_marks hf hb trivial ?_
   have hsz:(vals.toArray++Array.replicate (fn.ntmps-vals.toArray.size) undef).size=fn.ntmps:=by simp;omega
   let a0:Act:={tmps:=vals.toArray++Array.replicate (fn.ntmps-vals.toArray.size) undef,defers:=[]}
   have hA:At (CRP P eqs) m σ w a0 m (Env.init args) σ a0 w:=⟨hR,Jp hargs _,Xt.refl _ _ _,rfl,JA.nil _ _ _ _⟩
   refine Code.wpIn_mono (fun ex a' w' q=>?_) (Ro (a0:=a0) (rr:=none) (n:=n) hm hEq hp hs rfl code (by simpa only[a0,hsz]using h1) hev hA)
   obtain⟨rfl,m',hA'⟩:=q
   have fin:LeavesInM (FW none) n P fn a'.tmps (HQ (CRP P eqs) m σ w t x.2.2) a'.defers .returning w':=by
    obtain⟨ms,k1,k2,k3⟩:=hA'.df
    rw[k1]
    refine Wj k2 k3 hA'.sr hA'.xt fun w2 g1 g2 g3=>?_
    obtain⟨v,r1,r2⟩:=TA (P:=P) g1 (e:=x.2.1) (tmps:=a'.tmps) (fun n=>g3 _ _ (hA'.re n)) h2 hvs ht
    exact⟨v,r1,v,m',rfl,g1,r2,g2⟩
   rcases hx with hx|hx<;>rw[hx]<;>exact fin
  cases rr with
  |none=>exact main
  |some l=>exact main
 ·cases hc
theorem Mi(l:List (Tmp×Value)):∀(tmps:Array Value),(l.foldl (fun tmps (x:Tmp×Value)=>tmps.setIfInBounds x.1 x.2) tmps).size=tmps.size:=by
 induction l with
 |nil=>intro _;rfl
 |cons x l ih=>intro tmps;simp only[VP];rw[ih];simp
theorem PD:∀{ps:List Nat} {args:List TV} {vs:List Value} {e:Env} {tmps:Array Value},F2 (RT m σ w) args vs→RE m σ w e tmps→(∀p,p∈ps→p<tmps.size)→
  RE m σ w (J9 e ps args) ((ps.zip vs).foldl (fun tmps (x:Tmp×Value)=>tmps.setIfInBounds x.1 x.2) tmps)
 |[],_,_,_,_,h,hE,_=>by cases h<;>exact hE
 |p::ps,_,_,_,_,.nil,hE,_=>hE
 |p::ps,_,_,e,tmps,.cons x t,hE,hp=>by
  simp only[J9,List.zip_cons_cons,VP]
  exact PD t (hE.put (hp p (by simp)) x) fun q hq=>by simpa using hp q (by simp[hq])
theorem rz(hm:P.follows .mixedOrders=true)(hEq:Oi P eqs)(hp:Ua P cp)(hs:dI P (CRP P eqs) cs){fuel l:Nat}{args:List TV}{t:TV}(hev:evY cp cs sp fuel l args σ=some (t,σ')):
  Pw P (CRP P eqs) args σ t σ' (.y l):=by
 intro m w vals hR hargs lo hlo
 simp only[evY]at hev
 split at hev
 ·rename_i r hr
  split at hev
  ·rename_i hlen
   obtain⟨lo',g1,g2,g3,g4,g5,g6,g7,g8,g9⟩:=hR.lrs l r hr
   rw[hlo]at g1;simp only[Lo,Obj.loop.injEq]at g1;subst g1
   obtain⟨x,h1,hev⟩:=pT hev
   split at hev
   ·rename_i hxn
    split at hev
    ·rename_i r1 hr1
     split at hev
     ·rename_i hst
      obtain⟨y,h2,hev⟩:=pT hev
      split at hev
      ·rename_i r2 hr2
       have hl:=hargs.length
       refine⟨by rw[g3];simp;omega,fun rr n=>?_⟩
       refine roundIn_of_wpIn trivial ?_
       have hll:l<σ.ls.length:=(QU.1 hr).1
       obtain⟨tm,htm⟩:∃tm,tm=(lo.params.zip vals.toArray).foldl (fun tmps (x:Tmp×Value)=>tmps.setIfInBounds x.1 x.2) lo.tmps:=⟨_,rfl⟩
       have htl:tm=(r.params.zip vals).foldl (fun tmps (x:Tmp×Value)=>tmps.setIfInBounds x.1 x.2) lo.tmps:=by
        rw[htm,g3,←eD];simp
       have hsz:tm.size=lo.tmps.size:=by rw[htl];exact Mi _ _
       let a0:Act:={tmps:=tm,defers:=[]}
       have hA:At (CRP P eqs) m σ w a0 m (J9 r.env r.params args) σ a0 w:=⟨hR,by show RE m σ w _ tm;rw[htl];exact PD hargs g2 g4,Xt.refl _ _ _,rfl,JA.nil _ _ _ _⟩
       rw[←htm]
       refine Code.wpIn_mono (fun ex a' w' q=>?_) (Ro (a0:=a0) (rr:=some (m.la l)) (n:=n) hm hEq hp hs rfl lo.assign (by simpa only[a0,hsz,CRP]using g5) h1 hA)
       obtain⟨rfl,m1,hA1⟩:=q
       rw[hxn]
       show∃w₂,_
       have hla1:m1.la l=m.la l:=hA1.xt.la l hll
       obtain⟨lo1,j1,j2,j3,j4,j5,j6,j7,j8,j9⟩:=hA1.sr.lrs l r1 hr1
       rw[hla1]at j1
       have hb:=run_beginRound (P:=P) j1 (by rw[j7,hst];rfl)
       refine⟨_,hb,?_⟩
       have hll1:l<x.2.2.ls.length:=(QU.1 hr1).1
       have s1:SR (CRP P eqs) m1 (ud x.2.2 l {r1 with st:=.busy}) (w'.putObj (m1.la l) (.loop {lo1 with state:=.busy})):=
        eE (lo0:=lo1) hA1.sr hr1 (by rw[hla1];exact j1) rfl rfl rfl rfl rfl rfl rfl rfl rfl j8 j9
       have xt1:=Br hA1.sr hll1 {r1 with st:=.busy} (.loop {lo1 with state:=.busy})
       rw[hla1]at s1 xt1
       have hA2:At (CRP P eqs) m σ w a0 m1 x.2.1 (ud x.2.2 l {r1 with st:=.busy}) a' (w'.putObj (m.la l) (.loop {lo1 with state:=.busy})):=
        ⟨s1,xt1.re hA1.sr hA1.re,hA1.xt.trans xt1,hA1.sz,hA1.df.xt xt1⟩
       refine Code.wpIn_mono (fun ex a2 w2 q=>?_) (Ro (a0:=a0) (rr:=some (m.la l)) (n:=n) hm hEq hp hs rfl lo.body (by simpa only[a0,hsz,CRP]using g6) h2 hA2)
       obtain⟨rfl,m2,hA3⟩:=q
       have hla2:m2.la l=m.la l:=hA3.xt.la l hll
       obtain⟨lo2,q1,q2,q3,q4,q5,q6,q7,q8,q9⟩:=hA3.sr.lrs l r2 hr2
       rw[hla2]at q1
       have hll2:l<y.2.2.ls.length:=(QU.1 hr2).1
       have fin:∀(pd:Option Ex) (st:LSt),pd≠some .norm→(stR st=if(pd.map exC).isNone then .ready else .done)→t= .a (.p (.b (pd.map exC).isNone))→σ'=ud y.2.2 l {r2 with st:=st,pend:=pd}→
         ∃v w4,(Instr.endRound (m.la l) (pd.map exC)).run P w2= .ok v w4∧HQ (CRP P eqs) m σ w t σ' (.returned v) w4:=by
        intro pd st k1 k2 k3 k4
        subst k3 k4
        have he:=run_endRound (P:=P) (pd.map exC) q1
        refine⟨_,_,he,_,m2,rfl,?_,RP.b _,?_⟩
        ·have:=eE (lo0:=lo2) (r:={r2 with st:=st,pend:=pd}) (lo:={lo2 with state:=if(pd.map exC).isNone then .ready else .done,pending:=pd.map exC}) hA3.sr hr2 (by rw[hla2];exact q1) rfl rfl rfl rfl rfl rfl rfl rfl k2.symm rfl k1
         rw[hla2]at this
         exact this
        ·have:=Br hA3.sr hll2 {r2 with st:=st,pend:=pd} (.loop {lo2 with state:=if(pd.map exC).isNone then .ready else .done,pending:=pd.map exC})
         rw[hla2]at this
         exact hA3.xt.trans this
       obtain⟨ye,y2⟩:=y
       cases ye with
       |norm=>
        simp only[if_true,Lo,ZP]at hev
        exact fin none .ready (by simp) (by simp[stR]) hev.1.symm hev.2.symm
       |exit id=>
        rw[if_neg (by simp)]at hev
        simp only[Lo,ZP]at hev
        exact fin (some (.exit id)) .done (by simp) (by simp[stR]) hev.1.symm hev.2.symm
       |ret=>
        rw[if_neg (by simp)]at hev
        simp only[Lo,ZP]at hev
        exact fin (some .ret) .done (by simp) (by simp[stR]) hev.1.symm hev.2.symm
      ·cases hev
     ·cases hev
    ·cases hev
   ·cases hev
  ·cases hev
 ·cases hev
theorem mN:∀{ps:List PT} {vs:List Value},F2 (RPT w m.D) ps vs→F2 (RT m σ w) (ps.map cV) vs
 |_,_,.nil=>.nil
 |_,_,.cons x t=>.cons (kY x) (mN t)
structure SeatOk(P:Program)(eqs:List (TypeId×List Nat))(S:Seat):Prop where
 mixed:P.follows .mixedOrders=true
 eql:Oi P eqs
 fb:∀f fc,S.fb f=some fc→∃fn,P.funcs[f]? =some fn∧ccF P eqs fn=some (lH fc)
 orc:∀f ps r,S.orc f ps=some r→Ent P f∧QP P f ps r
theorem PF{S:Seat}(hS:SeatOk P eqs S):∀k,dI P (CRP P eqs) (evS S k)∧Ua P (evP S k)
 |0=>⟨fun c args σ r σ' h=>by simp[evS]at h,fun f ps r h=>by simp[evP]at h⟩
 |k+1=>by
  obtain⟨ih1,ih2⟩:=PF hS k
  refine⟨fun c args σ r σ' h=>?_,fun f ps r h=>?_⟩
  ·cases c with
   |f g=>
    rw[evS]at h
    split at h
    ·rename_i fc hfc
     split at h
     ·rename_i hl
      obtain⟨x,h1,h⟩:=pT h
      split at h
      ·rename_i hx
       obtain⟨vs,h2,h⟩:=pT h
       obtain⟨v,h3,h⟩:=pT h
       simp only[Lo,ZP]at h
       obtain⟨rfl,rfl⟩:=h
       obtain⟨fn,hf,hcc⟩:=hS.fb g fc hfc
       exact Xv hS.mixed hS.eql ih2 ih1 hf hcc hl h1 hx h2 h3
      ·cases h
     ·cases h
    ·cases h
   |y l=>
    rw[evS]at h
    exact rz hS.mixed hS.eql ih2 ih1 h
  ·rw[evP]at h
   split at h
   ·rename_i r' hr
    simp only[Lo]at h;subst h
    exact hS.orc f ps _ hr
   ·obtain⟨x,h1,h⟩:=pT h
    obtain⟨hen,hcall⟩:=ih1 _ _ _ _ _ h1
    refine⟨hen,fun w D vs hD hps rr n=>?_⟩
    let m:Mt:={mu:=fun _=>none,la:=fun _=>0,D:=D}
    have hno:∀b,¬InS m .empty b:=by
     rintro b (⟨s,bl,c,hs,_⟩|⟨l,hl,_⟩)
     ·simp[St.empty]at hs
     ·simp[St.empty]at hl
    have hR:SR (CRP P eqs) m .empty w:=
     {blk:=fun s b hs=>by simp[St.empty]at hs,gen:=fun s b hs=>by simp[St.empty]at hs,inj:=fun s s' b b' B c c' hs=>by simp[St.empty]at hs
      dj:=fun b hb=>absurd hb (hno b),dlt:=hD,lrs:=fun l r hl=>by simp[St.empty]at hl,linj:=fun l l' hl=>by simp[St.empty]at hl}
    have hargs:F2 (RT m .empty w) (ps.map cV) vs:=mN (m:=m) hps
    refine(hcall m w vs hR hargs rr n).mono ?_
    rintro e w' ⟨v,m',rfl,j1,j2,j3⟩
    refine⟨v,rfl,?_,?_⟩
    ·refine RPT.mono (fun b hb=>⟨?_,rfl⟩) (WT j1 j2 h)
     rcases hb with hb|hb
     ·rcases j3.new b hb with h5|h5|h5
      ·exact .inl h5
      ·exact .inr ⟨h5,j1.dlt b hb⟩
      ·exact absurd h5 (hno b)
     ·rcases j3.img b hb with h5|h5
      ·exact absurd h5 (hno b)
      ·exact .inr ⟨h5,j1.inS_lt hb⟩
    ·exact {size:=j3.size,block:=fun b hb=>j3.kept b hb (hno b),os:=j3.os,tape:=j3.tape,output:=j3.output}
theorem GX{S:Seat}(hS:SeatOk P eqs S){f:FuncId}{ps:List PT}{r:PT}(h:eP S f ps=some r):Ent P f∧QP P f ps r:=by
 obtain⟨k,hk⟩:=(oW S).1 h
 exact(PF hS k).2 f ps r hk
theorem Zd{S:Seat}(hS:SeatOk P eqs S){f:FuncId}{ps:List PT}{r:PT}(h:eP S f ps=some r){w:World}{D:Nat→Prop}{vs:List Value}(hD:∀b,D b→b<w.heap.size)(hps:F2 (RPT w D) ps vs):
  Calls P f vs.toArray w fun e w'=>∃v,e= .returned v∧RPT w' (fun b=>D b∨(w.heap.size≤b∧b<w'.heap.size)) r v∧Below w.heap.size w w':=
 callsIn_wide.1 ((GX hS h).2 w D vs hD hps none 0)
end
end Go.Fx
namespace Go.Fx
open Go.RowKit Go.WideShapes Go.ChangeShapes Go.ChangeAt
def CT(P:Program):Nat→TypeId→List PV→Prop
 |0,_,_=>False
 |n+1,t,cs=>
  match P.underlying t with
  |some .bool=>∃b,cs=[.b b]
  |some (.int k)=>∃i,cs=[.i k i]∧(Lit.int k i).wf=true
  |some .string=>∃s,cs=[.s s]∧s.length≤reachBytes
  |some (.slice e)=>∃rows,cs=[.l rows]∧rows.length*P.bytesOf e≤reachBytes∧∀r,r∈rows→r.length=P.cellsOf e∧CT P n e r
  |some (.struct fs)=>cs.length=P.cellsOf t∧∀f,f∈fs→CT P n f.type ((cs.drop f.offset).take (P.cellsOf f.type))
  |some (.array k e)=>cs.length=P.cellsOf t∧∀i,i<k→CT P n e ((cs.drop (i*P.cellsOf e)).take (P.cellsOf e))
  |_=>False
def gF(P:Program):Nat→List Field→Option Nat
 |o,[]=>some o
 |o,f::r=>if f.offset=o then gF P (o+P.cellsOf f.type) r else none
def Fo(P:Program)(ts:List TypeId):Bool:=ts.all fun t=>
 match P.underlying t with
 |some .bool|some (.int _)|some .string=>true
 |some (.slice e)=>ts.contains e&&decide (0<P.cellsOf e)
 |some (.struct fs)=>fs.toList.all (fun f=>ts.contains f.type)&&(gF P 0 fs.toList==some (P.cellsOf t))
 |some (.array n e)=>ts.contains e&&(n*P.cellsOf e==P.cellsOf t)
 |_=>false
section
variable{P:Program}{w:World}{H:Type}{enc:TypeId×Value→H}
theorem zh:∀{ts:List TypeId} {ds:List (DataW H)},(DataW.weightsEach P ts ds).all (·≤reachBytes)=true→∀(i:Nat) (t:TypeId) (d:DataW H),ts[i]? =some t→ds[i]? =some d→(d.weights P t).all (·≤reachBytes)=true
 |[],_,_,i,t,d,h,_=>by simp at h
 |t::ts,[],_,i,_,d,_,h=>by simp at h
 |t::ts,d::ds,h,i,u,e,h1,h2=>by
  simp only[DataW.weightsEach,PE,Cd]at h
  cases i with
  |zero=>simp only[aT,Lo]at h1 h2;subst h1;subst h2;exact h.1
  |succ i=>exact zh h.2 i u e (by simpa using h1) (by simpa using h2)
theorem oB{e:TypeId}:∀{ds:List (DataW H)},(DataW.weightsAll P e ds).all (·≤reachBytes)=true→∀(d:DataW H),d∈ds→(d.weights P e).all (·≤reachBytes)=true
 |[],_,d,h=>by simp at h
 |d::ds,h,u,h1=>by
  simp only[DataW.weightsAll,PE,Cd]at h
  rcases qY.1 h1 with rfl|h1
  ·exact h.1
  ·exact oB h.2 u h1
theorem O3{R:PV→Value→Prop}{C:Field→List PV→Prop}{cs:List Value}:∀{fs:List Field} {o:Nat},gF P o fs=some cs.length→
  (∀f,f∈fs→∃q,F2 R q ((cs.drop f.offset).take (P.cellsOf f.type))∧C f q)→
  ∃qs,F2 R qs (cs.drop o)∧∀f,f∈fs→o≤f.offset∧C f ((qs.drop (f.offset-o)).take (P.cellsOf f.type))
 |[],o,h,_=>by
  simp only[gF,Lo]at h
  subst h
  exact⟨[],by rw[Bn];exact .nil,fun f hf=>by simp at hf⟩
 |f::r,o,h,hq=>by
  simp only[gF]at h
  split at h
  ·rename_i ho
   obtain⟨q,h1,h2⟩:=hq f (by simp)
   obtain⟨qs,h3,h4⟩:=O3 h fun g hg=>hq g (by simp[hg])
   have hle:o+P.cellsOf f.type≤cs.length:=by
    have:∀{fs:List Field} {o k:Nat},gF P o fs=some k→o≤k:=by
     intro fs
     induction fs with
     |nil=>intro o k h;simp only[gF,Lo]at h;omega
     |cons g r ih=>intro o k h;simp only[gF]at h;split at h;have:=ih h;omega;cases h
    exact this h
   have hql:q.length=P.cellsOf f.type:=by
    rw[h1.length];simp;omega
   rw[ho]at h1
   refine⟨q++qs,?_,fun g hg=>?_⟩
   ·have:cs.drop o=(cs.drop o).take (P.cellsOf f.type)++cs.drop (o+P.cellsOf f.type):=by
     rw[←dJ,List.take_append_drop]
    rw[this]
    exact h1.append h3
   ·rcases qY.1 hg with rfl|hg
    ·refine⟨by omega,?_⟩
     rw[ho,IZ,yA,←hql,List.take_left]
     exact h2
    ·obtain⟨k1,k2⟩:=h4 g hg
     refine⟨by omega,?_⟩
     rw[List.drop_append,List.drop_of_length_le (by omega),Es,hql]
     rw[show g.offset-o-P.cellsOf f.type=g.offset-(o+P.cellsOf f.type) by omega]
     exact k2
  ·cases h
theorem QY(a:Addr)(x y:Nat):(a.add x).add y=a.add (x+y):=by
 by_cases hx:x=0
 ·subst hx;simp[Addr.add]
 ·by_cases hy:y=0
  ·subst hy;simp[Addr.add]
  ·simp[Addr.add,hx,hy,Qp]
theorem S9(a:Addr)(h:a.spot=none)(n:Nat):(⟨a.block,a.off+n,none⟩:Addr)=a.add n:=by
 obtain⟨b,o,sp⟩:=a
 simp only at h;subst h
 by_cases hn:n=0
 ·subst hn;simp[Addr.add]
 ·simp[Addr.add,hn]
def lG(k e:Nat):Nat→List Field
 |0=>[]
 |n+1=>lG k e n++[{(default:Field)with type:=e,offset:=n*k}]
theorem ND{base:Nat}{a:Addr}{n:Nat}{cs:List Value}(h:w.cells? base a n=some cs):cs.length=n∧∀(i:Nat) (v:Value),cs[i]? =some v→w.cell? (a.add i)=some v:=by
 unfold World.cells? at h
 split at h
 ·have hl:=mapM_some_length h
  simp only[List.length_range]at hl
  refine⟨hl,fun i v hv=>?_⟩
  have hi:i<n:=by have:=(QU.1 hv).1;omega
  have:=mapM_some_get h i i (by simp[hi])
  rw[this,hv]
 ·cases h
theorem Yi{ts:List TypeId}(hts:Fo P ts=true){base:Nat}{spare:Nat→Bool}{held:Bool}:∀(fuel:Nat) (t:TypeId) (cs:List Value) (x:DataW H×List MemPlace),t∈ts→
  DataW.trod enc P w base spare held fuel t cs=some x→(x.1.weights P t).all (·≤reachBytes)=true→∃qs,F2 (RP w fun b=>b<w.heap.size) qs cs∧CT P fuel t qs:=by
 intro fuel
 induction fuel with
 |zero=>intro t cs x _ h;simp[DataW.trod]at h
 |succ fuel ih=>
  intro t cs x ht h hw
  have hc:=Gc.1 hts t ht
  cases hu:P.underlying t with
  |none=>rw[hu]at hc;simp at hc
  |some d=>
   rw[hu]at hc
   cases d with
   |bool=>
    obtain⟨b,rfl,_⟩:=DataW.trod_bool hu h
    exact⟨[.b b],.cons (.b b) .nil,by simp only[CT,hu];exact⟨b,rfl⟩⟩
   |int k=>
    obtain⟨i,rfl,_,hwf⟩:=DataW.trod_int hu h
    exact⟨[.i k i],.cons (.i k i) .nil,by simp only[CT,hu];exact⟨i,rfl,hwf⟩⟩
   |string=>
    obtain⟨s,rfl,rfl,_⟩:=DataW.trod_string hu h
    refine⟨[.s s.data.toList],.cons (.s s) .nil,?_⟩
    simp only[CT,hu]
    refine⟨_,rfl,?_⟩
    simpa [DataW.weights]using hw
   |slice e=>
    simp only[Cd,decide_eq_true_eq,yI]at hc
    rcases DataW.trod_slice hu h with⟨rfl,rfl⟩|⟨a,len,cap,elems,rest,n,hn,rfl,rfl,hb,hl,hm,hlen,hel,hsp,hns⟩
    ·exact⟨[.l []],.cons (.e none 0) .nil,by simp only[CT,hu];exact⟨[],rfl,by simp,fun r hr=>by simp at hr⟩⟩
    ·cases hn
     simp only[DataW.weights,hu,KF,PE,Cd,decide_eq_true_eq]at hw
     have hone:∀i,i<len→∃(q:List PV) (cv:List Value),w.cells? base (a.add (i*P.cellsOf e)) (P.cellsOf e)=some cv∧F2 (RP w fun b=>b<w.heap.size) q cv∧CT P fuel e q:=by
      intro i hi
      have h1:=hel i hi
      obtain⟨y,hy⟩:∃y,elems[i]? =some y:=⟨_,Xb (by omega)⟩
      rw[hy]at h1
      obtain⟨cv,h2,h3⟩:=pT h1
      obtain⟨q,h4,h5⟩:=ih e cv y hc.1 h3 (oB hw.2.1 y.1 (Om.2 ⟨y,yu hy,rfl⟩))
      exact⟨q,cv,h2,h4,h5⟩
     have hlist:∀n,n≤len→∃rows:List (List PV),rows.length=n∧∀(i:Nat) (q:List PV),rows[i]? =some q→∃cv,w.cells? base (a.add (i*P.cellsOf e)) (P.cellsOf e)=some cv∧F2 (RP w fun b=>b<w.heap.size) q cv∧CT P fuel e q:=by
      intro n
      induction n with
      |zero=>intro _;exact⟨[],rfl,fun i q h=>by simp at h⟩
      |succ n ihn=>
       intro hn
       obtain⟨rows,h1,h2⟩:=ihn (by omega)
       obtain⟨q,cv,h3,h4,h5⟩:=hone n (by omega)
       refine⟨rows++[q],by simp[h1],fun i r hr=>?_⟩
       by_cases hi:i<n
       ·rw[GV (by omega)]at hr;exact h2 i r hr
       ·have:i=n:=by have:=(QU.1 hr).1;simp at this;omega
        subst this
        rw[bO (by omega),h1,IZ]at hr
        simp only[aT,Lo]at hr
        subst hr;exact⟨cv,h3,h4,h5⟩
     obtain⟨rows,hrl,hrows⟩:=hlist len (nh _)
     have hkl:∀(i:Nat) (r:List PV),rows[i]? =some r→r.length=P.cellsOf e:=by
      intro i r hr
      obtain⟨cv,k1,k2,k3⟩:=hrows i r hr
      rw[k2.length,(ND k1).1]
     refine⟨[.l rows],.cons ?_ .nil,?_⟩
     ·by_cases h0:len=0
      ·subst h0
       have:rows=[]:=eL hrl
       subst this;exact .e _ _
      ·have hget:∀(i:Nat) (r:List PV) (j:Nat) (c:PV),rows[i]? =some r→r[j]? =some c→∃v,w.cell? (a.add (i*P.cellsOf e+j))=some v∧RP w (fun b=>b<w.heap.size) c v:=by
        intro i r j c hi hj
        obtain⟨cv,k1,k2,k3⟩:=hrows i r hi
        obtain⟨v,h6,h7⟩:=k2.get hj
        have:=(ND k1).2 j v h6
        rw[QY]at this
        exact⟨v,this,h7⟩
       obtain⟨q0,cv0,g1,g2,g3⟩:=hone 0 (by omega)
       obtain⟨v0,hv0⟩:∃v,cv0[0]? =some v:=⟨_,Xb (by have:=(ND g1).1;omega)⟩
       have hc0:=(ND g1).2 0 v0 hv0
       have ha0:(a.add (0*P.cellsOf e)).add 0=a:=by simp[Addr.add]
       rw[ha0]at hc0
       have hspot:a.spot=none:=by
        simp only[World.cell?]at hc0
        split at hc0
        ·split at hc0
         ·cases hc0
         ·rename_i hs;cases hsp':a.spot with
          |none=>rfl
          |some _=>simp[hsp']at hs
        ·cases hc0
       have hblk:a.block<w.heap.size:=by
        simp only[World.cell?]at hc0
        split at hc0
        ·rename_i c _ _ hh;exact(ei.1 hh).1
        ·cases hc0
       have key:=RP.l (w:=w) (D:=fun b=>b<w.heap.size) rows a (P.cellsOf e) cap (fun i j=>(w.cell? (a.add (i*P.cellsOf e+j))).getD undef) hspot hblk (by omega) hkl
        (fun i r j c hi hj=>by
         obtain⟨v,k1,_⟩:=hget i r j c hi hj
         rw[k1,M0,←k1,S9 a hspot])
        (fun i r j c hi hj=>by
         obtain⟨v,k1,k2⟩:=hget i r j c hi hj
         rw[k1];exact k2)
       rw[hrl]at key
       exact key
     ·simp only[CT,hu]
      refine⟨rows,rfl,?_,fun r hr=>?_⟩
      ·refine fm (rB _ ?_) hw.1
       simp;omega
      ·obtain⟨i,hi⟩:=List.mem_iff_getElem?.1 hr
       obtain⟨cv,k1,k2,k3⟩:=hrows i r hi
       exact⟨hkl i r hi,k3⟩
   |struct fs=>
    simp only[Cd,beq_iff_eq,Gc,yI,decide_eq_true_eq]at hc
    obtain⟨xs,n,hn,rfl,hl,hxl,hf⟩:=DataW.trod_struct hu h
    cases hn
    simp only[DataW.weights,hu]at hw
    obtain⟨qs,h1,h2⟩:=O3 (P:=P) (R:=RP w fun b=>b<w.heap.size) (C:=fun f q=>CT P fuel f.type q) (cs:=cs) (fs:=fs.toList) (o:=0) (by rw[hc.2,hl]) (fun f hfm=>by
     obtain⟨i,hi⟩:=List.mem_iff_getElem?.1 hfm
     have h3:=hf i f (by simpa using hi)
     have hil:i<fs.size:=by have:=(QU.1 hi).1;simpa using this
     obtain⟨y,hy⟩:∃y,xs[i]? =some y:=⟨_,Xb (by omega)⟩
     rw[hy]at h3
     exact ih f.type _ y (hc.1 f hfm) h3 (zh hw i f.type y.1 (by simp[Qy,hi]) (by simp[Qy,hy])))
    refine⟨qs,by simpa using h1,?_⟩
    simp only[CT,hu]
    refine⟨by rw[h1.length];simpa using hl,fun f hfm=>?_⟩
    have:=(h2 f (by simpa using hfm)).2
    simpa using this
   |array k e=>
    simp only[Cd,beq_iff_eq,yI,decide_eq_true_eq]at hc
    obtain⟨xs,n,hn,rfl,hl,hxl,hf⟩:=DataW.trod_array hu h
    cases hn
    simp only[DataW.weights,hu]at hw
    have tl:∀n,gF P 0 (lG (P.cellsOf e) e n)=some (n*P.cellsOf e):=by
     have ap:∀(l l':List Field) (o k:Nat),gF P o l=some k→gF P o (l++l')=gF P k l':=by
      intro l
      induction l with
      |nil=>intro l' o k h;simp only[gF,Lo]at h;subst h;rfl
      |cons f l ihl=>intro l' o k h;simp only[gF,Hh]at h⊢;split at h;rename_i hh;rw[if_pos hh];exact ihl _ _ _ h;cases h
     intro n
     induction n with
     |zero=>simp[lG,gF]
     |succ n ihn=>simp only[lG];rw[ap _ _ _ _ ihn];simp[gF,Vb]
    have mem:∀n f,f∈lG (P.cellsOf e) e n→f.type=e∧∃i,i<n∧f.offset=i*P.cellsOf e:=by
     intro n
     induction n with
     |zero=>intro f hf;simp[lG]at hf
     |succ n ihn=>
      intro f hf
      simp only[lG,Sw,bK]at hf
      rcases hf with hf|rfl
      ·obtain⟨h1,i,h2,h3⟩:=ihn f hf;exact⟨h1,i,by omega,h3⟩
      ·exact⟨rfl,n,by omega,rfl⟩
    have mem':∀n i,i<n→∃f,f∈lG (P.cellsOf e) e n∧f.type=e∧f.offset=i*P.cellsOf e:=by
     intro n
     induction n with
     |zero=>intro i hi;omega
     |succ n ihn=>
      intro i hi
      by_cases h:i=n
      ·subst h;exact⟨_,by simp only[lG,Sw,bK];exact .inr rfl,rfl,rfl⟩
      ·obtain⟨f,h1,h2⟩:=ihn i (by omega)
       exact⟨f,by simp only[lG,Sw];exact .inl h1,h2⟩
    obtain⟨qs,h1,h2⟩:=O3 (P:=P) (R:=RP w fun b=>b<w.heap.size) (C:=fun f q=>CT P fuel f.type q) (cs:=cs) (fs:=lG (P.cellsOf e) e k) (o:=0) (by rw[tl,hl,hc.2]) (fun f hfm=>by
     obtain⟨h3,i,h4,h5⟩:=mem k f hfm
     have h6:=hf i h4
     obtain⟨y,hy⟩:∃y,xs[i]? =some y:=⟨_,Xb (by omega)⟩
     rw[hy]at h6
     rw[h3,h5]
     exact ih e _ y hc.1 h6 (oB hw y.1 (Om.2 ⟨y,yu hy,rfl⟩)))
    refine⟨qs,by simpa using h1,?_⟩
    simp only[CT,hu]
    refine⟨by rw[h1.length];simpa using hl,fun i hi=>?_⟩
    obtain⟨f,h3,h4,h5⟩:=mem' k i hi
    have:=(h2 f h3).2
    rw[h4,h5]at this
    simpa using this
   |_=>simp at hc
def AT(P:Program)(t:TypeId):PT→Prop
 | .a q=>∃n,CT P n t [q]
 | .g qs=>∃n,CT P n t qs
 |_=>False
def L7:TypeDesc→Bool
 | .struct _| .array _ _=>true
 |_=>false
def sP(P:Program)(t:TypeId):Bool:=match P.underlying t with|some d=>L7 d|none=>false
def PT.isG:PT→Bool
 | .g _=>true
 |_=>false
theorem PG{ts:List TypeId}(hts:Fo P ts=true){t:TypeId}(ht:t∈ts){base b0:Nat}{r:Reach}{v:Value}(hv:Value.okWide P w r b0 t v){spare:Nat→Bool}{held:Bool}{d:DataW H}{ps:List MemPlace}
  (h:DataW.Trod enc P w base spare held t v d ps) (hw:(d.weights P t).all (·≤reachBytes)=true):∃p,RPT w (fun b=>b<w.heap.size) p v∧AT P t p∧p.isG=sP P t:=by
 obtain⟨fuel,hf⟩:=h
 obtain⟨qs,h1,h2⟩:=Yi hts fuel t _ _ ht hf hw
 have plain:v.cells= #[v]→sP P t=false→∃p,RPT w (fun b=>b<w.heap.size) p v∧AT P t p∧p.isG=sP P t:=by
  intro hvc ha
  rw[hvc]at h1
  cases h1 with
  |cons x t=>cases t;exact⟨.a _,x,⟨fuel,h2⟩,ha.symm⟩
 have hc:=Gc.1 hts t ht
 cases hu:P.underlying t with
 |none=>rw[hu]at hc;simp at hc
 |some d=>
  rw[hu]at hc
  have ha:sP P t=L7 d:=by simp only[sP,hu]
  cases d with
  |bool=>obtain⟨b,rfl⟩:=okWide_bool hu hv;exact plain rfl ha
  |int k=>obtain⟨b,rfl⟩:=okWide_int hu hv;exact plain rfl ha
  |string=>obtain⟨b,rfl⟩:=okWide_string hu hv;exact plain rfl ha
  |slice e=>obtain⟨a,l,c,rfl⟩:=okWide_slice hu hv;exact plain rfl ha
  |struct fs=>
   simp only[Value.okWide,hu]at hv
   obtain⟨cs,rfl,_⟩:=hv
   exact⟨.g qs,⟨cs.toList,by simp,by simpa [Value.cells]using h1⟩,⟨fuel,h2⟩,ha.symm⟩
  |array k e=>
   simp only[Value.okWide,hu]at hv
   obtain⟨cs,rfl,_⟩:=hv
   exact⟨.g qs,⟨cs.toList,by simp,by simpa [Value.cells]using h1⟩,⟨fuel,h2⟩,ha.symm⟩
  |_=>simp at hc
theorem PK{ts:List TypeId}(hts:Fo P ts=true){r:Reach}{b0:Nat}:∀{us:List TypeId} {vs:List Value} {ds:List (DataW H)} {ps:List MemPlace},(∀t,t∈us→t∈ts)→
  (∀(j:Nat) t v,us[j]? =some t→vs[j]? =some v→Value.okWide P w r b0 t v)→DataW.TrodAll enc P w 0 (fun _=>true) true us vs ds ps→(DataW.weightsEach P us ds).all (·≤reachBytes)=true→
  ∃qs,F2 (RPT w fun b=>b<w.heap.size) qs vs∧F2 (fun t p=>AT P t p∧p.isG=sP P t) us qs
 |[],[],[],_,_,_,_,_=>⟨[],.nil,.nil⟩
 |[],_::_,_,_,_,_,h,_=>h.elim
 |[],[],_::_,_,_,_,h,_=>h.elim
 |_::_,[],_,_,_,_,h,_=>h.elim
 |_::_,_::_,[],_,_,_,h,_=>h.elim
 |t::us,v::vs,d::ds,ps,hm,hv,h,hw=>by
  obtain⟨p,q,h1,h2,_⟩:=h
  simp only[DataW.weightsEach,PE,Cd]at hw
  obtain⟨x,k1,k2,k3⟩:=PG hts (hm t (by simp)) (hv 0 t v rfl rfl) h1 hw.1
  obtain⟨qs,k4,k5⟩:=PK hts (fun t ht=>hm t (by simp[ht])) (fun j t v h3 h4=>hv (j+1) t v (by simpa using h3) (by simpa using h4)) h2 hw.2
  exact⟨x::qs,.cons k1 k4,.cons ⟨k2,k3⟩ k5⟩
theorem NR(hl:laidOutB P=true){W W':World}(hb:Below W.heap.size W W'):∀{us:List TypeId} {vs:List Value} {ds:List (DataW H)} {ps:List MemPlace},(∀t,t∈us→P.readableRec t=true∧t<P.types.size)→
  DataW.TrodAll enc P W 0 (fun _=>true) true us vs ds ps→DataW.TrodAll enc P W' 0 (fun b=>decide (b<W.heap.size)) true us vs ds ps
 |[],[],[],_,_,h=>h
 |[],_::_,_,_,_,h=>h.elim
 |[],[],_::_,_,_,h=>h.elim
 |_::_,[],_,_,_,h=>h.elim
 |_::_,_::_,[],_,_,h=>h.elim
 |t::us,v::vs,d::ds,ps,hr,h=>by
  obtain⟨p,q,h1,h2,h3⟩:=h
  have lt:∀x∈p,x.block<W.heap.size:=by obtain⟨m,hm⟩:=h1;exact DataW.trod_lt m _ _ _ hm
  exact⟨p,q,Below.trod hl (hr t (by simp)).1 (hr t (by simp)).2 h1 hb lt,NR hl hb (fun t ht=>hr t (by simp[ht])) h2,h3⟩
end
theorem MK{C:Checked}{os:Os}{f:FuncId}{fn:Func}{s:ChangeSpec}{H:Type}{enc:TypeId×Value→H}{dom:List PathCond}{eqs:List (TypeId×List Nat)}{S:Seat}
  (own:ownKnob C.prog.godebug=none) (started:os.Started) (noInit:C.prog.inits.idxOf? f=none) (hfn:C.prog.funcs[f]? =some fn) (hl:laidOutB C.prog=true)
  (witness:∃(w:World) (tape:Tape) (i:Input),w.os=os∧(w.forCall tape i).Shaped C.prog∧i.vars=[]∧Input.okWide C.prog (w.forCall tape i) .any w.heap.size f i∧
   s.pre6 enc C.prog fn dom false (w.forCall tape i).memory i.args∧Assume.holds {} C.prog (lone (Frame.enter C.prog f i.args .normal) [] (w.forCall tape i)))
  {ts:List TypeId} (hts:Fo C.prog ts=true) (hpar:(fn.params.toList.all fun t=>ts.contains t&&(C.prog.readableRec t&&decide (t<C.prog.types.size)))=true)
  {tb:TypeId} (hres:fn.resultTypes= #[tb]) (hbool:C.prog.underlying tb=some .bool)
  (hsv:s.vars=[]) (hs:∀ds:List (DataW H),ds.length=fn.params.size→s.fn H ds={results:=[.lit (.bool true)],args:=ds})
  (hS:SeatOk C.prog eqs S) (hlaw:∀ps,F2 (fun t p=>AT C.prog t p∧p.isG=sP C.prog t) fn.params.toList ps→eP S f ps=some (.a (.b true))):
  ReturnsInHanded {} C os f .any (s.pre6 enc C.prog fn dom false) (s.post enc C.prog fn false true false false):=by
 refine returnsInHanded_of_change_sized (C:=C) own started noInit hfn witness ?_
 intro W base args ds gs before hval hW hcnd hsz _
 have hW':=hW
 obtain⟨p,q,hA,hV,hpq,hfz,hnd⟩:=hW
 rw[hsv]at hV
 obtain⟨rfl,rfl⟩:=trodVars_none hV
 have hpar':=Gc.1 hpar
 have hsz':(DataW.weightsEach C.prog fn.params.toList ds).all (·≤reachBytes)=true:=by
  have e:s.plain.varTypes C.prog=[]:=by simp[DataSpec.varTypes,ChangeSpec.plain,hsv]
  rw[e,Qg,Qg]at hsz
  exact hsz
 obtain⟨qs,h1,h2⟩:=PK hts (us:=fn.params.toList) (fun t ht=>by have:=hpar' t ht;simp only[Cd,yI,decide_eq_true_eq]at this;exact this.1) (fun j t v h3 h4=>hval j t v (by simpa using h3) (by simpa using h4)) hA hsz'
 have hcall:=Zd hS (hlaw qs h2) (w:=W) (D:=fun b=>b<W.heap.size) (fun b hb=>hb) h1
 simp only[bN]at hcall
 refine hcall.mono fun e W' he=>?_
 obtain⟨v,rfl,hr,hb⟩:=he
 have hv:v= .bool true:=by
  have hr:RP _ _ (.b true) v:=hr
  cases hr;rfl
 subst hv
 have hlen:ds.length=fn.params.size:=by
  have:∀{us:List TypeId} {vs:List Value} {ds:List (DataW H)} {ps:List MemPlace},DataW.TrodAll enc C.prog W 0 (fun _=>true) true us vs ds ps→ds.length=us.length:=by
   intro us
   induction us with
   |nil=>intro vs ds ps h;cases vs<;>cases ds<;>first|rfl|exact h.elim
   |cons t us ih=>intro vs ds ps h;cases vs<;>cases ds<;>first|exact h.elim|(obtain⟨_,_,_,h2,_⟩:=h;simp[ih h2])
  simpa using this hA
 have hsf:s.fn H (ds++[])={results:=[.lit (.bool true)],args:=ds}:=by rw[Qg];exact hs ds hlen
 refine⟨.bool true,rfl,ds,[],before,[],p,[],hW',?_,?_,?_,?_,fun h=>by cases h⟩
 ·rw[hsf,hres]
  exact trodAll_mk1 (shut_bool hbool _)
 ·rw[hsf]
  exact NR hl hb (fun t ht=>by have:=hpar' t ht;simp only[Cd,decide_eq_true_eq]at this;exact this.2) hA
 ·rw[hsf,hsv];rfl
 ·exact hb.frame _
end Go.Fx
namespace Go.Fx
@[reducible] def ia(d:Nat)(o:O):Ins:=⟨some d,none,o,.any⟩
@[reducible] def ir(d:Nat)(o:O):Ins:=⟨some d,none,o,.rd⟩
@[reducible] def io(o:O):Ins:=⟨none,none,o,.any⟩
@[reducible] def ig(d t:Nat)(w:Bool)(o:O):Ins:=⟨some d,some (t,w),o,.any⟩
@[reducible] def ih(d t:Nat)(w:Bool)(o:O):Ins:=⟨some d,some (t,w),o,.rd⟩
@[reducible] def ci(n:Int):X:=.c (.a (.p (.i .i64 n)))
@[reducible] def xF:X:=.c (.a (.p (.b false)))
@[reducible] def HZ:X:=.c (.a (.p (.b true)))
@[reducible] def mA(n:Nat):O:=.mv (.t n)
@[reducible] def fA(k n:Nat):O:=.fad k (.t n)
@[reducible] def lA(k n:Nat):O:=.ld k false (.t n)
@[reducible] def lB(k n:Nat):O:=.ld k true (.t n)
@[reducible] def sA(k n m:Nat):O:=.st k (.t n) (.t m)
@[reducible] def eA(n k:Nat):O:=.ext (.t n) k
@[reducible] def bA(k n:Nat):O:=.box k (.t n)
@[reducible] def nA(n:Nat):O:=.len false (.t n)
@[reducible] def aA(k n m:Nat):O:=.ias k (.t n) (.t m)
@[reducible] def oA(n:Nat):O:=.not (.t n)
@[reducible] def bB(o:BinOp)(n m:Nat):O:=.bin o (.t n) (.t m)
@[reducible] def bC(o:BinOp)(n:Nat)(i:Int):O:=.bin o (.t n) (ci i)
@[reducible] def pA(n m:Nat):O:=.pick (.t n) (.c (.a (.p (.b true)))) (.t m)
@[reducible] def pB(n m:Nat):O:=.pick (.t n) (.t m) (.c (.a (.p (.b false))))
@[reducible] def cA(f:FuncId):O:=.call (.f f) []
@[reducible] def cB(f:FuncId)(a:Nat):O:=.call (.f f) [.t a]
@[reducible] def cC(f:FuncId)(a b:Nat):O:=.call (.f f) [.t a,.t b]
@[reducible] def cD(f:FuncId)(a b c:Nat):O:=.call (.f f) [.t a,.t b,.t c]
@[reducible] def cE(f:FuncId)(a b c d:Nat):O:=.call (.f f) [.t a,.t b,.t c,.t d]
@[reducible] def mI(i:Int):O:=.mv (ci i)
@[reducible] def HY(n:Nat):O:=.nck (.t n)
@[reducible] def HX(l:List Ins)(c:C):C:=.seq (.reg l) c
@[reducible] def HW(n:Nat)(a b:C):C:=.cond (.t n) a b
def wpO{α:Type}(x:Option α)(K:α→Prop):Prop:=∃y,x=some y∧K y
section
variable{α β:Type}{K:β→Prop}
theorem ES(x:β):wpO (some x) K=K x:=propext ⟨fun⟨_,h,k⟩=>by cases h;exact k,fun k=>⟨x,rfl,k⟩⟩
end
variable{S:Seat}
def wpX(S:Seat)(x:Option (Env×St))(r:List Ins)(Q:Env→St→Prop):Prop:=∃y,x=some y∧wpI S r y.1 y.2 Q
theorem Bq(e:Env)(σ:St)(Q:Env→St→Prop):wpI S [] e σ Q=Q e σ:=propext ⟨fun⟨x,h,q⟩=>by simp only[wz,Lo]at h;subst h;exact q,fun q=>⟨(e,σ),rfl,q⟩⟩
theorem pt(i:Ins)(r:List Ins)(e:Env)(σ:St)(Q:Env→St→Prop):wpI S (i::r) e σ Q=wpX S (evI (eP S) (eS S) S.sp i e σ) r Q:=by
 refine propext ⟨fun⟨x,h,q⟩=>?_,fun⟨x,h,y,h2,q⟩=>⟨y,by rw[wz,h];exact h2,q⟩⟩
 rw[wz]at h
 obtain⟨y,h1,h2⟩:=pT h
 exact⟨y,h1,x,h2,q⟩
theorem CP(e:Env)(σ:St)(r:List Ins)(Q:Env→St→Prop):wpX S (some (e,σ)) r Q=wpI S r e σ Q:=propext ⟨fun⟨_,h,k⟩=>by cases h;exact k,fun k=>⟨_,rfl,k⟩⟩
theorem Xj{c:Prop}[Decidable c]{x y:Option (Env×St)}{r:List Ins}{Q:Env→St→Prop}(h:c→wpX S x r Q)(k:¬c→wpX S y r Q):wpX S (if c then x else y) r Q:=by
 by_cases hc:c
 ·rw[if_pos hc];exact h hc
 ·rw[if_neg hc];exact k hc
theorem oU{b w:Bool}{x y:Option (Env×St)}{r:List Ins}{Q:Env→St→Prop}(h:b=w→wpX S x r Q)(k:b=(!w)→wpX S y r Q):wpX S (if b=w then x else y) r Q:=by
 refine Xj h fun hn=>k ?_
 cases b<;>cases w<;>simp_all
theorem Pu(d:Option Nat)(o:O)(e:Env)(σ:St):evI (eP S) (eS S) S.sp ⟨d,none,o,.any⟩ e σ=(evO (eP S) (eS S) S.sp d e σ o).bind fun x=>some (e.putD d x.1,x.2):=rfl
theorem UH(d:Option Nat)(o:O)(e:Env)(σ:St):evI (eP S) (eS S) S.sp ⟨d,none,o,.rd⟩ e σ=(evR (eP S) S.sp e σ o).bind fun v=>some (e.putD d v,σ):=rfl
theorem RK(d:Option Nat)(o:O)(e:Env)(σ:St):evI (eP S) (eS S) S.sp ⟨d,none,o,.ad⟩ e σ=if o.adds e then(evO (eP S) (eS S) S.sp d e σ o).bind fun x=>some (e.putD d x.1,x.2)else none:=rfl
theorem Qi(d:Option Nat)(o:O)(ts:List Nat)(e:Env)(σ:St):evI (eP S) (eS S) S.sp ⟨d,none,o,.wr ts⟩ e σ=if eh e σ o ts then(evO (eP S) (eS S) S.sp d e σ o).bind fun x=>some (e.putD d x.1,x.2)else none:=rfl
def evG(v:TV)(w:Bool)(run:Option (Env×St))(skip:Env×St):Option (Env×St):=
 match v with
 | .a (.p (.b x))=>if x=w then run else some skip
 | .u=>some skip
 |_=>none
theorem evI_g(d:Option Nat)(t:Nat)(w:Bool)(o:O)(c:Cls)(e:Env)(σ:St):
  evI (eP S) (eS S) S.sp ⟨d,some (t,w),o,c⟩ e σ=evG (e t) w (evI (eP S) (eS S) S.sp ⟨d,none,o,c⟩ e σ) (e.putD d .u,σ):=by
 simp only[evI,evG]
 cases e t with
 |a x=>
  cases x with
  |p v=>cases v<;>rfl
  |_=>rfl
 |_=>rfl
theorem evG_u(w:Bool)(run:Option (Env×St))(skip:Env×St):evG .u w run skip=some skip:=rfl
theorem evG_b(x w:Bool)(run:Option (Env×St))(skip:Env×St):evG (.a (.p (.b x))) w run skip=if x=w then run else some skip:=rfl
theorem UZ(run:Option (Env×St))(skip:Env×St):evG (.a (.p (.b true))) true run skip=run:=rfl
theorem xD(run:Option (Env×St))(skip:Env×St):evG (.a (.p (.b false))) false run skip=run:=rfl
theorem Ox(run:Option (Env×St))(skip:Env×St):evG (.a (.p (.b true))) false run skip=some skip:=rfl
theorem mT(run:Option (Env×St))(skip:Env×St):evG (.a (.p (.b false))) true run skip=some skip:=rfl
theorem Ff(rd:Bool)(e:Env)(σ:St)(Q:Ex→Env→St→Prop):wp S rd .skip e σ Q=Q .norm e σ:=propext (BN S rd e σ Q)
theorem qF(rd:Bool)(id:Nat)(e:Env)(σ:St)(Q:Ex→Env→St→Prop):wp S rd (.exit id) e σ Q=Q (.exit id) e σ:=propext (WH S rd id e σ Q)
theorem x_ret(rd:Bool)(e:Env)(σ:St)(Q:Ex→Env→St→Prop):wp S rd .ret e σ Q=Q .ret e σ:=propext (Rg S rd e σ Q)
theorem x_reg(rd:Bool)(is:List Ins)(e:Env)(σ:St)(Q:Ex→Env→St→Prop):wp S rd (.reg is) e σ Q=wpI S is e σ (Q .norm):=propext (bV S rd is e σ Q)
theorem o7(rd:Bool)(a b:C)(e:Env)(σ:St)(Q:Ex→Env→St→Prop):wp S rd (.seq a b) e σ Q=wp S rd a e σ (Q5 S rd b Q):=propext (kp S rd a b e σ Q)
theorem Xd(rd:Bool)(x:X)(a b:C)(e:Env)(σ:St)(Q:Ex→Env→St→Prop){t:Bool}(h:ev e x= .a (.p (.b t))):wp S rd (.cond x a b) e σ Q=if t=true then wp S rd a e σ Q else wp S rd b e σ Q:=propext (kG S rd x a b e σ Q h)
def wpC(S:Seat)(rd:Bool)(v:TV)(a b:C)(e:Env)(σ:St)(Q:Ex→Env→St→Prop):Prop:=
 match v with
 | .a (.p (.b t))=>if t=true then wp S rd a e σ Q else wp S rd b e σ Q
 |_=>False
theorem x_if(rd:Bool)(x:X)(a b:C)(e:Env)(σ:St)(Q:Ex→Env→St→Prop):wp S rd (.cond x a b) e σ Q=wpC S rd (ev e x) a b e σ Q:=by
 unfold wpC
 split
 ·rename_i t h;exact Xd rd x a b e σ Q h
 ·rename_i h
  refine propext ⟨fun⟨n,y,h1,_⟩=>?_,fun h=>h.elim⟩
  simp only[evW,evC]at h1
  cases h1
theorem CW(rd:Bool)(a b:C)(e:Env)(σ:St)(Q:Ex→Env→St→Prop):wpC S rd (.a (.p (.b true))) a b e σ Q=wp S rd a e σ Q:=by simp[wpC]
theorem oR(rd:Bool)(a b:C)(e:Env)(σ:St)(Q:Ex→Env→St→Prop):wpC S rd (.a (.p (.b false))) a b e σ Q=wp S rd b e σ Q:=by simp[wpC]
theorem pG{rd t:Bool}{a b:C}{e:Env}{σ:St}{Q:Ex→Env→St→Prop}(h:t=true→wp S rd a e σ Q)(k:t=false→wp S rd b e σ Q):wpC S rd (.a (.p (.b t))) a b e σ Q:=by
 cases t
 ·rw[oR];exact k rfl
 ·rw[CW];exact h rfl
theorem xi(rd:Bool)(c:C)(e:Env)(σ:St)(Q:Ex→Env→St→Prop):wp S rd (.loop c) e σ Q=wp S rd c e σ (UD S rd c Q):=propext (oi S rd c e σ Q)
theorem xG(v:PV):cV (.a v)= .a (.p v):=rfl
theorem yh(cs:List PV):cV (.g cs)= .g (cs.map .p):=rfl
theorem Rr(vs:List (Bool×List PV)):cV (.t vs)= .t (vs.map fun x=>(x.1,x.2.map .p)):=rfl
theorem Zg(k:IntKind)(n:Int):(PT.a (.i k n)).flat=true:=rfl
theorem Xs(x:Bool):(PT.a (.b x)).flat=true:=rfl
theorem E0(x:List UInt8):(PT.a (.s x)).flat=true:=rfl
theorem QB(x:List (List PV)):(PT.a (.l x)).flat=false:=rfl
theorem Jh(cs:List PV):(PT.g cs).flat=cs.all PV.flat:=rfl
theorem S7(k:IntKind)(n:Int):(PV.i k n).flat=true:=rfl
theorem gU(x:Bool):(PV.b x).flat=true:=rfl
theorem La(x:List UInt8):(PV.s x).flat=true:=rfl
theorem Rz(x:List (List PV)):(PV.l x).flat=false:=rfl
theorem klL_p(σ:St)(xs:List PV):klL σ (xs.map .p)=σ:=F6 _ _ fun x hx=>by obtain⟨p,_,rfl⟩:=Om.1 hx;rfl
theorem zM(xs:List PV):(xs.map AV.p).any MQ=false:=by induction xs with
 |nil=>rfl
 |cons x xs ih=>simp[MQ,ih]
theorem frA_p(σ:St)(v:PV):frA σ (.p v)=some v:=rfl
theorem kj(σ:St):frA σ .nil=some (.l []):=rfl
theorem Ya(σ:St)(s:Key)(off len:Nat):frA σ (.own s off len)=match σ.bs s with
  |some (.row _ _ rows)=>if off+len≤rows.length then some (.l ((rows.drop off).take len))else none
  |_=>none:=rfl
theorem Mq(σ:St)(d:Nat)(b:Blk)(s:Key):(σ.add d b).bs s=if s=(d,σ.clk)then some b else σ.bs s:=rfl
theorem Bv(σ:St)(d:Nat)(b:Blk):(σ.add d b).clk=σ.clk+1:=rfl
theorem nG(σ:St)(d:Nat)(b:Blk):(σ.add d b).ls=σ.ls:=rfl
theorem xL(σ:St)(k:Key)(b:Blk)(s:Key):(σ.put k b).bs s=if s=k then some b else σ.bs s:=rfl
theorem Rt(σ:St)(k:Key)(b:Blk):(σ.put k b).clk=σ.clk:=rfl
theorem wG(σ:St)(k:Key)(b:Blk):(σ.put k b).ls=σ.ls:=rfl
theorem Sn(σ:St)(k:Key)(s:Key):(σ.kill k).bs s=if s=k then none else σ.bs s:=rfl
theorem ME(σ:St)(k:Key):(σ.kill k).clk=σ.clk:=rfl
theorem IQ(σ:St)(k:Key):(σ.kill k).ls=σ.ls:=rfl
theorem Sx:St.empty.clk=0:=rfl
theorem Wl(s:Key):St.empty.bs s=none:=rfl
theorem Rl(rd:Bool)(id:Nat)(c:C)(e:Env)(σ:St)(Q:Ex→Env→St→Prop):wp S rd (.block id c) e σ Q=wp S rd c e σ (tM id Q):=propext (LB S rd id c e σ Q)
theorem x_fz(rd:Bool)(ts:List Nat)(c:C)(e:Env)(σ:St)(Q:Ex→Env→St→Prop):wp S rd (.fz ts c) e σ Q=wpO (fzS e ts σ) fun σ'=>wp S rd c e σ' Q:=by
 refine propext ⟨fun⟨n,x,h1,h2⟩=>?_,fun⟨σ',h1,n,x,h2,h3⟩=>⟨n,x,?_,h3⟩⟩
 ·simp only[evW,evC]at h1
  obtain⟨σ',h3,h1⟩:=pT h1
  exact⟨σ',h3,n,x,h1,h2⟩
 ·simp only[evW,evC]at h2⊢
  rw[h1];exact h2
theorem Zq(e:Env)(n m:Nat)(v:TV):e.put n v m=if m=n then v else e m:=rfl
theorem WD(e:Env)(n:Nat)(v:TV):e.putD (some n) v=e.put n v:=rfl
theorem jd(e:Env)(v:TV):e.putD none v=e:=rfl
theorem ev_t(e:Env)(n:Nat):ev e (.t n)=e n:=rfl
theorem ev_c(e:Env)(v:TV):ev e (.c v)=v:=rfl
theorem ev_f(e:Env)(f:FuncId):ev e (.f f)= .a (.fn f []):=rfl
theorem Zs(σ:St)(xs:List PV):frL σ (xs.map .p)=some xs:=by
 induction xs with
 |nil=>rfl
 |cons x xs ih=>simp only[zx,frL,frA,ih,wA]
def zQ(res:List Rs)(r:PT):Ex→Env→St→Prop
 | .exit _,_,_=>False
 |_,e,σ=>((EP e σ res).bind fun vs=>(O2 vs).bind fun v=>frT σ v)=some r
theorem fZ(res:List Rs)(r:PT)(e:Env)(σ:St):zQ res r .ret e σ=(((EP e σ res).bind fun vs=>(O2 vs).bind fun v=>frT σ v)=some r):=rfl
theorem bT(res:List Rs)(r:PT)(e:Env)(σ:St):zQ res r .norm e σ=(((EP e σ res).bind fun vs=>(O2 vs).bind fun v=>frT σ v)=some r):=rfl
theorem Cf{g:FuncId}(ho:∀ps,S.orc g ps=none){fc:FnC}(hf:S.fb g=some fc){ps:List PT}(hn:ps.length=fc.np){r:PT}
  (h:wp S false fc.body (Env.init (ps.map cV)) .empty (zQ fc.res r)):eP S g ps=some r:=by
 refine nU S ho hf hn (wp_mono h fun x e σ q=>?_)
 cases x with
 |exit id=>exact q.elim
 |norm=>obtain⟨vs,h1,q⟩:=pT q;obtain⟨v,h2,q⟩:=pT q;exact⟨.inl rfl,vs,v,h1,h2,q⟩
 |ret=>obtain⟨vs,h1,q⟩:=pT q;obtain⟨v,h2,q⟩:=pT q;exact⟨.inr rfl,vs,v,h1,h2,q⟩
theorem H0{rd:Bool}{a b:C}{e:Env}{σ:St}{Q:Ex→Env→St→Prop}(M:Env→St→Prop)(h:wp S rd a e σ fun x e' σ'=>x= .norm∧M e' σ')(k:∀e' σ',M e' σ'→wp S rd b e' σ' Q):wp S rd (.seq a b) e σ Q:=by
 rw[o7]
 refine wp_mono h fun x e' σ' q=>?_
 obtain⟨rfl,hM⟩:=q
 exact k e' σ' hM
def LH(res:List Rs)(K:PT→Prop):Ex→Env→St→Prop
 | .exit _,_,_=>False
 |_,e,σ=>wpO ((EP e σ res).bind fun vs=>(O2 vs).bind fun v=>frT σ v) K
theorem V2(res:List Rs)(K:PT→Prop)(e:Env)(σ:St):LH res K .ret e σ=wpO ((EP e σ res).bind fun vs=>(O2 vs).bind fun v=>frT σ v) K:=rfl
theorem zZ(res:List Rs)(K:PT→Prop)(e:Env)(σ:St):LH res K .norm e σ=wpO ((EP e σ res).bind fun vs=>(O2 vs).bind fun v=>frT σ v) K:=rfl
theorem xI{g:FuncId}(ho:∀ps,S.orc g ps=none){fc:FnC}(hf:S.fb g=some fc){ps:List PT}(hn:ps.length=fc.np){K:PT→Prop}
  (h:wp S false fc.body (Env.init (ps.map cV)) .empty (LH fc.res K)):∃r,eP S g ps=some r∧K r:=by
 obtain⟨n,⟨ex,e',σ'⟩,h1,h2⟩:=h
 have fin:(ex= .norm∨ex= .ret)→wpO ((EP e' σ' fc.res).bind fun vs=>(O2 vs).bind fun v=>frT σ' v) K→∃r,eP S g ps=some r∧K r:=by
  rintro hx ⟨r,h3,h4⟩
  obtain⟨vs,h5,h3⟩:=pT h3
  obtain⟨v,h6,h3⟩:=pT h3
  exact⟨r,nU S ho hf hn ⟨n,_,h1,hx,vs,v,h5,h6,h3⟩,h4⟩
 cases ex with
 |exit id=>exact h2.elim
 |norm=>exact fin (.inl rfl) h2
 |ret=>exact fin (.inr rfl) h2
def DY(res:List Rs)(K:TV→St→Prop):Ex→Env→St→Prop
 | .exit _,_,_=>False
 |_,e,σ=>wpO ((EP e σ res).bind O2) fun v=>K v σ
theorem cS(res:List Rs)(K:TV→St→Prop)(e:Env)(σ:St):DY res K .ret e σ=wpO ((EP e σ res).bind O2) fun v=>K v σ:=rfl
theorem z6(res:List Rs)(K:TV→St→Prop)(e:Env)(σ:St):DY res K .norm e σ=wpO ((EP e σ res).bind O2) fun v=>K v σ:=rfl
theorem ZE{g:FuncId}{fc:FnC}(hf:S.fb g=some fc){args:List TV}(hn:args.length=fc.np){σ:St}{K:TV→St→Prop}(h:wp S false fc.body (Env.init args) σ (DY fc.res K)):
  ∃v σ',eS S (.f g) args σ=some (v,σ')∧K v σ':=by
 obtain⟨n,⟨ex,e',σ'⟩,h1,h2⟩:=h
 have fin:(ex= .norm∨ex= .ret)→wpO ((EP e' σ' fc.res).bind O2) (fun v=>K v σ')→∃v σ',eS S (.f g) args σ=some (v,σ')∧K v σ':=by
  rintro hx ⟨v,h3,h4⟩
  obtain⟨vs,h5,h6⟩:=pT h3
  exact⟨v,σ',jc S hf hn ⟨n,_,h1,hx,vs,h5,h6,rfl⟩,h4⟩
 cases ex with
 |exit id=>exact h2.elim
 |norm=>exact fin (.inl rfl) h2
 |ret=>exact fin (.inr rfl) h2
theorem fI(σ:St)(f:FuncId)(caps:List Key):frA σ (.fn f caps)=none:=rfl
theorem klA_p(σ:St)(v:PV):klA σ (.p v)=σ:=rfl
theorem Sz(σ:St):klA σ .nil=σ:=rfl
theorem WS(σ:St)(s:Key)(o l:Nat):klA σ (.own s o l)=σ.kill s:=rfl
theorem VK{rd:Bool}{c:C}{Q:Ex→Env→St→Prop}(I:Nat→Env→St→Prop)
  (h:∀k e σ,I k e σ→wp S rd c e σ fun x e' σ'=>match x with| .norm=>∃j,j<k∧I j e' σ'|x=>Q x e' σ'):∀(k:Nat) (e:Env) (σ:St),I k e σ→wp S rd (.loop c) e σ Q:=by
 intro k
 induction k using Nat.strongRecOn with
 |_ k ih=>
  intro e σ hI
  rw[oi]
  refine wp_mono (h k e σ hI) fun x e' σ' q=>?_
  cases x with
  |norm=>obtain⟨j,hj,hI'⟩:=q;exact ih j hj e' σ' hI'
  |exit id=>exact q
  |ret=>exact q
end Go.Fx
set_option linter.defProp false
namespace Go.Fx
def fxa:=And.intro (@o7) (And.intro (@x_reg) (And.intro (@Ff) (And.intro (@qF) (And.intro (@x_ret) (And.intro (@Rl) (And.intro (@x_if) (And.intro (@CW) (And.intro (@oR) (And.intro (@pt) (And.intro (@Bq) (And.intro (@CP) (And.intro (@Pu) (And.intro (@UH) (And.intro (@RK) (And.intro (@evI_g) (And.intro (@evG_u) (And.intro (@evG_b) (And.intro (@UZ) (And.intro (@xD) (And.intro (@Ox) (And.intro (@mT) (And.intro (@ev_t) (And.intro (@ev_c) (And.intro (@ev_f) (And.intro (@WD) (And.intro (@jd) (And.intro (@Zq) (And.intro (@Mq) (And.intro (@Bv) (And.intro (@nG) (And.intro (@xL) (And.intro (@Rt) (And.intro (@wG) (And.intro (@Sn) (And.intro (@ME) (And.intro (@IQ) (And.intro (@Sx) (And.intro (@Wl) (And.intro (@ZH) (And.intro (@S6) (And.intro (@Ja) (And.intro (@eW) (And.intro (@YA) (And.intro (@Sr) (And.intro (@zL) (And.intro (@qD) (And.intro (@cZ) (And.intro (@fZ) (And.intro (@bT) (And.intro (@V2) (And.intro (@zZ) (And.intro (@cS) (And.intro (@z6) (And.intro (@ES) (And.intro (@fI) (And.intro (@klA_p) (And.intro (@Sz) (And.intro (@WS) (And.intro (@Zs) (And.intro (@xG) (And.intro (@yh) (And.intro (@Rr) (And.intro (@Zg) (And.intro (@Xs) (And.intro (@E0) (And.intro (@QB) (And.intro (@Jh) (And.intro (@S7) (And.intro (@gU) (And.intro (@La) (And.intro (@Rz) (And.intro (@frA_p) (And.intro (@kj) (And.intro (@Ya) (And.intro (@klL_p) (@zM))))))))))))))))))))))))))))))))))))))))))))))))))))))))))))))))))))))))))))
def fxb:=And.intro (@wA) (And.intro (@Option.bind_none) (And.intro (@lT) (And.intro (@List.getD_cons_zero) (And.intro (@List.getD_cons_succ) (And.intro (@List.getD_nil) (And.intro (@Ce) (And.intro (@sI) (And.intro (@mB) (And.intro (@zx) (And.intro (@XM) (And.intro (@yA) (And.intro (@Bg) (And.intro (@Rw) (And.intro (@om) (And.intro (@List.drop_nil) (And.intro (@List.take_nil) (And.intro (@Fy) (And.intro (@Ln) (And.intro (@ZP) (And.intro (@and_true) (And.intro (@true_and) (And.intro (@and_false) (And.intro (@false_and) (And.intro (@and_self) (And.intro (@WQ) (And.intro (@J6) (And.intro (@qp) (And.intro (@decide_true) (And.intro (@decide_false) (And.intro (@Bool.and_false) (And.intro (@iS) (And.intro (@Bool.or_true) (And.intro (@Bool.true_or) (And.intro (@SY) (And.intro (@KF) (And.intro (@List.all_nil) (And.intro (@List.any_cons) (And.intro (@List.any_nil) (And.intro (@cj) (And.intro (@List.replicate_zero) (And.intro (@List.set_cons_zero) (And.intro (@Hh) (And.intro (@Es) (And.intro (@Qg) (And.intro (@Bool.and_self) (And.intro (@Bool.and_true) (And.intro (@Pn) (And.intro (@Bool.or_self) (And.intro (@Bool.or_false) (And.intro (@fF) (And.intro (@SZ) (And.intro (@Nat.lt_add_one) (@nh)))))))))))))))))))))))))))))))))))))))))))))))))))))
def fxc:=fxb.{0,0,0,0,0,0,0,0,0,0,0,0,0,0,0,0,0,0,0,0,0,0,0,0,0,0,0,0,0,0,0,0,0,0,0}
variable{S:Seat}
def LQ(I:Env→St→Prop)(Q:Ex→Env→St→Prop):Ex→Env→St→Prop
 | .norm,e,σ=>I e σ
 |x,e,σ=>Q x e σ
theorem o0(I:Env→St→Prop)(Q:Ex→Env→St→Prop)(e:Env)(σ:St):LQ I Q .norm e σ=I e σ:=rfl
theorem ZS(I:Env→St→Prop)(Q:Ex→Env→St→Prop)(id:Nat)(e:Env)(σ:St):LQ I Q (.exit id) e σ=Q (.exit id) e σ:=rfl
theorem SJ(I:Env→St→Prop)(Q:Ex→Env→St→Prop)(e:Env)(σ:St):LQ I Q .ret e σ=Q .ret e σ:=rfl
theorem Fs{rd:Bool}{c:C}{Q:Ex→Env→St→Prop}(n:Nat)(I:Nat→Env→St→Prop){i0:Nat}{e:Env}{σ:St}(h0:i0≤n)(hI:I i0 e σ)
  (step:∀i e σ,i<n→I i e σ→wp S rd c e σ (LQ (I (i+1)) Q))
  (fin:∀e σ,I n e σ→wp S rd c e σ (LQ (fun _ _=>False) Q)):wp S rd (.loop c) e σ Q:=by
 refine VK (fun k e σ=>∃i,i+k=n∧I i e σ) (fun k e σ hk=>?_) (n-i0) e σ ⟨i0,by omega,hI⟩
 obtain⟨i,hi,hI⟩:=hk
 by_cases h:i<n
 ·refine wp_mono (step i e σ h hI) fun x e' σ' q=>?_
  cases x with
  |norm=>exact⟨k-1,by omega,i+1,by omega,q⟩
  |exit id=>exact q
  |ret=>exact q
 ·have:i=n:=by omega
  subst this
  refine wp_mono (fin e σ hI) fun x e' σ' q=>?_
  cases x with
  |norm=>exact q.elim
  |exit id=>exact q
  |ret=>exact q
theorem kZ{g:FuncId}{fc:FnC}(hf:S.fb g=some fc){args:List TV}(hn:args.length=fc.np){σ:St}{v0:TV}{σ0:St}(h:wp S false fc.body (Env.init args) σ (DY fc.res fun v σ'=>v=v0∧σ'=σ0)):
  eS S (.f g) args σ=some (v0,σ0):=by
 obtain⟨v,σ',h1,rfl,rfl⟩:=ZE hf hn h
 exact h1
theorem Zy{g:FuncId}{fc:FnC}(hf:S.fb g=some fc){args:List TV}(hn:args.length=fc.np){σ:St}{v0:TV}{R:St→Prop}(h:wp S false fc.body (Env.init args) σ (DY fc.res fun v σ'=>v=v0∧R σ')):
  ∃σ',eS S (.f g) args σ=some (v0,σ')∧R σ':=by
 obtain⟨v,σ',h1,rfl,h2⟩:=ZE hf hn h
 exact⟨σ',h1,h2⟩
noncomputable def bool(P:Prop):Bool:= @decide P (Classical.propDecidable P)
theorem Vz{P:Prop}:bool P=true↔P:=by unfold bool;exact @decide_eq_true_iff P (Classical.propDecidable P)
theorem Pb{P:Prop}(h:P):bool P=true:=Vz.2 h
theorem qy{P:Prop}(h:¬P):bool P=false:=by cases e:bool P;rfl;exact absurd (Vz.1 e) h
theorem wK{P R:Prop}(h:P↔R):bool P=bool R:=by rw[propext h]
def RB(P:Prop)(r:PT):Prop:=r= .a (.b (bool P))
theorem RB_t(P:Prop):RB P (.a (.b true))=P:=by
 unfold RB;simp only[PT.a.injEq,PV.b.injEq];exact propext ⟨fun h=>Vz.1 h.symm,fun h=>(Pb h).symm⟩
theorem RB_f(P:Prop):RB P (.a (.b false))=¬P:=by
 unfold RB;simp only[PT.a.injEq,PV.b.injEq];exact propext ⟨fun h hp=>(by rw[Pb hp]at h;cases h),fun h=>(qy h).symm⟩
theorem RB_b(P:Prop)(b:Bool):RB P (.a (.b b))=(b=true↔P):=by
 cases b
 ·rw[RB_f];simp
 ·rw[RB_t];simp
theorem ml{g:FuncId}(ho:∀ps,S.orc g ps=none){fc:FnC}(hf:S.fb g=some fc){ps:List PT}(hn:ps.length=fc.np){P:Prop}
  (h:wp S false fc.body (Env.init (ps.map cV)) .empty (LH fc.res (RB P))):eP S g ps=some (.a (.b (bool P))):=by
 obtain⟨r,h1,h2⟩:=xI ho hf hn h
 rw[h1,h2]
end Go.Fx
namespace Go.Fx
open Go.RowKit
def uT(P:Program):Nat→TypeId→Prop
 |0,t=>∃k,P.underlying t=some (.int k)
 |1,t=>P.underlying t=some .string
 |_,_=>False
def eJ(P:Program):List Field→List Nat→Nat→Prop
 |[],[],_=>True
 |f::fs,c::sh,o=>f.name≠ "_"∧f.offset=o∧uT P c f.type∧eJ P fs sh (o+1)
 |_,_,_=>False
section
variable{P:Program}{m:Mt}{σ:St}{w:World}
theorem Uq{c:Nat}{t:TypeId}(h:uT P c t)(w:World):(isAgg t).run P w= .ok false w:=by
 match c,h with
 |0,⟨k,h⟩=>simp[isAgg,run_underlying h]
 |1,h=>have h:P.underlying t=some .string:=h;simp[isAgg,run_underlying h]
theorem eK{c:Nat}{t:TypeId}(h:uT P c t)(w:World){xs:Array Value}{o:Nat}{v:Value}(hv:xs[o]? =some v):(part t xs o).run P w= .ok v w:=by
 simp only[part,Sem.run_bind,Uq h w,Result.andThen_ok,SY,if_false,hv,Sem.run_pure]
theorem iN{c:Nat}{t:TypeId}(h:uT P c t)(d:Nat){x y:AV}{u v:Value}(hx:RA m σ w x u)(hy:RA m σ w y v){sh:List Nat}{as cs:List AV}{r:Bool}(he:oz (c::sh) (x::as) (y::cs)=some r):
  ∃s r',oz sh as cs=some r'∧r=(s&&r')∧∀w',(Op.equalIn (d+1) t u v).run P w'= .ok s w':=by
 match c,h with
 |0,⟨k,h⟩=>
  unfold oz at he
  split at he
  ·rename_i heq;cases heq
  ·rename_i h1 h2 h3
   simp only[KB,true_and]at h1 h2 h3
   obtain⟨rfl,rfl⟩:=h2
   obtain⟨rfl,rfl⟩:=h3
   subst h1
   split at he
   ·rename_i hk
    obtain⟨z,hz,he⟩:=pT he
    simp only[Lo]at he
    cases hx;cases hy
    subst hk
    refine⟨_,z,hz,he.symm,fun w'=>?_⟩
    rw[run_equalIn_int w' d t _ k _ _ h]
    congr 1
   ·cases he
  ·rename_i h1 _ _;simp at h1
  ·rename_i h1 _ _;simp at h1
  ·cases he
 |1,h=>
  have h:P.underlying t=some .string:=h
  unfold oz at he
  split at he
  ·rename_i heq;cases heq
  ·rename_i h1 _ _;simp at h1
  ·rename_i h1 h2 h3
   simp only[KB,true_and]at h1 h2 h3
   obtain⟨rfl,rfl⟩:=h2
   obtain⟨rfl,rfl⟩:=h3
   subst h1
   obtain⟨z,hz,he⟩:=pT he
   simp only[Lo]at he
   cases hx;cases hy
   refine⟨_,z,hz,he.symm,fun w'=>?_⟩
   rw[run_equalIn_string w' d t _ _ h]
   congr 1
   rw[ByteArray.toList_eq,ByteArray.toList_eq]
   exact Gy.2 (by simp)
  ·rename_i h1 _ _;simp at h1
  ·cases he
theorem Nr(d:Nat):∀(fs:List Field) (sh:List Nat) (o:Nat) (as cs:List AV) (xs ys pre pre':List Value) (r:Bool),eJ P fs sh o→pre.length=o→pre'.length=o→F2 (RA m σ w) as xs→F2 (RA m σ w) cs ys→
  oz sh as cs=some r→∀w',(Op.eqFields (d+1) (pre++xs).toArray (pre'++ys).toArray fs).run P w'= .ok r w'
 |[],[],o,as,cs,xs,ys,pre,pre',r,hf,hp,hp',hx,hy,he,w'=>by
  cases as<;>cases cs<;>simp[oz]at he
  subst he
  simp[Op.eqFields]
 |[],_::_,_,_,_,_,_,_,_,_,hf,_,_,_,_,_,_=>hf.elim
 |_::_,[],_,_,_,_,_,_,_,_,hf,_,_,_,_,_,_=>hf.elim
 |f::fs,c::sh,o,as,cs,xs,ys,pre,pre',r,hf,hp,hp',hx,hy,he,w'=>by
  obtain⟨h1,h2,h3,h4⟩:=hf
  cases hx with
  |nil=>cases c with|zero=>simp[oz]at he|succ c=>cases c with|zero=>simp[oz]at he|succ c=>exact h3.elim
  |cons x hx=>
   cases hy with
   |nil=>cases c with|zero=>simp[oz]at he|succ c=>cases c with|zero=>simp[oz]at he|succ c=>exact h3.elim
   |cons y hy=>
    rename_i a u as xs b v cs ys
    obtain⟨s,r',k1,rfl,k2⟩:=iN (P:=P) h3 d x y he
    have g1:(pre++u::xs).toArray[f.offset]? =some u:=by simp[h2,←hp]
    have g2:(pre'++v::ys).toArray[f.offset]? =some v:=by simp[h2,←hp']
    have ih:=Nr d fs sh (o+1) as cs xs ys (pre++[u]) (pre'++[v]) r' h4 (by simp[hp]) (by simp[hp']) hx hy k1 w'
    simp only[qg,Hh,Es]at ih
    simp only[Op.eqFields,if_pos h1,Sem.run_bind,eK h3 w' g1,eK h3 w' g2,k2 w',Result.andThen_ok]
    cases s
    ·simp[Sem.run_pure]
    ·simp only[WQ,SY,if_false,Pn];exact ih
theorem Yq{t:TypeId}{fs:Array Field}{sh:List Nat}(ht:P.underlying t=some (.struct fs))(hp:P.stoodInHeld t=false)(hg:P.eqGuardType P.depth t=false)(hf:eJ P fs.toList sh 0)
  (as cs:List AV) (r:Bool) (he:oz sh as cs=some r) (m:Mt) (σ:St) (w:World) (xs ys:List Value) (hx:F2 (RA m σ w) as xs) (hy:F2 (RA m σ w) cs ys):
  ∀(w':World),(Op.equal t (.agg xs.toArray) (.agg ys.toArray)).run P w'= .ok r w'∧∀op ox oy,(eqGuard op t ox oy (.agg xs.toArray) (.agg ys.toArray)).run P w'= .ok () w':=by
 intro w'
 have hfs:P.fieldsOf t=fs:=by unfold Program.fieldsOf;rw[ht]
 refine⟨?_,fun op ox oy=>run_eqGuard_agg w' op t ox oy _ _ hg⟩
 have h1:=run_equalIn_struct w' 9999 t xs.toArray ys.toArray (by rw[hfs];exact ht) hp
 have h2:=Nr (P:=P) (m:=m) (σ:=σ) (w:=w) 9998 fs.toList sh 0 as cs xs ys [] [] r hf rfl rfl hx hy he w'
 rw[hfs]at h1
 exact h1.trans h2
end
end Go.Fx
namespace Go.Fx
open Go.RowKit
section
variable{P:Program}{m:Mt}{σ:St}{w:World}
theorem SH{e:TypeId}{k:IntKind}(he:P.underlying e=some (.int k))(d:Nat):∀(n o:Nat) (as cs:List AV) (xs ys pre pre':List Value) (r:Bool),pre.length=o→pre'.length=o→F2 (RA m σ w) as xs→F2 (RA m σ w) cs ys→
  oz (List.replicate n 0) as cs=some r→∀w',(Op.eqItems (d+1) e 1 (pre++xs).toArray (pre'++ys).toArray (List.range' o n)).run P w'= .ok r w'
 |0,o,as,cs,xs,ys,pre,pre',r,hp,hp',hx,hy,hc,w'=>by
  cases as<;>cases cs<;>simp[oz]at hc
  subst hc
  simp[Op.eqItems]
 |n+1,o,as,cs,xs,ys,pre,pre',r,hp,hp',hx,hy,hc,w'=>by
  rw[cj]at hc
  cases hx with
  |nil=>simp[oz]at hc
  |cons x hx=>
   cases hy with
   |nil=>simp[oz]at hc
   |cons y hy=>
    rename_i a u as xs b v cs ys
    have hs:uT P 0 e:=⟨k,he⟩
    obtain⟨s,r',k1,rfl,k2⟩:=iN (P:=P) hs d x y hc
    have g1:(pre++u::xs).toArray[o*1]? =some u:=by simp[←hp]
    have g2:(pre'++v::ys).toArray[o*1]? =some v:=by simp[←hp']
    have ih:=SH he d n (o+1) as cs xs ys (pre++[u]) (pre'++[v]) r' (by simp[hp]) (by simp[hp']) hx hy k1 w'
    simp only[qg,Hh,Es]at ih
    simp only[Yk,Op.eqItems,Sem.run_bind,eK hs w' g1,eK hs w' g2,k2 w',Result.andThen_ok]
    cases s
    ·simp[Sem.run_pure]
    ·simp only[WQ,SY,if_false,Pn];exact ih
theorem Q8{t e:TypeId}{n:Nat}{k:IntKind}{sh:List Nat}(ht:P.underlying t=some (.array n e))(he:P.underlying e=some (.int k))(hi:(P.info? e).isSome=true)(hc:P.cellsOf e=1)(hsh:sh=List.replicate n 0)(hg:P.eqGuardType P.depth t=false)
  (as cs:List AV) (r:Bool) (hr:oz sh as cs=some r) (m:Mt) (σ:St) (w:World) (xs ys:List Value) (hx:F2 (RA m σ w) as xs) (hy:F2 (RA m σ w) cs ys):
  ∀(w':World),(Op.equal t (.agg xs.toArray) (.agg ys.toArray)).run P w'= .ok r w'∧∀op ox oy,(eqGuard op t ox oy (.agg xs.toArray) (.agg ys.toArray)).run P w'= .ok () w':=by
 intro w'
 subst hsh
 obtain⟨i,hi⟩:=wT.1 hi
 refine⟨?_,fun op ox oy=>run_eqGuard_agg w' op t ox oy _ _ hg⟩
 have h1:=run_equalIn_array (P:=P) (w:=w') 9999 xs.toArray ys.toArray ht hi
 have h2:=SH (P:=P) (m:=m) (σ:=σ) (w:=w) he 9998 n 0 as cs xs ys [] [] r rfl rfl hx hy hr w'
 rw[hc,List.range_eq_range']at h1
 exact h1.trans h2
end
end Go.Fx
set_option linter.defProp false
namespace Go.Fx
theorem iX(σ:St)(s:Key)(i j:Nat):frA σ (.ptr s i j)=none:=rfl
def fxE:=And.intro (@frV.eq_1) (And.intro (@frV.eq_2) (And.intro (@klV.eq_1) (And.intro (@klV.eq_2) (And.intro (@oz.eq_1) (And.intro (@oz.eq_2) (And.intro (@oz.eq_3) (And.intro (@oz.eq_4) (And.intro (@oz.eq_5) (And.intro (@EP.eq_1) (And.intro (@EP.eq_2) (And.intro (@Kt.eq_1) (And.intro (@Kt.eq_2) (And.intro (@KW.eq_1) (And.intro (@KW.eq_2) (And.intro (@frL.eq_1) (And.intro (@frL.eq_2) (And.intro (@evO.bslRows.eq_1) (And.intro (@evO.bslRows.eq_2) (And.intro (@I2.eq_1) (And.intro (@I2.eq_2) (And.intro (@klL.eq_1) (And.intro (@klL.eq_2) (And.intro (@Qi) (And.intro (@o0) (And.intro (@ZS) (And.intro (@SJ) (And.intro (@RB_t) (And.intro (@RB_f) (@RB_b)))))))))))))))))))))))))))))
theorem fxL{α:Type}:(∀(a:α) (l:List α),(a::l)[0]? =some a)∧(∀(a:α) (l:List α) (i:Nat),(a::l)[i+1]? =l[i]?)∧(∀(x:α) (xs:List α) (i:Nat) (a:α),(x::xs).set (i+1) a=x::xs.set i a):=
 ⟨fun _ _=>aT,fun _ _ _=>cw,fun _ _ _ _=>DV⟩
theorem fxI:(∀n:Nat,(n:Int).toNat=n)∧(∀p:Prop,(False↔p)=¬p)∧(∀p:Prop,(True↔p)=p)∧(¬False)=True:=
 ⟨KA,fun p=>by simp,fun p=>by simp,by simp⟩
end Go.Fx
end
