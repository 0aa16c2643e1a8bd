/- Part 6 of what is proved for the law PairsOrder: it returns true,whatever the input. No condition. -/
import Derived.Test.YtkpfjolcmkikeaaChecked
import Derived.Test.YtkpfjolcmkikeaaRows
import Derived.Test.YtkpfjolcmkikeaaPPairsOrdere
section
set_option linter.unusedSimpArgs false
set_option linter.unusedVariables false
set_option maxHeartbeats 4000000
namespace Go.Proofs.Ytkpfjolcmkikeaa
open Go.Fx
def OKo (W : Nm → Prop) (o : AO) : Prop := o.own W ∧ o.ok
section
variable {W : Nm → Prop}
theorem okL_mk {x : Nd} {l : List Nm} (h : ∀ u ∈ l,W u) : ∀ o ∈ mkA x l,OKo W o := fun o ho => by
  unfold mkA at ho
  obtain ⟨u,hu,rfl⟩ := List.mem_map.1 ho
  exact ⟨h u hu,trivial⟩
theorem okL_drop : ∀ (l : List NP) (ds : List Nm),(∀ p ∈ l,W p.1 ∧ ∀ d ∈ ds,p.1 ≠ d) → (∀ d ∈ ds,W d) → ∀ o ∈ dropA l ds,OKo W o
  | [],ds,_,_,o,ho => by simp [dropA] at ho
  | _ :: _,[],_,_,o,ho => by simp [dropA] at ho
  | p :: l,d :: ds,h1,h2,o,ho => by
    have e : dropA (p :: l) (d :: ds) = .mv p (d,0) :: dropA l ds := rfl
    rw [e,List.mem_cons] at ho
    rcases ho with rfl | ho
    · exact ⟨⟨(h1 p (by simp)).1,h2 d (by simp)⟩,fun k => (h1 p (by simp)).2 d (by simp) (by rw [k])⟩
    · exact okL_drop l ds (fun q hq => ⟨(h1 q (by simp [hq])).1,fun d hd => (h1 q (by simp [hq])).2 d (by simp [hd])⟩) (fun d hd => h2 d (by simp [hd])) o ho
theorem okL_join {X Y : Nm} (hX : W X) (hY : W Y) (hne : X ≠ Y) (l : List Nat) : ∀ o ∈ joinA X Y l,OKo W o := fun o ho => by
  unfold joinA at ho
  obtain ⟨s,_,rfl⟩ := List.mem_map.1 ho
  exact ⟨⟨hX,hY⟩,fun k => hne (by injection k)⟩
theorem okL_pick {X Y : Nm} (hX : W X) (hY : W Y) : ∀ (ds : List Nm) (i : Nat),(∀ d ∈ ds,W d ∧ d ≠ X ∧ d ≠ Y) → ∀ o ∈ pickA X Y i ds,OKo W o
  | [],i,_,o,ho => by simp [pickA] at ho
  | [d],i,h,o,ho => by
    obtain ⟨h1,h2,h3⟩ := h d (by simp)
    have e : pickA X Y i [d] = [.mv (Y,(i : Int) + 1) (d,2),.mv (X,1) (d,1)] := rfl
    rw [e] at ho
    simp only [List.mem_cons,List.not_mem_nil,or_false] at ho
    rcases ho with rfl | rfl
    · exact ⟨⟨hY,h1⟩,fun k => h3 (by injection k with k; exact k.symm)⟩
    · exact ⟨⟨hX,h1⟩,fun k => h2 (by injection k with k; exact k.symm)⟩
  | d :: e :: r,i,h,o,ho => by
    obtain ⟨h1,h2,h3⟩ := h d (by simp)
    obtain ⟨g1,g2,g3⟩ := h e (by simp)
    have ee : pickA X Y i (d :: e :: r) = .mv (Y,(i : Int) + 1) (d,2) :: .ln (d,1) (e,0) :: pickA X Y (i + 1) (e :: r) := rfl
    rw [ee] at ho
    simp only [List.mem_cons] at ho
    rcases ho with rfl | rfl | ho
    · exact ⟨⟨hY,h1⟩,fun k => h3 (by injection k with k; exact k.symm)⟩
    · exact ⟨⟨h1,g1⟩,fun k => by injection k with _ k; omega⟩
    · exact okL_pick hX hY (e :: r) (i + 1) (fun u hu => h u (by simp only [List.mem_cons] at hu ⊢; exact .inr hu)) o ho
theorem okL_ln {t : Nm} (ht : W t) {k : Nat} : ∀ (cs : List Nm) (i : Nat),(∀ c ∈ cs,W c ∧ t ≠ c) → ∀ o ∈ lnA t k i cs,OKo W o
  | [],i,_,o,ho => by simp [lnA] at ho
  | c :: r,i,h,o,ho => by
    have e : lnA t k i (c :: r) = .ln (t,(i : Int) + 1) (c,(k : Int) + 1) :: lnA t k (i + 1) r := rfl
    rw [e,List.mem_cons] at ho
    rcases ho with rfl | ho
    · exact ⟨⟨ht,(h c (by simp)).1⟩,fun k => (h c (by simp)).2 (by injection k)⟩
    · exact okL_ln ht r (i + 1) (fun u hu => h u (by simp [hu])) o ho
theorem okL_pass {Y : Nm} (hY : W Y) {cs : List Nm} (hcs : ∀ c ∈ cs,W c) : ∀ (ts : List Nm) (k : Nat),(∀ t ∈ ts,W t ∧ Y ≠ t ∧ ∀ c ∈ cs,t ≠ c) → ∀ o ∈ passA Y cs k ts,OKo W o
  | [],k,_,o,ho => by simp [passA] at ho
  | t :: r,k,h,o,ho => by
    obtain ⟨h1,h2,h3⟩ := h t (by simp)
    have e : passA Y cs k (t :: r) = .mv (Y,(k : Int) + 1) (t,0) :: (lnA t k 0 cs ++ passA Y cs (k + 1) r) := rfl
    rw [e,List.mem_cons,List.mem_append] at ho
    rcases ho with rfl | ho | ho
    · exact ⟨⟨hY,h1⟩,fun k => h2 (by injection k)⟩
    · exact okL_ln h1 cs 0 (fun c hc => ⟨hcs c hc,h3 c hc⟩) o ho
    · exact okL_pass hY hcs r (k + 1) (fun u hu => h u (by simp [hu])) o ho
end
theorem mem_namP {u : Nm} {j k : Nat} {p : NP} (h : p ∈ namP u j k) : p.1 = u := by
  unfold namP at h
  obtain ⟨s,_,rfl⟩ := List.mem_map.1 h; rfl
def WA (X Y : Nm) (tag : Nat) (u : Nm) : Prop := u = X ∨ u = Y ∨ u.1 = tag
theorem seqA_ok {p : Pl} {dx dy : Nd} {X Y : Nm} {tag : Nat} (hXY : X ≠ Y) (hX : X.1 ≠ tag) (hY : Y.1 ≠ tag) (ha : p.k = 2 → p.alt ≠ -1) : ∀ o ∈ seqA p dx dy X Y tag,OKo (WA X Y tag) o := by
  have wX : WA X Y tag X := .inl rfl
  have wY : WA X Y tag Y := .inr (.inl rfl)
  have wN : ∀ j k,∀ u ∈ namesA tag j k,WA X Y tag u := fun j k u hu => .inr (.inr (mem_namesA.1 hu).1)
  have nX : ∀ j k,∀ u ∈ namesA tag j k,X ≠ u := fun j k u hu e => hX (by rw [e]; exact (mem_namesA.1 hu).1)
  have nY : ∀ j k,∀ u ∈ namesA tag j k,Y ≠ u := fun j k u hu e => hY (by rw [e]; exact (mem_namesA.1 hu).1)
  have w0 : WA X Y tag (tag,0) := .inr (.inr rfl)
  have x0 : ∀ s t : Int,((X,s) : NP) ≠ ((tag,0),t) := fun s t e => hX (by injection e with e _; rw [e])
  have mem2 : ∀ {l m : List AO},(∀ o ∈ l,OKo (WA X Y tag) o) → (∀ o ∈ m,OKo (WA X Y tag) o) → ∀ o ∈ l ++ m,OKo (WA X Y tag) o := fun h1 h2 o ho => (List.mem_append.1 ho).elim (h1 o) (h2 o)
  unfold seqA
  split
  · exact okL_join wX wY hXY _
  split
  · rename_i h2
    refine mem2 (okL_mk (wN _ _)) (mem2 (okL_mk (wN _ _)) (mem2 (fun o ho => ?_) (mem2 (okL_pick wX wY _ _ fun d hd => ⟨wN _ _ d hd,(nX _ _ d hd).symm,(nY _ _ d hd).symm⟩) (okL_drop _ _ (fun q hq => ?_) (wN _ _)))))
    · split at ho
      · rw [List.mem_singleton] at ho
        subst ho
        exact ⟨⟨wX,wX⟩,fun k => by injection k with _ k; have := ha h2; omega⟩
      · rename_i d r hd
        rw [List.mem_singleton] at ho
        subst ho
        have hdm : d ∈ namesA tag 0 (dx.al.getD p.alt.toNat zA).n.toNat := by rw [hd]; simp
        exact ⟨⟨wX,wN _ _ d hdm⟩,fun k => nX _ _ d hdm (by injection k)⟩
    · have e := mem_namP (List.mem_filter.1 hq).1
      rw [e]
      exact ⟨wX,fun d hd => nX _ _ d hd⟩
  split
  · intro o ho
    simp only [List.mem_cons,List.not_mem_nil,or_false] at ho
    rcases ho with rfl | rfl | rfl
    · exact ⟨w0,trivial⟩
    · exact ⟨⟨wX,w0⟩,x0 _ _⟩
    · exact ⟨⟨wX,w0⟩,x0 _ _⟩
  split
  · intro o ho
    simp only [List.mem_cons,List.not_mem_nil,or_false] at ho
    rcases ho with rfl | rfl
    · exact ⟨w0,trivial⟩
    · exact ⟨⟨wX,w0⟩,x0 _ _⟩
  split
  · intro o ho
    rw [List.mem_cons] at ho
    rcases ho with rfl | ho
    · exact ⟨w0,trivial⟩
    refine mem2 (okL_mk (wN _ _)) (fun o ho => ?_) o ho
    rw [List.mem_cons] at ho
    rcases ho with rfl | ho
    · exact ⟨⟨wX,w0⟩,x0 _ _⟩
    refine okL_drop _ _ (fun q hq => ?_) (wN _ _) o ho
    rcases List.mem_append.1 hq with hq | hq
    · rw [mem_namP hq]; exact ⟨wX,fun d hd => nX _ _ d hd⟩
    · rw [mem_namP hq]; exact ⟨wY,fun d hd => nY _ _ d hd⟩
  split
  · refine mem2 (okL_mk (wN _ _)) (mem2 (okL_mk (wN _ _)) (mem2 (okL_drop _ _ (fun q hq => ?_) (wN _ _)) (okL_pass wY (wN _ _) _ _ fun t ht => ⟨wN _ _ t ht,nY _ _ t ht,fun c hc e => ?_⟩)))
    · rw [mem_namP hq]; exact ⟨wX,fun d hd => nX _ _ d hd⟩
    · have h1 := (mem_namesA.1 ht).2.1
      have h2 := (mem_namesA.1 hc).2.2
      rw [e] at h1; omega
  split
  · refine mem2 (okL_mk (wN _ _)) (okL_drop _ _ (fun q hq => ?_) (wN _ _))
    rw [mem_namP hq]; exact ⟨wY,fun d hd => nY _ _ d hd⟩
  · simp
theorem stepA_ok {p : Pl} {dx dy : Nd} {X Y U V : Nm} {tag : Nat} (hXY : X ≠ Y) (hX : X.1 ≠ tag) (hY : Y.1 ≠ tag) (ha : p.k = 2 → p.alt ≠ -1) (hU : U = X ∨ U = Y) (hV : V = X ∨ V = Y) : ∀ o ∈ stepA p dx dy X Y U V tag,o.own (WA X Y tag) ∧ o.ok := by
  intro o ho
  unfold stepA at ho
  rw [List.mem_cons,List.mem_append] at ho
  rcases ho with rfl | ho | ho
  · exact ⟨⟨.inl rfl,.inr (.inl rfl)⟩,fun k => hXY (by injection k)⟩
  · exact seqA_ok hXY hX hY ha o ho
  · simp only [List.mem_cons,List.not_mem_nil,or_false] at ho
    rcases ho with rfl | rfl
    · exact ⟨hU.elim .inl fun e => .inr (.inl e),trivial⟩
    · exact ⟨hV.elim .inl fun e => .inr (.inl e),trivial⟩
theorem blank_of {x y : Nd} (h : blank y = blank x) : y = { x with to := y.to } ∧ y.to.length = x.to.length := by
  obtain ⟨a1,a2,a3,a4,a5,a6⟩ := x
  obtain ⟨b1,b2,b3,b4,b5,b6⟩ := y
  unfold blank at h
  simp only [Nd.mk.injEq] at h ⊢
  obtain ⟨h1,h2,h3,h4,h5,h6⟩ := h
  have := congrArg List.length h6
  simp only [List.length_replicate] at this
  exact ⟨⟨h1,h2,h3,h4,h5,trivial⟩,this⟩
theorem fresh_to {x : Nd} {t : List Pt} (h : t.length = x.to.length) : ({ x with to := t } : Nd).fresh = x.fresh := by
  unfold Nd.fresh
  rw [ports_to h]
theorem seqA_blank {p : Pl} {dx dy ex ey : Nd} {X Y : Nm} {tag : Nat} (h1 : blank ex = blank dx) (h2 : blank ey = blank dy) : seqA p ex ey X Y tag = seqA p dx dy X Y tag := by
  obtain ⟨g1,g2⟩ := blank_of h1
  obtain ⟨k1,k2⟩ := blank_of h2
  obtain ⟨t,ht⟩ : ∃ t,ex.to = t := ⟨_,rfl⟩
  obtain ⟨r,hr⟩ : ∃ r,ey.to = r := ⟨_,rfl⟩
  rw [ht] at g1 g2
  rw [hr] at k1 k2
  subst g1 k1
  have m1 : ∀ l,mkA ({ dx with to := t } : Nd) l = mkA dx l := fun l => by unfold mkA; rw [fresh_to g2]
  have m2 : ∀ l,mkA ({ ({ dy with to := r } : Nd) with lv := p.lv } : Nd) l = mkA ({ dy with lv := p.lv } : Nd) l := fun l => by
    unfold mkA
    have : ({ ({ dy with to := r } : Nd) with lv := p.lv } : Nd) = { ({ dy with lv := p.lv } : Nd) with to := r } := rfl
    rw [this,fresh_to (x := ({ dy with lv := p.lv } : Nd)) k2]
  unfold seqA
  simp only [g2,k2,m1]
  rw [show mkA ({ k := dy.k,lv := p.lv,n := dy.n,s := dy.s,al := dy.al,to := r } : Nd) = mkA ({ dy with lv := p.lv } : Nd) from funext m2]
  rfl
theorem stepA_blank {p : Pl} {dx dy ex ey : Nd} {X Y U V : Nm} {tag : Nat} (h1 : blank ex = blank dx) (h2 : blank ey = blank dy) : stepA p ex ey X Y U V tag = stepA p dx dy X Y U V tag := by
  unfold stepA; rw [seqA_blank h1 h2]
theorem ofR_blank {x y u v : Nd} (h1 : blank u = blank x) (h2 : blank v = blank y) : ofR u v = ofR x y := by
  obtain ⟨g1,g2⟩ := blank_of h1
  obtain ⟨k1,k2⟩ := blank_of h2
  rw [g1,k1,ofR_to g2 k2]
theorem do_rep {n m : Nt} {i : Int} {pl : Pl} (hd : DoneOk n i pl m) {ν : Int → Nm} {A : Ab} {tag : Nat} (hR : Rep ν n [] A) (hA : ∀ j,A.nd (tag,j) = none) :
    ∃ ν',Rep ν' m [] (runA A (stepA pl (n.nd (if pl.sw = true then meetR n i else i)) (n.nd (if pl.sw = true then i else meetR n i)) (ν (if pl.sw = true then meetR n i else i)) (ν (if pl.sw = true then i else meetR n i)) (ν (max i (meetR n i))) (ν (min i (meetR n i))) tag)) ∧ ∀ k,Us n k → k ≠ i → k ≠ meetR n i → ν' k = ν k := by
  have hM := hd.meet
  have px := hd.px
  have room := hd.room
  rw [hd.net]
  cases hsw : pl.sw with
  | true =>
    rw [hsw] at px
    simp only [if_true] at px ⊢
    unfold needR at room
    rw [hsw,if_pos rfl] at room
    obtain ⟨ν',r1,r2⟩ := step_rep (tag := tag) hM.swap px room hR hA
    refine ⟨ν',?_,fun k h1 h2 h3 => r2 k h1 h3 h2⟩
    rw [Int.max_comm i,Int.min_comm i]; exact r1
  | false =>
    rw [hsw] at px
    simp only [Bool.false_eq_true,if_false] at px ⊢
    unfold needR at room
    rw [hsw,if_neg (by simp)] at room
    obtain ⟨ν',r1,r2⟩ := step_rep (tag := tag) hM px room hR hA
    exact ⟨ν',r1,r2⟩
theorem plan_alt {x y : Nd} {p : Pl} (h : PlanX x y p) (hk : p.k = 2) : p.alt ≠ -1 := by
  cases h with
  | pick i B h1 hx hy h2 h3 h4 => omega
  | _ => omega
end Go.Proofs.Ytkpfjolcmkikeaa
end
section
set_option linter.unusedSimpArgs false
set_option linter.unusedVariables false
set_option maxHeartbeats 4000000
namespace Go.Proofs.Ytkpfjolcmkikeaa
open Go.Fx
theorem swapR_err (x : Pl × Int) : (swapR x).2 = x.2 := by
  unfold swapR
  split
  · rename_i h; exact h.symm
  · rfl
theorem ofR_sym (x y : Nd) : (ofR x y).2 = 0 ↔ (ofR y x).2 = 0 := by
  have cx := cls_le x.k
  have cy := cls_le y.k
  have key : ∀ a b : Nd,(ofR a b).2 = 0 → (ofR b a).2 = 0 := fun a b h => by
    unfold ofR at h ⊢
    by_cases h1 : cls a.k = 0 ∨ cls b.k = 0
    · rw [if_pos h1] at h; simp [noR] at h
    rw [if_neg h1] at h
    rw [if_neg (fun k => h1 k.symm)]
    by_cases h2 : cls b.k = 4
    · rw [if_pos h2]; rfl
    by_cases h3 : cls a.k = 4
    · rw [if_neg h2,if_pos h3,swapR_err]; rfl
    rw [if_neg h3,if_neg h2] at h
    rw [if_neg h2,if_neg h3]
    by_cases h4 : cls a.k = 3 ∧ cls b.k = 3 ∧ a.lv = b.lv ∧ a.k = b.k
    · rw [if_pos ⟨h4.2.1,h4.1,h4.2.2.1.symm,h4.2.2.2.symm⟩]; rfl
    rw [if_neg h4] at h
    rw [if_neg (fun k => h4 ⟨k.2.1,k.1,k.2.2.1.symm,k.2.2.2.symm⟩)]
    by_cases h5 : cls a.k = 3 ∧ (cls b.k ≠ 3 ∨ a.lv ≤ b.lv)
    · rw [if_pos h5] at h
      by_cases h6 : cls b.k = 3 ∧ (cls a.k ≠ 3 ∨ b.lv ≤ a.lv)
      · exfalso
        unfold passR at h
        rw [if_pos (by omega)] at h
        simp [noR] at h
      · rw [if_neg h6,if_pos h5.1,swapR_err]; exact h
    · rw [if_neg h5] at h
      by_cases h6 : cls b.k = 3
      · rw [if_pos h6,swapR_err] at h
        rw [if_pos (by refine ⟨h6,?_⟩; omega)]; exact h
      · rw [if_neg h6] at h
        have h7 : ¬ cls a.k = 3 := fun k => h5 ⟨k,.inl h6⟩
        rw [if_neg (fun k => h6 k.1),if_neg h7]
        by_cases h8 : cls a.k = 1 ∧ cls b.k = 2
        · rw [if_pos h8] at h
          rw [if_neg (by omega),if_pos ⟨h8.2,h8.1⟩,swapR_err]; exact h
        · rw [if_neg h8] at h
          by_cases h9 : cls a.k = 2 ∧ cls b.k = 1
          · rw [if_pos h9,swapR_err] at h
            rw [if_pos ⟨h9.2,h9.1⟩]; exact h
          · rw [if_neg h9] at h; simp [noR] at h
  exact ⟨key x y,key y x⟩
def mtB (n : Nt) (Q : Nd → Nd → Bool) (i : Nat) : Bool := n.has ⟨i,0⟩ && decide ((n.lk ⟨i,0⟩).s = 0) && Q (n.nd i) (n.nd (n.lk ⟨i,0⟩).n)
def mtL (n : Nt) (Q : Nd → Nd → Bool) : List Nat := (List.range n.ns.length).filter (mtB n Q)
theorem countP_fmP {α β : Type} (f : α → Option β) (p : β → Bool) : ∀ l : List α,((l.filterMap f).filter p).length = (l.filter fun a => match f a with | some b => p b | none => false).length
  | [] => rfl
  | a :: l => by
    have ih := countP_fmP f p l
    rw [List.filterMap_cons]
    cases h : f a with
    | none =>
      rw [List.filter_cons_of_neg (by simp [h])]
      exact ih
    | some b =>
      simp only
      by_cases hb : p b = true
      · rw [List.filter_cons_of_pos hb,List.filter_cons_of_pos (by simp [h,hb]),List.length_cons,List.length_cons,ih]
      · rw [List.filter_cons_of_neg hb,List.filter_cons_of_neg (by simp [h,hb]),ih]
theorem mt_two {n : Nt} (hG : n.Good) {Q : Nd → Nd → Bool} (hQ : ∀ x y,Q x y = Q y x) : (mtL n Q).length = 2 * (n.prs.filter fun p => Q (n.nd p.n) (n.nd p.s)).length := by
  obtain ⟨φ,hφ⟩ : ∃ φ : Nat → Nat,∀ i,φ i = (n.lk ⟨i,0⟩).n.toNat := ⟨_,fun _ => rfl⟩
  have inv : ∀ i,i ∈ mtL n Q → φ i ∈ mtL n Q ∧ φ (φ i) = i ∧ φ i ≠ i ∧ n.lk ⟨i,0⟩ = ⟨(φ i : Nat),0⟩ := fun i hi => by
    unfold mtL at hi
    rw [List.mem_filter,List.mem_range] at hi
    obtain ⟨h1,h2⟩ := hi
    unfold mtB at h2
    simp only [Bool.and_eq_true,decide_eq_true_eq] at h2
    obtain ⟨⟨g1,g2⟩,g3⟩ := h2
    obtain ⟨l1,l2,l3⟩ := good_link hG g1
    have hb := has_iff.1 l2
    have e : n.lk ⟨i,0⟩ = ⟨(φ i : Nat),0⟩ := by
      rw [hφ]
      obtain ⟨u,hu⟩ : ∃ u,n.lk ⟨i,0⟩ = u := ⟨_,rfl⟩
      rw [hu] at g2 hb ⊢
      obtain ⟨a,b⟩ := u
      simp only at g2 hb ⊢
      rw [g2]
      congr 1
      omega
    rw [e] at l1 l2 l3 g3 hb
    simp only at hb
    have eφ : φ (φ i) = i := by rw [hφ (φ i),l3]; simp
    refine ⟨?_,eφ,fun k => l1 (by rw [k]),e⟩
    unfold mtL
    rw [List.mem_filter,List.mem_range]
    refine ⟨by omega,?_⟩
    unfold mtB
    rw [l2,l3]
    simp only [Bool.true_and,decide_true]
    rw [hQ]; exact g3
  have hnd : (mtL n Q).Nodup := List.nodup_range.sublist List.filter_sublist
  have hpm : (((mtL n Q).filter fun i => decide (i < φ i)).map φ).Perm ((mtL n Q).filter fun i => !decide (i < φ i)) := by
    rw [List.perm_ext_iff_of_nodup ?_ (hnd.sublist List.filter_sublist)]
    · intro i
      rw [List.mem_map,List.mem_filter]
      constructor
      · rintro ⟨j,hj,rfl⟩
        rw [List.mem_filter] at hj
        obtain ⟨k1,k2,k3,_⟩ := inv j hj.1
        have := hj.2
        simp only [decide_eq_true_eq] at this
        refine ⟨k1,?_⟩
        simp only [Bool.not_eq_true',decide_eq_false_iff_not]
        omega
      · rintro ⟨h1,h2⟩
        simp only [Bool.not_eq_true',decide_eq_false_iff_not] at h2
        obtain ⟨k1,k2,k3,_⟩ := inv i h1
        refine ⟨φ i,?_,k2⟩
        rw [List.mem_filter]
        refine ⟨k1,?_⟩
        simp only [decide_eq_true_eq]
        omega
    · unfold List.Nodup
      rw [List.pairwise_map]
      refine (List.Pairwise.and_mem.1 (hnd.sublist List.filter_sublist)).imp fun {x y} h e => ?_
      obtain ⟨hx,hy,hne⟩ := h
      rw [List.mem_filter] at hx hy
      apply hne
      rw [← (inv x hx.1).2.1,e,(inv y hy.1).2.1]
  have hlen : ∀ (l : List Nat) (f : Nat → Bool),l.length = (l.filter f).length + (l.filter fun i => !f i).length := fun l f => by
    induction l with
    | nil => rfl
    | cons x l ih =>
      by_cases h : f x = true
      · rw [List.filter_cons_of_pos h,List.filter_cons_of_neg (by simp [h])]; simp only [List.length_cons]; omega
      · rw [List.filter_cons_of_neg h,List.filter_cons_of_pos (by simp [h])]; simp only [List.length_cons]; omega
  have h1 := hlen (mtL n Q) fun i => decide (i < φ i)
  have h2 := hpm.length_eq
  rw [List.length_map] at h2
  have h3 : (n.prs.filter fun p => Q (n.nd p.n) (n.nd p.s)).length = ((mtL n Q).filter fun i => decide (i < φ i)).length := by
    unfold Nt.prs prsTo
    rw [countP_fmP]
    unfold mtL
    rw [List.filter_filter]
    congr 1
    refine List.filter_congr fun i hi => ?_
    cases hp : n.pr i with
    | none =>
      simp only
      symm
      rw [Bool.and_eq_false_iff]
      by_cases hm : mtB n Q i = true
      · left
        have hi' : i ∈ mtL n Q := by unfold mtL; rw [List.mem_filter]; exact ⟨hi,hm⟩
        obtain ⟨k1,k2,k3,k4⟩ := inv i hi'
        unfold mtB at hm
        simp only [Bool.and_eq_true,decide_eq_true_eq] at hm
        unfold Nt.pr at hp
        rw [k4] at hp
        simp only [decide_eq_false_iff_not]
        intro hlt
        rw [if_pos ⟨hm.1.1,rfl,by show (i : Int) < (φ i : Nat); omega⟩] at hp
        cases hp
      · right; simpa using hm
    | some p =>
      obtain ⟨a1,a2,a3,a4⟩ := pr_spec hp
      simp only
      have ei : φ i = p.s.toNat := by rw [hφ,a3]
      have hlt : i < φ i := by rw [ei]; omega
      have hm : mtB n Q i = Q (n.nd p.n) (n.nd p.s) := by
        unfold mtB
        rw [a2,a3,a1]; simp
      rw [hm]; simp [hlt]
  omega
theorem mt_names {n m : Nt} {ν μ : Int → Nm} {A : Ab} (hn : n.Good) (hm : m.Good) (h1 : Rep ν n [] A) (h2 : Rep μ m [] A) {Q : Nd → Nd → Bool} (hQ : ∀ x y u v,blank u = blank x → blank v = blank y → Q u v = Q x y) : (mtL n Q).length = (mtL m Q).length := by
  have nod : ∀ {n : Nt} {ν : Int → Nm},n.Good → Rep ν n [] A → ((mtL n Q).map fun (i : Nat) => ν (i : Int)).Nodup := fun {n ν} hG h => by
    have hnd : (mtL n Q).Nodup := List.nodup_range.sublist List.filter_sublist
    unfold List.Nodup
    rw [List.pairwise_map]
    refine (List.Pairwise.and_mem.1 hnd).imp fun {x y} k e => ?_
    obtain ⟨hx,hy,hne⟩ := k
    have us : ∀ x,x ∈ mtL n Q → Us n (x : Int) := fun x hx => by
      unfold mtL at hx
      rw [List.mem_filter] at hx
      have := hx.2
      unfold mtB at this
      simp only [Bool.and_eq_true] at this
      exact us_has hG.semi this.1.1
    exact hne (by have := h.inj _ _ (us x hx) (us y hy) e; omega)
  have mem : ∀ {n m : Nt} {ν μ : Int → Nm},n.Good → m.Good → Rep ν n [] A → Rep μ m [] A → ∀ u,u ∈ (mtL n Q).map (fun (i : Nat) => ν (i : Int)) → u ∈ (mtL m Q).map (fun (i : Nat) => μ (i : Int)) := fun {n m ν μ} hn hm h1 h2 u hu => by
    obtain ⟨i,hi,rfl⟩ := List.mem_map.1 hu
    unfold mtL at hi
    rw [List.mem_filter] at hi
    have hb := hi.2
    unfold mtB at hb
    simp only [Bool.and_eq_true,decide_eq_true_eq] at hb
    obtain ⟨⟨g1,g2⟩,g3⟩ := hb
    have c1 := h1.cl _ g1 (by simp)
    obtain ⟨p,p1,_,p2⟩ := h2.out _ _ c1
    have c2 := h2.cl p p1 (by simp)
    rw [← p2,c1] at c2
    have c2 := Option.some.inj c2
    unfold nmP at p2 c2
    injection p2 with p2 p3
    injection c2 with c2 c3
    simp only at p2 p3
    have pe : p = ⟨p.n,0⟩ := by obtain ⟨a,b⟩ := p; simp only at p3; rw [← p3]
    have hu := us_has hm.semi p1
    have hv := us_has hm.semi (good_link hm p1).2.1
    have hu1 := us_has hn.semi g1
    have hv1 := us_has hn.semi (good_link hn g1).2.1
    have b1 : blank (m.nd p.n) = blank (n.nd i) := by
      have k1 := h1.nd _ hu1
      have k2 := h2.nd _ hu
      rw [← p2] at k2
      simp only at k1
      rw [k1] at k2
      exact (Option.some.inj k2).symm
    have b2 : blank (m.nd (m.lk p).n) = blank (n.nd (n.lk ⟨i,0⟩).n) := by
      have k1 := h1.nd _ hv1
      have k2 := h2.nd _ hv
      rw [← c2,k1] at k2
      exact (Option.some.inj k2).symm
    have hp := has_iff.1 p1
    refine List.mem_map.2 ⟨p.n.toNat,?_,by rw [show ((p.n.toNat : Nat) : Int) = p.n by omega]; exact p2.symm⟩
    unfold mtL
    rw [List.mem_filter,List.mem_range]
    refine ⟨by omega,?_⟩
    unfold mtB
    rw [show ((p.n.toNat : Nat) : Int) = p.n by omega,← pe,p1,hQ _ _ _ _ b1 b2,g3,← c3,g2]
    simp
  have hp : ((mtL n Q).map fun (i : Nat) => ν (i : Int)).Perm ((mtL m Q).map fun (i : Nat) => μ (i : Int)) := by
    rw [List.perm_ext_iff_of_nodup (nod hn h1) (nod hm h2)]
    exact fun u => ⟨mem hn hm h1 h2 u,mem hm hn h2 h1 u⟩
  have := hp.length_eq
  rw [List.length_map,List.length_map] at this
  exact this
def usL (n : Nt) : List Nat := (List.range n.ns.length).filter fun i => decide ((n.nd i).k ≠ 0)
theorem usL_len (n : Nt) : n.used = ((usL n).length : Nat) := by
  unfold Nt.used usL usedL
  have e : n.ns = (List.range n.ns.length).map fun (i : Nat) => n.nd (i : Int) := by
    refine List.ext_getElem? fun i => ?_
    rw [List.getElem?_map]
    by_cases hi : i < n.ns.length
    · rw [List.getElem?_range hi]
      obtain ⟨x,hx⟩ : ∃ x,n.ns[i]? = some x := ⟨_,List.getElem?_eq_getElem hi⟩
      rw [hx,Option.map_some,nd_get hx]
    · rw [List.getElem?_eq_none (by omega),List.getElem?_eq_none (by simp; omega)]; rfl
  conv => lhs; rw [e]
  rw [List.countP_map,List.countP_eq_length_filter]
  rfl
theorem us_names {n m : Nt} {ν μ : Int → Nm} {A : Ab} (h1 : Rep ν n [] A) (h2 : Rep μ m [] A) : n.used = m.used := by
  rw [usL_len,usL_len]
  have us : ∀ {n : Nt} x,x ∈ usL n ↔ Us n (x : Int) := fun {n} x => by
    unfold usL
    rw [List.mem_filter,List.mem_range,us_iff]
    constructor
    · rintro ⟨_,h⟩; exact ⟨by omega,by simpa using h⟩
    · rintro ⟨_,h⟩
      have := (us_iff.2 ⟨by omega,h⟩ : Us n (x : Int)).2.1
      exact ⟨by omega,by simpa using h⟩
  have nod : ∀ {n : Nt} {ν : Int → Nm},Rep ν n [] A → ((usL n).map fun (i : Nat) => ν (i : Int)).Nodup := fun {n ν} h => by
    have hnd : (usL n).Nodup := List.nodup_range.sublist List.filter_sublist
    unfold List.Nodup
    rw [List.pairwise_map]
    refine (List.Pairwise.and_mem.1 hnd).imp fun {x y} k e => ?_
    obtain ⟨hx,hy,hne⟩ := k
    exact hne (by have := h.inj _ _ ((us x).1 hx) ((us y).1 hy) e; omega)
  have mem : ∀ {n m : Nt} {ν μ : Int → Nm},Rep ν n [] A → Rep μ m [] A → ∀ u,u ∈ (usL n).map (fun (i : Nat) => ν (i : Int)) → u ∈ (usL m).map (fun (i : Nat) => μ (i : Int)) := fun {n m ν μ} h1 h2 u hu => by
    obtain ⟨i,hi,rfl⟩ := List.mem_map.1 hu
    obtain ⟨j,hj,e⟩ := h2.only _ _ (h1.nd _ ((us i).1 hi))
    refine List.mem_map.2 ⟨j.toNat,(us _).2 ?_,?_⟩
    · rw [show ((j.toNat : Nat) : Int) = j by have := hj.1; omega]; exact hj
    · rw [show ((j.toNat : Nat) : Int) = j by have := hj.1; omega]; exact e
  have hp : ((usL n).map fun (i : Nat) => ν (i : Int)).Perm ((usL m).map fun (i : Nat) => μ (i : Int)) := by
    rw [List.perm_ext_iff_of_nodup (nod h1) (nod h2)]
    exact fun u => ⟨mem h1 h2 u,mem h2 h1 u⟩
  have := hp.length_eq
  rw [List.length_map,List.length_map] at this
  omega
theorem same_counts {n m : Nt} {ν μ : Int → Nm} {A : Ab} (hn : n.Good) (hm : m.Good) (h1 : Rep ν n [] A) (h2 : Rep μ m [] A) : n.used = m.used ∧ n.prs.length = m.prs.length ∧ n.rds.length = m.rds.length := by
  refine ⟨us_names h1 h2,?_,?_⟩
  · have e1 := mt_two hn (Q := fun _ _ => true) (fun _ _ => rfl)
    have e2 := mt_two hm (Q := fun _ _ => true) (fun _ _ => rfl)
    have e3 := mt_names hn hm h1 h2 (Q := fun _ _ => true) (fun _ _ _ _ _ _ => rfl)
    rw [List.filter_eq_self.2 (by simp)] at e1 e2
    omega
  · have hs : ∀ x y : Nd,decide ((ofR x y).2 = 0) = decide ((ofR y x).2 = 0) := fun x y => by rw [Bool.eq_iff_iff]; simp [ofR_sym x y]
    have e1 := mt_two hn (Q := fun x y => decide ((ofR x y).2 = 0)) hs
    have e2 := mt_two hm (Q := fun x y => decide ((ofR x y).2 = 0)) hs
    have e3 := mt_names hn hm h1 h2 (Q := fun x y => decide ((ofR x y).2 = 0)) (fun x y u v a b => by rw [ofR_blank a b])
    have r : ∀ {n : Nt},n.Good → n.rds = n.prs.filter fun p => decide ((ofR (n.nd p.n) (n.nd p.s)).2 = 0) := fun {n} hG => by unfold Nt.rds; rw [bool_t hG,if_pos rfl]; rfl
    rw [r hn,r hm]
    omega
end Go.Proofs.Ytkpfjolcmkikeaa
end
section
set_option linter.unusedSimpArgs false
set_option linter.unusedVariables false
set_option maxHeartbeats 4000000
namespace Go.Proofs.Ytkpfjolcmkikeaa
open Go.Fx
def ν0 (i : Int) : Nm := (0,i.toNat)
noncomputable def ab0 (n : Nt) : Ab :=
  ⟨fun u => if u.1 = 0 ∧ bool (Us n (u.2 : Int)) = true then some (blank (n.nd (u.2 : Int))) else none,fun r => if r.1.1 = 0 ∧ n.has ⟨(r.1.2 : Int),r.2⟩ = true then some (nmP ν0 (n.lk ⟨(r.1.2 : Int),r.2⟩)) else none⟩
theorem ab0_rep {n : Nt} (hG : n.Good) : Rep ν0 n [] (ab0 n) := by
  have hr : ∀ p,n.has p = true → (⟨((nmP ν0 p).1.2 : Int),(nmP ν0 p).2⟩ : Pt) = p := fun p hp => by
    have := (has_iff.1 hp).1
    obtain ⟨a,b⟩ := p
    show (⟨((a.toNat : Nat) : Int),b⟩ : Pt) = _
    simp only at this
    rw [show ((a.toNat : Nat) : Int) = a by omega]
  refine ⟨fun i j hi hj e => ?_,fun i hi => ?_,fun x y hx => ?_,fun p hp _ => ?_,fun p hp => by simp at hp,fun r u hu => ?_⟩
  · unfold ν0 at e
    injection e with _ e
    have := hi.1; have := hj.1; omega
  · have hi0 := hi.1
    show (if (0 : Nat) = 0 ∧ bool (Us n ((i.toNat : Nat) : Int)) = true then some (blank (n.nd ((i.toNat : Nat) : Int))) else none) = _
    rw [show ((i.toNat : Nat) : Int) = i by omega,if_pos ⟨rfl,bool_t hi⟩]
  · have hx : (if x.1 = 0 ∧ bool (Us n (x.2 : Int)) = true then some (blank (n.nd (x.2 : Int))) else none) = some y := hx
    split at hx
    · rename_i h
      refine ⟨(x.2 : Int),bool_iff.1 h.2,?_⟩
      unfold ν0
      rw [Int.toNat_natCast,← h.1]
    · cases hx
  · show (if (nmP ν0 p).1.1 = 0 ∧ n.has ⟨((nmP ν0 p).1.2 : Int),(nmP ν0 p).2⟩ = true then some (nmP ν0 (n.lk ⟨((nmP ν0 p).1.2 : Int),(nmP ν0 p).2⟩)) else none) = _
    rw [hr p hp,if_pos ⟨rfl,hp⟩]
  · have hu : (if r.1.1 = 0 ∧ n.has ⟨(r.1.2 : Int),r.2⟩ = true then some (nmP ν0 (n.lk ⟨(r.1.2 : Int),r.2⟩)) else none) = some u := hu
    split at hu
    · rename_i h
      refine ⟨⟨(r.1.2 : Int),r.2⟩,h.2,by simp,?_⟩
      unfold nmP ν0
      simp only [Int.toNat_natCast]
      rw [← h.1]
    · cases hu
theorem ab0_both {n : Nt} (hG : n.Good) : Both (ab0 n).lk := by
  intro r u hu
  have hR := ab0_rep hG
  obtain ⟨p,p1,_,rfl⟩ := hR.out r u hu
  have c1 := hR.cl p p1 (by simp)
  rw [hu] at c1
  have c1 := Option.some.inj c1
  subst c1
  obtain ⟨l1,l2,l3⟩ := good_link hG p1
  refine ⟨fun e => l1 (hR.injP hG.semi l2 p1 e),?_⟩
  rw [hR.cl _ l2 (by simp),l3]
theorem ab0_new {n : Nt} {tag : Nat} (h : tag ≠ 0) (j : Nat) : (ab0 n).nd (tag,j) = none := by
  show (if tag = 0 ∧ _ then _ else none) = none
  rw [if_neg fun k => h k.1]
theorem runA_nd {W : Nm → Prop} : ∀ (l : List AO) (A : Ab) (u : Nm),(∀ o ∈ l,o.own W) → ¬ W u → (runA A l).nd u = A.nd u
  | [],A,u,_,_ => rfl
  | o :: l,A,u,h,hu => by
    show (runA (AO.run A o) l).nd u = _
    rw [runA_nd l _ u (fun v hv => h v (by simp [hv])) hu]
    have ho := h o (by simp)
    cases o with
    | mk m x =>
      show (if u = m then _ else A.nd u) = _
      rw [if_neg (fun e : u = m => hu (by rw [e]; exact ho))]
    | fr m =>
      show (if u = m then _ else A.nd u) = _
      rw [if_neg (fun e : u = m => hu (by rw [e]; exact ho))]
    | _ => rfl
structure One1 (n : Nt) (p : Pt) (tag : Nat) (pl : Pl) (a : Nt) : Prop where
  d : doR n p.n = (a,pl,0)
  ok : DoneOk n p.n pl a
  mt : meetR n p.n = p.s
  pos : 1 ≤ p.n
theorem one1 {n : Nt} (hn : n.Ok) (hG : n.Good) {p : Pt} (hp : p ∈ n.rds) (hroom : n.used + 30 ≤ n.cap) (tag : Nat) : ∃ pl a,One1 n p tag pl a := by
  obtain ⟨pl,a,h1,h2,h3,h4⟩ := do_ready hn hG hp hroom
  exact ⟨pl,a,h1,h2,h3,h4⟩
def fst' (pl : Pl) (p : Pt) : Int := if pl.sw = true then p.s else p.n
def snd' (pl : Pl) (p : Pt) : Int := if pl.sw = true then p.n else p.s
noncomputable def seqP (n : Nt) (pl : Pl) (p : Pt) (tag : Nat) : List AO := stepA pl (n.nd (fst' pl p)) (n.nd (snd' pl p)) (ν0 (fst' pl p)) (ν0 (snd' pl p)) (ν0 (max p.n p.s)) (ν0 (min p.n p.s)) tag
theorem fst_or (pl : Pl) (p : Pt) : (fst' pl p = p.n ∧ snd' pl p = p.s) ∨ (fst' pl p = p.s ∧ snd' pl p = p.n) := by
  unfold fst' snd'
  cases pl.sw with
  | true => right; exact ⟨rfl,rfl⟩
  | false => left; exact ⟨rfl,rfl⟩
theorem seqP_ok {n : Nt} {pl : Pl} {a : Nt} {p : Pt} {tag : Nat} (h : One1 n p tag pl a) (ht : tag ≠ 0) : ∀ o ∈ seqP n pl p tag,o.own (fun u => u = ν0 p.n ∨ u = ν0 p.s ∨ u.1 = tag) ∧ o.ok := by
  have hM := h.ok.meet
  have px := h.ok.px
  rw [h.mt] at hM px
  have hne : ν0 p.n ≠ ν0 p.s := fun e => hM.ab (by unfold ν0 at e; injection e with _ e; have := hM.a0; have := hM.b0; omega)
  have n0 : ∀ i,(ν0 i).1 ≠ tag := fun i => fun e => ht e.symm
  have hf := fst_or pl p
  have ha : pl.k = 2 → pl.alt ≠ -1 := plan_alt px
  have hmm : (max p.n p.s = p.n ∨ max p.n p.s = p.s) ∧ (min p.n p.s = p.n ∨ min p.n p.s = p.s) := by omega
  intro o ho
  unfold seqP at ho
  rcases hf with ⟨f1,f2⟩ | ⟨f1,f2⟩
  · rw [f1,f2] at ho
    have := stepA_ok hne (n0 _) (n0 _) ha (hmm.1.elim (fun e => .inl (by rw [e])) (fun e => .inr (by rw [e]))) (hmm.2.elim (fun e => .inl (by rw [e])) (fun e => .inr (by rw [e]))) o ho
    exact this
  · rw [f1,f2] at ho
    have := stepA_ok hne.symm (n0 _) (n0 _) ha (hmm.1.elim (fun e => .inr (by rw [e])) (fun e => .inl (by rw [e]))) (hmm.2.elim (fun e => .inr (by rw [e])) (fun e => .inl (by rw [e]))) o ho
    refine ⟨?_,this.2⟩
    have e : (fun u => u = ν0 p.n ∨ u = ν0 p.s ∨ u.1 = tag) = WA (ν0 p.s) (ν0 p.n) tag := by
      funext u
      unfold WA
      exact propext ⟨fun h => by rcases h with h | h | h; exact .inr (.inl h); exact .inl h; exact .inr (.inr h),fun h => by rcases h with h | h | h; exact .inr (.inl h); exact .inl h; exact .inr (.inr h)⟩
    rw [e]; exact this.1
theorem one_rep {n a : Nt} {p : Pt} {tag : Nat} {pl : Pl} (h : One1 n p tag pl a) {ν : Int → Nm} {A : Ab} (hR : Rep ν n [] A) (hA : ∀ j,A.nd (tag,j) = none) (e1 : ν p.n = ν0 p.n) (e2 : ν p.s = ν0 p.s) :
    ∃ ν',Rep ν' a [] (runA A (seqP n pl p tag)) ∧ ∀ k,Us n k → k ≠ p.n → k ≠ p.s → ν' k = ν k := by
  obtain ⟨ν',r1,r2⟩ := do_rep (tag := tag) h.ok hR hA
  rw [h.mt] at r1 r2
  refine ⟨ν',?_,r2⟩
  have emx : ν (max p.n p.s) = ν0 (max p.n p.s) := by
    rcases (show max p.n p.s = p.n ∨ max p.n p.s = p.s by omega) with e | e <;> rw [e] <;> assumption
  have emn : ν (min p.n p.s) = ν0 (min p.n p.s) := by
    rcases (show min p.n p.s = p.n ∨ min p.n p.s = p.s by omega) with e | e <;> rw [e] <;> assumption
  rw [emx,emn] at r1
  unfold seqP fst' snd'
  cases hsw : pl.sw with
  | true => rw [hsw] at r1; simp only [if_true] at r1 ⊢; rw [e1,e2] at r1; exact r1
  | false => rw [hsw] at r1; simp only [Bool.false_eq_true,if_false] at r1 ⊢; rw [e1,e2] at r1; exact r1
theorem second {n a : Nt} (hn : n.Ok) (hG : n.Good) {p q : Pt} (hp : p ∈ n.rds) (hq : q ∈ n.rds) (hne : p ≠ q) (hroom : n.used + 60 ≤ n.cap) {t u : Nat} (ht : t ≠ 0) (hu : u ≠ 0) (htu : t ≠ u) {pl : Pl} (h : One1 n p t pl a) {pq : Pl} {c : Nt} (g : One1 n q u pq c) :
    ∃ b ν,One1 a q u pq b ∧ Rep ν b [] (runA (runA (ab0 n) (seqP n pl p t)) (seqP n pq q u)) ∧ b.Good ∧ b.Ok ∧ a.Ok := by
  have hst := h.ok.st
  rw [h.mt] at hst
  obtain ⟨hp1,_⟩ := (rds_mem hG).1 hp
  obtain ⟨hq1,_⟩ := (rds_mem hG).1 hq
  have hqa := ready_still hG hst hp1 rfl rfl hq (fun e => hne e.symm)
  have ap := prs_apart hG hq1 hp1 (fun e => hne e.symm)
  have hgM := g.ok.meet
  rw [g.mt] at hgM
  have hM := h.ok.meet
  rw [h.mt] at hM
  have hX := h.ok.px
  have hroom2 : a.used + 30 ≤ a.cap := by
    have hn30 : needR pl (n.nd p.n) (n.nd p.s) ≤ 30 := by
      rw [h.mt] at hX
      unfold needR
      cases hsw : pl.sw with
      | false =>
        rw [hsw] at hX
        have := need_room hM hX
        rw [if_neg (by simp)]; omega
      | true =>
        rw [hsw] at hX
        have := need_room hM.swap hX
        rw [if_pos rfl]; omega
    rw [hst.cap,hst.used]; omega
  obtain ⟨pl2,b,g2⟩ := one1 hst.ok hst.good hqa hroom2 u
  have data : ∀ j,Us n j → j ≠ p.n → j ≠ p.s → blank (a.nd j) = blank (n.nd j) := fun j hj h1 h2 => by
    obtain ⟨k,rfl⟩ : ∃ k : Nat,j = k := ⟨j.toNat,by have := hj.1; omega⟩
    obtain ⟨x,hx,hk⟩ := us_get.1 hj
    obtain ⟨y,y1,y2,y3⟩ := hst.old k x hx hk h1 h2
    rw [nd_get hx,nd_get y1]
    unfold blank
    rw [y3,y2]
  have un := hgM.usA
  have us := hgM.usB
  have d1 := data q.n un ap.nn ap.ns
  have d2 := data q.s us ap.sn ap.ss
  have epl : pl2 = pq := by
    have e1 := g2.ok.pl
    have e2 := g.ok.pl
    rw [g2.mt] at e1
    rw [g.mt] at e2
    rw [ofR_blank d1 d2,e2] at e1
    injection e1 with e1 _
    exact e1.symm
  subst epl
  have hR0 := ab0_rep hG
  obtain ⟨ν1,r1,r2⟩ := one_rep h hR0 (ab0_new ht) rfl rfl
  have own1 := seqP_ok h ht
  have fresh2 : ∀ j,(runA (ab0 n) (seqP n pl p t)).nd (u,j) = none := fun j => by
    rw [runA_nd _ _ _ (fun o ho => (own1 o ho).1) ?_]
    · exact ab0_new hu j
    · rintro (k | k | k)
      · unfold ν0 at k; injection k with k _; exact hu k
      · unfold ν0 at k; injection k with k _; exact hu k
      · exact htu k.symm
  have v1 := r2 q.n un ap.nn ap.ns
  have v2 := r2 q.s us ap.sn ap.ss
  obtain ⟨ν2,s1,_⟩ := one_rep g2 r1 fresh2 v1 v2
  have eseq : seqP a pl2 q u = seqP n pl2 q u := by
    unfold seqP
    rcases fst_or pl2 q with ⟨f1,f2⟩ | ⟨f1,f2⟩
    · rw [f1,f2]; exact stepA_blank d1 d2
    · rw [f1,f2]; exact stepA_blank d2 d1
  rw [eseq] at s1
  exact ⟨b,ν2,g2,s1,g2.ok.st.good,g2.ok.st.ok,hst.ok⟩
theorem either {n : Nt} (hn : n.Ok) (hG : n.Good) {p q : Pt} (hp : p ∈ n.rds) (hq : q ∈ n.rds) (hne : p ≠ q) (hroom : n.used + 60 ≤ n.cap) :
    ∃ pa a pb b pc c pd d,doR n p.n = (a,pa,0) ∧ doR a q.n = (b,pb,0) ∧ doR n q.n = (c,pc,0) ∧ doR c p.n = (d,pd,0) ∧ a.Ok ∧ c.Ok ∧ b.Ok ∧ d.Ok ∧ b.Good ∧ d.Good ∧ b.used = d.used ∧ b.prs.length = d.prs.length ∧ b.rds.length = d.rds.length := by
  obtain ⟨pl,a,h⟩ := one1 hn hG hp (by omega) 1
  obtain ⟨pq,c,g⟩ := one1 hn hG hq (by omega) 2
  obtain ⟨b,ν,h2,r1,b1,b2,a1⟩ := second hn hG hp hq hne hroom (t := 1) (u := 2) (by decide) (by decide) (by decide) h g
  obtain ⟨d,μ,g2,r2,d1,d2,c1⟩ := second hn hG hq hp (fun e => hne e.symm) hroom (t := 2) (u := 1) (by decide) (by decide) (by decide) g h
  obtain ⟨hp1,_⟩ := (rds_mem hG).1 hp
  obtain ⟨hq1,_⟩ := (rds_mem hG).1 hq
  have ap := prs_apart hG hp1 hq1 hne
  have hM := h.ok.meet
  rw [h.mt] at hM
  have hN := g.ok.meet
  rw [g.mt] at hN
  have ne : ∀ i j : Int,0 ≤ i → 0 ≤ j → i ≠ j → ν0 i ≠ ν0 j := fun i j hi hj hij e => by unfold ν0 at e; injection e with _ e; omega
  have hcom := runA_com (W := fun u => u = ν0 p.n ∨ u = ν0 p.s ∨ u.1 = 1) (V := fun u => u = ν0 q.n ∨ u = ν0 q.s ∨ u.1 = 2) (fun x hx hy => by
    have z : ∀ i,(ν0 i).1 = 0 := fun _ => rfl
    rcases hx with rfl | rfl | hx
    · rcases hy with hy | hy | hy
      · exact ne _ _ hM.a0 hN.a0 ap.nn hy
      · exact ne _ _ hM.a0 hN.b0 ap.ns hy
      · rw [z] at hy; cases hy
    · rcases hy with hy | hy | hy
      · exact ne _ _ hM.b0 hN.a0 ap.sn hy
      · exact ne _ _ hM.b0 hN.b0 ap.ss hy
      · rw [z] at hy; cases hy
    · rcases hy with rfl | rfl | hy
      · rw [z] at hx; cases hx
      · rw [z] at hx; cases hx
      · rw [hx] at hy; cases hy) (l := seqP n pl p 1) (m := seqP n pq q 2) (A := ab0 n) (seqP_ok h (by decide)) (seqP_ok g (by decide)) (ab0_both hG)
  rw [hcom] at r1
  obtain ⟨e1,e2,e3⟩ := same_counts b1 d1 r1 r2
  exact ⟨pl,a,pq,b,pq,c,pl,d,h.d,h2.d,g.d,g2.d,a1,c1,b2,d2,b1,d1,e1,e2,e3⟩
end Go.Proofs.Ytkpfjolcmkikeaa
end
section
set_option linter.unusedSimpArgs false
set_option linter.unusedVariables false
set_option maxHeartbeats 4000000
set_option maxRecDepth 10000
namespace Go.Proofs.Ytkpfjolcmkikeaa
open Go.Fx
theorem pairsOrder_law {n : Nt} {i k : Int} (hn : n.Ok) (hi : wf i) (hk : wf k) : eP S 16 [.g (encT n),.a (.i .i64 i),.a (.i .i64 k)] = some (.a (.b true)) := by
  have f0 := fixed17_ok
  have a1 := Small_ok hn 100
  have a2 := RCheck_ok hn
  refine x_fn (orcS (by decide)) (fc := F16) rfl rfl ?_
  by_cases h1 : n.small 100
  case neg =>
    rw [bool_f h1] at a1
    simp only [encT] at a1
    simp only [F16,f0,a1,fxa,fxc,fxE,fxL,fxI,nxE,evO,evR,cellsT,ldCells,mkT,lenA,binPV,Env.init,resV,resT,frT,klT,ownT,intT,O.adds,ownA,rowsA,over,wrOk,keysT,keysA,ne_eq,if_true,if_false,ite_self,Nat.reduceLT,Nat.reduceSub,Nat.reduceBEq,Nat.reduceEqDiff,Nat.reduceAdd,Nat.reduceLeDiff,reduceCtorEq,Nat.reduceMul]
  rw [bool_t h1] at a1
  by_cases hG : n.Good
  case neg =>
    rw [bool_f hG] at a2
    simp only [Bool.false_eq_true,if_false,encT] at a1 a2
    simp only [F16,f0,a1,a2,Int.reduceEq,fxa,fxc,fxE,fxL,fxI,nxE,evO,evR,cellsT,ldCells,mkT,lenA,binPV,Env.init,resV,resT,frT,klT,ownT,intT,O.adds,ownA,rowsA,over,wrOk,keysT,keysA,ne_eq,if_true,if_false,ite_self,Nat.reduceLT,Nat.reduceSub,Nat.reduceBEq,Nat.reduceEqDiff,Nat.reduceAdd,Nat.reduceLeDiff,reduceCtorEq,Nat.reduceMul]
  rw [bool_t hG] at a2
  have hsm := h1.2
  have hc2 := hG.cap2
  have hlc := hG.ln2
  have hw : IntKind.i64.wrap ((n.ns.length : Int) + 60) = (n.ns.length : Int) + 60 := wrap_in _ (by omega)
  obtain ⟨c,hc⟩ : ∃ c,(if (n.ns.length : Int) + 60 > n.cap then (n.ns.length : Int) + 60 else n.cap) = c := ⟨_,rfl⟩
  have hc1 : n.cap ≤ c ∧ (n.ns.length : Int) + 60 ≤ c ∧ c ≤ 4000 := by omega
  obtain ⟨N,hN⟩ : ∃ N : Nt,(⟨n.ns,c⟩ : Nt) = N := ⟨_,rfl⟩
  have hNo : N.Ok := by rw [← hN]; exact ⟨hn.ns,by show wf c; unfold wf; omega,hn.nd⟩
  have hNG : N.Good := by rw [← hN]; exact cap_good hG hc1.1 hc1.2.2
  have hNs : N.ns = n.ns := by rw [← hN]
  have hNc : N.cap = c := by rw [← hN]
  have b1 := Pick_ok hNo hi
  have b2 := Pick_ok hNo hk
  simp only [if_true,encT] at a1 a2 b1 b2
  rw [hNs,hNc] at b1 b2
  simp only [encP] at b1 b2
  by_cases h0 : N.rds.length = 0
  · have hr0 : N.rds = [] := List.eq_nil_of_length_eq_zero h0
    rw [hr0] at b1 b2
    simp only [List.length_nil,if_true,ne_eq,not_true_eq_false,decide_false,List.map_nil,zP] at b1 b2
    simp only [F16,f0,a1,a2,hw,hc,b1,b2,Int.reduceEq,encT,List.length_map,Int.cast_ofNat_Int,Int.reduceLE,Int.reduceLT,Int.reduceToNat,Int.reduceAdd,Int.reduceSub,Int.reduceNeg,fxa,fxc,fxE,fxL,fxI,nxE,evO,evR,cellsT,ldCells,mkT,lenA,binPV,Env.init,resV,resT,frT,klT,ownT,intT,O.adds,ownA,rowsA,over,wrOk,keysT,keysA,ne_eq,if_true,if_false,ite_self,Nat.reduceLT,Nat.reduceSub,Nat.reduceBEq,Nat.reduceEqDiff,Nat.reduceAdd,Nat.reduceLeDiff,reduceCtorEq,Nat.reduceMul]
  rw [if_neg h0,decide_eq_true h0] at b1 b2
  have hm : 0 < N.rds.length := by omega
  have hget : ∀ i,N.rds.getD (pickI i N.rds.length) zP ∈ N.rds := fun i => by
    have h := pickI_lt (i := i) hm
    rw [List.getD_eq_getElem?_getD,List.getElem?_eq_getElem h]; exact List.getElem_mem h
  have hgP := hget i
  have hgQ := hget k
  obtain ⟨P,hP⟩ : ∃ P,N.rds.getD (pickI i N.rds.length) zP = P := ⟨_,rfl⟩
  obtain ⟨Q,hQ⟩ : ∃ Q,N.rds.getD (pickI k N.rds.length) zP = Q := ⟨_,rfl⟩
  rw [hP] at b1 hgP
  rw [hQ] at b2 hgQ
  have hpt := ptEq P Q
  by_cases hPQ : P = Q
  · rw [decide_eq_true hPQ] at hpt
    simp only [F16,f0,a1,a2,hw,hc,b1,b2,hpt,Int.reduceEq,encT,List.length_map,fxa,fxc,fxE,fxL,fxI,nxE,evO,evR,cellsT,ldCells,mkT,lenA,binPV,Env.init,resV,resT,frT,klT,ownT,intT,O.adds,ownA,rowsA,over,wrOk,keysT,keysA,ne_eq,if_true,if_false,ite_self,Nat.reduceLT,Nat.reduceSub,Nat.reduceBEq,Nat.reduceEqDiff,Nat.reduceAdd,Nat.reduceLeDiff,reduceCtorEq,Nat.reduceMul]
  rw [decide_eq_false hPQ] at hpt
  have hNu : N.used ≤ N.ns.length := by have := usedL_le N.ns; unfold Nt.used; omega
  obtain ⟨pa,ma,pb,mb,pc,mc,pd,md,d1,d2,d3,d4,oa,oc,ob,od,gb,gd,e1,e2,e3⟩ := either hNo hNG hgP hgQ hPQ (by rw [hNc]; rw [hNs] at hNu; omega)
  have c1 := Do_ok (i := P.n) hNo
  have c2 := Do_ok (i := Q.n) oa
  have c3 := Do_ok (i := Q.n) hNo
  have c4 := Do_ok (i := P.n) oc
  rw [d1] at c1
  rw [d2] at c2
  rw [d3] at c3
  rw [d4] at c4
  have u1 := RUsed_ok ob
  have u2 := RUsed_ok od
  have v1 := All_ok ob
  have v2 := All_ok od
  rw [bool_t gb] at v1
  rw [bool_t gd] at v2
  have w1 := Ready_ok ob
  have w2 := Ready_ok od
  have e2' : ((mb.prs.length : Nat) : Int) = ((md.prs.length : Nat) : Int) := by rw [e2]
  have e3' : ((mb.rds.length : Nat) : Int) = ((md.rds.length : Nat) : Int) := by rw [e3]
  simp only [encD,encT,encL,encN] at c1 c2 c3 c4
  rw [hNs,hNc] at c1 c3
  simp only [if_true,encT] at u1 u2 v1 v2 w1 w2
  rw [e1] at u1
  simp only [F16,f0,a1,a2,hw,hc,b1,b2,hpt,c1,c2,c3,c4,u1,u2,v1,v2,w1,w2,e2',e3',Int.reduceEq,encT,List.length_map,fxa,fxc,fxE,fxL,fxI,nxE,evO,evR,cellsT,ldCells,mkT,lenA,binPV,Env.init,resV,resT,frT,klT,ownT,intT,O.adds,ownA,rowsA,over,wrOk,keysT,keysA,ne_eq,if_true,if_false,ite_self,Nat.reduceLT,Nat.reduceSub,Nat.reduceBEq,Nat.reduceEqDiff,Nat.reduceAdd,Nat.reduceLeDiff,reduceCtorEq,Nat.reduceMul]
end Go.Proofs.Ytkpfjolcmkikeaa
end
section
set_option linter.unusedSimpArgs false
set_option linter.unusedVariables false
namespace Go.Proofs.Ytkpfjolcmkikeaa
open Go.Fx
theorem cellsI : Try.prog.cellsOf 3 = 1 := by kernel_rfl
theorem cellsSt : Try.prog.cellsOf 9 = 1 := by kernel_rfl
theorem cellsPt : Try.prog.cellsOf 43 = 2 := by kernel_rfl
theorem cellsAr : Try.prog.cellsOf 79 = 2 := by kernel_rfl
theorem cellsNd : Try.prog.cellsOf 41 = 6 := by kernel_rfl
theorem cellsNt : Try.prog.cellsOf 24 = 2 := by kernel_rfl
theorem cellsLN : Try.prog.cellsOf 22 = 1 := by kernel_rfl
theorem cellsLA : Try.prog.cellsOf 38 = 1 := by kernel_rfl
theorem cellsLP : Try.prog.cellsOf 39 = 1 := by kernel_rfl
theorem bytesPt : Try.prog.bytesOf 43 = 16 := by kernel_rfl
theorem bytesAr : Try.prog.bytesOf 79 = 24 := by kernel_rfl
theorem bytesNd : Try.prog.bytesOf 41 = 88 := by kernel_rfl
theorem len2 {α : Type} {l : List α} (h : l.length = 2) : ∃ a b,l = [a,b] := by
  match l,h with
  | [a,b],_ => exact ⟨a,b,rfl⟩
theorem len6 {α : Type} {l : List α} (h : l.length = 6) : ∃ a b c d e f,l = [a,b,c,d,e,f] := by
  match l,h with
  | [a,b,c,d,e,f],_ => exact ⟨a,b,c,d,e,f,rfl⟩
theorem wf_int {i : Int} (h : (Lit.int .i64 i).wf = true) : wf i := by
  simp only [Lit.wf,IntKind.min,IntKind.max,IntKind.bits,IntKind.signed,Bool.and_eq_true,decide_eq_true_eq] at h
  rw [if_pos trivial,if_pos trivial] at h
  unfold wf; omega
theorem ct_int {n : Nat} {qs : List PV} (h : CT Try.prog n 3 qs) : ∃ i,qs = [.i .i64 i] ∧ wf i := by
  cases n with
  | zero => exact h.elim
  | succ n => simp only [CT,Try.underlying3] at h; obtain ⟨i,h1,h2⟩ := h; exact ⟨i,h1,wf_int h2⟩
theorem ct_str {n : Nat} {qs : List PV} (h : CT Try.prog n 9 qs) : ∃ s,qs = [.s s] ∧ s.length ≤ 140737488355328 := by
  cases n with
  | zero => exact h.elim
  | succ n => simp only [CT,Try.underlying9] at h; obtain ⟨s,h1,h2⟩ := h; exact ⟨s,h1,by simp only [reachBytes] at h2; omega⟩
theorem ct_port {n : Nat} {qs : List PV} (h : CT Try.prog n 43 qs) : ∃ p : Pt,(wf p.n ∧ wf p.s) ∧ qs = encP p := by
  cases n with
  | zero => exact h.elim
  | succ n =>
    simp only [CT,Try.underlying43,cellsPt] at h
    obtain ⟨hl,hf⟩ := h
    obtain ⟨q0,q1,rfl⟩ := len2 hl
    have f0 : CT Try.prog n 3 (List.take (Try.prog.cellsOf 3) [q0,q1]) := hf _ (Array.mem_of_getElem? (i := 0) rfl)
    have f1 : CT Try.prog n 3 (List.take (Try.prog.cellsOf 3) [q1]) := hf _ (Array.mem_of_getElem? (i := 1) rfl)
    rw [cellsI] at f0 f1
    have f0 : CT Try.prog n 3 [q0] := f0
    have f1 : CT Try.prog n 3 [q1] := f1
    obtain ⟨i,e0,h0⟩ := ct_int f0
    obtain ⟨j,e1,h1⟩ := ct_int f1
    simp only [List.cons.injEq,and_true] at e0 e1
    subst e0 e1
    exact ⟨⟨i,j⟩,⟨h0,h1⟩,rfl⟩
theorem ct_arity {n : Nat} {qs : List PV} (h : CT Try.prog n 79 qs) : ∃ a : Ar,wf a.n ∧ qs = encA a := by
  cases n with
  | zero => exact h.elim
  | succ n =>
    simp only [CT,Try.underlying79,cellsAr] at h
    obtain ⟨hl,hf⟩ := h
    obtain ⟨q0,q1,rfl⟩ := len2 hl
    have f0 : CT Try.prog n 9 (List.take (Try.prog.cellsOf 9) [q0,q1]) := hf _ (Array.mem_of_getElem? (i := 0) rfl)
    have f1 : CT Try.prog n 3 (List.take (Try.prog.cellsOf 3) [q1]) := hf _ (Array.mem_of_getElem? (i := 1) rfl)
    rw [cellsSt] at f0
    rw [cellsI] at f1
    have f0 : CT Try.prog n 9 [q0] := f0
    have f1 : CT Try.prog n 3 [q1] := f1
    obtain ⟨s,e0,h0⟩ := ct_str f0
    obtain ⟨j,e1,h1⟩ := ct_int f1
    simp only [List.cons.injEq,and_true] at e0 e1
    subst e0 e1
    exact ⟨⟨s,j⟩,h1,rfl⟩
theorem ct_rows {α : Type} {t k : Nat} {n : Nat} {f : α → List PV} {R : α → Prop} (h : ∀ qs,CT Try.prog n t qs → ∃ x,R x ∧ qs = f x) : ∀ (rows : List (List PV)),(∀ r,r ∈ rows → r.length = k ∧ CT Try.prog n t r) → ∃ l : List α,rows = l.map f ∧ ∀ x,x ∈ l → R x := by
  intro rows
  induction rows with
  | nil => intro _; exact ⟨[],rfl,fun t ht => by simp at ht⟩
  | cons r rows ihr =>
    intro h2
    obtain ⟨x,hx,rfl⟩ := h r (h2 r (by simp)).2
    obtain ⟨l,rfl,hl⟩ := ihr fun r hr => h2 r (by simp [hr])
    exact ⟨x :: l,rfl,fun u hu => by rcases List.mem_cons.1 hu with rfl | hu; exact hx; exact hl u hu⟩
theorem ct_ports {n : Nat} {qs : List PV} (h : CT Try.prog n 39 qs) : ∃ l : List Pt,(l.length * 16 ≤ 140737488355328 ∧ ∀ p,p ∈ l → wf p.n ∧ wf p.s) ∧ qs = [.l (l.map encP)] := by
  cases n with
  | zero => exact h.elim
  | succ n =>
    simp only [CT,Try.underlying39,bytesPt] at h
    obtain ⟨rows,e,hr,hrow⟩ := h
    obtain ⟨l,rfl,hl⟩ := ct_rows (fun qs => ct_port) rows hrow
    exact ⟨l,⟨by simp only [reachBytes,List.length_map] at hr; omega,hl⟩,e⟩
theorem ct_arities {n : Nat} {qs : List PV} (h : CT Try.prog n 38 qs) : ∃ l : List Ar,(l.length * 24 ≤ 140737488355328 ∧ ∀ a,a ∈ l → wf a.n) ∧ qs = [.l (l.map encA)] := by
  cases n with
  | zero => exact h.elim
  | succ n =>
    simp only [CT,Try.underlying38,bytesAr] at h
    obtain ⟨rows,e,hr,hrow⟩ := h
    obtain ⟨l,rfl,hl⟩ := ct_rows (fun qs => ct_arity) rows hrow
    exact ⟨l,⟨by simp only [reachBytes,List.length_map] at hr; omega,hl⟩,e⟩
theorem ct_node {n : Nat} {qs : List PV} (h : CT Try.prog n 41 qs) : ∃ x : Nd,x.Ok ∧ qs = encN x := by
  cases n with
  | zero => exact h.elim
  | succ n =>
    simp only [CT,Try.underlying41,cellsNd] at h
    obtain ⟨hl,hf⟩ := h
    obtain ⟨q0,q1,q2,q3,q4,q5,rfl⟩ := len6 hl
    have f0 : CT Try.prog n 3 (List.take (Try.prog.cellsOf 3) [q0,q1,q2,q3,q4,q5]) := hf _ (Array.mem_of_getElem? (i := 0) rfl)
    have f1 : CT Try.prog n 3 (List.take (Try.prog.cellsOf 3) [q1,q2,q3,q4,q5]) := hf _ (Array.mem_of_getElem? (i := 1) rfl)
    have f2 : CT Try.prog n 3 (List.take (Try.prog.cellsOf 3) [q2,q3,q4,q5]) := hf _ (Array.mem_of_getElem? (i := 2) rfl)
    have f3 : CT Try.prog n 9 (List.take (Try.prog.cellsOf 9) [q3,q4,q5]) := hf _ (Array.mem_of_getElem? (i := 3) rfl)
    have f4 : CT Try.prog n 38 (List.take (Try.prog.cellsOf 38) [q4,q5]) := hf _ (Array.mem_of_getElem? (i := 4) rfl)
    have f5 : CT Try.prog n 39 (List.take (Try.prog.cellsOf 39) [q5]) := hf _ (Array.mem_of_getElem? (i := 5) rfl)
    rw [cellsI] at f0 f1 f2
    rw [cellsSt] at f3
    rw [cellsLA] at f4
    rw [cellsLP] at f5
    have f0 : CT Try.prog n 3 [q0] := f0
    have f1 : CT Try.prog n 3 [q1] := f1
    have f2 : CT Try.prog n 3 [q2] := f2
    have f3 : CT Try.prog n 9 [q3] := f3
    have f4 : CT Try.prog n 38 [q4] := f4
    have f5 : CT Try.prog n 39 [q5] := f5
    obtain ⟨k,e0,h0⟩ := ct_int f0
    obtain ⟨lv,e1,h1⟩ := ct_int f1
    obtain ⟨m,e2,h2⟩ := ct_int f2
    obtain ⟨s,e3,h3⟩ := ct_str f3
    obtain ⟨al,h4,e4⟩ := ct_arities f4
    obtain ⟨to,h5,e5⟩ := ct_ports f5
    simp only [List.cons.injEq,and_true] at e0 e1 e2 e3 e4 e5
    subst e0 e1 e2 e3 e4 e5
    exact ⟨⟨k,lv,m,s,al,to⟩,⟨h0,h1,h2,h3,h4.1,h5.1,h4.2,h5.2⟩,rfl⟩
theorem ct_net {n : Nat} {qs : List PV} (h : CT Try.prog n 24 qs) : ∃ x : Nt,x.Ok ∧ qs = encT x := by
  cases n with
  | zero => exact h.elim
  | succ n =>
    simp only [CT,Try.underlying24,cellsNt] at h
    obtain ⟨hl,hf⟩ := h
    obtain ⟨q0,q1,rfl⟩ := len2 hl
    have f0 : CT Try.prog n 22 (List.take (Try.prog.cellsOf 22) [q0,q1]) := hf _ (Array.mem_of_getElem? (i := 0) rfl)
    have f1 : CT Try.prog n 3 (List.take (Try.prog.cellsOf 3) [q1]) := hf _ (Array.mem_of_getElem? (i := 1) rfl)
    rw [cellsLN] at f0
    rw [cellsI] at f1
    have f0 : CT Try.prog n 22 [q0] := f0
    have f1 : CT Try.prog n 3 [q1] := f1
    obtain ⟨j,e1,h1⟩ := ct_int f1
    cases n with
    | zero => exact f0.elim
    | succ n =>
      simp only [CT,Try.underlying22,bytesNd] at f0
      obtain ⟨rows,e,hr,hrow⟩ := f0
      obtain ⟨l,rfl,hl2⟩ := ct_rows (fun qs => ct_node) rows hrow
      simp only [List.cons.injEq,and_true] at e e1
      subst e e1
      exact ⟨⟨l,j⟩,⟨by simp only [reachBytes,List.length_map] at hr; simp only; omega,h1,hl2⟩,rfl⟩
theorem aggI : aggT Try.prog 3 = false := by simp only [aggT,Try.underlying3,aggD]
theorem aggNt : aggT Try.prog 24 = true := by simp only [aggT,Try.underlying24,aggD]
theorem at_int {p : PT} (h : AT Try.prog 3 p ∧ p.isG = aggT Try.prog 3) : ∃ i,wf i ∧ p = .a (.i .i64 i) := by
  obtain ⟨h1,h2⟩ := h
  rw [aggI] at h2
  cases p with
  | a q => obtain ⟨n,hn⟩ := h1; obtain ⟨i,e,hi⟩ := ct_int hn; simp only [List.cons.injEq,and_true] at e; subst e; exact ⟨i,hi,rfl⟩
  | g qs => simp [PT.isG] at h2
  | _ => exact h1.elim
theorem at_net {p : PT} (h : AT Try.prog 24 p ∧ p.isG = aggT Try.prog 24) : ∃ x : Nt,x.Ok ∧ p = .g (encT x) := by
  obtain ⟨h1,h2⟩ := h
  rw [aggNt] at h2
  cases p with
  | g qs => obtain ⟨n,hn⟩ := h1; obtain ⟨x,hx,rfl⟩ := ct_net hn; exact ⟨x,hx,rfl⟩
  | _ => simp [PT.isG] at h2
theorem own : ownKnob Try.prog.godebug = none := by kernel_rfl
theorem laidOut : laidOutB Try.prog = true := by kernel_rfl
def lawTs : List TypeId := [3,9,43,79,39,38,41,22,24]
theorem lawTsOk : closedTs Try.prog lawTs = true := by kernel_rfl
end Go.Proofs.Ytkpfjolcmkikeaa
end
namespace Go.Proofs.Ytkpfjolcmkikeaa.pairsOrder
open Go.Fx Go.ChangeShapes Go.WideShapes Go.ChangeAt Go.RowKit
theorem law (ps : List PT) (h : F2 (fun t p => AT Try.checked.prog t p ∧ p.isG = aggT Try.checked.prog t) Try.f16.params.toList ps) : eP S 16 ps = some (.a (.b true)) := by
  have h' : F2 (fun t p => AT Try.prog t p ∧ p.isG = aggT Try.prog t) [24,3,3] ps := by rw [Try.params16] at h; exact h
  obtain _ | ⟨h1,r1⟩ := h'
  obtain _ | ⟨h2,r2⟩ := r1
  obtain _ | ⟨h3,r3⟩ := r2
  obtain _ | _ := r3
  obtain ⟨a1,k1,rfl⟩ := at_net h1
  obtain ⟨a2,k2,rfl⟩ := at_int h2
  obtain ⟨a3,k3,rfl⟩ := at_int h3
  exact pairsOrder_law k1 k2 k3
set_option maxRecDepth 100000 in
theorem lifted (os : Os) (started : os.Started) (H : Type) (enc : TypeId × Value → H) :
    ReturnsInHanded {} Try.checked os 16 .any (Rows.pairsOrderSpec.pre6 enc Try.prog Try.f16 Rows.pairsOrderRow.domain false) (Rows.pairsOrderSpec.post enc Try.prog Try.f16 false true false false) := by
  refine row_ok (C := Try.checked) (eqs := [(43,[0,0]),(79,[1,0]),(60,[0,0]),(140,[0,0]),(43,[9]),(134,[8]),(136,[8]),(108,[8]),(135,[8]),(112,[8])]) (S := S) (ts := lawTs) (tb := 4) own started (by kernel_rfl) Try.func16 laidOut
    (ChangeSpec.witness6 (enc := enc) (C := Try.checked) false ⟨#[],#[.agg #[.slice none 0 0,.int .i64 0],.int .i64 0,.int .i64 0],[]⟩ 8 (by kernel_rfl) (by kernel_rfl) (by kernel_rfl) (by kernel_rfl))
    lawTsOk (by kernel_rfl) rfl Try.underlying4 rfl ?_ seatOk law
  intro ds hd
  match ds,hd with
  | [d1,d2,d3],_ => rfl
theorem over : Rows.pairsOrderRow.holds Try.pinned (OpenSpec.ofChange Rows.pairsOrderSpec) :=
  OpenClaim.holds_of_wide 16 Try.f16 rfl rfl rfl rfl rfl rfl rfl ⟨rfl,rfl,rfl,rfl,rfl⟩ rfl rfl rfl rfl rfl (by kernel_rfl) Try.func16 (by kernel_rfl)
    (of_decide_eq_true (by kernel_rfl)) (by unfold Func.isWrapper; first | (rw [if_pos (by decide +kernel)]; kernel_rfl) | (rw [if_neg (by decide +kernel)]; exact ⟨rfl,rfl⟩))
    (fun os started H enc _ => lifted os started H enc)
theorem proved : Rows.PairsOrderSaid := over
#print axioms proved
end Go.Proofs.Ytkpfjolcmkikeaa.pairsOrder
