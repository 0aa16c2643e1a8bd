/- Part 5 of what is proved for the law UseLams: it returns true,whatever the input. No condition. -/
import Derived.Test.YtlgekplmbmkcmaaChecked
import Derived.Test.YtlgekplmbmkcmaaRows
import Derived.Test.YtlgekplmbmkcmaaPUseLamsd
section
set_option linter.unusedSimpArgs false
set_option linter.unusedVariables false
namespace Go.Proofs.Ytlgekplmbmkcmaa
open Go.Fx
theorem usesZ_mk (k n : Int) (s : List UInt8) (l : List T) (q : Int) : usesZ (.mk k n s l) q = if k = 1 then (if n = q then 1 else 0) else usesLZ l (q + T.more (.mk k n s l)) := rfl
theorem usesLZ_pos {l : List T} {q : Int} : 0 < usesLZ l q ↔ ∃ t ∈ l,0 < usesZ t q := by
  induction l with
  | nil => simp [usesLZ]
  | cons t l ih =>
    have h1 := usesZ_b t q
    have h2 := usesLZ_b (fun t _ => usesZ_b t) q (l := l)
    simp only [usesLZ,List.mem_cons,exists_eq_or_imp,← ih]
    omega
theorem freL_mem {l : List T} {b : Int} (h : ∀ t ∈ l,∀ (ks : List Int) (m : Int),m ∈ fre t b ks ↔ m ∈ ks ∨ (0 ≤ m ∧ 0 < usesZ t (m + b))) : ∀ (ks : List Int) (m : Int),m ∈ freL l b ks ↔ m ∈ ks ∨ (0 ≤ m ∧ 0 < usesLZ l (m + b)) := by
  induction l with
  | nil => intro ks m; simp [freL,usesLZ]
  | cons t l ih =>
    intro ks m
    have h1 := usesZ_b t (m + b)
    have h2 := usesLZ_b (fun t _ => usesZ_b t) (m + b) (l := l)
    simp only [freL]
    rw [ih (fun u hu => h u (by simp [hu])),h t (by simp)]
    simp only [usesLZ]
    constructor
    · rintro ((h | h) | h)
      · exact .inl h
      · exact .inr ⟨h.1,by omega⟩
      · exact .inr ⟨h.1,by omega⟩
    · rintro (h | ⟨h3,h4⟩)
      · exact .inl (.inl h)
      · by_cases h5 : 0 < usesZ t (m + b)
        · exact .inl (.inr ⟨h3,h5⟩)
        · exact .inr ⟨h3,by omega⟩
theorem more_eq (k n : Int) (s : List UInt8) (l : List T) : T.more (.mk k n s l) = if k = 2 then 1 else if k = 6 then n else 0 := rfl
theorem fre_mem {t : T} : ∀ {f b : Int} {D : Nat},V t f D → 0 ≤ f → 0 ≤ b → f + b + 16 * D ≤ 1152921504606846976 → ∀ (ks : List Int) (m : Int),m ∈ fre t b ks ↔ m ∈ ks ∨ (0 ≤ m ∧ 0 < usesZ t (m + b)) := by
  induction t using T.ind with
  | h k n s l ih =>
    intro f b D hV hf hb hB ks m
    rw [V_mk] at hV
    unfold fre
    rw [usesZ_mk]
    by_cases hk : k = 1
    · rw [if_pos hk] at hV
      rw [if_pos hk,if_pos hk]
      by_cases h : n ≥ b
      · rw [if_pos h,w_id _ (by omega),List.mem_cons]
        constructor
        · rintro (h | h)
          · right; exact ⟨by omega,by rw [if_pos (by omega)]; omega⟩
          · exact .inl h
        · rintro (h | ⟨h1,h2⟩)
          · exact .inr h
          · split at h2
            · left; omega
            · omega
      · rw [if_neg h]
        constructor
        · exact fun h => .inl h
        · rintro (h | ⟨h1,h2⟩)
          · exact h
          · rw [if_neg (by omega)] at h2; omega
    · rw [if_neg hk] at hV
      rw [if_neg hk,if_neg hk]
      obtain ⟨h1,h2,h3,h4⟩ := hV
      have hb2 : (if k = 2 then w (b + 1) else if k = 6 then w (b + n) else b) = b + T.more (.mk k n s l) := by
        rw [more_eq] at h1 h2 ⊢
        by_cases g1 : k = 2
        · rw [if_pos g1,if_pos g1,w_id _ (by omega)]
        · rw [if_neg g1] at h1 h2
          rw [if_neg g1,if_neg g1]
          by_cases g2 : k = 6
          · rw [if_pos g2] at h1 h2
            rw [if_pos g2,if_pos g2,w_id _ (by omega)]
          · rw [if_neg g2,if_neg g2]; omega
      rw [hb2]
      have := freL_mem (l := l) (b := b + T.more (.mk k n s l)) (fun t ht => ih t ht (h4 t ht) (by omega) (by omega) (by omega)) ks m
      rw [this,Int.add_assoc]
theorem freeT_mem {t : T} {f : Int} (h : V t f 1000) (hf : 0 ≤ f ∧ f ≤ 1000) (m : Int) : m ∈ freeT t ↔ 0 ≤ m ∧ 0 < usesZ t m := by
  unfold freeT
  rw [refF_mem t 0 [] [] (fun _ => Iff.rfl) m,fre_mem h hf.1 (by omega) (by omega)]
  simp
theorem freeT_lt (t : T) : (freeT t).Pairwise (· < ·) := refF_lt t 0 [] (by simp)
theorem freeT_len {t : T} (h : vn t ≤ 1073741824) : (freeT t).length ≤ 1073741824 := by
  have := refF_len t 0 []
  unfold freeT
  simp only [List.length_nil] at this
  omega
theorem usesZ_hi {t : T} : ∀ {f q : Int} {D : Nat},V t f D → f ≤ q → usesZ t q = 0 := by
  induction t using T.ind with
  | h k n s l ih =>
    intro f q D hV hq
    rw [V_mk] at hV
    rw [usesZ_mk]
    by_cases hk : k = 1
    · rw [if_pos hk] at hV ⊢
      rw [if_neg (by omega)]
    · rw [if_neg hk] at hV ⊢
      obtain ⟨h1,h2,h3,h4⟩ := hV
      have hb := usesLZ_b (fun t _ => usesZ_b t) (q + T.more (.mk k n s l)) (l := l)
      by_cases h0 : 0 < usesLZ l (q + T.more (.mk k n s l))
      · obtain ⟨t,ht,h5⟩ := usesLZ_pos.1 h0
        have := ih t ht (h4 t ht) (q := q + T.more (.mk k n s l)) (by omega)
        omega
      · omega
theorem usesZ_lam (a : T) (q : Int) : usesZ (.mk 2 0 [] [a]) q = usesZ a (q + 1) := by
  rw [usesZ_mk,if_neg (by omega)]
  show usesZ a (q + 1) + 0 = _
  omega
theorem usesZ_app (a b : T) (q : Int) : usesZ (.mk 3 0 [] [a,b]) q = usesZ a q + usesZ b q := by
  rw [usesZ_mk,if_neg (by omega)]
  have hm : T.more (.mk 3 0 [] [a,b]) = 0 := rfl
  rw [hm,Int.add_zero]
  show usesZ a q + (usesZ b q + 0) = _
  omega
theorem V_lam {a : T} {f : Int} {D : Nat} (h : V a (f + 1) D) : V (.mk 2 0 [] [a]) f (D + 1) := by
  rw [V_mk,if_neg (by omega)]
  have hm : T.more (.mk 2 0 [] [a]) = 1 := rfl
  rw [hm]
  refine ⟨by omega,by omega,by omega,fun t ht => ?_⟩
  rw [List.mem_singleton] at ht
  subst ht; exact h
theorem V_app {a b : T} {f : Int} {D : Nat} (ha : V a f D) (hb : V b f D) : V (.mk 3 0 [] [a,b]) f (D + 1) := by
  rw [V_mk,if_neg (by omega)]
  have hm : T.more (.mk 3 0 [] [a,b]) = 0 := rfl
  rw [hm,Int.add_zero]
  refine ⟨by omega,by omega,by omega,fun t ht => ?_⟩
  simp only [List.mem_cons,List.not_mem_nil,or_false] at ht
  rcases ht with rfl | rfl
  · exact ha
  · exact hb
theorem pw_map {l : List Int} (h : l.Pairwise (· < ·)) (d : Int) : (l.map (· + d)).Pairwise (· < ·) := by
  rw [List.pairwise_map]
  exact h.imp fun h => by omega
theorem free_lam {a : T} (h : V a 5 600) : freeT a = (if usesZ a 0 > 0 then [0] else []) ++ (freeT (.mk 2 0 [] [a])).map (· + 1) := by
  have h1 : V a 5 1000 := V_mono h (by omega) (by omega)
  have h2 : V (.mk 2 0 [] [a]) 4 1000 := V_mono (V_lam (f := 4) h) (by omega) (by omega)
  have hm : ∀ m,m ∈ (freeT (.mk 2 0 [] [a])).map (· + 1) ↔ 1 ≤ m ∧ 0 < usesZ a m := by
    intro m
    rw [List.mem_map]
    constructor
    · rintro ⟨x,hx,rfl⟩
      rw [freeT_mem h2 (by omega),usesZ_lam] at hx
      exact ⟨by omega,hx.2⟩
    · rintro ⟨h3,h4⟩
      refine ⟨m - 1,?_,by omega⟩
      rw [freeT_mem h2 (by omega),usesZ_lam,show m - 1 + 1 = m by omega]
      exact ⟨by omega,h4⟩
  have hp := pw_map (freeT_lt (.mk 2 0 [] [a])) 1
  refine lt_ext (freeT_lt a) ?_ fun m => ?_
  · split
    · simp only [List.singleton_append,List.pairwise_cons]
      exact ⟨fun y hy => by have := (hm y).1 hy; omega,hp⟩
    · simpa using hp
  · rw [freeT_mem h1 (by omega),List.mem_append,hm]
    split
    · rw [List.mem_singleton]
      constructor
      · rintro ⟨h3,h4⟩
        by_cases h5 : m = 0
        · exact .inl h5
        · exact .inr ⟨by omega,h4⟩
      · rintro (rfl | ⟨h3,h4⟩)
        · exact ⟨by omega,by omega⟩
        · exact ⟨by omega,h4⟩
    · simp only [List.not_mem_nil,false_or]
      constructor
      · rintro ⟨h3,h4⟩
        refine ⟨?_,h4⟩
        by_cases h5 : m = 0
        · subst h5; omega
        · omega
      · rintro ⟨h3,h4⟩
        exact ⟨by omega,h4⟩
theorem nodup_len : ∀ {h l : List Int},h.Nodup → (∀ x ∈ h,x ∈ l) → h.length ≤ l.length
  | [],l,_,_ => by simp
  | x :: h,l,hn,hs => by
    obtain ⟨h1,h2⟩ := List.nodup_cons.1 hn
    have hx := hs x (by simp)
    have := nodup_len (l := l.erase x) h2 fun y hy => (List.mem_erase_of_ne (fun e => h1 (by rw [← e]; exact hy))).2 (hs y (by simp [hy]))
    have hl := List.length_erase_of_mem hx
    have hp := List.length_pos_of_mem hx
    simp only [List.length_cons]; omega
theorem free_app {a b : T} (ha : V a 5 600) (hb : V b 5 600) : (∀ x ∈ freeT (.mk 3 0 [] [a,b]),x ∈ freeT a ∨ x ∈ freeT b) ∧ (freeT (.mk 3 0 [] [a,b])).length ≤ (freeT a).length + (freeT b).length := by
  have h1 : V a 5 1000 := V_mono ha (by omega) (by omega)
  have h2 : V b 5 1000 := V_mono hb (by omega) (by omega)
  have h3 : V (.mk 3 0 [] [a,b]) 5 1000 := V_mono (V_app ha hb) (by omega) (by omega)
  have hm : ∀ x ∈ freeT (.mk 3 0 [] [a,b]),x ∈ freeT a ∨ x ∈ freeT b := by
    intro x hx
    rw [freeT_mem h3 (by omega),usesZ_app] at hx
    rw [freeT_mem h1 (by omega),freeT_mem h2 (by omega)]
    have u1 := usesZ_b a x
    have u2 := usesZ_b b x
    by_cases h : 0 < usesZ a x
    · exact .inl ⟨hx.1,h⟩
    · exact .inr ⟨hx.1,by omega⟩
  refine ⟨hm,?_⟩
  rw [← List.length_append]
  exact nodup_len ((freeT_lt _).imp fun h => by omega) fun x hx => List.mem_append.2 (hm x hx)
end Go.Proofs.Ytlgekplmbmkcmaa
end
section
set_option linter.unusedSimpArgs false
set_option linter.unusedVariables false
namespace Go.Proofs.Ytlgekplmbmkcmaa
open Go.Fx
def mo (k n : Int) : Nat := (if k = 2 then 1 else if k = 6 then n else 0 : Int).toNat
end Go.Proofs.Ytlgekplmbmkcmaa
end
section
set_option linter.unusedSimpArgs false
set_option linter.unusedVariables false
set_option maxHeartbeats 4000000
set_option maxRecDepth 10000
namespace Go.Proofs.Ytlgekplmbmkcmaa
open Go.Fx
theorem ofT_lam (a : T) : ofT (lamT a) = uses a 0 :: ofT a := by
  have h : useB (lamT a) = [uses a 0] := by rw [← refB_eq]; rfl
  show useB (lamT a) ++ (ofT a ++ []) = _
  rw [h]; simp
theorem ofT_app (a b : T) : ofT (appT a b) = ofT a ++ ofT b := by
  have h : useB (appT a b) = [] := by rw [← refB_eq]; rfl
  show useB (appT a b) ++ (ofT a ++ (ofT b ++ [])) = _
  rw [h]; simp
end Go.Proofs.Ytlgekplmbmkcmaa
end
section
set_option linter.unusedSimpArgs false
set_option linter.unusedVariables false
set_option maxHeartbeats 4000000
set_option maxRecDepth 10000
namespace Go.Proofs.Ytlgekplmbmkcmaa
open Go.Fx
theorem evI_cl {S : Seat} (d : Option Nat) (o : O) (ys : List (Nat × Nat)) (ns : List Nat) (e : Env) (σ : St) : evI (eP S) (eS S) S.sp ⟨d,none,o,.cl ys ns⟩ e σ = (evO (eP S) (eS S) S.sp d e σ o).bind fun x => if clOk e σ x.2 ys ns = true then some (e.putD d x.1,x.2) else none := rfl
theorem lLoop0 {l : List Int} (hl : l.length ≤ 1099511627776) (hr : ∀ x ∈ l,0 ≤ x ∧ x ≤ 1073741824) {σ : St} {q0 : Nat} (hq0 : q0 < σ.clk) (hb : σ.bs (51,q0) = some (.row 1 3 [])) (e : Env) (e6 : e 6 = .a (.p (.l (l.map encI)))) (e7 : e 7 = .a (.own (51,q0) 0 0)) (e8 : e 8 = .a (.p (.i .i64 0))) :
    wp S false (.loop F11b0) e σ (fun z e' σ' => z = .exit 0 ∧ (∀ key : Key,(key.1 = 2 ∨ key.1 = 3) → σ'.bs key = σ.bs key) ∧ (∃ d q : Nat,e' 7 = .a (.own (d,q) 0 l.length) ∧ σ'.bs (d,q) = some (.row 1 3 ((l.map (· + 1)).map encI)) ∧ q < σ'.clk) ∧ e' 2 = e 2 ∧ e' 3 = e 3 ∧ e' 5 = e 5) := by
  obtain ⟨u2,hu2⟩ : ∃ z,e 2 = z := ⟨_,rfl⟩
  obtain ⟨u3,hu3⟩ : ∃ z,e 3 = z := ⟨_,rfl⟩
  obtain ⟨u5,hu5⟩ : ∃ z,e 5 = z := ⟨_,rfl⟩
  rw [hu2,hu3,hu5]
  refine loop_nat l.length (fun i e τ => (∀ key : Key,(key.1 = 2 ∨ key.1 = 3) → τ.bs key = σ.bs key) ∧ e 6 = .a (.p (.l (l.map encI))) ∧ e 8 = .a (.p (.i .i64 (i : Nat))) ∧ (∃ d q : Nat,(d = 51 ∨ d = 65) ∧ e 7 = .a (.own (d,q) 0 i) ∧ τ.bs (d,q) = some (.row 1 3 (((l.take i).map (· + 1)).map encI)) ∧ q < τ.clk) ∧ e 2 = u2 ∧ e 3 = u3 ∧ e 5 = u5) (i0 := 0) (Nat.zero_le _) ⟨fun _ _ => rfl,e6,e8,⟨51,q0,.inl rfl,e7,hb,hq0⟩,hu2,hu3,hu5⟩ ?_ ?_
  · rintro i e τ hi ⟨hk,e6,e8,⟨d,q,hd,e7,b7,hq⟩,e2,e3,e5⟩
    obtain ⟨x,hx⟩ : ∃ x,l[i]? = some x := ⟨_,List.getElem?_eq_getElem hi⟩
    have hx' := mapI hx
    have hxr := hr x (List.mem_of_getElem? hx)
    have hlt : ((i : Nat) : Int) < (l.length : Int) := by omega
    have hge : (0 : Int) ≤ ((i : Nat) : Int) := by omega
    have hw := wrap_succ i (by omega)
    rw [take_succI hx,List.map_append]
    obtain ⟨D,hD⟩ : ∃ D,(l.take i).map (· + 1) = D := ⟨_,rfl⟩
    have hDl : D.length = i := by rw [← hD,List.length_map,List.length_take]; omega
    rw [hD] at b7 ⊢
    have hbb : (i + 1) * 8 ≤ 140737488355328 := by omega
    have htk : List.take i (D.map encI) = D.map encI := List.take_of_length_le (by simp; omega)
    have hle : i ≤ D.length := by omega
    have hw1 : IntKind.i64.wrap (x + 1) = x + 1 := wrap_in _ (by omega)
    have n0 : ¬ q = τ.clk := by omega
    have n1 : ¬ q = τ.clk + 1 := by omega
    simp only [F11b0,e2,e3,e5,e6,e7,e8,b7,hlt,hge,hw,hw1,hx',htk,hbb,hle,n0,n1,allI,Int.toNat_natCast,List.length_map,List.length_cons,List.length_nil,Nat.le_refl,Nat.zero_add,Nat.one_mul,spS,fxa,fxc,fxE,fxL,fxI,nxE,evO,evR,cellsT,ldCells,mkT,lenA,binPV,Env.init,resV,resT,frT,klT,ownT,intT,O.adds,ownA,rowsA,over,wrOk,keysT,keysA,ne_eq,if_true,if_false,ite_self,Nat.reduceLT,Nat.reduceSub,Nat.reduceBEq,Nat.reduceEqDiff,Nat.reduceAdd,Nat.reduceLeDiff,reduceCtorEq,Nat.reduceMul]
    refine ⟨fun key hkey => ?_,⟨65,τ.clk + 1,.inr rfl,by simp,by simp [encI],by omega⟩⟩
    have a1 : ¬ key = (65,τ.clk + 1) := by rintro rfl; simp at hkey
    have a2 : ¬ key = (64,τ.clk) := by rintro rfl; simp at hkey
    have a3 : ¬ key = (d,q) := by
      rintro rfl
      rcases hd with rfl | rfl <;> simp at hkey
    simp only [a1,a2,a3,if_false]
    exact hk key hkey
  · rintro e τ ⟨hk,e6,e8,⟨d,q,hd,e7,b7,hq⟩,e2,e3,e5⟩
    have hlt : ¬ ((l.length : Nat) : Int) < (l.length : Int) := by omega
    rw [List.take_length] at b7
    simp only [F11b0,e2,e3,e5,e6,e7,e8,hlt,List.length_map,spS,fxa,fxc,fxE,fxL,fxI,nxE,evO,evR,cellsT,ldCells,mkT,lenA,binPV,Env.init,resV,resT,frT,klT,ownT,intT,O.adds,ownA,rowsA,over,wrOk,keysT,keysA,ne_eq,if_true,if_false,ite_self,Nat.reduceLT,Nat.reduceSub,Nat.reduceBEq,Nat.reduceEqDiff,Nat.reduceAdd,Nat.reduceLeDiff,reduceCtorEq,Nat.reduceMul]
    exact ⟨hk,d,q,rfl,b7,hq⟩
theorem lLoop1 {l A B : List Int} {ca cb : List PV} (hl : l.length ≤ 1099511627776) (hA : A.length ≤ 1099511627776) (hB : B.length ≤ 1099511627776) (hm : ∀ x ∈ l,x ∈ A ∨ x ∈ B) (la : ca.length = 4) (lb : cb.length = 4)
    (fa : eP S 35 [.g ca] = some (.a (.l (A.map encI)))) (fb : eP S 35 [.g cb] = some (.a (.l (B.map encI)))) {σ : St} (s2 : σ.bs (2,0) = some (.var (ca.map .p))) (s3 : σ.bs (3,1) = some (.var (cb.map .p))) (e : Env)
    (e2 : e 2 = .a (.ptr (2,0) 0 0)) (e3 : e 3 = .a (.ptr (3,1) 0 0)) (e10 : e 10 = .a (.p (.l (l.map encI)))) (e11 : e 11 = .a (.p (.i .i64 0))) :
    wp S false (.loop F11b1) e σ (fun z e' σ' => z = .exit 2 ∧ σ' = σ ∧ e' 2 = .a (.ptr (2,0) 0 0) ∧ e' 3 = .a (.ptr (3,1) 0 0) ∧ e' 10 = .a (.p (.l (l.map encI))) ∧ e' 5 = e 5 ∧ e' 7 = e 7 ∧ e' 9 = e 9) := by
  obtain ⟨u5,hu5⟩ : ∃ z,e 5 = z := ⟨_,rfl⟩
  obtain ⟨u7,hu7⟩ : ∃ z,e 7 = z := ⟨_,rfl⟩
  obtain ⟨u9,hu9⟩ : ∃ z,e 9 = z := ⟨_,rfl⟩
  rw [hu5,hu7,hu9]
  obtain ⟨a1,a2,a3,a4,rfl⟩ : ∃ a1 a2 a3 a4,ca = [a1,a2,a3,a4] := by
    match ca,la with
    | [a1,a2,a3,a4],_ => exact ⟨_,_,_,_,rfl⟩
  obtain ⟨b1,b2,b3,b4,rfl⟩ : ∃ b1 b2 b3 b4,cb = [b1,b2,b3,b4] := by
    match cb,lb with
    | [a1,a2,a3,a4],_ => exact ⟨_,_,_,_,rfl⟩
  simp only [List.map_cons,List.map_nil] at s2 s3
  refine loop_nat l.length (fun i e τ => τ = σ ∧ e 10 = .a (.p (.l (l.map encI))) ∧ e 11 = .a (.p (.i .i64 (i : Nat))) ∧ e 2 = .a (.ptr (2,0) 0 0) ∧ e 3 = .a (.ptr (3,1) 0 0) ∧ e 5 = u5 ∧ e 7 = u7 ∧ e 9 = u9) (i0 := 0) (Nat.zero_le _) ⟨rfl,e10,e11,e2,e3,hu5,hu7,hu9⟩ ?_ ?_
  · rintro i e τ hi ⟨rfl,e10,e11,e2,e3,e5,e7,e9⟩
    obtain ⟨x,hx⟩ : ∃ x,l[i]? = some x := ⟨_,List.getElem?_eq_getElem hi⟩
    have hx' := mapI hx
    have hlt : ((i : Nat) : Int) < (l.length : Int) := by omega
    have hge : (0 : Int) ≤ ((i : Nat) : Int) := by omega
    have hw := wrap_succ i (by omega)
    have c1 := in11_ok (l := A) (n := x) hA
    have c2 := in11_ok (l := B) (n := x) hB
    have hxm := hm x (List.mem_of_getElem? hx)
    by_cases h1 : x ∈ A
    · rw [decide_eq_true h1] at c1
      simp only [F11b1,e2,e3,e5,e7,e9,e10,e11,s2,s3,fa,c1,hlt,hge,hw,hx',allI,Int.toNat_natCast,List.length_map,List.length_cons,List.length_nil,spS,fxa,fxc,fxE,fxL,fxI,nxE,evO,evR,cellsT,ldCells,mkT,lenA,binPV,Env.init,resV,resT,frT,klT,ownT,intT,O.adds,ownA,rowsA,over,wrOk,keysT,keysA,ne_eq,if_true,if_false,ite_self,Nat.reduceLT,Nat.reduceSub,Nat.reduceBEq,Nat.reduceEqDiff,Nat.reduceAdd,Nat.reduceLeDiff,reduceCtorEq,Nat.reduceMul]
    · have h2 : x ∈ B := hxm.resolve_left h1
      rw [decide_eq_false h1] at c1
      rw [decide_eq_true h2] at c2
      simp only [F11b1,e2,e3,e5,e7,e9,e10,e11,s2,s3,fa,fb,c1,c2,hlt,hge,hw,hx',allI,Int.toNat_natCast,List.length_map,List.length_cons,List.length_nil,spS,fxa,fxc,fxE,fxL,fxI,nxE,evO,evR,cellsT,ldCells,mkT,lenA,binPV,Env.init,resV,resT,frT,klT,ownT,intT,O.adds,ownA,rowsA,over,wrOk,keysT,keysA,ne_eq,if_true,if_false,ite_self,Nat.reduceLT,Nat.reduceSub,Nat.reduceBEq,Nat.reduceEqDiff,Nat.reduceAdd,Nat.reduceLeDiff,reduceCtorEq,Nat.reduceMul]
  · rintro e τ ⟨rfl,e10,e11,e2,e3,e5,e7,e9⟩
    have hlt : ¬ ((l.length : Nat) : Int) < (l.length : Int) := by omega
    simp only [F11b1,e2,e3,e5,e7,e9,e10,e11,hlt,List.length_map,spS,fxa,fxc,fxE,fxL,fxI,nxE,evO,evR,cellsT,ldCells,mkT,lenA,binPV,Env.init,resV,resT,frT,klT,ownT,intT,O.adds,ownA,rowsA,over,wrOk,keysT,keysA,ne_eq,if_true,if_false,ite_self,Nat.reduceLT,Nat.reduceSub,Nat.reduceBEq,Nat.reduceEqDiff,Nat.reduceAdd,Nat.reduceLeDiff,reduceCtorEq,Nat.reduceMul]
theorem useLams_law {a b : T} (ha : T.Ok a) (hb : T.Ok b) : eP S 11 [.g (enc a),.g (enc b)] = some (.a (.b true)) := by
  have f0 := fixed11_ok
  have a1 := small_ok ha 100
  have a2 := small_ok hb 100
  have m1 := May_ok ha 5
  have m2 := May_ok hb 5
  have ea := enc_eq a
  have eb := enc_eq b
  refine x_fn (orcS _) (fc := F11) rfl rfl ?_
  cases hs1 : small a 100 with
  | false =>
    rw [hs1,ea] at a1
    rw [ea,eb]
    simp only [F11,f0,a1,spS,fxa,fxc,fxE,fxL,fxI,nxE,evO,evR,cellsT,ldCells,mkT,lenA,binPV,Env.init,resV,resT,frT,klT,ownT,intT,O.adds,ownA,rowsA,over,wrOk,keysT,keysA,ne_eq,if_true,if_false,ite_self,Nat.reduceLT,Nat.reduceSub,Nat.reduceBEq,Nat.reduceEqDiff,Nat.reduceAdd,Nat.reduceLeDiff,reduceCtorEq,Nat.reduceMul]
  | true =>
  obtain ⟨hA,za⟩ := sml_of (by omega) hs1
  have d1 := Depth_ok ha (by have := hA.d; omega)
  rw [hs1] at a1
  by_cases hd1 : ((dep a : Nat) : Int) > 300
  · rw [ea] at a1 d1 ⊢
    rw [eb]
    simp only [F11,f0,a1,d1,hd1,spS,fxa,fxc,fxE,fxL,fxI,nxE,evO,evR,cellsT,ldCells,mkT,lenA,binPV,Env.init,resV,resT,frT,klT,ownT,intT,O.adds,ownA,rowsA,over,wrOk,keysT,keysA,ne_eq,if_true,if_false,ite_self,Nat.reduceLT,Nat.reduceSub,Nat.reduceBEq,Nat.reduceEqDiff,Nat.reduceAdd,Nat.reduceLeDiff,reduceCtorEq,Nat.reduceMul]
  cases hs2 : small b 100 with
  | false =>
    rw [hs2,eb] at a2
    rw [ea] at a1 d1 ⊢
    rw [eb]
    simp only [F11,f0,a1,a2,d1,hd1,spS,fxa,fxc,fxE,fxL,fxI,nxE,evO,evR,cellsT,ldCells,mkT,lenA,binPV,Env.init,resV,resT,frT,klT,ownT,intT,O.adds,ownA,rowsA,over,wrOk,keysT,keysA,ne_eq,if_true,if_false,ite_self,Nat.reduceLT,Nat.reduceSub,Nat.reduceBEq,Nat.reduceEqDiff,Nat.reduceAdd,Nat.reduceLeDiff,reduceCtorEq,Nat.reduceMul]
  | true =>
  obtain ⟨hB,zb⟩ := sml_of (by omega) hs2
  have d2 := Depth_ok hb (by have := hB.d; omega)
  rw [hs2] at a2
  by_cases hd2 : ((dep b : Nat) : Int) > 300
  · rw [ea] at a1 d1 ⊢
    rw [eb] at a2 d2 ⊢
    simp only [F11,f0,a1,a2,d1,d2,hd1,hd2,spS,fxa,fxc,fxE,fxL,fxI,nxE,evO,evR,cellsT,ldCells,mkT,lenA,binPV,Env.init,resV,resT,frT,klT,ownT,intT,O.adds,ownA,rowsA,over,wrOk,keysT,keysA,ne_eq,if_true,if_false,ite_self,Nat.reduceLT,Nat.reduceSub,Nat.reduceBEq,Nat.reduceEqDiff,Nat.reduceAdd,Nat.reduceLeDiff,reduceCtorEq,Nat.reduceMul]
  cases hm1 : may a 5 false with
  | false =>
    rw [hm1] at m1
    rw [ea] at a1 d1 m1 ⊢
    rw [eb] at a2 d2 ⊢
    simp only [F11,f0,a1,a2,d1,d2,hd1,hd2,m1,spS,fxa,fxc,fxE,fxL,fxI,nxE,evO,evR,cellsT,ldCells,mkT,lenA,binPV,Env.init,resV,resT,frT,klT,ownT,intT,O.adds,ownA,rowsA,over,wrOk,keysT,keysA,ne_eq,if_true,if_false,ite_self,Nat.reduceLT,Nat.reduceSub,Nat.reduceBEq,Nat.reduceEqDiff,Nat.reduceAdd,Nat.reduceLeDiff,reduceCtorEq,Nat.reduceMul]
  | true =>
  cases hm2 : may b 5 false with
  | false =>
    rw [hm1] at m1
    rw [hm2] at m2
    rw [ea] at a1 d1 m1 ⊢
    rw [eb] at a2 d2 m2 ⊢
    simp only [F11,f0,a1,a2,d1,d2,hd1,hd2,m1,m2,spS,fxa,fxc,fxE,fxL,fxI,nxE,evO,evR,cellsT,ldCells,mkT,lenA,binPV,Env.init,resV,resT,frT,klT,ownT,intT,O.adds,ownA,rowsA,over,wrOk,keysT,keysA,ne_eq,if_true,if_false,ite_self,Nat.reduceLT,Nat.reduceSub,Nat.reduceBEq,Nat.reduceEqDiff,Nat.reduceAdd,Nat.reduceLeDiff,reduceCtorEq,Nat.reduceMul]
  | true =>
  rw [hm1] at m1
  rw [hm2] at m2
  have va : V a 5 600 := may_V hm1 hA.d (by omega) (by omega)
  have vb : V b 5 600 := may_V hm2 hB.d (by omega) (by omega)
  have la := hA.l
  have lb := hB.l
  have sv := hA.v
  have sv2 := hB.v
  have Ol := Ok_lam ha
  have Oa := Ok_app ha hb
  have ol : ofT (.mk 2 0 [] [a]) = uses a 0 :: ofT a := ofT_lam a
  have oa : ofT (.mk 3 0 [] [a,b]) = ofT a ++ ofT b := ofT_app a b
  have c1 := lam11_ok a
  have c2 := app11_ok a b
  have vl : vn (.mk 2 0 [] [a]) ≤ 1073741824 := by
    have h1 := vn_size (.mk 2 0 [] [a])
    have : sizeZ (.mk 2 0 [] [a]) = sizeZ a + 0 + 1 := rfl
    omega
  have vp : vn (.mk 3 0 [] [a,b]) ≤ 1073741824 := by
    have h1 := vn_size (.mk 3 0 [] [a,b])
    have : sizeZ (.mk 3 0 [] [a,b]) = sizeZ a + (sizeZ b + 0) + 1 := rfl
    omega
  have c3 := Of_ok Ol (by rw [ol,List.length_cons]; omega)
  have c4 := Free_ok Ol vl
  have c5 := Of_ok Oa (by rw [oa,List.length_append]; omega)
  have c6 := Free_ok Oa vp
  have b1 := Free_ok ha sv
  have b2 := Free_ok hb sv2
  have b3 := Of_ok ha (by omega)
  have b4 := Of_ok hb (by omega)
  rw [ol] at c3
  rw [oa] at c5
  have hfl := free_lam va
  obtain ⟨hfa,hfn⟩ := free_app va vb
  have h5 := freeT_len vl
  have h6 := freeT_len vp
  have h7 := freeT_len sv
  have h8 := freeT_len sv2
  have hu := uses_rng a 0 sv
  have hr5 : ∀ x ∈ freeT (.mk 2 0 [] [a]),0 ≤ x ∧ x ≤ 1073741824 := fun m hm => by
    have hV : V (.mk 2 0 [] [a]) 4 1000 := V_mono (V_lam (f := 4) va) (by omega) (by omega)
    rw [freeT_mem hV (by omega)] at hm
    refine ⟨hm.1,?_⟩
    by_cases h : m ≤ 1073741824
    · exact h
    · have := usesZ_hi hV (q := m) (by omega); omega
  obtain ⟨u,hu2⟩ : ∃ u,uses a 0 = u := ⟨_,rfl⟩
  obtain ⟨Fl,hFl⟩ : ∃ l,freeT (.mk 2 0 [] [a]) = l := ⟨_,rfl⟩
  obtain ⟨Fp,hFp⟩ : ∃ l,freeT (.mk 3 0 [] [a,b]) = l := ⟨_,rfl⟩
  obtain ⟨Fa,hFa⟩ : ∃ l,freeT a = l := ⟨_,rfl⟩
  obtain ⟨Fb,hFb⟩ : ∃ l,freeT b = l := ⟨_,rfl⟩
  obtain ⟨La,hLa⟩ : ∃ l,ofT a = l := ⟨_,rfl⟩
  obtain ⟨Lb,hLb⟩ : ∃ l,ofT b = l := ⟨_,rfl⟩
  rw [hFl] at c4 hfl h5 hr5
  rw [hFp] at c6 hfa hfn h6
  rw [hFa] at b1 hfl hfa hfn h7
  rw [hFb] at b2 hfa hfn h8
  rw [hu2,hLa] at c3
  have hz : usesZ a 0 = u := by rw [← hu2,uses_Z va (by omega) (by omega) (by omega)]
  rw [hz] at hfl
  rw [hu2] at hu
  rw [hLa] at c5 b3 la
  rw [hLb] at c5 b4 lb
  have i1 : u > 0 → eP S 34 [.a (.l (Fa.map encI)),.a (.l ([.i .i64 0] :: (Fl.map (· + 1)).map encI))] = some (.a (.b true)) := fun g => by
    rw [if_pos g] at hfl
    have := Ints_ok (l := Fa) (m := [0] ++ Fl.map (· + 1)) (by omega)
    rw [decide_eq_true hfl] at this
    exact this
  have i2 : ¬ u > 0 → eP S 34 [.a (.l (Fa.map encI)),.a (.l ((Fl.map (· + 1)).map encI))] = some (.a (.b true)) := fun g => by
    rw [if_neg g] at hfl
    have := Ints_ok (l := Fa) (m := [] ++ Fl.map (· + 1)) (by omega)
    rw [decide_eq_true hfl] at this
    exact this
  have i3 := Ints_ok (l := La) (m := La) (by omega)
  rw [decide_eq_true rfl] at i3
  have i4 := Ints_ok (l := La ++ Lb) (m := La ++ Lb) (by rw [List.length_append]; omega)
  rw [decide_eq_true rfl,List.map_append] at i4
  rw [List.map_append] at c5
  have sub1 : subRows (List.map encI (u :: La)) 1 (((u :: La).length : Nat) : Int) = some (La.map encI) := by
    unfold subRows
    rw [if_pos (by simp only [List.length_map,List.length_cons]; omega)]
    simp [List.take_of_length_le]
  have hx0 : (List.map encI (u :: La))[0]? = some [.i .i64 u] := rfl
  obtain ⟨L,hL⟩ : ∃ L,u :: La = L := ⟨_,rfl⟩
  have hLn : L.length = La.length + 1 := by rw [← hL]; rfl
  rw [hL] at c3 sub1 hx0
  have hL0 : ¬ ((L.length : Nat) : Int) = 0 := by omega
  have hL1 : (0 : Int) < ((L.length : Nat) : Int) := by omega
  have hx3 : enc (.mk 3 0 [] [a,b]) = [.i .i64 3,.i .i64 0,.s [],.l [enc a,enc b]] := rfl
  have hx2 : enc (.mk 2 0 [] [a]) = [.i .i64 2,.i .i64 0,.s [],.l [enc a]] := rfl
  rw [hx3] at c2 c5 c6
  rw [hx2] at c1 c3 c4
  rw [ea] at a1 d1 m1 c1 c2 c3 c4 c5 c6 b1 b3 ⊢
  rw [eb] at a2 d2 m2 c2 c5 c6 b2 b4 ⊢
  simp only [F11,f0,a1,a2,d1,d2,hd1,hd2,m1,m2,c1,c2,c3,c4,spS,fxa,fxc,fxE,fxL,fxI,nxE,evO,evR,cellsT,ldCells,mkT,lenA,binPV,Env.init,resV,resT,frT,klT,ownT,intT,O.adds,ownA,rowsA,over,wrOk,keysT,keysA,ne_eq,if_true,if_false,ite_self,Nat.reduceLT,Nat.reduceSub,Nat.reduceBEq,Nat.reduceEqDiff,Nat.reduceAdd,Nat.reduceLeDiff,reduceCtorEq,Nat.reduceMul]
  refine Go.Fx.wp_mono (lLoop0 (l := Fl) (by omega) hr5 (q0 := 2) ?_ ?_ _ ?_ ?_ ?_) ?_
  · simp only [fxa,fxc,fxE,fxL,fxI,nxE,evO,evR,cellsT,ldCells,mkT,lenA,binPV,Env.init,resV,resT,frT,klT,ownT,intT,O.adds,ownA,rowsA,over,wrOk,keysT,keysA,ne_eq,if_true,if_false,ite_self,Nat.reduceLT,Nat.reduceSub,Nat.reduceBEq,Nat.reduceEqDiff,Nat.reduceAdd,Nat.reduceLeDiff,reduceCtorEq,Nat.reduceMul]
  · simp only [fxa,fxc,fxE,fxL,fxI,nxE,evO,evR,cellsT,ldCells,mkT,lenA,binPV,Env.init,resV,resT,frT,klT,ownT,intT,O.adds,ownA,rowsA,over,wrOk,keysT,keysA,ne_eq,if_true,if_false,ite_self,Nat.reduceLT,Nat.reduceSub,Nat.reduceBEq,Nat.reduceEqDiff,Nat.reduceAdd,Nat.reduceLeDiff,reduceCtorEq,Nat.reduceMul]
  · simp only [fxa,fxc,fxE,fxL,fxI,nxE,evO,evR,cellsT,ldCells,mkT,lenA,binPV,Env.init,resV,resT,frT,klT,ownT,intT,O.adds,ownA,rowsA,over,wrOk,keysT,keysA,ne_eq,if_true,if_false,ite_self,Nat.reduceLT,Nat.reduceSub,Nat.reduceBEq,Nat.reduceEqDiff,Nat.reduceAdd,Nat.reduceLeDiff,reduceCtorEq,Nat.reduceMul]
  · simp only [fxa,fxc,fxE,fxL,fxI,nxE,evO,evR,cellsT,ldCells,mkT,lenA,binPV,Env.init,resV,resT,frT,klT,ownT,intT,O.adds,ownA,rowsA,over,wrOk,keysT,keysA,ne_eq,if_true,if_false,ite_self,Nat.reduceLT,Nat.reduceSub,Nat.reduceBEq,Nat.reduceEqDiff,Nat.reduceAdd,Nat.reduceLeDiff,reduceCtorEq,Nat.reduceMul]
  · simp only [fxa,fxc,fxE,fxL,fxI,nxE,evO,evR,cellsT,ldCells,mkT,lenA,binPV,Env.init,resV,resT,frT,klT,ownT,intT,O.adds,ownA,rowsA,over,wrOk,keysT,keysA,ne_eq,if_true,if_false,ite_self,Nat.reduceLT,Nat.reduceSub,Nat.reduceBEq,Nat.reduceEqDiff,Nat.reduceAdd,Nat.reduceLeDiff,reduceCtorEq,Nat.reduceMul]
  rintro z e' σ' ⟨rfl,hk,⟨d,q,e7,r7,hq⟩,e2,e3,e5⟩
  have s2 := hk (2,0) (by simp)
  have s3 := hk (3,1) (by simp)
  simp only [fxa,fxc,fxE,fxL,fxI,nxE,evO,evR,cellsT,ldCells,mkT,lenA,binPV,Env.init,resV,resT,frT,klT,ownT,intT,O.adds,ownA,rowsA,over,wrOk,keysT,keysA,ne_eq,if_true,if_false,ite_self,Nat.reduceLT,Nat.reduceSub,Nat.reduceBEq,Nat.reduceEqDiff,Nat.reduceAdd,Nat.reduceLeDiff,reduceCtorEq,Nat.reduceMul] at s2 s3 e2 e3 e5
  have nq : ¬ q = σ'.clk := by omega
  have tk1 : List.take Fl.length ((Fl.map (· + 1)).map encI) = (Fl.map (· + 1)).map encI := List.take_of_length_le (by simp)
  have tk2 : List.take (1 + Fl.length) ([PV.i .i64 0] :: (Fl.map (· + 1)).map encI) = [PV.i .i64 0] :: (Fl.map (· + 1)).map encI := List.take_of_length_le (by simp; omega)
  have hb1 : (1 + Fl.length) * 8 ≤ 140737488355328 := by omega
  have hb2 : La.length * 8 ≤ 140737488355328 := by omega
  have hb3 : (La.length + Lb.length) * 8 ≤ 140737488355328 := by omega
  have tk3 : List.take La.length (La.map encI) = La.map encI := List.take_of_length_le (by simp)
  have tk4 : List.take (La.length + Lb.length) (La.map encI ++ Lb.map encI) = La.map encI ++ Lb.map encI := List.take_of_length_le (by simp)
  have hwf : IntKind.i64.wrap ((Fa.length : Int) + (Fb.length : Int)) = (Fa.length : Int) + (Fb.length : Int) := wrap_in _ (by omega)
  have hfn2 : (Fp.length : Int) ≤ (Fa.length : Int) + (Fb.length : Int) := by omega
  have hle1 : 1 + Fl.length ≤ Fl.length + 1 := by omega
  by_cases g : u > 0
  · have j1 := i1 g
    simp only [e2,e3,e5,e7,s2,s3,r7,hx0,hL0,hL1,g,nq,tk1,hb1,c2,c5,c6,allI,Int.le_refl,Int.toNat_zero,List.length_map,List.length_cons,List.length_nil,Nat.le_refl,Nat.zero_add,Nat.one_mul,List.cons_append,List.nil_append,spS,fxa,fxc,fxE,fxL,fxI,nxE,evO,evR,cellsT,ldCells,mkT,lenA,binPV,Env.init,resV,resT,frT,klT,ownT,intT,O.adds,ownA,rowsA,over,wrOk,keysT,keysA,ne_eq,if_true,if_false,ite_self,Nat.reduceLT,Nat.reduceSub,Nat.reduceBEq,Nat.reduceEqDiff,Nat.reduceAdd,Nat.reduceLeDiff,reduceCtorEq,Nat.reduceMul]
    refine Go.Fx.wp_mono (lLoop1 (l := Fp) (A := Fa) (B := Fb) (by omega) (by omega) (by omega) hfa rfl rfl b1 b2 ?_ ?_ _ ?_ ?_ ?_ ?_) ?_
    · simp only [s2,fxa,fxc,fxE,fxL,fxI,nxE,evO,evR,cellsT,ldCells,mkT,lenA,binPV,Env.init,resV,resT,frT,klT,ownT,intT,O.adds,ownA,rowsA,over,wrOk,keysT,keysA,ne_eq,if_true,if_false,ite_self,Nat.reduceLT,Nat.reduceSub,Nat.reduceBEq,Nat.reduceEqDiff,Nat.reduceAdd,Nat.reduceLeDiff,reduceCtorEq,Nat.reduceMul]
    · simp only [s3,fxa,fxc,fxE,fxL,fxI,nxE,evO,evR,cellsT,ldCells,mkT,lenA,binPV,Env.init,resV,resT,frT,klT,ownT,intT,O.adds,ownA,rowsA,over,wrOk,keysT,keysA,ne_eq,if_true,if_false,ite_self,Nat.reduceLT,Nat.reduceSub,Nat.reduceBEq,Nat.reduceEqDiff,Nat.reduceAdd,Nat.reduceLeDiff,reduceCtorEq,Nat.reduceMul]
    · simp only [e2,fxa,fxc,fxE,fxL,fxI,nxE,evO,evR,cellsT,ldCells,mkT,lenA,binPV,Env.init,resV,resT,frT,klT,ownT,intT,O.adds,ownA,rowsA,over,wrOk,keysT,keysA,ne_eq,if_true,if_false,ite_self,Nat.reduceLT,Nat.reduceSub,Nat.reduceBEq,Nat.reduceEqDiff,Nat.reduceAdd,Nat.reduceLeDiff,reduceCtorEq,Nat.reduceMul]
    · simp only [e3,fxa,fxc,fxE,fxL,fxI,nxE,evO,evR,cellsT,ldCells,mkT,lenA,binPV,Env.init,resV,resT,frT,klT,ownT,intT,O.adds,ownA,rowsA,over,wrOk,keysT,keysA,ne_eq,if_true,if_false,ite_self,Nat.reduceLT,Nat.reduceSub,Nat.reduceBEq,Nat.reduceEqDiff,Nat.reduceAdd,Nat.reduceLeDiff,reduceCtorEq,Nat.reduceMul]
    · simp only [fxa,fxc,fxE,fxL,fxI,nxE,evO,evR,cellsT,ldCells,mkT,lenA,binPV,Env.init,resV,resT,frT,klT,ownT,intT,O.adds,ownA,rowsA,over,wrOk,keysT,keysA,ne_eq,if_true,if_false,ite_self,Nat.reduceLT,Nat.reduceSub,Nat.reduceBEq,Nat.reduceEqDiff,Nat.reduceAdd,Nat.reduceLeDiff,reduceCtorEq,Nat.reduceMul]
    · simp only [fxa,fxc,fxE,fxL,fxI,nxE,evO,evR,cellsT,ldCells,mkT,lenA,binPV,Env.init,resV,resT,frT,klT,ownT,intT,O.adds,ownA,rowsA,over,wrOk,keysT,keysA,ne_eq,if_true,if_false,ite_self,Nat.reduceLT,Nat.reduceSub,Nat.reduceBEq,Nat.reduceEqDiff,Nat.reduceAdd,Nat.reduceLeDiff,reduceCtorEq,Nat.reduceMul]
    rintro z e2' σ2 ⟨rfl,rfl,y2,y3,y10,y5,y7,y9⟩
    simp only [e5,e7,fxa,fxc,fxE,fxL,fxI,nxE,evO,evR,cellsT,ldCells,mkT,lenA,binPV,Env.init,resV,resT,frT,klT,ownT,intT,O.adds,ownA,rowsA,over,wrOk,keysT,keysA,ne_eq,if_true,if_false,ite_self,Nat.reduceLT,Nat.reduceSub,Nat.reduceBEq,Nat.reduceEqDiff,Nat.reduceAdd,Nat.reduceLeDiff,reduceCtorEq,Nat.reduceMul] at y5 y7 y9
    simp only [y2,y3,y5,y7,y9,y10,s2,s3,b1,b2,b3,b4,j1,i3,i4,sub1,optInt,hle1,tk2,tk3,tk4,hb2,hb3,hwf,hfn2,allI,Int.le_refl,Int.toNat_zero,List.length_map,List.length_cons,List.length_nil,List.length_append,Nat.le_refl,Nat.zero_add,Nat.one_mul,List.cons_append,List.nil_append,spS,evI_cl,clOk,ldKeeps,ldKeeps1,iasKeeps,rowK,nwKeeps,sameC,Go.Fx.sameL,sameA,sameP,sameR,sameRR_rfl,decide_true,frA_ptr,capsOf,fxa,fxc,fxE,fxL,fxI,nxE,evO,evR,cellsT,ldCells,mkT,lenA,binPV,Env.init,resV,resT,frT,klT,ownT,intT,O.adds,ownA,rowsA,over,wrOk,keysT,keysA,ne_eq,if_true,if_false,ite_self,Nat.reduceLT,Nat.reduceSub,Nat.reduceBEq,Nat.reduceEqDiff,Nat.reduceAdd,Nat.reduceLeDiff,reduceCtorEq,Nat.reduceMul]
  · have j1 := i2 g
    simp only [e2,e3,e5,e7,s2,s3,r7,hx0,hL0,hL1,g,nq,tk1,hb1,c2,c5,c6,allI,Int.le_refl,Int.toNat_zero,List.length_map,List.length_cons,List.length_nil,Nat.le_refl,Nat.zero_add,Nat.one_mul,List.cons_append,List.nil_append,spS,fxa,fxc,fxE,fxL,fxI,nxE,evO,evR,cellsT,ldCells,mkT,lenA,binPV,Env.init,resV,resT,frT,klT,ownT,intT,O.adds,ownA,rowsA,over,wrOk,keysT,keysA,ne_eq,if_true,if_false,ite_self,Nat.reduceLT,Nat.reduceSub,Nat.reduceBEq,Nat.reduceEqDiff,Nat.reduceAdd,Nat.reduceLeDiff,reduceCtorEq,Nat.reduceMul]
    refine Go.Fx.wp_mono (lLoop1 (l := Fp) (A := Fa) (B := Fb) (by omega) (by omega) (by omega) hfa rfl rfl b1 b2 ?_ ?_ _ ?_ ?_ ?_ ?_) ?_
    · simp only [s2,fxa,fxc,fxE,fxL,fxI,nxE,evO,evR,cellsT,ldCells,mkT,lenA,binPV,Env.init,resV,resT,frT,klT,ownT,intT,O.adds,ownA,rowsA,over,wrOk,keysT,keysA,ne_eq,if_true,if_false,ite_self,Nat.reduceLT,Nat.reduceSub,Nat.reduceBEq,Nat.reduceEqDiff,Nat.reduceAdd,Nat.reduceLeDiff,reduceCtorEq,Nat.reduceMul]
    · simp only [s3,fxa,fxc,fxE,fxL,fxI,nxE,evO,evR,cellsT,ldCells,mkT,lenA,binPV,Env.init,resV,resT,frT,klT,ownT,intT,O.adds,ownA,rowsA,over,wrOk,keysT,keysA,ne_eq,if_true,if_false,ite_self,Nat.reduceLT,Nat.reduceSub,Nat.reduceBEq,Nat.reduceEqDiff,Nat.reduceAdd,Nat.reduceLeDiff,reduceCtorEq,Nat.reduceMul]
    · simp only [e2,fxa,fxc,fxE,fxL,fxI,nxE,evO,evR,cellsT,ldCells,mkT,lenA,binPV,Env.init,resV,resT,frT,klT,ownT,intT,O.adds,ownA,rowsA,over,wrOk,keysT,keysA,ne_eq,if_true,if_false,ite_self,Nat.reduceLT,Nat.reduceSub,Nat.reduceBEq,Nat.reduceEqDiff,Nat.reduceAdd,Nat.reduceLeDiff,reduceCtorEq,Nat.reduceMul]
    · simp only [e3,fxa,fxc,fxE,fxL,fxI,nxE,evO,evR,cellsT,ldCells,mkT,lenA,binPV,Env.init,resV,resT,frT,klT,ownT,intT,O.adds,ownA,rowsA,over,wrOk,keysT,keysA,ne_eq,if_true,if_false,ite_self,Nat.reduceLT,Nat.reduceSub,Nat.reduceBEq,Nat.reduceEqDiff,Nat.reduceAdd,Nat.reduceLeDiff,reduceCtorEq,Nat.reduceMul]
    · simp only [fxa,fxc,fxE,fxL,fxI,nxE,evO,evR,cellsT,ldCells,mkT,lenA,binPV,Env.init,resV,resT,frT,klT,ownT,intT,O.adds,ownA,rowsA,over,wrOk,keysT,keysA,ne_eq,if_true,if_false,ite_self,Nat.reduceLT,Nat.reduceSub,Nat.reduceBEq,Nat.reduceEqDiff,Nat.reduceAdd,Nat.reduceLeDiff,reduceCtorEq,Nat.reduceMul]
    · simp only [fxa,fxc,fxE,fxL,fxI,nxE,evO,evR,cellsT,ldCells,mkT,lenA,binPV,Env.init,resV,resT,frT,klT,ownT,intT,O.adds,ownA,rowsA,over,wrOk,keysT,keysA,ne_eq,if_true,if_false,ite_self,Nat.reduceLT,Nat.reduceSub,Nat.reduceBEq,Nat.reduceEqDiff,Nat.reduceAdd,Nat.reduceLeDiff,reduceCtorEq,Nat.reduceMul]
    rintro z e2' σ2 ⟨rfl,rfl,y2,y3,y10,y5,y7,y9⟩
    simp only [e5,e7,fxa,fxc,fxE,fxL,fxI,nxE,evO,evR,cellsT,ldCells,mkT,lenA,binPV,Env.init,resV,resT,frT,klT,ownT,intT,O.adds,ownA,rowsA,over,wrOk,keysT,keysA,ne_eq,if_true,if_false,ite_self,Nat.reduceLT,Nat.reduceSub,Nat.reduceBEq,Nat.reduceEqDiff,Nat.reduceAdd,Nat.reduceLeDiff,reduceCtorEq,Nat.reduceMul] at y5 y7 y9
    simp only [y2,y3,y5,y7,y9,y10,s2,s3,r7,b1,b2,b3,b4,j1,i3,i4,sub1,optInt,tk1,tk3,tk4,hb2,hb3,hwf,hfn2,allI,Int.le_refl,Int.toNat_zero,List.length_map,List.length_cons,List.length_nil,List.length_append,Nat.le_refl,Nat.zero_add,Nat.one_mul,List.cons_append,List.nil_append,spS,evI_cl,clOk,ldKeeps,ldKeeps1,iasKeeps,rowK,nwKeeps,sameC,Go.Fx.sameL,sameA,sameP,sameR,sameRR_rfl,decide_true,frA_ptr,capsOf,fxa,fxc,fxE,fxL,fxI,nxE,evO,evR,cellsT,ldCells,mkT,lenA,binPV,Env.init,resV,resT,frT,klT,ownT,intT,O.adds,ownA,rowsA,over,wrOk,keysT,keysA,ne_eq,if_true,if_false,ite_self,Nat.reduceLT,Nat.reduceSub,Nat.reduceBEq,Nat.reduceEqDiff,Nat.reduceAdd,Nat.reduceLeDiff,reduceCtorEq,Nat.reduceMul]
end Go.Proofs.Ytlgekplmbmkcmaa
end
section
set_option linter.unusedSimpArgs false
set_option linter.unusedVariables false
namespace Go.Proofs.Ytlgekplmbmkcmaa
open Go.Fx
theorem cells24 : Try.prog.cellsOf 24 = 4 := by kernel_rfl
theorem bytes24 : Try.prog.bytesOf 24 = 56 := by kernel_rfl
theorem cells3 : Try.prog.cellsOf 3 = 1 := by kernel_rfl
theorem cells9 : Try.prog.cellsOf 9 = 1 := by kernel_rfl
theorem cells22 : Try.prog.cellsOf 22 = 1 := by kernel_rfl
theorem len4 {α : Type} {l : List α} (h : l.length = 4) : ∃ a b c d,l = [a,b,c,d] := by
  match l,h with
  | [a,b,c,d],_ => exact ⟨a,b,c,d,rfl⟩
theorem ct_int {n : Nat} {qs : List PV} (h : CT Try.prog n 3 qs) : ∃ i,qs = [.i .i64 i] ∧ (Lit.int .i64 i).wf = true := by
  cases n with
  | zero => exact h.elim
  | succ n => simp only [CT,Try.underlying3] at h; exact h
theorem ct_term : ∀ {n : Nat} {qs : List PV},CT Try.prog n 24 qs → ∃ t,T.Ok t ∧ qs = enc t := by
  intro n
  induction n using Nat.strongRecOn with
  | _ n ih =>
    intro qs h
    cases n with
    | zero => exact h.elim
    | succ n =>
      simp only [CT,Try.underlying24,cells24] at h
      obtain ⟨hl,hf⟩ := h
      obtain ⟨q0,q1,q2,q3,rfl⟩ := len4 hl
      · have f0 : CT Try.prog n 3 (List.take (Try.prog.cellsOf 3) [q0,q1,q2,q3]) := hf _ (Array.mem_of_getElem? (i := 0) rfl)
        have f1 : CT Try.prog n 3 (List.take (Try.prog.cellsOf 3) [q1,q2,q3]) := hf _ (Array.mem_of_getElem? (i := 1) rfl)
        have f2 : CT Try.prog n 9 (List.take (Try.prog.cellsOf 9) [q2,q3]) := hf _ (Array.mem_of_getElem? (i := 2) rfl)
        have f3 : CT Try.prog n 22 (List.take (Try.prog.cellsOf 22) [q3]) := hf _ (Array.mem_of_getElem? (i := 3) rfl)
        rw [cells3] at f0 f1
        rw [cells9] at f2
        rw [cells22] at f3
        have f0 : CT Try.prog n 3 [q0] := f0
        have f1 : CT Try.prog n 3 [q1] := f1
        have f2 : CT Try.prog n 9 [q2] := f2
        have f3 : CT Try.prog n 22 [q3] := f3
        obtain ⟨k,e0,hk⟩ := ct_int f0
        obtain ⟨m,e1,hm⟩ := ct_int f1
        cases n with
        | zero => exact f0.elim
        | succ n =>
          simp only [CT,Try.underlying9] at f2
          simp only [CT,Try.underlying22,bytes24] at f3
          obtain ⟨s,e2,hs⟩ := f2
          obtain ⟨rows,e3,hr,hrow⟩ := f3
          simp only [List.cons.injEq,and_true] at e0 e1 e2 e3
          subst e0 e1 e2 e3
          have : ∀ (rows : List (List PV)),(∀ r,r ∈ rows → r.length = Try.prog.cellsOf 24 ∧ CT Try.prog n 24 r) → ∃ l : List T,rows = l.map enc ∧ ∀ t,t ∈ l → T.Ok t := by
            intro rows
            induction rows with
            | nil => intro _; exact ⟨[],rfl,fun t ht => by simp at ht⟩
            | cons r rows ihr =>
              intro h
              obtain ⟨t,ht,rfl⟩ := ih n (by omega) (h r (by simp)).2
              obtain ⟨l,rfl,hl⟩ := ihr fun r hr => h r (by simp [hr])
              exact ⟨t :: l,rfl,fun u hu => by rcases List.mem_cons.1 hu with rfl | hu; exact ht; exact hl u hu⟩
          obtain ⟨l,rfl,hall⟩ := this rows hrow
          exact ⟨.mk k m s l,.mk k m s l hk hm hs (by simpa using hr) hall,by simp [enc,encL_map]⟩
theorem agg24 : aggT Try.prog 24 = true := by simp only [aggT,Try.underlying24,aggD]
theorem at_term {p : PT} (h : AT Try.prog 24 p ∧ p.isG = aggT Try.prog 24) : ∃ t,T.Ok t ∧ p = .g (enc t) := by
  obtain ⟨h1,h2⟩ := h
  rw [agg24] at h2
  cases p with
  | g qs => obtain ⟨n,hn⟩ := h1; obtain ⟨t,ht,rfl⟩ := ct_term hn; exact ⟨t,ht,rfl⟩
  | _ => simp [PT.isG] at h2
def lawTs : List TypeId := [3,9,22,24,25]
theorem lawTsOk : closedTs Try.prog lawTs = true := by kernel_rfl
theorem own : ownKnob Try.prog.godebug = none := by kernel_rfl
theorem laidOut : laidOutB Try.prog = true := by kernel_rfl
end Go.Proofs.Ytlgekplmbmkcmaa
end
namespace Go.Proofs.Ytlgekplmbmkcmaa.useLams
open Go.Fx Go.ChangeShapes Go.WideShapes Go.ChangeAt Go.RowKit
theorem law (ps : List PT) (h : F2 (fun t p => AT Try.checked.prog t p ∧ p.isG = aggT Try.checked.prog t) Try.f11.params.toList ps) : eP S 11 ps = some (.a (.b true)) := by
  have h' : F2 (fun t p => AT Try.prog t p ∧ p.isG = aggT Try.prog t) [24,24] ps := by rw [Try.params11] at h; exact h
  obtain _ | ⟨h1,r1⟩ := h'
  obtain _ | ⟨h2,r2⟩ := r1
  obtain _ | _ := r2
  obtain ⟨a1,k1,rfl⟩ := at_term h1
  obtain ⟨a2,k2,rfl⟩ := at_term h2
  exact useLams_law k1 k2
set_option maxRecDepth 100000 in
theorem lifted (os : Os) (started : os.Started) (H : Type) (enc : TypeId × Value → H) :
    ReturnsInHanded {} Try.checked os 11 .any (Rows.useLamsSpec.pre6 enc Try.prog Try.f11 Rows.useLamsRow.domain false) (Rows.useLamsSpec.post enc Try.prog Try.f11 false true false false) := by
  refine row_ok (C := Try.checked) (eqs := []) (S := S) (ts := lawTs) (tb := 4) own started (by kernel_rfl) Try.func11 laidOut
    (ChangeSpec.witness6 (enc := enc) (C := Try.checked) false ⟨#[],#[.agg #[.int .i64 0,.int .i64 0,.string ByteArray.empty,.slice none 0 0],.agg #[.int .i64 0,.int .i64 0,.string ByteArray.empty,.slice none 0 0]],[]⟩ 8 (by kernel_rfl) (by kernel_rfl) (by kernel_rfl) (by kernel_rfl))
    lawTsOk (by kernel_rfl) rfl Try.underlying4 rfl ?_ seatOk law
  intro ds hd
  match ds,hd with
  | [d1,d2],_ => rfl
theorem over : Rows.useLamsRow.holds Try.pinned (OpenSpec.ofChange Rows.useLamsSpec) :=
  OpenClaim.holds_of_wide 11 Try.f11 rfl rfl rfl rfl rfl rfl rfl ⟨rfl,rfl,rfl,rfl,rfl⟩ rfl rfl rfl rfl rfl (by kernel_rfl) Try.func11 (by kernel_rfl)
    (of_decide_eq_true (by kernel_rfl)) (by unfold Func.isWrapper; first | (rw [if_pos (by decide +kernel)]; kernel_rfl) | (rw [if_neg (by decide +kernel)]; exact ⟨rfl,rfl⟩))
    (fun os started H enc _ => lifted os started H enc)
theorem proved : Rows.UseLamsSaid := over
#print axioms proved
end Go.Proofs.Ytlgekplmbmkcmaa.useLams
