/- Part 5 of what is proved for the law UseCounts: it returns true,whatever the input. No condition. -/
import Derived.Test.YtlgekplmbmkcmaaChecked
import Derived.Test.YtlgekplmbmkcmaaRows
import Derived.Test.YtlgekplmbmkcmaaPUseCountsd
section
set_option linter.unusedSimpArgs false
set_option linter.unusedVariables false
namespace Go.Proofs.Ytlgekplmbmkcmaa
open Go.Fx
theorem usesZ_mk (k n : Int) (s : List UInt8) (l : List T) (q : Int) : usesZ (.mk k n s l) q = if k = 1 then (if n = q then 1 else 0) else usesLZ l (q + T.more (.mk k n s l)) := rfl
theorem usesLZ_pos {l : List T} {q : Int} : 0 < usesLZ l q ↔ ∃ t ∈ l,0 < usesZ t q := by
  induction l with
  | nil => simp [usesLZ]
  | cons t l ih =>
    have h1 := usesZ_b t q
    have h2 := usesLZ_b (fun t _ => usesZ_b t) q (l := l)
    simp only [usesLZ,List.mem_cons,exists_eq_or_imp,← ih]
    omega
theorem freL_mem {l : List T} {b : Int} (h : ∀ t ∈ l,∀ (ks : List Int) (m : Int),m ∈ fre t b ks ↔ m ∈ ks ∨ (0 ≤ m ∧ 0 < usesZ t (m + b))) : ∀ (ks : List Int) (m : Int),m ∈ freL l b ks ↔ m ∈ ks ∨ (0 ≤ m ∧ 0 < usesLZ l (m + b)) := by
  induction l with
  | nil => intro ks m; simp [freL,usesLZ]
  | cons t l ih =>
    intro ks m
    have h1 := usesZ_b t (m + b)
    have h2 := usesLZ_b (fun t _ => usesZ_b t) (m + b) (l := l)
    simp only [freL]
    rw [ih (fun u hu => h u (by simp [hu])),h t (by simp)]
    simp only [usesLZ]
    constructor
    · rintro ((h | h) | h)
      · exact .inl h
      · exact .inr ⟨h.1,by omega⟩
      · exact .inr ⟨h.1,by omega⟩
    · rintro (h | ⟨h3,h4⟩)
      · exact .inl (.inl h)
      · by_cases h5 : 0 < usesZ t (m + b)
        · exact .inl (.inr ⟨h3,h5⟩)
        · exact .inr ⟨h3,by omega⟩
theorem more_eq (k n : Int) (s : List UInt8) (l : List T) : T.more (.mk k n s l) = if k = 2 then 1 else if k = 6 then n else 0 := rfl
theorem fre_mem {t : T} : ∀ {f b : Int} {D : Nat},V t f D → 0 ≤ f → 0 ≤ b → f + b + 16 * D ≤ 1152921504606846976 → ∀ (ks : List Int) (m : Int),m ∈ fre t b ks ↔ m ∈ ks ∨ (0 ≤ m ∧ 0 < usesZ t (m + b)) := by
  induction t using T.ind with
  | h k n s l ih =>
    intro f b D hV hf hb hB ks m
    rw [V_mk] at hV
    unfold fre
    rw [usesZ_mk]
    by_cases hk : k = 1
    · rw [if_pos hk] at hV
      rw [if_pos hk,if_pos hk]
      by_cases h : n ≥ b
      · rw [if_pos h,w_id _ (by omega),List.mem_cons]
        constructor
        · rintro (h | h)
          · right; exact ⟨by omega,by rw [if_pos (by omega)]; omega⟩
          · exact .inl h
        · rintro (h | ⟨h1,h2⟩)
          · exact .inr h
          · split at h2
            · left; omega
            · omega
      · rw [if_neg h]
        constructor
        · exact fun h => .inl h
        · rintro (h | ⟨h1,h2⟩)
          · exact h
          · rw [if_neg (by omega)] at h2; omega
    · rw [if_neg hk] at hV
      rw [if_neg hk,if_neg hk]
      obtain ⟨h1,h2,h3,h4⟩ := hV
      have hb2 : (if k = 2 then w (b + 1) else if k = 6 then w (b + n) else b) = b + T.more (.mk k n s l) := by
        rw [more_eq] at h1 h2 ⊢
        by_cases g1 : k = 2
        · rw [if_pos g1,if_pos g1,w_id _ (by omega)]
        · rw [if_neg g1] at h1 h2
          rw [if_neg g1,if_neg g1]
          by_cases g2 : k = 6
          · rw [if_pos g2] at h1 h2
            rw [if_pos g2,if_pos g2,w_id _ (by omega)]
          · rw [if_neg g2,if_neg g2]; omega
      rw [hb2]
      have := freL_mem (l := l) (b := b + T.more (.mk k n s l)) (fun t ht => ih t ht (h4 t ht) (by omega) (by omega) (by omega)) ks m
      rw [this,Int.add_assoc]
theorem freeT_mem {t : T} {f : Int} (h : V t f 1000) (hf : 0 ≤ f ∧ f ≤ 1000) (m : Int) : m ∈ freeT t ↔ 0 ≤ m ∧ 0 < usesZ t m := by
  unfold freeT
  rw [refF_mem t 0 [] [] (fun _ => Iff.rfl) m,fre_mem h hf.1 (by omega) (by omega)]
  simp
theorem freeT_lt (t : T) : (freeT t).Pairwise (· < ·) := refF_lt t 0 [] (by simp)
theorem freeT_len {t : T} (h : vn t ≤ 1073741824) : (freeT t).length ≤ 1073741824 := by
  have := refF_len t 0 []
  unfold freeT
  simp only [List.length_nil] at this
  omega
theorem usesZ_hi {t : T} : ∀ {f q : Int} {D : Nat},V t f D → f ≤ q → usesZ t q = 0 := by
  induction t using T.ind with
  | h k n s l ih =>
    intro f q D hV hq
    rw [V_mk] at hV
    rw [usesZ_mk]
    by_cases hk : k = 1
    · rw [if_pos hk] at hV ⊢
      rw [if_neg (by omega)]
    · rw [if_neg hk] at hV ⊢
      obtain ⟨h1,h2,h3,h4⟩ := hV
      have hb := usesLZ_b (fun t _ => usesZ_b t) (q + T.more (.mk k n s l)) (l := l)
      by_cases h0 : 0 < usesLZ l (q + T.more (.mk k n s l))
      · obtain ⟨t,ht,h5⟩ := usesLZ_pos.1 h0
        have := ih t ht (h4 t ht) (q := q + T.more (.mk k n s l)) (by omega)
        omega
      · omega
end Go.Proofs.Ytlgekplmbmkcmaa
end
section
set_option linter.unusedSimpArgs false
set_option linter.unusedVariables false
namespace Go.Proofs.Ytlgekplmbmkcmaa
open Go.Fx
theorem may_lower {t : T} : ∀ {f g : Int} {a : Bool} {D : Nat},may t f a = true → dep t ≤ D → 0 ≤ f → 0 ≤ g → f + 8 * D ≤ 1152921504606846976 → g + 8 * D ≤ 1152921504606846976 → (∀ m,g ≤ m → usesZ t m = 0) → may t g a = true := by
  induction t using T.ind with
  | h k n s l ih =>
    intro f g a D h hd hf hg hb1 hb2 hu
    have hd' : depL l + 1 ≤ D := hd
    rw [may_iff hf (by omega)] at h
    obtain ⟨h1,h2⟩ := h
    obtain ⟨h3,h4,h5,h6⟩ := head_var h1
    by_cases hk : k = 1
    · obtain ⟨rfl,h7,h8,rfl,rfl⟩ := h3 hk
      subst hk
      have hn : n < g := by
        by_cases h9 : n < g
        · exact h9
        · have := hu n (by omega)
          rw [usesZ_mk,if_pos rfl,if_pos rfl] at this
          omega
      exact may_var h7 hn
    · rw [may_iff hg (by omega)]
      refine ⟨head_same hk rfl h1,fun j t hj => ⟨?_,(h2 j t hj).2⟩⟩
      have ht := List.mem_of_getElem? hj
      refine ih t ht (h2 j t hj).1 (D := D - 1) (by have := depL_mem ht; omega) (by omega) (by omega) (by omega) (by omega) fun m hm => ?_
      have := hu (m - T.more (.mk k n s l)) (by omega)
      rw [usesZ_mk,if_neg hk,show m - T.more (.mk k n s l) + T.more (.mk k n s l) = m by omega] at this
      exact usesLZ_zero this t ht
theorem may_free {t : T} (h : may t 5 false = true) (hd : dep t ≤ 600) {g : Int} (hg : 0 ≤ g ∧ g ≤ 1000) : may t g false = true ↔ ∀ m ∈ freeT t,m < g := by
  have hV : V t 5 1000 := may_V h (by omega) (by omega) (by omega)
  constructor
  · intro h1 m hm
    have hV2 : V t g 1000 := may_V h1 (by omega) (by omega) (by omega)
    rw [freeT_mem hV (by omega)] at hm
    by_cases h2 : m < g
    · exact h2
    · have := usesZ_hi hV2 (q := m) (by omega); omega
  · intro h1
    refine may_lower h (D := 600) hd (by omega) (by omega) (by omega) (by omega) fun m hm => ?_
    have hb := usesZ_b t m
    by_cases h2 : 0 < usesZ t m
    · have := h1 m ((freeT_mem hV (by omega) m).2 ⟨by omega,h2⟩); omega
    · omega
def mo (k n : Int) : Nat := (if k = 2 then 1 else if k = 6 then n else 0 : Int).toNat
def bZ (k n : Int) (l : List T) : List Int := if k = 1 then [] else (List.range (mo k n)).map fun i : Nat => usesLZ l ((mo k n : Int) - 1 - (i : Int))
mutual
def ofZ : T → List Int
  | .mk k n _ l => bZ k n l ++ ofZL l
def ofZL : List T → List Int
  | [] => []
  | t :: r => ofZ t ++ ofZL r
end
theorem head_len {k n : Int} {s : List UInt8} {l : List T} {f : Int} {a : Bool} (h : head (.mk k n s l) f a = true) (hk : k = 2 ∨ k = 6) : l.length = 1 := by
  have e : head (.mk k n s l) f a = headC k n s l.length f a := rfl
  rw [e] at h
  unfold headC at h
  rcases hk with rfl | rfl
  · split at h
    · simp at h
    · simp at h; omega
  · split at h
    · simp at h; omega
    · simp at h
theorem ofTL_eq {l : List T} (h : ∀ t ∈ l,ofT t = ofZ t) : ofTL l = ofZL l := by
  induction l with
  | nil => rfl
  | cons t l ih => simp only [ofTL,ofZL]; rw [h t (by simp),ih fun u hu => h u (by simp [hu])]
theorem ofT_Z {t : T} : ∀ {f : Int} {a : Bool} {D : Nat},may t f a = true → dep t ≤ D → 0 ≤ f → f + 8 * D ≤ 1099511627776 → sizeZ t ≤ 1099511627776 → ofT t = ofZ t := by
  induction t using T.ind with
  | h k n s l ih =>
    intro f a D h hd hf hb hsz
    have hd' : depL l + 1 ≤ D := hd
    have hsz' : sizeLZ l + 1 ≤ 1099511627776 := hsz
    rw [may_iff hf (by omega)] at h
    obtain ⟨h1,h2⟩ := h
    obtain ⟨h3,h4,h5,h6⟩ := head_var h1
    show useB (.mk k n s l) ++ ofTL l = bZ k n l ++ ofZL l
    rw [ofTL_eq fun t ht => by
      obtain ⟨j,hj⟩ := List.getElem?_of_mem ht
      exact ih t ht (h2 j t hj).1 (D := D - 1) (by have := depL_mem ht; omega) (by omega) (by omega) (by have := sizeLZ_mem ht; omega)]
    congr 1
    rw [← refB_eq]
    unfold refB bZ
    have hlen := head_len h1
    by_cases hk1 : k = 1
    · obtain ⟨_,_,_,_,rfl⟩ := h3 hk1
      have hr : refN (.mk k n s []) = 0 := by unfold refN; rw [if_neg (fun h => h.2 rfl)]
      rw [if_pos hk1,hr,if_neg (fun h => h.2 rfl)]; rfl
    rw [if_neg hk1]
    by_cases hk2 : k = 2
    · have hl := hlen (.inl hk2)
      obtain ⟨c,rfl⟩ : ∃ c,l = [c] := by
        match l,hl with
        | [c],_ => exact ⟨c,rfl⟩
      have hr : refN (.mk k n s [c]) = 0 := by unfold refN; rw [if_neg (fun h => by have : k = 6 := h.1; omega)]
      have hc : V c (f + T.more (.mk k n s [c])) (D - 1) := may_V (h2 0 c rfl).1 (by have := depL_mem (l := [c]) (t := c) (by simp); omega) (by omega) (by omega)
      have hs : sizeZ c ≤ 1099511627776 := by have := sizeLZ_mem (l := [c]) (t := c) (by simp); omega
      rw [hr,if_pos ⟨hk2,by show [c].length ≠ 0; simp⟩]
      subst hk2
      show [uses c 0] = [usesLZ [c] ((1 : Int) - 1 - 0)]
      rw [uses_Z hc (by omega) (by omega) (by omega)]
      show [usesZ c 0] = [usesZ c ((1 : Int) - 1 - 0) + 0]
      simp
    by_cases hk6 : k = 6
    · have hl := hlen (.inr hk6)
      obtain ⟨c,rfl⟩ : ∃ c,l = [c] := by
        match l,hl with
        | [c],_ => exact ⟨c,rfl⟩
      have hm : T.more (.mk k n s [c]) = n := by rw [more_eq,if_neg hk2,if_pos hk6]
      rw [hm] at h5 h6
      have hmo : mo k n = n.toNat := by unfold mo; rw [if_neg hk2,if_pos hk6]
      have hr : refN (.mk k n s [c]) = n.toNat := by
        unfold refN
        rw [if_pos ⟨hk6,by show [c].length ≠ 0; simp⟩]
        show (if n < 8 then n.toNat else 8) = n.toNat
        split <;> omega
      have hc : V c (f + T.more (.mk k n s [c])) (D - 1) := may_V (h2 0 c rfl).1 (by have := depL_mem (l := [c]) (t := c) (by simp); omega) (by omega) (by omega)
      have hs : sizeZ c ≤ 1099511627776 := by have := sizeLZ_mem (l := [c]) (t := c) (by simp); omega
      rw [hr,hmo,if_neg (fun h => hk2 h.1),List.nil_append]
      refine List.map_congr_left fun i hi => ?_
      have hi := List.mem_range.1 hi
      show uses c (w (w (n - 1) - (i : Int))) = usesZ c (((n.toNat : Nat) : Int) - 1 - (i : Int)) + 0
      rw [w_id (n - 1) (by omega),w_id (n - 1 - (i : Int)) (by omega),uses_Z hc (by omega) (by omega) (by omega),show ((n.toNat : Nat) : Int) - 1 - (i : Int) = n - 1 - (i : Int) by omega]
      omega
    · have hr : refN (.mk k n s l) = 0 := by unfold refN; rw [if_neg (fun h => hk6 h.1)]
      have hmo : mo k n = 0 := by unfold mo; rw [if_neg hk2,if_neg hk6]; rfl
      rw [hr,hmo,if_neg (fun h => hk2 h.1)]; rfl
def upTo (g : Int → Int) (m : Nat) : Int := ((List.range m).map fun i : Nat => g (i : Int)).sum
theorem upTo_succ (g : Int → Int) (m : Nat) : upTo g (m + 1) = upTo g m + g (m : Int) := by
  unfold upTo; rw [List.range_succ,List.map_append,List.sum_append]; simp
theorem upTo_add (g : Int → Int) (m : Nat) : ∀ f : Nat,upTo g (m + f) = upTo g m + upTo (fun q => g (q + m)) f
  | 0 => by simp [upTo]
  | f + 1 => by
    rw [← Nat.add_assoc,upTo_succ,upTo_succ,upTo_add g m f,show ((m + f : Nat) : Int) = (f : Int) + m by omega]; omega
theorem upTo_rev (g : Int → Int) : ∀ m : Nat,((List.range m).map fun i : Nat => g ((m : Int) - 1 - (i : Int))).sum = upTo g m
  | 0 => rfl
  | m + 1 => by
    rw [List.range_succ_eq_map,List.map_cons,List.sum_cons,List.map_map,upTo_succ]
    have h1 : ((m + 1 : Nat) : Int) - 1 - ((0 : Nat) : Int) = (m : Int) := by omega
    have h2 : ((List.range m).map ((fun i : Nat => g (((m + 1 : Nat) : Int) - 1 - (i : Int))) ∘ Nat.succ)) = (List.range m).map fun i : Nat => g ((m : Int) - 1 - (i : Int)) := by
      refine List.map_congr_left fun i _ => ?_
      show g (((m + 1 : Nat) : Int) - 1 - ((i + 1 : Nat) : Int)) = _
      rw [show ((m + 1 : Nat) : Int) - 1 - ((i + 1 : Nat) : Int) = (m : Int) - 1 - (i : Int) by omega]
    rw [h1,h2,upTo_rev g m]; omega
theorem upTo_zero {g : Int → Int} : ∀ m : Nat,(∀ i : Nat,i < m → g (i : Int) = 0) → upTo g m = 0
  | 0,_ => rfl
  | m + 1,h => by rw [upTo_succ,upTo_zero m fun i hi => h i (by omega),h m (by omega)]; rfl
theorem upTo_one {n : Int} : ∀ m : Nat,0 ≤ n → n < m → upTo (fun q => if n = q then 1 else 0) m = 1
  | 0,h1,h2 => by omega
  | m + 1,h1,h2 => by
    rw [upTo_succ]
    by_cases h : n = (m : Int)
    · rw [upTo_zero m fun i hi => by rw [if_neg (by omega)],if_pos h]; rfl
    · rw [upTo_one m h1 (by omega),if_neg h]; rfl
theorem upTo_plus (g h : Int → Int) : ∀ m : Nat,upTo (fun q => g q + h q) m = upTo g m + upTo h m
  | 0 => rfl
  | m + 1 => by rw [upTo_succ,upTo_succ,upTo_succ,upTo_plus g h m]; omega
theorem cntL {l : List T} {m : Nat} (h : ∀ t ∈ l,(vnA t : Int) = sumZ id (ofZ t) + upTo (usesZ t) m) : (vnAL l : Int) = sumZ id (ofZL l) + upTo (usesLZ l) m := by
  induction l with
  | nil =>
    have : upTo (usesLZ []) m = 0 := upTo_zero m fun _ _ => rfl
    simp [vnAL,ofZL,sumZ,this]
  | cons t l ih =>
    have h1 := h t (by simp)
    have h2 := ih fun u hu => h u (by simp [hu])
    have h3 : upTo (usesLZ (t :: l)) m = upTo (usesZ t) m + upTo (usesLZ l) m := upTo_plus (usesZ t) (usesLZ l) m
    simp only [vnAL,ofZL,sumZ_app]
    rw [h3]; omega
theorem cnt {t : T} : ∀ {f : Nat} {D : Nat},V t f D → (vnA t : Int) = sumZ id (ofZ t) + upTo (usesZ t) f := by
  induction t using T.ind with
  | h k n s l ih =>
    intro f D hV
    rw [V_mk] at hV
    by_cases hk : k = 1
    · rw [if_pos hk] at hV
      obtain ⟨h1,h2,rfl,rfl,h5⟩ := hV
      subst hk
      have h6 : upTo (usesZ (.mk 1 n [] [])) f = 1 := upTo_one f h1 h2
      rw [h6]
      show (((if (1 : Int) = 1 then 1 else 0) + 0 : Nat) : Int) = sumZ id (bZ 1 n [] ++ []) + 1
      simp [bZ,sumZ]
    · rw [if_neg hk] at hV
      obtain ⟨h1,h2,h3,h4⟩ := hV
      have hM : T.more (.mk k n s l) = (mo k n : Int) := by
        have : (mo k n : Int) = if k = 2 then 1 else if k = 6 then n else 0 := by
          unfold mo
          rw [more_eq] at h1
          omega
        rw [this]; rfl
      rw [hM] at h4
      have hL := cntL (l := l) (m := mo k n + f) fun t ht => ih t ht (f := mo k n + f) (D := D - 1) (by
        have := h4 t ht
        rw [show ((mo k n + f : Nat) : Int) = (f : Int) + (mo k n : Int) by omega]; exact this)
      rw [upTo_add] at hL
      have hb : sumZ id (bZ k n l) = upTo (usesLZ l) (mo k n) := by
        unfold bZ
        rw [if_neg hk]
        have := upTo_rev (usesLZ l) (mo k n)
        rw [← this]
        simp [sumZ]
      have hu : upTo (usesZ (.mk k n s l)) f = upTo (fun q => usesLZ l (q + mo k n)) f := by
        have : usesZ (.mk k n s l) = fun q => usesLZ l (q + mo k n) := funext fun q => by rw [usesZ_mk,if_neg hk,hM]
        rw [this]
      rw [hu]
      show (((if k = 1 then 1 else 0) + vnAL l : Nat) : Int) = sumZ id (bZ k n l ++ ofZL l) + _
      rw [if_neg hk,sumZ_app,hb]
      omega
mutual
theorem varsL_A : ∀ (l : List T) (a : Int),0 ≤ a → a + vnAL l ≤ 4294967296 → varsL l a = a + vnAL l
  | [],a,_,_ => by simp [varsL,vnAL]
  | t :: r,a,h0,h => by
    simp only [vnAL] at h
    have h1 := vars_A' t (by omega)
    have hw : w (a + vnA t) = a + vnA t := wrap_in _ (by omega)
    simp only [varsL,vnAL,h1,hw]
    rw [varsL_A r _ (by omega) (by omega)]; omega
theorem vars_A' : ∀ (t : T),vnA t ≤ 4294967296 → vars t = vnA t
  | .mk k n s l,h => by
    simp only [vnA] at h
    by_cases hk : k = 1
    · rw [if_pos hk] at h
      have := varsL_A l 1 (by omega) (by omega)
      simp only [vars,vnA,if_pos hk,this]; omega
    · rw [if_neg hk] at h
      have := varsL_A l 0 (by omega) (by omega)
      simp only [vars,vnA,if_neg hk,this]; omega
end
theorem vars_A (t : T) (h : vnA t ≤ 1073741824) : vars t = vnA t := vars_A' t (by omega)
theorem closed_vars {t : T} (h : may t 0 false = true) (hd : dep t ≤ 600) (hz : sizeZ t ≤ 1000) : vars t = sumZ id (ofT t) := by
  have hV : V t ((0 : Nat) : Int) 600 := may_V h hd (by omega) (by omega)
  have h1 := cnt (f := 0) hV
  rw [ofT_Z h hd (by omega) (by omega) (by omega),vars_A t (by have := vn_A t; omega),h1]
  show sumZ id (ofZ t) + 0 = _
  omega
end Go.Proofs.Ytlgekplmbmkcmaa
end
section
set_option linter.unusedSimpArgs false
set_option linter.unusedVariables false
set_option maxHeartbeats 4000000
set_option maxRecDepth 10000
namespace Go.Proofs.Ytlgekplmbmkcmaa
open Go.Fx
def sumW (l : List Int) : Int := l.foldl (fun a x => w (a + x)) 0
theorem sumW_app (l : List Int) (x : Int) : sumW (l ++ [x]) = w (sumW l + x) := by unfold sumW; rw [List.foldl_append]; rfl
def leastW (l : List Int) : Int := l.foldl (fun _ x => w (x + 1)) 0
theorem leastW_app (l : List Int) (x : Int) : leastW (l ++ [x]) = w (x + 1) := by unfold leastW; rw [List.foldl_append]; rfl
theorem sumW_eq {l : List Int} (hx : ∀ x ∈ l,0 ≤ x ∧ x ≤ 1073741824) (hl : l.length ≤ 1048576) : sumW l = sumZ id l := by
  have := foldl_sum (g := fun a x => w (a + x)) (f := id) (B := 1073741824) (fun a x h1 h2 h3 h4 => wrap_in _ (by omega)) (fun x h1 h2 => ⟨h1,h2⟩) (by omega) l 0 hx (by omega) (by omega)
  rw [Int.zero_add] at this; exact this
theorem sumZ_le {f : Int → Int} {B : Int} : ∀ {l : List Int},(∀ x ∈ l,0 ≤ f x ∧ f x ≤ B) → 0 ≤ sumZ f l ∧ sumZ f l ≤ l.length * B
  | [],_ => by simp [sumZ]
  | x :: l,h => by
    have h1 := h x (by simp)
    have h2 := sumZ_le (l := l) fun y hy => h y (by simp [hy])
    have hll : (((x :: l).length : Nat) : Int) * B = (l.length : Int) * B + B := by simp only [List.length_cons]; rw [show ((l.length + 1 : Nat) : Int) = (l.length : Int) + 1 by omega,Int.add_mul]; omega
    rw [sumZ_cons,hll]; omega
theorem sum_three : ∀ {l : List Int},(∀ x ∈ l,0 ≤ x) → sumZ id l = sumZ fanZ l + (l.length : Int) - sumZ dropZ l
  | [],_ => by simp [sumZ]
  | x :: l,h => by
    have h1 := h x (by simp)
    have h2 := sum_three (l := l) fun y hy => h y (by simp [hy])
    rw [sumZ_cons,sumZ_cons,sumZ_cons,h2]
    have h3 : id x = fanZ x + 1 - dropZ x := by
      show x = _
      unfold fanZ dropZ
      by_cases h4 : x = 0
      · rw [if_neg (by omega),if_pos h4]; omega
      · rw [if_neg h4]
        split <;> omega
    rw [h3,List.length_cons]; omega
theorem least_ok {l : List Int} (hp : l.Pairwise (· < ·)) (hb : ∀ x ∈ l,0 ≤ x ∧ x ≤ 900) : (∀ m ∈ l,m < leastW l) ∧ 0 ≤ leastW l ∧ leastW l ≤ 901 ∧ (0 < leastW l → leastW l - 1 ∈ l) ∧ (leastW l = 0 ↔ l = []) := by
  rcases List.eq_nil_or_concat l with rfl | ⟨L,x,rfl⟩
  · simp [leastW]
  · rw [List.concat_eq_append] at hp hb ⊢
    have hx := hb x (by simp)
    have hw : w (x + 1) = x + 1 := wrap_in _ (by omega)
    rw [leastW_app,hw]
    rw [List.pairwise_append] at hp
    refine ⟨fun m hm => ?_,by omega,by omega,fun _ => by rw [show x + 1 - 1 = x by omega]; simp,?_⟩
    · rcases List.mem_append.1 hm with h | h
      · have := hp.2.2 m h x (by simp); omega
      · rw [List.mem_singleton] at h; omega
    · constructor
      · intro h; omega
      · intro h; simp at h
theorem cLoop0 {l : List Int} (hl : l.length ≤ 1099511627776) {σ : St} (e : Env) (e3 : e 3 = .a (.p (.l (l.map encI)))) (e4 : e 4 = .a (.p (.i .i64 0))) (e5 : e 5 = .a (.p (.i .i64 0))) :
    wp S false (.loop F10b0) e σ (fun z e' σ' => z = .exit 0 ∧ σ' = σ ∧ e' 4 = .a (.p (.i .i64 (sumW l))) ∧ e' 3 = .a (.p (.l (l.map encI))) ∧ e' 1 = e 1) := by
  obtain ⟨u1,hu1⟩ : ∃ z,e 1 = z := ⟨_,rfl⟩
  rw [hu1]
  refine loop_nat l.length (fun i e τ => τ = σ ∧ e 3 = .a (.p (.l (l.map encI))) ∧ e 4 = .a (.p (.i .i64 (sumW (l.take i)))) ∧ e 5 = .a (.p (.i .i64 (i : Nat))) ∧ e 1 = u1) (i0 := 0) (Nat.zero_le _) ⟨rfl,e3,e4,e5,hu1⟩ ?_ ?_
  · rintro i e τ hi ⟨rfl,e3,e4,e5,e1⟩
    obtain ⟨x,hx⟩ : ∃ x,l[i]? = some x := ⟨_,List.getElem?_eq_getElem hi⟩
    have hx' := mapI hx
    have hlt : ((i : Nat) : Int) < (l.length : Int) := by omega
    have hge : (0 : Int) ≤ ((i : Nat) : Int) := by omega
    have hw := wrap_succ i (by omega)
    rw [take_succI hx,sumW_app]
    simp only [F10b0,e1,e3,e4,e5,hlt,hge,hw,hx',allI,Int.toNat_natCast,List.length_map,List.length_cons,List.length_nil,spS,w,fxa,fxc,fxE,fxL,fxI,nxE,evO,evR,cellsT,ldCells,mkT,lenA,binPV,Env.init,resV,resT,frT,klT,ownT,intT,O.adds,ownA,rowsA,over,wrOk,keysT,keysA,ne_eq,if_true,if_false,ite_self,Nat.reduceLT,Nat.reduceSub,Nat.reduceBEq,Nat.reduceEqDiff,Nat.reduceAdd,Nat.reduceLeDiff,reduceCtorEq,Nat.reduceMul]
  · rintro e τ ⟨rfl,e3,e4,e5,e1⟩
    have hlt : ¬ ((l.length : Nat) : Int) < (l.length : Int) := by omega
    rw [List.take_length] at e4
    simp only [F10b0,e1,e3,e4,e5,hlt,List.length_map,spS,fxa,fxc,fxE,fxL,fxI,nxE,evO,evR,cellsT,ldCells,mkT,lenA,binPV,Env.init,resV,resT,frT,klT,ownT,intT,O.adds,ownA,rowsA,over,wrOk,keysT,keysA,ne_eq,if_true,if_false,ite_self,Nat.reduceLT,Nat.reduceSub,Nat.reduceBEq,Nat.reduceEqDiff,Nat.reduceAdd,Nat.reduceLeDiff,reduceCtorEq,Nat.reduceMul]
theorem cLoop1 {l : List Int} (hl : l.length ≤ 1099511627776) {σ : St} (e : Env) (e6 : e 6 = .a (.p (.l (l.map encI)))) (e7 : e 7 = .a (.p (.i .i64 0))) (e8 : e 8 = .a (.p (.i .i64 0))) :
    wp S false (.loop F10b1) e σ (fun z e' σ' => z = .exit 2 ∧ σ' = σ ∧ e' 7 = .a (.p (.i .i64 (leastW l))) ∧ e' 6 = .a (.p (.l (l.map encI))) ∧ e' 1 = e 1 ∧ e' 3 = e 3 ∧ e' 4 = e 4) := by
  obtain ⟨u1,hu1⟩ : ∃ z,e 1 = z := ⟨_,rfl⟩
  obtain ⟨u3,hu3⟩ : ∃ z,e 3 = z := ⟨_,rfl⟩
  obtain ⟨u4,hu4⟩ : ∃ z,e 4 = z := ⟨_,rfl⟩
  rw [hu1,hu3,hu4]
  refine loop_nat l.length (fun i e τ => τ = σ ∧ e 6 = .a (.p (.l (l.map encI))) ∧ e 7 = .a (.p (.i .i64 (leastW (l.take i)))) ∧ e 8 = .a (.p (.i .i64 (i : Nat))) ∧ e 1 = u1 ∧ e 3 = u3 ∧ e 4 = u4) (i0 := 0) (Nat.zero_le _) ⟨rfl,e6,e7,e8,hu1,hu3,hu4⟩ ?_ ?_
  · rintro i e τ hi ⟨rfl,e6,e7,e8,e1,e3,e4⟩
    obtain ⟨x,hx⟩ : ∃ x,l[i]? = some x := ⟨_,List.getElem?_eq_getElem hi⟩
    have hx' := mapI hx
    have hlt : ((i : Nat) : Int) < (l.length : Int) := by omega
    have hge : (0 : Int) ≤ ((i : Nat) : Int) := by omega
    have hw := wrap_succ i (by omega)
    rw [take_succI hx,leastW_app]
    simp only [F10b1,e1,e3,e4,e6,e7,e8,hlt,hge,hw,hx',allI,Int.toNat_natCast,List.length_map,List.length_cons,List.length_nil,spS,w,fxa,fxc,fxE,fxL,fxI,nxE,evO,evR,cellsT,ldCells,mkT,lenA,binPV,Env.init,resV,resT,frT,klT,ownT,intT,O.adds,ownA,rowsA,over,wrOk,keysT,keysA,ne_eq,if_true,if_false,ite_self,Nat.reduceLT,Nat.reduceSub,Nat.reduceBEq,Nat.reduceEqDiff,Nat.reduceAdd,Nat.reduceLeDiff,reduceCtorEq,Nat.reduceMul]
  · rintro e τ ⟨rfl,e6,e7,e8,e1,e3,e4⟩
    have hlt : ¬ ((l.length : Nat) : Int) < (l.length : Int) := by omega
    rw [List.take_length] at e7
    simp only [F10b1,e1,e3,e4,e6,e7,e8,hlt,List.length_map,spS,fxa,fxc,fxE,fxL,fxI,nxE,evO,evR,cellsT,ldCells,mkT,lenA,binPV,Env.init,resV,resT,frT,klT,ownT,intT,O.adds,ownA,rowsA,over,wrOk,keysT,keysA,ne_eq,if_true,if_false,ite_self,Nat.reduceLT,Nat.reduceSub,Nat.reduceBEq,Nat.reduceEqDiff,Nat.reduceAdd,Nat.reduceLeDiff,reduceCtorEq,Nat.reduceMul]
theorem useCounts_law {t : T} (ht : T.Ok t) : eP S 10 [.g (enc t)] = some (.a (.b true)) := by
  have f0 := fixed11_ok
  have a1 := small_ok ht 200
  have m1 := May_ok ht 5
  have e4 := enc_eq t
  refine x_fn (orcS _) (fc := F10) rfl rfl ?_
  cases hs : small t 200 with
  | false =>
    rw [hs,e4] at a1
    rw [e4]
    simp only [F10,f0,a1,spS,fxa,fxc,fxE,fxL,fxI,nxE,evO,evR,cellsT,ldCells,mkT,lenA,binPV,Env.init,resV,resT,frT,klT,ownT,intT,O.adds,ownA,rowsA,over,wrOk,keysT,keysA,ne_eq,if_true,if_false,ite_self,Nat.reduceLT,Nat.reduceSub,Nat.reduceBEq,Nat.reduceEqDiff,Nat.reduceAdd,Nat.reduceLeDiff,reduceCtorEq,Nat.reduceMul]
  | true =>
  obtain ⟨hS,hz⟩ := sml_of (by omega) hs
  have d1 := Depth_ok ht (by have := hS.d; omega)
  rw [hs] at a1
  by_cases hd : ((dep t : Nat) : Int) > 300
  · rw [e4] at a1 d1 ⊢
    simp only [F10,f0,a1,d1,hd,spS,fxa,fxc,fxE,fxL,fxI,nxE,evO,evR,cellsT,ldCells,mkT,lenA,binPV,Env.init,resV,resT,frT,klT,ownT,intT,O.adds,ownA,rowsA,over,wrOk,keysT,keysA,ne_eq,if_true,if_false,ite_self,Nat.reduceLT,Nat.reduceSub,Nat.reduceBEq,Nat.reduceEqDiff,Nat.reduceAdd,Nat.reduceLeDiff,reduceCtorEq,Nat.reduceMul]
  cases hm : may t 5 false with
  | false =>
    rw [hm] at m1
    rw [e4] at a1 d1 m1 ⊢
    simp only [F10,f0,a1,d1,m1,hd,spS,fxa,fxc,fxE,fxL,fxI,nxE,evO,evR,cellsT,ldCells,mkT,lenA,binPV,Env.init,resV,resT,frT,klT,ownT,intT,O.adds,ownA,rowsA,over,wrOk,keysT,keysA,ne_eq,if_true,if_false,ite_self,Nat.reduceLT,Nat.reduceSub,Nat.reduceBEq,Nat.reduceEqDiff,Nat.reduceAdd,Nat.reduceLeDiff,reduceCtorEq,Nat.reduceMul]
  | true =>
  rw [hm] at m1
  have hV : V t 5 1000 := may_V hm (by have := hS.d; omega) (by omega) (by omega)
  have hll := hS.l
  have b1 := Of_ok ht (by omega)
  have b2 := Free_ok ht hS.v
  have b3 := Fans_ok ht
  have b4 := Drops_ok ht
  have b5 := May_ok ht (leastW (freeT t))
  have b6 := May_ok ht (leastW (freeT t) - 1)
  have b7 := May_ok ht 0
  have b8 := vars_ok ht
  obtain ⟨q1,q2,q3⟩ := fan_eq hS.r hS.l
  rw [q1] at b3
  rw [q3] at b4
  have hfm : ∀ m ∈ freeT t,0 ≤ m ∧ m ≤ 900 := fun m hm => by
    rw [freeT_mem hV (by omega)] at hm
    refine ⟨hm.1,?_⟩
    by_cases h : m ≤ 900
    · exact h
    · have := usesZ_hi hV (q := m) (by omega); omega
  have hfl := freeT_len hS.v
  obtain ⟨g1,g2,g3,g4,g5⟩ := least_ok (freeT_lt t) hfm
  have c5 : may t (leastW (freeT t)) false = true := (may_free hm hS.d (by omega)).2 g1
  have c6 : leastW (freeT t) > 0 → may t (leastW (freeT t) - 1) false = false := fun h => by
    cases h2 : may t (leastW (freeT t) - 1) false with
    | false => rfl
    | true =>
      have := (may_free hm hS.d (by omega)).1 h2 _ (g4 h)
      omega
  have c7 : may t 0 false = decide (freeT t = []) := by
    by_cases h : freeT t = []
    · rw [decide_eq_true h]
      exact (may_free hm hS.d (by omega)).2 fun m hm => by rw [h] at hm; simp at hm
    · rw [decide_eq_false h]
      cases h2 : may t 0 false with
      | false => rfl
      | true =>
        refine absurd ?_ h
        rw [List.eq_nil_iff_forall_not_mem]
        intro m hm2
        have := (may_free hm hS.d (by omega)).1 h2 m hm2
        have := hfm m hm2
        omega
  have c8 : freeT t = [] → vars t = sumZ id (ofT t) := fun h => by
    have : may t 0 false = true := by rw [c7,h]; rfl
    exact closed_vars this hS.d (by omega)
  have c9 := sum_three fun x hx => (hS.r x hx).1
  have c10 := sumW_eq hS.r hS.l
  have k1 := sumZ_le (f := fanZ) (B := 1073741824) (l := ofT t) fun x hx => by have := hS.r x hx; unfold fanZ; split <;> omega
  have k2 := sumZ_le (f := dropZ) (B := 1) (l := ofT t) fun x hx => by unfold dropZ; split <;> omega
  rw [c5] at b5
  rw [c7] at b7
  obtain ⟨F,hF⟩ : ∃ z,sumZ fanZ (ofT t) = z := ⟨_,rfl⟩
  obtain ⟨D,hD⟩ : ∃ z,sumZ dropZ (ofT t) = z := ⟨_,rfl⟩
  obtain ⟨N,hN⟩ : ∃ z,sumZ id (ofT t) = z := ⟨_,rfl⟩
  obtain ⟨G,hG⟩ : ∃ z,leastW (freeT t) = z := ⟨_,rfl⟩
  rw [hF] at b3 c9 k1
  rw [hD] at b4 c9 k2
  rw [hN] at c8 c9 c10
  rw [hG] at b5 b6 g2 g3 g5 c6
  have w1 : IntKind.i64.wrap (F + ((ofT t).length : Int)) = F + ((ofT t).length : Int) := wrap_in _ (by omega)
  have w2 : IntKind.i64.wrap (F + ((ofT t).length : Int) - D) = N := by rw [wrap_in _ (by omega)]; exact c9.symm
  have w3 : IntKind.i64.wrap (G - 1) = G - 1 := wrap_in _ (by omega)
  obtain ⟨f,hf⟩ : ∃ f,freeT t = f := ⟨_,rfl⟩
  obtain ⟨l,hl⟩ : ∃ l,ofT t = l := ⟨_,rfl⟩
  rw [hf] at b2 b7 g5 c8 hfl hG
  rw [hl] at b1 hll w1 w2 c10
  rw [e4] at a1 d1 m1 b1 b2 b3 b4 b5 b6 b7 b8 ⊢
  simp only [F10,f0,a1,d1,m1,hd,b1,spS,fxa,fxc,fxE,fxL,fxI,nxE,evO,evR,cellsT,ldCells,mkT,lenA,binPV,Env.init,resV,resT,frT,klT,ownT,intT,O.adds,ownA,rowsA,over,wrOk,keysT,keysA,ne_eq,if_true,if_false,ite_self,Nat.reduceLT,Nat.reduceSub,Nat.reduceBEq,Nat.reduceEqDiff,Nat.reduceAdd,Nat.reduceLeDiff,reduceCtorEq,Nat.reduceMul]
  refine Go.Fx.wp_mono (cLoop0 (l := l) (by omega) _ ?_ ?_ ?_) ?_
  · rfl
  · rfl
  · rfl
  rintro z e σ' ⟨rfl,rfl,x4,x3,x1⟩
  simp only [fxa,fxc,fxE,fxL,fxI,nxE,evO,evR,cellsT,ldCells,mkT,lenA,binPV,Env.init,resV,resT,frT,klT,ownT,intT,O.adds,ownA,rowsA,over,wrOk,keysT,keysA,ne_eq,if_true,if_false,ite_self,Nat.reduceLT,Nat.reduceSub,Nat.reduceBEq,Nat.reduceEqDiff,Nat.reduceAdd,Nat.reduceLeDiff,reduceCtorEq,Nat.reduceMul] at x1
  rw [c10] at x4
  simp only [x1,x3,x4,b2,spS,fxa,fxc,fxE,fxL,fxI,nxE,evO,evR,cellsT,ldCells,mkT,lenA,binPV,Env.init,resV,resT,frT,klT,ownT,intT,O.adds,ownA,rowsA,over,wrOk,keysT,keysA,ne_eq,if_true,if_false,ite_self,Nat.reduceLT,Nat.reduceSub,Nat.reduceBEq,Nat.reduceEqDiff,Nat.reduceAdd,Nat.reduceLeDiff,reduceCtorEq,Nat.reduceMul]
  refine Go.Fx.wp_mono (cLoop1 (l := f) (by omega) _ ?_ ?_ ?_) ?_
  · rfl
  · rfl
  · rfl
  rintro z e2 σ' ⟨rfl,rfl,y7,y6,y1,y3,y4⟩
  rw [hG] at y7
  simp only [x1,x3,x4,fxa,fxc,fxE,fxL,fxI,nxE,evO,evR,cellsT,ldCells,mkT,lenA,binPV,Env.init,resV,resT,frT,klT,ownT,intT,O.adds,ownA,rowsA,over,wrOk,keysT,keysA,ne_eq,if_true,if_false,ite_self,Nat.reduceLT,Nat.reduceSub,Nat.reduceBEq,Nat.reduceEqDiff,Nat.reduceAdd,Nat.reduceLeDiff,reduceCtorEq,Nat.reduceMul] at y1 y3 y4
  by_cases h0 : f = []
  · have hG0 : G = 0 := g5.2 h0
    have hv := c8 h0
    rw [hv] at b8
    subst hG0 h0
    have hg0 : ¬ (0 : Int) > 0 := by omega
    have hz0 : ((0 : Nat) : Int) = 0 := rfl
    simp only [hg0,hz0,eq_self,decide_true,y1,y3,y4,y6,y7,b3,b4,b5,b7,b8,w1,w2,List.length_map,List.length_nil,List.map_nil,spS,fxa,fxc,fxE,fxL,fxI,nxE,evO,evR,cellsT,ldCells,mkT,lenA,binPV,Env.init,resV,resT,frT,klT,ownT,intT,O.adds,ownA,rowsA,over,wrOk,keysT,keysA,ne_eq,if_true,if_false,ite_self,Nat.reduceLT,Nat.reduceSub,Nat.reduceBEq,Nat.reduceEqDiff,Nat.reduceAdd,Nat.reduceLeDiff,reduceCtorEq,Nat.reduceMul]
  · have hG0 : G > 0 := by
      have : ¬ G = 0 := fun h => h0 (g5.1 h)
      omega
    have h6 := c6 hG0
    rw [h6] at b6
    have hl0 : ¬ (f.length : Int) = 0 := by
      intro h
      exact h0 (List.eq_nil_of_length_eq_zero (by omega))
    have hl1 : (f.length : Int) > 0 := by omega
    simp only [y1,y3,y4,y6,y7,b3,b4,b5,b6,b7,w1,w2,w3,h0,hG0,hl0,hl1,List.length_map,spS,fxa,fxc,fxE,fxL,fxI,nxE,evO,evR,cellsT,ldCells,mkT,lenA,binPV,Env.init,resV,resT,frT,klT,ownT,intT,O.adds,ownA,rowsA,over,wrOk,keysT,keysA,ne_eq,if_true,if_false,ite_self,Nat.reduceLT,Nat.reduceSub,Nat.reduceBEq,Nat.reduceEqDiff,Nat.reduceAdd,Nat.reduceLeDiff,reduceCtorEq,Nat.reduceMul]
end Go.Proofs.Ytlgekplmbmkcmaa
end
section
set_option linter.unusedSimpArgs false
set_option linter.unusedVariables false
namespace Go.Proofs.Ytlgekplmbmkcmaa
open Go.Fx
theorem cells24 : Try.prog.cellsOf 24 = 4 := by kernel_rfl
theorem bytes24 : Try.prog.bytesOf 24 = 56 := by kernel_rfl
theorem cells3 : Try.prog.cellsOf 3 = 1 := by kernel_rfl
theorem cells9 : Try.prog.cellsOf 9 = 1 := by kernel_rfl
theorem cells22 : Try.prog.cellsOf 22 = 1 := by kernel_rfl
theorem len4 {α : Type} {l : List α} (h : l.length = 4) : ∃ a b c d,l = [a,b,c,d] := by
  match l,h with
  | [a,b,c,d],_ => exact ⟨a,b,c,d,rfl⟩
theorem ct_int {n : Nat} {qs : List PV} (h : CT Try.prog n 3 qs) : ∃ i,qs = [.i .i64 i] ∧ (Lit.int .i64 i).wf = true := by
  cases n with
  | zero => exact h.elim
  | succ n => simp only [CT,Try.underlying3] at h; exact h
theorem ct_term : ∀ {n : Nat} {qs : List PV},CT Try.prog n 24 qs → ∃ t,T.Ok t ∧ qs = enc t := by
  intro n
  induction n using Nat.strongRecOn with
  | _ n ih =>
    intro qs h
    cases n with
    | zero => exact h.elim
    | succ n =>
      simp only [CT,Try.underlying24,cells24] at h
      obtain ⟨hl,hf⟩ := h
      obtain ⟨q0,q1,q2,q3,rfl⟩ := len4 hl
      · have f0 : CT Try.prog n 3 (List.take (Try.prog.cellsOf 3) [q0,q1,q2,q3]) := hf _ (Array.mem_of_getElem? (i := 0) rfl)
        have f1 : CT Try.prog n 3 (List.take (Try.prog.cellsOf 3) [q1,q2,q3]) := hf _ (Array.mem_of_getElem? (i := 1) rfl)
        have f2 : CT Try.prog n 9 (List.take (Try.prog.cellsOf 9) [q2,q3]) := hf _ (Array.mem_of_getElem? (i := 2) rfl)
        have f3 : CT Try.prog n 22 (List.take (Try.prog.cellsOf 22) [q3]) := hf _ (Array.mem_of_getElem? (i := 3) rfl)
        rw [cells3] at f0 f1
        rw [cells9] at f2
        rw [cells22] at f3
        have f0 : CT Try.prog n 3 [q0] := f0
        have f1 : CT Try.prog n 3 [q1] := f1
        have f2 : CT Try.prog n 9 [q2] := f2
        have f3 : CT Try.prog n 22 [q3] := f3
        obtain ⟨k,e0,hk⟩ := ct_int f0
        obtain ⟨m,e1,hm⟩ := ct_int f1
        cases n with
        | zero => exact f0.elim
        | succ n =>
          simp only [CT,Try.underlying9] at f2
          simp only [CT,Try.underlying22,bytes24] at f3
          obtain ⟨s,e2,hs⟩ := f2
          obtain ⟨rows,e3,hr,hrow⟩ := f3
          simp only [List.cons.injEq,and_true] at e0 e1 e2 e3
          subst e0 e1 e2 e3
          have : ∀ (rows : List (List PV)),(∀ r,r ∈ rows → r.length = Try.prog.cellsOf 24 ∧ CT Try.prog n 24 r) → ∃ l : List T,rows = l.map enc ∧ ∀ t,t ∈ l → T.Ok t := by
            intro rows
            induction rows with
            | nil => intro _; exact ⟨[],rfl,fun t ht => by simp at ht⟩
            | cons r rows ihr =>
              intro h
              obtain ⟨t,ht,rfl⟩ := ih n (by omega) (h r (by simp)).2
              obtain ⟨l,rfl,hl⟩ := ihr fun r hr => h r (by simp [hr])
              exact ⟨t :: l,rfl,fun u hu => by rcases List.mem_cons.1 hu with rfl | hu; exact ht; exact hl u hu⟩
          obtain ⟨l,rfl,hall⟩ := this rows hrow
          exact ⟨.mk k m s l,.mk k m s l hk hm hs (by simpa using hr) hall,by simp [enc,encL_map]⟩
theorem agg24 : aggT Try.prog 24 = true := by simp only [aggT,Try.underlying24,aggD]
theorem at_term {p : PT} (h : AT Try.prog 24 p ∧ p.isG = aggT Try.prog 24) : ∃ t,T.Ok t ∧ p = .g (enc t) := by
  obtain ⟨h1,h2⟩ := h
  rw [agg24] at h2
  cases p with
  | g qs => obtain ⟨n,hn⟩ := h1; obtain ⟨t,ht,rfl⟩ := ct_term hn; exact ⟨t,ht,rfl⟩
  | _ => simp [PT.isG] at h2
def lawTs : List TypeId := [3,9,22,24,25]
theorem lawTsOk : closedTs Try.prog lawTs = true := by kernel_rfl
theorem own : ownKnob Try.prog.godebug = none := by kernel_rfl
theorem laidOut : laidOutB Try.prog = true := by kernel_rfl
end Go.Proofs.Ytlgekplmbmkcmaa
end
namespace Go.Proofs.Ytlgekplmbmkcmaa.useCounts
open Go.Fx Go.ChangeShapes Go.WideShapes Go.ChangeAt Go.RowKit
theorem law (ps : List PT) (h : F2 (fun t p => AT Try.checked.prog t p ∧ p.isG = aggT Try.checked.prog t) Try.f10.params.toList ps) : eP S 10 ps = some (.a (.b true)) := by
  have h' : F2 (fun t p => AT Try.prog t p ∧ p.isG = aggT Try.prog t) [24] ps := by rw [Try.params10] at h; exact h
  obtain _ | ⟨h1,r1⟩ := h'
  obtain _ | _ := r1
  obtain ⟨a1,k1,rfl⟩ := at_term h1
  exact useCounts_law k1
set_option maxRecDepth 100000 in
theorem lifted (os : Os) (started : os.Started) (H : Type) (enc : TypeId × Value → H) :
    ReturnsInHanded {} Try.checked os 10 .any (Rows.useCountsSpec.pre6 enc Try.prog Try.f10 Rows.useCountsRow.domain false) (Rows.useCountsSpec.post enc Try.prog Try.f10 false true false false) := by
  refine row_ok (C := Try.checked) (eqs := []) (S := S) (ts := lawTs) (tb := 4) own started (by kernel_rfl) Try.func10 laidOut
    (ChangeSpec.witness6 (enc := enc) (C := Try.checked) false ⟨#[],#[.agg #[.int .i64 0,.int .i64 0,.string ByteArray.empty,.slice none 0 0]],[]⟩ 8 (by kernel_rfl) (by kernel_rfl) (by kernel_rfl) (by kernel_rfl))
    lawTsOk (by kernel_rfl) rfl Try.underlying4 rfl ?_ seatOk law
  intro ds hd
  match ds,hd with
  | [d1],_ => rfl
theorem over : Rows.useCountsRow.holds Try.pinned (OpenSpec.ofChange Rows.useCountsSpec) :=
  OpenClaim.holds_of_wide 10 Try.f10 rfl rfl rfl rfl rfl rfl rfl ⟨rfl,rfl,rfl,rfl,rfl⟩ rfl rfl rfl rfl rfl (by kernel_rfl) Try.func10 (by kernel_rfl)
    (of_decide_eq_true (by kernel_rfl)) (by unfold Func.isWrapper; first | (rw [if_pos (by decide +kernel)]; kernel_rfl) | (rw [if_neg (by decide +kernel)]; exact ⟨rfl,rfl⟩))
    (fun os started H enc _ => lifted os started H enc)
theorem proved : Rows.UseCountsSaid := over
#print axioms proved
end Go.Proofs.Ytlgekplmbmkcmaa.useCounts
