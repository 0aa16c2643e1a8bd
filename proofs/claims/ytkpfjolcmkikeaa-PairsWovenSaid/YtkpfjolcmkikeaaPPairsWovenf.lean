/- Part 6 of what is proved for the law PairsWoven: it returns true,whatever the input. No condition. -/
import Derived.Test.YtkpfjolcmkikeaaChecked
import Derived.Test.YtkpfjolcmkikeaaRows
import Derived.Test.YtkpfjolcmkikeaaPPairsWovene
section
set_option linter.unusedSimpArgs false
set_option linter.unusedVariables false
set_option maxHeartbeats 4000000
set_option maxRecDepth 10000
namespace Go.Proofs.Ytkpfjolcmkikeaa
open Go.Fx
structure Passed (n : Nt) (l : List Int) : Prop where
  nd : l.Nodup
  us : ∀ x,x ∈ l → ∃ (i : Nat) (y : Nd),x = (i : Int) ∧ n.ns[i]? = some y ∧ y.k ≠ 0
theorem nodup_one {l : List Int} (h : l.Nodup) (k : Int) : l.length ≤ (l.filter fun x => decide (x ≠ k)).length + 1 ∧ (k ∉ l → (l.filter fun x => decide (x ≠ k)) = l) := by
  refine ⟨?_,fun hk => List.filter_eq_self.2 fun x hx => by simp; rintro rfl; exact hk hx⟩
  induction l with
  | nil => simp
  | cons a l ih =>
    rw [List.nodup_cons] at h
    by_cases e : a = k
    · subst e
      have : (l.filter fun x => decide (x ≠ a)) = l := List.filter_eq_self.2 fun x hx => by simp; rintro rfl; exact h.1 hx
      rw [List.filter_cons,if_neg (by simp),this]; simp
    · have := ih h.2
      simp only [List.filter_cons]
      simp [e]; simpa using this
theorem passed_le {ns : List Nd} : ∀ (k : Nat),k ≤ ns.length → ∀ (l : List Int),l.Nodup → (∀ x,x ∈ l → ∃ (i : Nat) (y : Nd),x = (i : Int) ∧ i < k ∧ ns[i]? = some y ∧ y.k ≠ 0) → (l.length : Int) ≤ usedL (ns.take k)
  | 0,_,l,_,h => by
    cases l with
    | nil => simp [usedL]
    | cons a l => obtain ⟨i,y,_,hi,_⟩ := h a (by simp); omega
  | k + 1,hk,l,hn,h => by
    obtain ⟨z,hz⟩ : ∃ z,ns[k]? = some z := ⟨_,List.getElem?_eq_getElem (by omega)⟩
    have h1 := nodup_one hn (k : Int)
    have h2 := passed_le (ns := ns) k (by omega) (l.filter fun x => decide (x ≠ (k : Int))) (hn.filter _) (fun x hx => by
      rw [List.mem_filter] at hx
      obtain ⟨i,y,e,hi,hy⟩ := h x hx.1
      have h3 : x ≠ (k : Int) := by simpa using hx.2
      exact ⟨i,y,e,by omega,hy⟩)
    rw [usedL_take hz]
    by_cases hm : (k : Int) ∈ l
    · obtain ⟨i,y,e,hi,hy,hyk⟩ := h _ hm
      have : i = k := by omega
      subst this
      rw [hz] at hy
      rw [Option.some.inj hy,if_neg hyk]
      omega
    · rw [h1.2 hm] at h2
      split <;> omega
theorem Passed.le {n : Nt} {l : List Int} (h : Passed n l) : (l.length : Int) ≤ n.used := by
  have := passed_le (ns := n.ns) n.ns.length (Nat.le_refl _) l h.nd (fun x hx => by
    obtain ⟨i,y,e,hy,hk⟩ := h.us x hx
    exact ⟨i,y,e,(List.getElem?_eq_some_iff.1 hy).1,hy,hk⟩)
  rw [List.take_length] at this; exact this
theorem Passed.len {n : Nt} {l : List Int} (h : Passed n l) : l.length ≤ n.ns.length := by
  have h1 := h.le
  have h2 := usedL_le n.ns
  unfold Nt.used at h1; omega
theorem Passed.add {n : Nt} {l : List Int} (h : Passed n l) {p : Pt} (hG : n.Good) (hp : n.has p = true) (hno : ¬ (l.any fun y => decide (y = p.n)) = true) : Passed n (l ++ [p.n]) := by
  have hp' := has_iff.1 hp
  have hx := get_nd (n := n) hp'.1 hp'.2.1
  have hq := get_tt (x := n.nd p.n) hp'.2.2.1 hp'.2.2.2
  refine ⟨?_,fun x hx' => ?_⟩
  · rw [List.nodup_append]
    refine ⟨h.nd,by simp,fun a ha b hb => ?_⟩
    simp only [List.mem_cons,List.not_mem_nil,or_false] at hb
    rintro rfl
    apply hno
    rw [List.any_eq_true]; exact ⟨a,ha,by simp [hb]⟩
  · rcases List.mem_append.1 hx' with h1 | h1
    · exact h.us x h1
    · simp only [List.mem_cons,List.not_mem_nil,or_false] at h1
      exact ⟨p.n.toNat,_,by omega,hx,good_no_k hG hx hq⟩
end Go.Proofs.Ytkpfjolcmkikeaa
end
section
set_option linter.unusedSimpArgs false
set_option linter.unusedVariables false
set_option maxHeartbeats 4000000
namespace Go.Proofs.Ytkpfjolcmkikeaa.Tm
open Go.Fx
def rootX : Nd := ⟨1,0,0,[],[],[zP]⟩
def rootN : Nt := ⟨[rootX],4000⟩
def wovenG (t : T) : Nt := lnk (partG t 0 rootN).n (partG t 0 rootN).out zP
theorem root_Ok : rootN.Ok := by
  refine ⟨by decide,⟨by decide,by decide⟩,fun x hx => ?_⟩
  have : x = rootX := by simpa [rootN] using hx
  subst this
  exact ⟨⟨by decide,by decide⟩,⟨by decide,by decide⟩,⟨by decide,by decide⟩,by decide,by decide,by decide,by simp [rootX],by
    intro p hp
    have : p = zP := by simpa [rootX] using hp
    subst this; exact ⟨⟨by decide,by decide⟩,⟨by decide,by decide⟩⟩⟩
theorem root_has {p : Pt} : rootN.has p = true ↔ p = zP := by
  rw [has_iff]
  constructor
  · rintro ⟨h1,h2,h3,h4⟩
    obtain ⟨a,b⟩ := p
    simp only at h1 h2 h3 h4
    have ha : a = 0 := by simp only [rootN,List.length_cons,List.length_nil] at h2; omega
    subst ha
    have h4' : b < ((rootX.to.length : Nat) : Int) := h4
    have hb : b = 0 := by simp only [rootX,List.length_cons,List.length_nil] at h4'; omega
    subst hb; rfl
  · rintro rfl; decide
theorem root_inv : Inv rootN [zP] := by
  refine ⟨⟨root_Ok,fun x hx => ?_,by decide,by decide,by decide⟩,⟨by decide,by decide,by decide,by decide,by decide,fun i x hx => ?_,fun p hp => ?_,fun p hp hn => ?_⟩,by decide,fun p hp => ?_,fun i p hp h0 => ?_⟩
  · have : x = rootX := by simpa [rootN] using hx
    subst this; decide
  · have hi := (List.getElem?_eq_some_iff.1 hx).1
    have : i = 0 := by simp only [rootN,List.length_cons,List.length_nil] at hi; omega
    subst this
    have : x = rootX := by simpa [rootN] using hx.symm
    subst this
    refine ⟨?_,by decide,by decide⟩
    rw [Go.Proofs.Ytkpfjolcmkikeaa.may_iff]
    unfold altsP
    simp [rootX]
  · have : p = zP := by simpa using hp
    rw [root_has]; exact this
  · rw [root_has] at hp; subst hp; simp at hn
  · have : p = zP := by simpa using hp
    subst this; decide
  · have := (pr_spec hp).2.1
    rw [root_has] at this
    injection this with e _; omega
structure Woven (t : T) (n : Nt) : Prop where
  good : n.Good
  ok : n.Ok
  rch : ∀ i,i < n.ns.length → Rch n i
  ct : Ct n = reds t
  pk : ∀ (i : Nat) (p : Pt),n.pr i = some p → i ≠ 0 → asksN (n.nd p.n).k ∧ toldN (n.nd p.s).k ∧ (n.nd p.n).lv = (n.nd p.s).lv
  spine : Spine n [] (n.lk zP)
  told : toldT t.k = true → (n.lk zP).s = 0
  asks : toldT t.k = false → (n.lk zP).s = 1
theorem cn_rch {n : Nt} (hG : n.Good) {i : Int} (h : Cn n [] 0 i) : 0 ≤ i ∧ Rch n i.toNat := by
  induction h with
  | refl => exact ⟨Int.le_refl _,.root⟩
  | @step p _ h1 h2 ih =>
    have hp := has_iff.1 h1
    have hx := get_nd hp.1 hp.2.1
    have hq := get_tt hp.2.2.1 hp.2.2.2
    have hl : (n.nd p.n).tt p.s = n.lk p := rfl
    rw [hl] at hq
    have hb := (has_iff.1 (good_link hG h1).2.1).1
    exact ⟨hb,.step ih.2 ⟨_,_,hx,List.mem_of_getElem? hq,by omega⟩⟩
theorem woven_len {t : T} (h : Cl 0 false t) (hs : sizeZ t ≤ 80) (hd : dep t ≤ 50) : (((partG t 0 rootN).n.ns.length : Nat) : Int) ≤ rootN.cap := by
  have h1 := (part_much h 0).sum rootN
  have h2 := most_le h hs hd
  have : rootN.ns.length = 1 := rfl
  have : rootN.cap = 4000 := rfl
  omega
theorem woven {t : T} (h : Cl 0 false t) (ht : T.Ok t) (hs : sizeZ t ≤ 80) (hd : dep t ≤ 50) : Woven t (wovenG t) := by
  have hP := part_inv h ht 0 (Int.le_refl _) (by omega) rootN [zP] root_inv (woven_len h hs hd)
  unfold wovenG
  obtain ⟨y,hy⟩ : ∃ y,partG t 0 rootN = y := ⟨_,rfl⟩
  rw [hy] at hP ⊢
  have hw := hP.wo
  have hl0 : y.l = [] := by
    rcases hl : y.l with _ | ⟨e,r⟩
    · rfl
    · have := hw.key.1 e (by rw [hl]; simp); omega
  have hin := hw.inv
  have hgr := hw.gr
  have hcon := hw.con
  have hsp := hP.spine rfl rfl
  have hout := hw.out
  have hlt := hw.lt
  have e1 : rootN.ns.length = 1 := rfl
  rw [hl0] at hin hgr hcon hsp
  have hin' : Inv y.n [y.out,zP] := hin
  have hgr' : Gr rootN [zP] y.n [y.out,zP] := hgr
  have hcon' : Reach y.n [y.out,zP] y.out.n rootN.ns.length := hcon
  have hsp' : Spine y.n [y.out,zP] y.out := hsp
  rw [e1] at hout hcon' hlt
  have L : Inv (lnk y.n y.out zP) [] ∧ Gr y.n [y.out,zP] (lnk y.n y.out zP) [] ∧ (lnk y.n y.out zP).lk zP = y.out ∧ Ct (lnk y.n y.out zP) = Ct y.n := by
    cases htk : toldT t.k with
    | true =>
      have h0 := (hP.told rfl htk).1
      have ep : y.out = ⟨((1 : Nat) : Int),0⟩ := by
        obtain ⟨u,hu⟩ : ∃ u,y.out = u := ⟨_,rfl⟩
        rw [hu] at h0 hout ⊢
        obtain ⟨u1,u2⟩ := u
        simp only at h0 hout
        rw [h0,hout]
      rw [ep] at hin' ⊢
      obtain ⟨c1,c2,c3,c4,c5⟩ := Inv.linkZ (c := 1) hin' (by decide)
      exact ⟨c1,c2,c4,c5⟩
    | false =>
      have h1 := hP.asks rfl htk
      obtain ⟨c1,c2,c3,c4,c5⟩ := hin'.link (.inl (by rw [h1]; decide))
      exact ⟨c1,c2,c4,c5⟩
  obtain ⟨c1,c2,c4,c5⟩ := L
  have hz : y.n.has zP = true := hin'.semi.xs _ (by simp)
  obtain ⟨n,hn⟩ : ∃ n,lnk y.n y.out zP = n := ⟨_,rfl⟩
  have hll := (lnk_len y.n y.out zP).1
  rw [hn] at c1 c2 c4 c5 hll ⊢
  have hr : ∀ i : Nat,i < n.ns.length → Cn n [] 0 i := fun i hi => by
    by_cases e : i = 0
    · subst e; exact .refl
    · have k0 : Cn n [] 0 y.out.n := Cn.lnk c2 hz (by simp) c4 .refl
      exact k0.trans ((hcon' i (by omega) (by omega)).mono c2)
  have hct : Ct n = reds t := by
    rw [c5,hw.ct]
    have : Ct rootN = 0 := by decide
    omega
  exact ⟨(c1.semi.iff fun p => by simp).good,c1.room.ok,fun i hi => by have := (cn_rch (c1.semi.iff fun p => by simp).good (hr i hi)).2; rwa [Int.toNat_natCast] at this,hct,c1.pk,by rw [c4]; exact hsp'.mono c2,fun h => by rw [c4]; exact (hP.told rfl h).1,fun h => by rw [c4]; exact hP.asks rfl h⟩
theorem countP_fm {α β : Type} (f : α → Option β) (p : β → Bool) : ∀ l : List α,(l.filterMap f).countP p = l.countP fun a => match f a with | some b => p b | none => false
  | [] => rfl
  | a :: l => by
    rw [List.filterMap_cons,List.countP_cons]
    cases h : f a with
    | none => simp only [countP_fm f p l]; simp [h]
    | some b => simp only [List.countP_cons,countP_fm f p l,h]
theorem ask_ready {x y : Nd} (hx : asksN x.k) (hy : toldN y.k) (hl : x.lv = y.lv) : (ofR x y).2 = 0 := by
  have c1 : cls x.k = 1 := by unfold cls; unfold asksN at hx; rw [if_pos (by omega)]
  have c2 : cls y.k = 2 := by unfold cls; unfold toldN at hy; rw [if_neg (by omega),if_pos (by omega)]
  unfold ofR
  rw [c1,c2]
  simp only [Int.reduceEq,or_self,if_false,false_and,and_self,true_and,if_true]
  unfold askR pickR plainR outR
  by_cases h1 : x.k = 3 ∧ y.k = 2
  · rw [if_pos h1,if_neg (by omega)]
  rw [if_neg h1]
  by_cases h2 : x.k = 9 ∧ y.k = 8
  · rw [if_pos h2,if_neg (by omega)]; split <;> rfl
  rw [if_neg h2]
  by_cases h3 : x.k = 11 ∧ y.k = 10
  · rw [if_pos h3]
  rw [if_neg h3,if_neg (by unfold asksN at hx; omega)]
def nodrop (n : Nt) (p : Pt) : Bool := decide ((n.nd p.n).k ≠ 7) && decide ((n.nd p.s).k ≠ 7)
theorem woven_asks {t : T} {n : Nt} (h : Woven t n) : n.rds.countP (nodrop n) = reds t := by
  rw [← h.ct]
  unfold Nt.rds Nt.prs prsTo Ct
  rw [bool_t h.good,if_pos rfl,List.countP_filter,countP_fm]
  refine List.countP_congr fun i hi => ?_
  cases hp : n.pr i with
  | none => unfold askB; rw [hp]; simp
  | some p =>
    have hps := pr_spec hp
    by_cases h0 : i = 0
    · subst h0
      obtain ⟨y,hy,hk⟩ := good_root h.good
      have hk' : (n.nd p.n).k = 1 := by rw [hps.1,nd_get hy]; exact hk
      have : rdy n p = false := by
        unfold rdy ofR
        have : cls 1 = 0 := by decide
        rw [hk',this]; simp [noR]
      unfold askB
      show (nodrop n p && rdy n p) = true ↔ _
      rw [this]; simp
    · obtain ⟨k1,k2,k3⟩ := h.pk i p hp h0
      have hr : rdy n p = true := by unfold rdy; rw [ask_ready k1 k2 k3]; rfl
      have hd : nodrop n p = true := by
        unfold nodrop; unfold asksN at k1; unfold toldN at k2
        simp only [Bool.and_eq_true,decide_eq_true_eq]; omega
      unfold askB
      rw [hp]
      show (nodrop n p && rdy n p) = true ↔ _
      rw [hr,hd]; simp [h0]
end Go.Proofs.Ytkpfjolcmkikeaa.Tm
end
section
set_option linter.unusedSimpArgs false
set_option linter.unusedVariables false
set_option maxHeartbeats 8000000
set_option maxRecDepth 10000
namespace Go.Proofs.Ytkpfjolcmkikeaa.Tm
open Go.Fx
theorem part_goes {f : Int} {a : Bool} {t : T} (h : Cl f a t) : T.Ok t → f + 8 * dep t ≤ 100000 → sizeZ t ≤ 1000 → ∀ lv : Int,0 ≤ lv → lv + dep t ≤ 60 → (a = false → RestOk t lv (partG t lv)) ∧ GoesT t a lv := by
  induction h with
  | @leaf f k n h =>
    intro ht hf hs lv h0 h1
    have e : partG (.mk k n [] []) lv = leafG k n lv := funext fun m => by rw [partG_mk,if_pos (by omega)]
    have hd : dep (.mk k n [] []) = 1 := rfl
    have hR : RestOk (.mk k n [] []) lv (partG (.mk k n [] []) lv) := by rw [e]; exact leaf_rest (by omega) ht.kids.2.1 h (by omega)
    exact ⟨fun _ => hR,rest_goes hR⟩
  | @lam f b h ih =>
    intro ht hf hs lv h0 h1
    have hd : dep (.mk 2 0 [] [b]) = dep b + 1 := by show max (dep b) 0 + 1 = _; rw [Nat.max_eq_left (Nat.zero_le _)]
    have hsz : sizeZ (.mk 2 0 [] [b]) = sizeZ b + 0 + 1 := rfl
    have e : partG (.mk 2 0 [] [b]) lv = lamsG lv (partG b lv) 1 := funext fun m => by rw [partG_mk]; rfl
    have hn := h.nn.2.1
    have hd1 := h.nn.1
    have hb : Goes 60 (argsP b lv) (partG b lv) := (ih (ht.kids.2.2.2.2 b (by simp)) (by omega) (by omega) lv h0 (by omega)).2
    have hR : RestOk (.mk 2 0 [] [b]) lv (partG (.mk 2 0 [] [b]) lv) := by rw [e]; exact lam_rest (by omega) (lams_ok (B := nv b) (by omega) (by omega) (part_much h lv).mono hb 1 (by omega))
    exact ⟨fun _ => hR,rest_goes hR⟩
  | @alt f n s b hn0 hn8 hsne h ih =>
    intro ht hf hs lv h0 h1
    have hd : dep (.mk 6 n s [b]) = dep b + 1 := by show max (dep b) 0 + 1 = _; rw [Nat.max_eq_left (Nat.zero_le _)]
    have hsz : sizeZ (.mk 6 n s [b]) = sizeZ b + 0 + 1 := rfl
    have e : partG (.mk 6 n s [b]) lv = lamsG lv (partG b lv) n.toNat := funext fun m => by rw [partG_mk]; rfl
    have hn := h.nn.2.1
    have hd1 := h.nn.1
    have hb : Goes 60 (argsP b lv) (partG b lv) := (ih (ht.kids.2.2.2.2 b (by simp)) (by omega) (by omega) lv h0 (by omega)).2
    refine ⟨fun h => (by cases h),n,s,b,rfl,hn0,hn8,?_⟩
    rw [e]
    exact lams_ok (B := nv b) (by omega) (by omega) (part_much h lv).mono hb n.toNat (by omega)
  | @node f k s l hk hl ih =>
    intro ht hf hs lv h0 h1
    have hd : dep (.mk k 0 s l) = depL l + 1 := rfl
    have hsz : sizeZ (.mk k 0 s l) = sizeLZ l + 1 := rfl
    have hlv : 0 ≤ lv ∧ lv ≤ 60 := by omega
    have hl9 : l.length ≤ 9 := by omega
    suffices hR : RestOk (.mk k 0 s l) lv (partG (.mk k 0 s l) lv) from ⟨fun _ => hR,rest_goes hR⟩
    refine node_rest (f := f) hlv ht hl9 hk hl fun i x hx => ?_
    have hmem := List.mem_of_getElem? hx
    have hxd := depL_mem hmem
    have hxs := sizeLZ_mem hmem
    have hx1 := (hl i x hx).nn
    have hxM := part_much (hl i x hx)
    have sm := sub_much (k := k) (lv := lv) (i := i) hxM
    refine ⟨fun n hn hr => ?_,fun n => ⟨sm.len n,sm.cap n,by have := sm.l n; show (subG k lv i x n).l.length ≤ 1000; omega⟩⟩
    refine sub_ok (t := .mk k 0 s l) (x := x) (i := i) hx (by show l.length ≤ 1000; omega) hlv hn hr (fun lv => ⟨_,(hxM lv).mono⟩) (fun hb => ?_) (fun hb => ?_)
    · have ha : decide (k = 5 ∧ 0 < i) = false := by
        have hb' : boxed k i := hb
        unfold boxed at hb'; simp; omega
      have := (ih i x hx (ht.kids.2.2.2.2 x hmem) (by omega) (by omega) (lv + 1) (by omega) (by omega)).2
      rw [ha] at this
      exact this
    · exact (ih i x hx (ht.kids.2.2.2.2 x hmem) (by omega) (by omega) lv h0 (by omega)).2
theorem Net_ok {t : T} (ht : T.Ok t) (h : Cl 0 false t) (hmay : may t 0 false = true) (hs : sizeZ t ≤ 80) (hd : dep t ≤ 50) : eP S 32 [.g (enc t),.a (.i .i64 4000)] = some (.t [(true,encT (wovenG t)),(false,[.i .i64 0])]) := by
  have hM := May_ok ht 0
  rw [hmay] at hM
  have hR : RestOk t 0 (partG t 0) := (part_goes h ht (by omega) (by omega) 0 (Int.le_refl _) (by omega)).1 rfl
  have et := enc_eq t
  have er : rootN.ns.map encN = [[.i .i64 1,.i .i64 0,.i .i64 0,.s [],.l [],.l [[.i .i64 0,.i .i64 0]]]] := rfl
  obtain ⟨σ1,hσ1⟩ : ∃ s,(((((St.empty.add 2 (.var [.p (.i .i64 t.k),.p (.i .i64 t.n),.p (.s t.s),.p (.l (t.l.map enc))])).add 4 (.var [.nil,.p (.i .i64 0)])).add 21 (.row 2 43 [[.i .i64 0,.i .i64 0]])).kill (21,2)).add 23 (.row 6 41 [[.i .i64 1,.i .i64 0,.i .i64 0,.s [],.l [],.l [[.i .i64 0,.i .i64 0]]]])) = s := ⟨_,rfl⟩
  have hcl : σ1.clk = 4 := by rw [← hσ1]; rfl
  obtain ⟨v,σ2,k1,X,rfl,k2,k3⟩ := rest_own hR root_inv.room (woven_len h hs hd) (σ := σ1) (d := 23) (q := 3) (tt := 41) (by rw [er,← hσ1]; rfl) (by rw [hcl]; decide)
  rw [hcl] at k2 k3
  obtain ⟨g1,g2,g3,_⟩ := hR rootN root_inv.room (woven_len h hs hd)
  have b2 : σ2.bs (2,0) = some (.var [.p (.i .i64 t.k),.p (.i .i64 t.n),.p (.s t.s),.p (.l (t.l.map enc))]) := by rw [k3 (2,0) (by decide) (by decide),← hσ1]; rfl
  have b4 : σ2.bs (4,1) = some (.var [.nil,.p (.i .i64 0)]) := by rw [k3 (4,1) (by decide) (by decide),← hσ1]; rfl
  have wo : wf (partG t 0 rootN).out.n ∧ wf (partG t 0 rootN).out.s := ⟨⟨by omega,by omega⟩,⟨by omega,by omega⟩⟩
  have c1 := link_ok (p := (partG t 0 rootN).out) (q := zP) g1.ok wo ⟨⟨by decide,by decide⟩,⟨by decide,by decide⟩⟩
  have a0 := at_ok 0 0
  have ew : lnk (partG t 0 rootN).n (partG t 0 rootN).out zP = wovenG t := rfl
  rw [ew] at c1
  obtain ⟨y,hy⟩ : ∃ y,partG t 0 rootN = y := ⟨_,rfl⟩
  obtain ⟨n,hn⟩ : ∃ n,wovenG t = n := ⟨_,rfl⟩
  rw [hy] at k1 k2 c1
  rw [hn] at c1 ⊢
  have z1 : zP.n = 0 := rfl
  have z2 : zP.s = 0 := rfl
  have rl : rootN.ns.length = 1 := rfl
  have rc : rootN.cap = 4000 := rfl
  simp only [encT,encP,z1,z2] at c1
  simp only [et,encW,rl,rc,List.map_cons,List.map_nil] at k1
  refine x_fn (orcS (by decide)) (fc := F32) rfl rfl ?_
  simp only [et] at hM
  simp only [F32,et,hM,Int.reduceLT,Int.reduceGT,Int.reduceEq,fxa,fxc,fxE,fxL,fxI,nxE,evO,evR,cellsT,ldCells,mkT,lenA,binPV,Env.init,resV,resT,frT,klT,ownT,intT,O.adds,ownA,rowsA,over,wrOk,keysT,keysA,ne_eq,if_true,if_false,ite_self,Nat.reduceLT,Nat.reduceSub,Nat.reduceBEq,Nat.reduceEqDiff,Nat.reduceAdd,Nat.reduceLeDiff,reduceCtorEq,Nat.reduceMul]
  rw [hσ1]
  obtain ⟨c',hc'⟩ : ∃ c,σ2.clk = c := ⟨_,rfl⟩
  have hX : ∀ d q,X = .own (d,q) 0 y.l.length → q < c' ∧ 4 ≤ q := fun d q e => by
    rcases k2 with ⟨h,_⟩ | ⟨d',q',h,_,h3,h4⟩
    · rw [h] at e; cases e
    · rw [h] at e; injection e with e1 _ _; injection e1 with _ e2; omega
  simp only [k1,c1,a0,b2,b4,hc',encT,List.length_cons,List.length_nil,List.cons_append,List.nil_append,fxa,fxc,fxE,fxL,fxI,nxE,evO,evR,cellsT,ldCells,mkT,lenA,binPV,Env.init,resV,resT,frT,klT,ownT,intT,O.adds,ownA,rowsA,over,wrOk,keysT,keysA,ne_eq,if_true,if_false,ite_self,Nat.reduceLT,Nat.reduceSub,Nat.reduceBEq,Nat.reduceEqDiff,Nat.reduceAdd,Nat.reduceLeDiff,reduceCtorEq,Nat.reduceMul]
end Go.Proofs.Ytkpfjolcmkikeaa.Tm
end
section
set_option linter.unusedSimpArgs false
set_option linter.unusedVariables false
set_option maxHeartbeats 4000000
namespace Go.Proofs.Ytkpfjolcmkikeaa.Tm
open Go.Fx
theorem con_nil : con [] = false := by
  have h1 := con_ok [] (by simp [reachBytes])
  have h2 : eP S 116 [.a (.s [])] = some (.a (.b false)) := by
    refine x_fn (orcS (by decide)) (fc := F116) rfl rfl ?_
    simp only [F116,fxa,fxc,fxE,fxL,fxI,nxE,evO,evR,cellsT,ldCells,mkT,lenA,binPV,Env.init,resV,resT,frT,klT,ownT,intT,O.adds,ownA,rowsA,over,wrOk,keysT,keysA,ne_eq,if_true,if_false,ite_self,Nat.reduceLT,Nat.reduceSub,Nat.reduceBEq,Nat.reduceEqDiff,Nat.reduceAdd,Nat.reduceLeDiff,reduceCtorEq,Nat.reduceMul]
  rw [h2] at h1
  injection h1 with h1
  injection h1 with h1
  injection h1 with h1
  exact h1.symm
theorem head_cases {k n : Int} {s : List UInt8} {l : List T} {f : Int} {a : Bool} (h : head (.mk k n s l) f a = true) :
    (a = true ∧ k = 6 ∧ 0 ≤ n ∧ n ≤ 8 ∧ s ≠ [] ∧ l.length = 1) ∨ (a = false ∧ ((((k = 1 ∧ 0 ≤ n ∧ n < f) ∨ k = 7 ∨ k = 9) ∧ s = [] ∧ l = []) ∨ (k = 2 ∧ n = 0 ∧ s = [] ∧ l.length = 1) ∨
      (n = 0 ∧ ((k = 3 ∧ s = [] ∧ l.length = 2) ∨ (k = 4 ∧ s ≠ [] ∧ l.length ≤ 8) ∨ (k = 8 ∧ s ≠ [] ∧ l.length = 2) ∨ (k = 5 ∧ s = [] ∧ 2 ≤ l.length ∧ l.length ≤ 9))))) := by
  have e : head (.mk k n s l) f a = headC k n s l.length f a := rfl
  have hc : con s = true → s ≠ [] := by rintro h rfl; rw [con_nil] at h; cases h
  have ho : isOp s = true → s ≠ [] := by rintro h rfl; simp [isOp] at h
  have hl : ((l.length : Nat) : Int) = 0 → l = [] := fun h => List.eq_nil_of_length_eq_zero (by omega)
  rw [e] at h
  unfold headC at h
  cases a with
  | true =>
    simp only [if_true,Bool.and_eq_true,decide_eq_true_eq] at h
    exact .inl ⟨rfl,h.1.1.1.1,h.1.1.2,h.1.2,hc h.1.1.1.2,by omega⟩
  | false =>
    refine .inr ⟨rfl,?_⟩
    simp only [Bool.false_eq_true,if_false] at h
    by_cases h1 : k = 1
    · rw [if_pos h1] at h; simp only [Bool.and_eq_true,decide_eq_true_eq] at h
      exact .inl ⟨.inl ⟨h1,h.1.2,h.2⟩,h.1.1.1,hl h.1.1.2⟩
    rw [if_neg h1] at h
    by_cases h2 : k = 2
    · rw [if_pos h2] at h; simp only [Bool.and_eq_true,decide_eq_true_eq] at h
      exact .inr (.inl ⟨h2,h.1.2,h.1.1,by omega⟩)
    rw [if_neg h2] at h
    by_cases h3 : k = 3
    · rw [if_pos h3] at h; simp only [Bool.and_eq_true,decide_eq_true_eq] at h
      exact .inr (.inr ⟨h.1.2,.inl ⟨h3,h.1.1,by omega⟩⟩)
    rw [if_neg h3] at h
    by_cases h4 : k = 4
    · rw [if_pos h4] at h; simp only [Bool.and_eq_true,decide_eq_true_eq] at h
      exact .inr (.inr ⟨h.1.2,.inr (.inl ⟨h4,hc h.1.1,by omega⟩)⟩)
    rw [if_neg h4] at h
    by_cases h5 : k = 5
    · rw [if_pos h5] at h; simp only [Bool.and_eq_true,decide_eq_true_eq] at h
      exact .inr (.inr ⟨h.1.1.2,.inr (.inr (.inr ⟨h5,h.1.1.1,by omega,by omega⟩))⟩)
    rw [if_neg h5] at h
    by_cases h7 : k = 7
    · rw [if_pos h7] at h; simp only [Bool.and_eq_true,decide_eq_true_eq] at h
      exact .inl ⟨.inr (.inl h7),h.1,hl h.2⟩
    rw [if_neg h7] at h
    by_cases h8 : k = 8
    · rw [if_pos h8] at h; simp only [Bool.and_eq_true,decide_eq_true_eq] at h
      exact .inr (.inr ⟨h.1.2,.inr (.inr (.inl ⟨h8,ho h.1.1,by omega⟩))⟩)
    rw [if_neg h8] at h
    by_cases h9 : k = 9
    · rw [if_pos h9] at h; simp only [Bool.and_eq_true,decide_eq_true_eq] at h
      exact .inl ⟨.inr (.inr h9),h.1.1,hl h.2⟩
    rw [if_neg h9] at h; cases h
theorem cl_of_may : ∀ (t : T) (f : Int) (a : Bool),0 ≤ f → f + 8 * dep t ≤ 100000 → may t f a = true → Cl f a t := by
  intro t
  induction t using T.ind with
  | h k n s l ih =>
    intro f a hf hd hm
    rw [may_iff hf (by omega)] at hm
    obtain ⟨hh,hl⟩ := hm
    have hdl : dep (.mk k n s l) = depL l + 1 := rfl
    rcases head_cases hh with ⟨rfl,rfl,h1,h2,h3,h4⟩ | ⟨rfl,h | h | h⟩
    · obtain ⟨b,rfl⟩ := List.length_eq_one_iff.1 h4
      have hb := (hl 0 b rfl).1
      have hdb : depL [b] = dep b := Nat.max_eq_left (Nat.zero_le _)
      refine .alt h1 h2 h3 (ih b (by simp) (f + n) false (by omega) (by omega) ?_)
      exact hb
    · obtain ⟨h1,rfl,rfl⟩ := h
      exact .leaf h1
    · obtain ⟨rfl,rfl,rfl,h4⟩ := h
      obtain ⟨b,rfl⟩ := List.length_eq_one_iff.1 h4
      have hb := (hl 0 b rfl).1
      have hdb : depL [b] = dep b := Nat.max_eq_left (Nat.zero_le _)
      refine .lam (ih b (by simp) (f + 1) false (by omega) (by omega) ?_)
      exact hb
    · obtain ⟨rfl,h⟩ := h
      have hk : k ≠ 2 ∧ k ≠ 6 := by omega
      have hmore : T.more (.mk k 0 s l) = 0 := by show (if k = 2 then 1 else if k = 6 then 0 else 0) = _; rw [if_neg hk.1,if_neg hk.2]
      refine .node ?_ fun j t hj => ?_
      · rcases h with h | h | h | ⟨rfl,h2,h3,h4⟩
        · exact .inl h
        · exact .inr (.inl h)
        · exact .inr (.inr (.inl h))
        · refine .inr (.inr (.inr ⟨rfl,h2,h3,h4,?_⟩))
          unfold List.Nodup
          rw [List.pairwise_iff_getElem]
          intro i j hi hj hij e
          rw [List.length_map,List.length_drop] at hi hj
          obtain ⟨u,hu⟩ : ∃ u,l[1 + j]? = some u := ⟨_,List.getElem?_eq_getElem (by omega)⟩
          obtain ⟨v,hv⟩ : ∃ v,l[1 + i]? = some v := ⟨_,List.getElem?_eq_getElem (by omega)⟩
          have hdup := (hl (1 + j) u hu).2 rfl
          unfold dup at hdup
          rw [List.any_eq_false] at hdup
          have hvm : v ∈ (l.take (1 + j)).drop 1 := by
            refine List.mem_of_getElem? (i := i) ?_
            rw [List.getElem?_drop,List.getElem?_take,if_pos (by omega)]; exact hv
          have := hdup v hvm
          simp only [decide_eq_true_eq] at this
          apply this
          have g1 : ((l.drop 1).map T.s)[i]? = some v.s := by rw [List.getElem?_map,List.getElem?_drop,hv]; rfl
          have g2 : ((l.drop 1).map T.s)[j]? = some u.s := by rw [List.getElem?_map,List.getElem?_drop,hu]; rfl
          rw [List.getElem?_eq_getElem (by rw [List.length_map,List.length_drop]; omega)] at g1 g2
          rw [← Option.some.inj g1,← Option.some.inj g2]; exact e
      · have h1 := (hl j t hj).1
        rw [hmore,Int.add_zero] at h1
        have hmem := List.mem_of_getElem? hj
        have := depL_mem hmem
        refine ih t hmem f _ hf (by omega) ?_
        have e : decide (k = 5 ∧ 0 < j) = (decide (k = 5) && decide (((j : Nat) : Int) > 0)) := by
          rw [Bool.eq_iff_iff]; simp
        rw [e]; exact h1
end Go.Proofs.Ytkpfjolcmkikeaa.Tm
end
section
set_option linter.unusedSimpArgs false
set_option linter.unusedVariables false
set_option maxHeartbeats 4000000
set_option maxRecDepth 10000
namespace Go.Proofs.Ytkpfjolcmkikeaa
open Go.Fx
theorem fixed17_ok : eP S 39 [] = some (.a (.b true)) := (eP_some S).2 ⟨60,by kernel_rfl⟩
end Go.Proofs.Ytkpfjolcmkikeaa
end
section
set_option linter.unusedSimpArgs false
set_option linter.unusedVariables false
set_option maxHeartbeats 4000000
set_option maxRecDepth 10000
namespace Go.Proofs.Ytkpfjolcmkikeaa.Tm
open Go.Fx
theorem redsL_app : ∀ l r : List T,redsL (l ++ r) = redsL l + redsL r
  | [],r => by simp [redsL]
  | t :: l,r => by simp only [List.cons_append,redsL,redsL_app l r]; omega
theorem reds_le {f : Int} {a : Bool} {t : T} (h : Cl f a t) : (reds t : Int) ≤ sizeZ t := by
  have kids : ∀ l : List T,(∀ t ∈ l,(reds t : Int) ≤ sizeZ t) → (redsL l : Int) ≤ sizeLZ l := by
    intro l
    induction l with
    | nil => intro _; simp [redsL,sizeLZ]
    | cons x l ih =>
      intro hl
      have h1 := hl x (by simp)
      have h2 := ih fun t ht => hl t (by simp [ht])
      simp only [redsL,sizeLZ]; omega
  have one : ∀ (k n : Int) (s : List UInt8) (l : List T),(∀ t ∈ l,(reds t : Int) ≤ sizeZ t) → (reds (.mk k n s l) : Int) ≤ sizeZ (.mk k n s l) := fun k n s l hl => by
    have := kids l hl
    show (((if ((decide (k = 3) || decide (k = 5) || decide (k = 8)) && headTold l) = true then 1 else 0) + redsL l : Nat) : Int) ≤ sizeLZ l + 1
    split <;> omega
  induction h with
  | leaf _ => exact one _ _ _ _ (by simp)
  | lam _ ih => exact one _ _ _ _ (by simpa using ih)
  | alt _ _ _ _ ih => exact one _ _ _ _ (by simpa using ih)
  | node _ _ ih => exact one _ _ _ _ fun t ht => by obtain ⟨j,hj⟩ := List.getElem?_of_mem ht; exact ih j t hj
theorem redexes_loop {k n : Int} {s : List UInt8} {l : List T} (hl : l.length ≤ 1000) (hs : sizeLZ l ≤ 100000) (h : ∀ t ∈ l,(reds t : Int) ≤ sizeZ t ∧ eP S 48 [.g (enc t)] = some (.a (.i .i64 (reds t : Nat)))) (b : Nat) (hb : b ≤ 1) {e : Env} {σ : St}
    (e1 : e 1 = .a (.ptr (1,0) 0 0)) (e3 : e 3 = .a (.p (.i .i64 (b : Nat)))) (e5 : e 5 = .a (.p (.i .i64 0))) (b1 : σ.bs (1,0) = some (.var [.p (.i .i64 k),.p (.i .i64 n),.p (.s s),.p (.l (l.map enc))])) (Q : Ex → Env → St → Prop) (hQ : ∀ e',e' 3 = .a (.p (.i .i64 ((b + redsL l : Nat) : Int))) → Q (.exit 0) e' σ) :
    wp S false (.loop F48b0) e σ Q := by
  have hR : ∀ i,(redsL (l.take i) : Int) ≤ 100000 := fun i => by
    have : ∀ r : List T,(∀ t ∈ r,(reds t : Int) ≤ sizeZ t) → (redsL r : Int) ≤ sizeLZ r := by
      intro r
      induction r with
      | nil => intro _; simp [redsL,sizeLZ]
      | cons x r ih =>
        intro hl
        have h1 := hl x (by simp)
        have h2 := ih fun t ht => hl t (by simp [ht])
        simp only [redsL,sizeLZ]; omega
    have h1 := this l fun t ht => (h t ht).1
    have h2 : redsL l = redsL (l.take i) + redsL (l.drop i) := by rw [← redsL_app,List.take_append_drop]
    omega
  refine loop_nat l.length (fun i e τ => e 1 = .a (.ptr (1,0) 0 0) ∧ e 3 = .a (.p (.i .i64 ((b + redsL (l.take i) : Nat) : Int))) ∧ e 5 = .a (.p (.i .i64 (i : Nat))) ∧ τ = σ) (i0 := 0) (Nat.zero_le _) ⟨e1,e3,e5,rfl⟩ ?_ ?_
  · rintro i e τ hi ⟨e1,e3,e5,rfl⟩
    obtain ⟨x,hx⟩ : ∃ x,l[i]? = some x := ⟨_,List.getElem?_eq_getElem hi⟩
    have hx' : (l.map enc)[i]? = some (enc x) := by simp [hx]
    have hxm := List.mem_of_getElem? hx
    have hlt : ((i : Nat) : Int) < (l.length : Int) := by omega
    have hge : (0 : Int) ≤ ((i : Nat) : Int) := by omega
    have hw := wrap_succ i (by omega)
    have c1 := (h x hxm).2
    have hs1 : redsL (l.take (i + 1)) = redsL (l.take i) + reds x := by rw [take_succT hx,redsL_app]; simp [redsL]
    have hr1 := hR (i + 1)
    have hw2 : IntKind.i64.wrap (((b + redsL (l.take i) : Nat) : Int) + ((reds x : Nat) : Int)) = ((b + redsL (l.take (i + 1)) : Nat) : Int) := by rw [wrap_in _ (by omega)]; omega
    simp only [F48b0,e1,e3,e5,b1,hlt,hge,hw,hw2,hx',enc_len,enc_take,enc_takep,enc_all,c1,Int.toNat_natCast,List.length_map,fxa,fxc,fxE,fxL,fxI,nxE,evO,evR,cellsT,ldCells,mkT,lenA,binPV,Env.init,resV,resT,frT,klT,ownT,intT,O.adds,ownA,rowsA,over,wrOk,keysT,keysA,ne_eq,if_true,if_false,ite_self,Nat.reduceLT,Nat.reduceSub,Nat.reduceBEq,Nat.reduceEqDiff,Nat.reduceAdd,Nat.reduceLeDiff,reduceCtorEq,Nat.reduceMul]
  · rintro e τ ⟨e1,e3,e5,rfl⟩
    have hlt : ¬ ((l.length : Nat) : Int) < (l.length : Int) := by omega
    rw [List.take_length] at e3
    simp only [F48b0,e1,e3,e5,b1,hlt,List.length_map,fxa,fxc,fxE,fxL,fxI,nxE,evO,evR,cellsT,ldCells,mkT,lenA,binPV,Env.init,resV,resT,frT,klT,ownT,intT,O.adds,ownA,rowsA,over,wrOk,keysT,keysA,ne_eq,if_true,if_false,ite_self,Nat.reduceLT,Nat.reduceSub,Nat.reduceBEq,Nat.reduceEqDiff,Nat.reduceAdd,Nat.reduceLeDiff,reduceCtorEq,Nat.reduceMul]
    exact hQ _ (by simp only [e3,fxa,fxc,fxE,fxL,fxI,nxE,evO,evR,cellsT,ldCells,mkT,lenA,binPV,Env.init,resV,resT,frT,klT,ownT,intT,O.adds,ownA,rowsA,over,wrOk,keysT,keysA,ne_eq,if_true,if_false,ite_self,Nat.reduceLT,Nat.reduceSub,Nat.reduceBEq,Nat.reduceEqDiff,Nat.reduceAdd,Nat.reduceLeDiff,reduceCtorEq,Nat.reduceMul])
theorem redexes_mk {k n : Int} {s : List UInt8} {l : List T} (hl : l.length ≤ 1000) (hs : sizeLZ l ≤ 100000) (h : ∀ t ∈ l,(reds t : Int) ≤ sizeZ t ∧ eP S 48 [.g (enc t)] = some (.a (.i .i64 (reds t : Nat)))) (hk : k = 3 ∨ k = 5 ∨ k = 8 → l ≠ []) :
    eP S 48 [.g (enc (.mk k n s l))] = some (.a (.i .i64 (reds (.mk k n s l) : Nat))) := by
  have ee : enc (.mk k n s l) = [.i .i64 k,.i .i64 n,.s s,.l (l.map enc)] := by rw [enc,encL_map]
  refine x_fn (orcS (by decide)) (fc := F48) rfl rfl ?_
  have L0 : reds (.mk k n s l) = 0 + redsL l → ∀ (e : Env) (σ : St),e 1 = .a (.ptr (1,0) 0 0) → e 3 = .a (.p (.i .i64 0)) → e 5 = .a (.p (.i .i64 0)) → σ.bs (1,0) = some (.var [.p (.i .i64 k),.p (.i .i64 n),.p (.s s),.p (.l (l.map enc))]) →
      wp S false (.loop F48b0) e σ (blkQ 0 (seqQ S false ((C.reg [ia 53 (.mv (.t 3)),ia 2 (.mv (.t 53))]).seq .ret) (RetP [.tmp 2] (.a (.i .i64 (reds (.mk k n s l) : Nat)))))) := fun er e σ q1 q3 q5 qb => by
    exact redexes_loop (k := k) (n := n) (s := s) hl hs h 0 (by omega) q1 q3 q5 qb _ fun e' he' => by simp only [he',er,fxa,fxc,fxE,fxL,fxI,nxE,evO,evR,cellsT,ldCells,mkT,lenA,binPV,Env.init,resV,resT,frT,klT,ownT,intT,O.adds,ownA,rowsA,over,wrOk,keysT,keysA,ne_eq,if_true,if_false,ite_self,Nat.reduceLT,Nat.reduceSub,Nat.reduceBEq,Nat.reduceEqDiff,Nat.reduceAdd,Nat.reduceLeDiff,reduceCtorEq,Nat.reduceMul]
  have L1 : reds (.mk k n s l) = 1 + redsL l → ∀ (e : Env) (σ : St),e 1 = .a (.ptr (1,0) 0 0) → e 3 = .a (.p (.i .i64 1)) → e 5 = .a (.p (.i .i64 0)) → σ.bs (1,0) = some (.var [.p (.i .i64 k),.p (.i .i64 n),.p (.s s),.p (.l (l.map enc))]) →
      wp S false (.loop F48b0) e σ (blkQ 0 (seqQ S false ((C.reg [ia 53 (.mv (.t 3)),ia 2 (.mv (.t 53))]).seq .ret) (RetP [.tmp 2] (.a (.i .i64 (reds (.mk k n s l) : Nat)))))) := fun er e σ q1 q3 q5 qb => by
    exact redexes_loop (k := k) (n := n) (s := s) hl hs h 1 (by omega) q1 q3 q5 qb _ fun e' he' => by simp only [he',er,fxa,fxc,fxE,fxL,fxI,nxE,evO,evR,cellsT,ldCells,mkT,lenA,binPV,Env.init,resV,resT,frT,klT,ownT,intT,O.adds,ownA,rowsA,over,wrOk,keysT,keysA,ne_eq,if_true,if_false,ite_self,Nat.reduceLT,Nat.reduceSub,Nat.reduceBEq,Nat.reduceEqDiff,Nat.reduceAdd,Nat.reduceLeDiff,reduceCtorEq,Nat.reduceMul]
  by_cases hk3 : k = 3 ∨ k = 5 ∨ k = 8
  · obtain ⟨x,r,hlx⟩ : ∃ x r,l = x :: r := by
      cases l with
      | nil => exact absurd rfl (hk hk3)
      | cons x r => exact ⟨x,r,rfl⟩
    have ex := enc_eq x
    have hx0 : (l.map enc)[0]? = some [.i .i64 x.k,.i .i64 x.n,.s x.s,.l (x.l.map enc)] := by rw [hlx,List.map_cons,ex]; rfl
    have hz : (0 : Int) < (l.length : Int) := by rw [hlx]; simp only [List.length_cons]; omega
    have t0 : Int.toNat 0 = 0 := rfl
    have hal : ((l.map enc).all fun r => decide (r.length = 4)) = true := enc_all l
    have er0 : reds (.mk k n s l) = (if toldT x.k = true then 1 else 0) + redsL l := by
      show (if ((decide (k = 3) || decide (k = 5) || decide (k = 8)) && headTold l) = true then 1 else 0) + redsL l = _
      have : (decide (k = 3) || decide (k = 5) || decide (k = 8)) = true := by simp; omega
      rw [this,Bool.true_and,hlx]; rfl
    have hK : (k = 3) ∨ (¬ k = 3 ∧ k = 5) ∨ (¬ k = 3 ∧ ¬ k = 5 ∧ k = 8) := by omega
    have hX : x.k = 2 ∨ x.k = 4 ∨ x.k = 7 ∨ x.k = 9 ∨ (¬ x.k = 2 ∧ ¬ x.k = 4 ∧ ¬ x.k = 7 ∧ ¬ x.k = 9) := by omega
    rcases hK with k1 | ⟨k1,k2⟩ | ⟨k1,k2,k4⟩
    · have k1t := eq_true k1
      rcases hX with x1 | x1 | x1 | x1 | ⟨x1,x2,x3,x4⟩
      · have er : reds (.mk k n s l) = 1 + redsL l := by rw [er0,x1]; rfl
        simp only [F48,ee,hx0,hz,t0,hal,x1,k1t,Int.le_refl,Int.reduceEq,Int.reduceLE,List.length_map,fxa,fxc,fxE,fxL,fxI,nxE,evO,evR,cellsT,ldCells,mkT,lenA,binPV,Env.init,resV,resT,frT,klT,ownT,intT,O.adds,ownA,rowsA,over,wrOk,keysT,keysA,ne_eq,if_true,if_false,ite_self,Nat.reduceLT,Nat.reduceSub,Nat.reduceBEq,Nat.reduceEqDiff,Nat.reduceAdd,Nat.reduceLeDiff,reduceCtorEq,Nat.reduceMul]
        exact L1 er _ _ rfl rfl rfl rfl
      · have er : reds (.mk k n s l) = 1 + redsL l := by rw [er0,x1]; rfl
        simp only [F48,ee,hx0,hz,t0,hal,x1,k1t,Int.le_refl,Int.reduceEq,Int.reduceLE,List.length_map,fxa,fxc,fxE,fxL,fxI,nxE,evO,evR,cellsT,ldCells,mkT,lenA,binPV,Env.init,resV,resT,frT,klT,ownT,intT,O.adds,ownA,rowsA,over,wrOk,keysT,keysA,ne_eq,if_true,if_false,ite_self,Nat.reduceLT,Nat.reduceSub,Nat.reduceBEq,Nat.reduceEqDiff,Nat.reduceAdd,Nat.reduceLeDiff,reduceCtorEq,Nat.reduceMul]
        exact L1 er _ _ rfl rfl rfl rfl
      · have er : reds (.mk k n s l) = 1 + redsL l := by rw [er0,x1]; rfl
        simp only [F48,ee,hx0,hz,t0,hal,x1,k1t,Int.le_refl,Int.reduceEq,Int.reduceLE,List.length_map,fxa,fxc,fxE,fxL,fxI,nxE,evO,evR,cellsT,ldCells,mkT,lenA,binPV,Env.init,resV,resT,frT,klT,ownT,intT,O.adds,ownA,rowsA,over,wrOk,keysT,keysA,ne_eq,if_true,if_false,ite_self,Nat.reduceLT,Nat.reduceSub,Nat.reduceBEq,Nat.reduceEqDiff,Nat.reduceAdd,Nat.reduceLeDiff,reduceCtorEq,Nat.reduceMul]
        exact L1 er _ _ rfl rfl rfl rfl
      · have er : reds (.mk k n s l) = 1 + redsL l := by rw [er0,x1]; rfl
        simp only [F48,ee,hx0,hz,t0,hal,x1,k1t,Int.le_refl,Int.reduceEq,Int.reduceLE,List.length_map,fxa,fxc,fxE,fxL,fxI,nxE,evO,evR,cellsT,ldCells,mkT,lenA,binPV,Env.init,resV,resT,frT,klT,ownT,intT,O.adds,ownA,rowsA,over,wrOk,keysT,keysA,ne_eq,if_true,if_false,ite_self,Nat.reduceLT,Nat.reduceSub,Nat.reduceBEq,Nat.reduceEqDiff,Nat.reduceAdd,Nat.reduceLeDiff,reduceCtorEq,Nat.reduceMul]
        exact L1 er _ _ rfl rfl rfl rfl
      · have er : reds (.mk k n s l) = 0 + redsL l := by rw [er0]; unfold toldT; simp [x1,x2,x3,x4]
        simp only [F48,ee,hx0,hz,t0,hal,x1,x2,x3,x4,k1t,Int.le_refl,Int.reduceEq,Int.reduceLE,List.length_map,fxa,fxc,fxE,fxL,fxI,nxE,evO,evR,cellsT,ldCells,mkT,lenA,binPV,Env.init,resV,resT,frT,klT,ownT,intT,O.adds,ownA,rowsA,over,wrOk,keysT,keysA,ne_eq,if_true,if_false,ite_self,Nat.reduceLT,Nat.reduceSub,Nat.reduceBEq,Nat.reduceEqDiff,Nat.reduceAdd,Nat.reduceLeDiff,reduceCtorEq,Nat.reduceMul]
        exact L0 er _ _ rfl rfl rfl rfl
    · have k2t := eq_true k2
      rcases hX with x1 | x1 | x1 | x1 | ⟨x1,x2,x3,x4⟩
      · have er : reds (.mk k n s l) = 1 + redsL l := by rw [er0,x1]; rfl
        simp only [F48,ee,hx0,hz,t0,hal,x1,k1,k2t,Int.le_refl,Int.reduceEq,Int.reduceLE,List.length_map,fxa,fxc,fxE,fxL,fxI,nxE,evO,evR,cellsT,ldCells,mkT,lenA,binPV,Env.init,resV,resT,frT,klT,ownT,intT,O.adds,ownA,rowsA,over,wrOk,keysT,keysA,ne_eq,if_true,if_false,ite_self,Nat.reduceLT,Nat.reduceSub,Nat.reduceBEq,Nat.reduceEqDiff,Nat.reduceAdd,Nat.reduceLeDiff,reduceCtorEq,Nat.reduceMul]
        exact L1 er _ _ rfl rfl rfl rfl
      · have er : reds (.mk k n s l) = 1 + redsL l := by rw [er0,x1]; rfl
        simp only [F48,ee,hx0,hz,t0,hal,x1,k1,k2t,Int.le_refl,Int.reduceEq,Int.reduceLE,List.length_map,fxa,fxc,fxE,fxL,fxI,nxE,evO,evR,cellsT,ldCells,mkT,lenA,binPV,Env.init,resV,resT,frT,klT,ownT,intT,O.adds,ownA,rowsA,over,wrOk,keysT,keysA,ne_eq,if_true,if_false,ite_self,Nat.reduceLT,Nat.reduceSub,Nat.reduceBEq,Nat.reduceEqDiff,Nat.reduceAdd,Nat.reduceLeDiff,reduceCtorEq,Nat.reduceMul]
        exact L1 er _ _ rfl rfl rfl rfl
      · have er : reds (.mk k n s l) = 1 + redsL l := by rw [er0,x1]; rfl
        simp only [F48,ee,hx0,hz,t0,hal,x1,k1,k2t,Int.le_refl,Int.reduceEq,Int.reduceLE,List.length_map,fxa,fxc,fxE,fxL,fxI,nxE,evO,evR,cellsT,ldCells,mkT,lenA,binPV,Env.init,resV,resT,frT,klT,ownT,intT,O.adds,ownA,rowsA,over,wrOk,keysT,keysA,ne_eq,if_true,if_false,ite_self,Nat.reduceLT,Nat.reduceSub,Nat.reduceBEq,Nat.reduceEqDiff,Nat.reduceAdd,Nat.reduceLeDiff,reduceCtorEq,Nat.reduceMul]
        exact L1 er _ _ rfl rfl rfl rfl
      · have er : reds (.mk k n s l) = 1 + redsL l := by rw [er0,x1]; rfl
        simp only [F48,ee,hx0,hz,t0,hal,x1,k1,k2t,Int.le_refl,Int.reduceEq,Int.reduceLE,List.length_map,fxa,fxc,fxE,fxL,fxI,nxE,evO,evR,cellsT,ldCells,mkT,lenA,binPV,Env.init,resV,resT,frT,klT,ownT,intT,O.adds,ownA,rowsA,over,wrOk,keysT,keysA,ne_eq,if_true,if_false,ite_self,Nat.reduceLT,Nat.reduceSub,Nat.reduceBEq,Nat.reduceEqDiff,Nat.reduceAdd,Nat.reduceLeDiff,reduceCtorEq,Nat.reduceMul]
        exact L1 er _ _ rfl rfl rfl rfl
      · have er : reds (.mk k n s l) = 0 + redsL l := by rw [er0]; unfold toldT; simp [x1,x2,x3,x4]
        simp only [F48,ee,hx0,hz,t0,hal,x1,x2,x3,x4,k1,k2t,Int.le_refl,Int.reduceEq,Int.reduceLE,List.length_map,fxa,fxc,fxE,fxL,fxI,nxE,evO,evR,cellsT,ldCells,mkT,lenA,binPV,Env.init,resV,resT,frT,klT,ownT,intT,O.adds,ownA,rowsA,over,wrOk,keysT,keysA,ne_eq,if_true,if_false,ite_self,Nat.reduceLT,Nat.reduceSub,Nat.reduceBEq,Nat.reduceEqDiff,Nat.reduceAdd,Nat.reduceLeDiff,reduceCtorEq,Nat.reduceMul]
        exact L0 er _ _ rfl rfl rfl rfl
    · have k4t := eq_true k4
      rcases hX with x1 | x1 | x1 | x1 | ⟨x1,x2,x3,x4⟩
      · have er : reds (.mk k n s l) = 1 + redsL l := by rw [er0,x1]; rfl
        simp only [F48,ee,hx0,hz,t0,hal,x1,k1,k2,k4t,Int.le_refl,Int.reduceEq,Int.reduceLE,List.length_map,fxa,fxc,fxE,fxL,fxI,nxE,evO,evR,cellsT,ldCells,mkT,lenA,binPV,Env.init,resV,resT,frT,klT,ownT,intT,O.adds,ownA,rowsA,over,wrOk,keysT,keysA,ne_eq,if_true,if_false,ite_self,Nat.reduceLT,Nat.reduceSub,Nat.reduceBEq,Nat.reduceEqDiff,Nat.reduceAdd,Nat.reduceLeDiff,reduceCtorEq,Nat.reduceMul]
        exact L1 er _ _ rfl rfl rfl rfl
      · have er : reds (.mk k n s l) = 1 + redsL l := by rw [er0,x1]; rfl
        simp only [F48,ee,hx0,hz,t0,hal,x1,k1,k2,k4t,Int.le_refl,Int.reduceEq,Int.reduceLE,List.length_map,fxa,fxc,fxE,fxL,fxI,nxE,evO,evR,cellsT,ldCells,mkT,lenA,binPV,Env.init,resV,resT,frT,klT,ownT,intT,O.adds,ownA,rowsA,over,wrOk,keysT,keysA,ne_eq,if_true,if_false,ite_self,Nat.reduceLT,Nat.reduceSub,Nat.reduceBEq,Nat.reduceEqDiff,Nat.reduceAdd,Nat.reduceLeDiff,reduceCtorEq,Nat.reduceMul]
        exact L1 er _ _ rfl rfl rfl rfl
      · have er : reds (.mk k n s l) = 1 + redsL l := by rw [er0,x1]; rfl
        simp only [F48,ee,hx0,hz,t0,hal,x1,k1,k2,k4t,Int.le_refl,Int.reduceEq,Int.reduceLE,List.length_map,fxa,fxc,fxE,fxL,fxI,nxE,evO,evR,cellsT,ldCells,mkT,lenA,binPV,Env.init,resV,resT,frT,klT,ownT,intT,O.adds,ownA,rowsA,over,wrOk,keysT,keysA,ne_eq,if_true,if_false,ite_self,Nat.reduceLT,Nat.reduceSub,Nat.reduceBEq,Nat.reduceEqDiff,Nat.reduceAdd,Nat.reduceLeDiff,reduceCtorEq,Nat.reduceMul]
        exact L1 er _ _ rfl rfl rfl rfl
      · have er : reds (.mk k n s l) = 1 + redsL l := by rw [er0,x1]; rfl
        simp only [F48,ee,hx0,hz,t0,hal,x1,k1,k2,k4t,Int.le_refl,Int.reduceEq,Int.reduceLE,List.length_map,fxa,fxc,fxE,fxL,fxI,nxE,evO,evR,cellsT,ldCells,mkT,lenA,binPV,Env.init,resV,resT,frT,klT,ownT,intT,O.adds,ownA,rowsA,over,wrOk,keysT,keysA,ne_eq,if_true,if_false,ite_self,Nat.reduceLT,Nat.reduceSub,Nat.reduceBEq,Nat.reduceEqDiff,Nat.reduceAdd,Nat.reduceLeDiff,reduceCtorEq,Nat.reduceMul]
        exact L1 er _ _ rfl rfl rfl rfl
      · have er : reds (.mk k n s l) = 0 + redsL l := by rw [er0]; unfold toldT; simp [x1,x2,x3,x4]
        simp only [F48,ee,hx0,hz,t0,hal,x1,x2,x3,x4,k1,k2,k4t,Int.le_refl,Int.reduceEq,Int.reduceLE,List.length_map,fxa,fxc,fxE,fxL,fxI,nxE,evO,evR,cellsT,ldCells,mkT,lenA,binPV,Env.init,resV,resT,frT,klT,ownT,intT,O.adds,ownA,rowsA,over,wrOk,keysT,keysA,ne_eq,if_true,if_false,ite_self,Nat.reduceLT,Nat.reduceSub,Nat.reduceBEq,Nat.reduceEqDiff,Nat.reduceAdd,Nat.reduceLeDiff,reduceCtorEq,Nat.reduceMul]
        exact L0 er _ _ rfl rfl rfl rfl
  · have er : reds (.mk k n s l) = 0 + redsL l := by
      show (if ((decide (k = 3) || decide (k = 5) || decide (k = 8)) && headTold l) = true then 1 else 0) + redsL l = _
      have : (decide (k = 3) || decide (k = 5) || decide (k = 8)) = false := by simp; omega
      rw [this]; simp
    have k1 : ¬ k = 3 := by omega
    have k2 : ¬ k = 5 := by omega
    have k4 : ¬ k = 8 := by omega
    simp only [F48,ee,k1,k2,k4,Int.le_refl,Int.reduceEq,Int.reduceLE,List.length_map,fxa,fxc,fxE,fxL,fxI,nxE,evO,evR,cellsT,ldCells,mkT,lenA,binPV,Env.init,resV,resT,frT,klT,ownT,intT,O.adds,ownA,rowsA,over,wrOk,keysT,keysA,ne_eq,if_true,if_false,ite_self,Nat.reduceLT,Nat.reduceSub,Nat.reduceBEq,Nat.reduceEqDiff,Nat.reduceAdd,Nat.reduceLeDiff,reduceCtorEq,Nat.reduceMul]
    exact L0 er _ _ rfl rfl rfl rfl
theorem redexes_ok {f : Int} {a : Bool} {t : T} (h : Cl f a t) : T.Ok t → sizeZ t ≤ 1000 → eP S 48 [.g (enc t)] = some (.a (.i .i64 (reds t : Nat))) := by
  induction h with
  | @leaf f k n h => intro ht hs; exact redexes_mk (by simp) (by simp [sizeLZ]) (by simp) (by omega)
  | @lam f b h ih =>
    intro ht hs
    have hsz : sizeZ (.mk 2 0 [] [b]) = sizeZ b + 0 + 1 := rfl
    have hsl : sizeLZ [b] = sizeZ b + 0 := rfl
    exact redexes_mk (by simp) (by omega) (fun t h' => by have : t = b := by simpa using h'
                                                          subst this; exact ⟨reds_le h,ih (ht.kids.2.2.2.2 t (by simp)) (by omega)⟩) (by omega)
  | @alt f n s b _ _ _ h ih =>
    intro ht hs
    have hsz : sizeZ (.mk 6 n s [b]) = sizeZ b + 0 + 1 := rfl
    have hsl : sizeLZ [b] = sizeZ b + 0 := rfl
    exact redexes_mk (by simp) (by omega) (fun t h' => by have : t = b := by simpa using h'
                                                          subst this; exact ⟨reds_le h,ih (ht.kids.2.2.2.2 t (by simp)) (by omega)⟩) (by omega)
  | @node f k s l hk hl ih =>
    intro ht hs
    have hsz : sizeZ (.mk k 0 s l) = sizeLZ l + 1 := rfl
    refine redexes_mk (by omega) (by omega) (fun t h' => ?_) (fun h h0 => by rw [h0] at hk; simp at hk; omega)
    obtain ⟨j,hj⟩ := List.getElem?_of_mem h'
    have := sizeLZ_mem h'
    exact ⟨reds_le (hl j t hj),ih j t hj (ht.kids.2.2.2.2 t h') (by omega)⟩
theorem pairsWoven_law {t : T} (ht : T.Ok t) : eP S 13 [.g (enc t)] = some (.a (.b true)) := by
  have f0 := fixed17_ok
  have a1 := small_ok ht 80
  have a3 := May_ok ht 0
  have et := enc_eq t
  refine x_fn (orcS (by decide)) (fc := F13) rfl rfl ?_
  cases h1 : small t 80 with
  | false =>
    rw [h1] at a1
    simp only [et] at a1
    simp only [F13,et,f0,a1,fxa,fxc,fxE,fxL,fxI,nxE,evO,evR,cellsT,ldCells,mkT,lenA,binPV,Env.init,resV,resT,frT,klT,ownT,intT,O.adds,ownA,rowsA,over,wrOk,keysT,keysA,ne_eq,if_true,if_false,ite_self,Nat.reduceLT,Nat.reduceSub,Nat.reduceBEq,Nat.reduceEqDiff,Nat.reduceAdd,Nat.reduceLeDiff,reduceCtorEq,Nat.reduceMul]
  | true =>
    obtain ⟨hd6,hs⟩ := small_all (by decide) h1
    have a2 := Depth_ok ht (by omega)
    rw [h1] at a1
    simp only [et] at a1 a2 a3
    by_cases hd : (dep t : Int) > 50
    · simp only [F13,et,f0,a1,a2,hd,fxa,fxc,fxE,fxL,fxI,nxE,evO,evR,cellsT,ldCells,mkT,lenA,binPV,Env.init,resV,resT,frT,klT,ownT,intT,O.adds,ownA,rowsA,over,wrOk,keysT,keysA,ne_eq,if_true,if_false,ite_self,Nat.reduceLT,Nat.reduceSub,Nat.reduceBEq,Nat.reduceEqDiff,Nat.reduceAdd,Nat.reduceLeDiff,reduceCtorEq,Nat.reduceMul]
    cases h3 : may t 0 false with
    | false =>
      rw [h3] at a3
      simp only [F13,et,f0,a1,a2,a3,hd,fxa,fxc,fxE,fxL,fxI,nxE,evO,evR,cellsT,ldCells,mkT,lenA,binPV,Env.init,resV,resT,frT,klT,ownT,intT,O.adds,ownA,rowsA,over,wrOk,keysT,keysA,ne_eq,if_true,if_false,ite_self,Nat.reduceLT,Nat.reduceSub,Nat.reduceBEq,Nat.reduceEqDiff,Nat.reduceAdd,Nat.reduceLeDiff,reduceCtorEq,Nat.reduceMul]
    | true =>
      rw [h3] at a3
      have hc := cl_of_may t 0 false (by omega) (by omega) h3
      have c1 := Net_ok ht hc h3 hs (by omega)
      have hW := woven hc ht hs (by omega)
      obtain ⟨n,hn⟩ : ∃ n,wovenG t = n := ⟨_,rfl⟩
      rw [hn] at c1 hW
      have hG := hW.good
      have hb := good_big hG
      simp only [et,encT] at c1
      have b1 := Ready_ok hW.ok
      have b2 := redexes_ok hc ht (by omega)
      have hasks := woven_asks hW
      simp only [encT,et] at b1 b2
      simp only [F13,et,f0,a1,a2,a3,hd,c1,b1,List.length_map,fxa,fxc,fxE,fxL,fxI,nxE,evO,evR,cellsT,ldCells,mkT,lenA,binPV,Env.init,resV,resT,frT,klT,ownT,intT,O.adds,ownA,rowsA,over,wrOk,keysT,keysA,ne_eq,if_true,if_false,ite_self,Nat.reduceLT,Nat.reduceSub,Nat.reduceBEq,Nat.reduceEqDiff,Nat.reduceAdd,Nat.reduceLeDiff,reduceCtorEq,Nat.reduceMul]
      refine loop_nat n.rds.length (fun i e τ => e 1 = .a (.ptr (1,0) 0 0) ∧ e 3 = .a (.ptr (3,1) 0 0) ∧ e 4 = .a (.p (.i .i64 0)) ∧ e 5 = .a (.p (.l (n.rds.map encP))) ∧ e 6 = .a (.p (.i .i64 (((n.rds.take i).countP (nodrop n) : Nat) : Int))) ∧ e 7 = .a (.p (.i .i64 (i : Nat))) ∧
        τ.bs (1,0) = some (.var [.p (.i .i64 t.k),.p (.i .i64 t.n),.p (.s t.s),.p (.l (t.l.map enc))]) ∧ τ.bs (3,1) = some (.var [.p (.l (n.ns.map encN)),.p (.i .i64 n.cap)])) (i0 := 0) (Nat.zero_le _) ⟨rfl,rfl,rfl,rfl,rfl,rfl,rfl,rfl⟩ ?_ ?_
      · rintro i e τ hi ⟨e1,e3,e4,e5,e6,e7,t1,t3⟩
        obtain ⟨p,hp⟩ : ∃ p,n.rds[i]? = some p := ⟨_,List.getElem?_eq_getElem hi⟩
        have hpm := List.mem_of_getElem? hp
        have hpp : p ∈ n.prs := by
          have h' := hpm
          unfold Nt.rds at h'
          rw [bool_t hG,if_pos rfl] at h'
          exact (List.mem_filter.1 h').1
        obtain ⟨hp0,hp1,hp2,hp3,_⟩ := prs_in hG hpp
        have hx' : (n.rds.map encP)[i]? = some [.i .i64 p.n,.i .i64 p.s] := by rw [List.getElem?_map,hp]; rfl
        obtain ⟨a,ha⟩ : ∃ a,n.nd p.n = a := ⟨_,rfl⟩
        obtain ⟨b,hb'⟩ : ∃ b,n.nd p.s = b := ⟨_,rfl⟩
        have ga : (n.ns.map encN)[p.n.toNat]? = some (encN a) := by rw [← ha]; exact getN hp0 hp1
        have gb : (n.ns.map encN)[p.s.toNat]? = some (encN b) := by rw [← hb']; exact getN hp2 hp3
        simp only [encN] at ga gb
        have hlt : ((i : Nat) : Int) < (n.rds.length : Int) := by omega
        have hge : (0 : Int) ≤ ((i : Nat) : Int) := by omega
        have hrl : n.rds.length ≤ 4000 := by
          have h1 : n.rds.length ≤ n.prs.length := by
            unfold Nt.rds; rw [bool_t hG,if_pos rfl]; exact List.length_filter_le _ _
          have h2 := prsTo_len n n.ns.length
          have h3 : n.prs.length ≤ n.ns.length := h2
          omega
        have hw := wrap_succ i (by omega)
        obtain ⟨c,hc'⟩ : ∃ c,(n.rds.take i).countP (nodrop n) = c := ⟨_,rfl⟩
        have hcl : c ≤ i := by
          rw [← hc']; exact Nat.le_trans (List.countP_le_length ..) (by rw [List.length_take]; omega)
        have hwc := wrap_succ c (by omega)
        have htk : (n.rds.take (i + 1)).countP (nodrop n) = c + (if nodrop n p then 1 else 0) := by
          rw [List.take_add_one,hp,List.countP_append,hc']
          simp [List.countP_cons]
        have hnd : nodrop n p = (decide (a.k ≠ 7) && decide (b.k ≠ 7)) := by unfold nodrop; rw [ha,hb']
        rw [hc'] at e6
        rw [htk,hnd]
        by_cases k1 : a.k = 7
        · have k1t := eq_true k1
          have hz : c + (if (decide (a.k ≠ 7) && decide (b.k ≠ 7)) = true then 1 else 0) = c := by simp [k1]
          rw [hz]
          simp only [F13b0,e1,e3,e4,e5,e6,e7,t1,t3,hlt,hge,hw,hx',hp0,hp1,hp2,hp3,ga,gb,k1t,allN,lenN,Int.toNat_natCast,List.length_map,List.length_cons,List.length_nil,allP,fxa,fxc,fxE,fxL,fxI,nxE,evO,evR,cellsT,ldCells,mkT,lenA,binPV,Env.init,resV,resT,frT,klT,ownT,intT,O.adds,ownA,rowsA,over,wrOk,keysT,keysA,ne_eq,if_true,if_false,ite_self,Nat.reduceLT,Nat.reduceSub,Nat.reduceBEq,Nat.reduceEqDiff,Nat.reduceAdd,Nat.reduceLeDiff,reduceCtorEq,Nat.reduceMul]
        · by_cases k2 : b.k = 7
          · have k2t := eq_true k2
            have hz : c + (if (decide (a.k ≠ 7) && decide (b.k ≠ 7)) = true then 1 else 0) = c := by simp [k2]
            rw [hz]
            simp only [F13b0,e1,e3,e4,e5,e6,e7,t1,t3,hlt,hge,hw,hx',hp0,hp1,hp2,hp3,ga,gb,k1,k2t,allN,lenN,Int.toNat_natCast,List.length_map,List.length_cons,List.length_nil,allP,fxa,fxc,fxE,fxL,fxI,nxE,evO,evR,cellsT,ldCells,mkT,lenA,binPV,Env.init,resV,resT,frT,klT,ownT,intT,O.adds,ownA,rowsA,over,wrOk,keysT,keysA,ne_eq,if_true,if_false,ite_self,Nat.reduceLT,Nat.reduceSub,Nat.reduceBEq,Nat.reduceEqDiff,Nat.reduceAdd,Nat.reduceLeDiff,reduceCtorEq,Nat.reduceMul]
          · have hz : c + (if (decide (a.k ≠ 7) && decide (b.k ≠ 7)) = true then 1 else 0) = c + 1 := by simp [k1,k2]
            rw [hz]
            simp only [F13b0,e1,e3,e4,e5,e6,e7,t1,t3,hlt,hge,hw,hx',hp0,hp1,hp2,hp3,ga,gb,k1,k2,hwc,allN,lenN,Int.toNat_natCast,List.length_map,List.length_cons,List.length_nil,allP,fxa,fxc,fxE,fxL,fxI,nxE,evO,evR,cellsT,ldCells,mkT,lenA,binPV,Env.init,resV,resT,frT,klT,ownT,intT,O.adds,ownA,rowsA,over,wrOk,keysT,keysA,ne_eq,if_true,if_false,ite_self,Nat.reduceLT,Nat.reduceSub,Nat.reduceBEq,Nat.reduceEqDiff,Nat.reduceAdd,Nat.reduceLeDiff,reduceCtorEq,Nat.reduceMul]
      · rintro e τ ⟨e1,e3,e4,e5,e6,e7,t1,t3⟩
        have hlt : ¬ ((n.rds.length : Nat) : Int) < (n.rds.length : Int) := by omega
        rw [List.take_length,hasks] at e6
        simp only [F13b0,e1,e3,e4,e5,e6,e7,t1,t3,hlt,b2,List.length_map,fxa,fxc,fxE,fxL,fxI,nxE,evO,evR,cellsT,ldCells,mkT,lenA,binPV,Env.init,resV,resT,frT,klT,ownT,intT,O.adds,ownA,rowsA,over,wrOk,keysT,keysA,ne_eq,if_true,if_false,ite_self,Nat.reduceLT,Nat.reduceSub,Nat.reduceBEq,Nat.reduceEqDiff,Nat.reduceAdd,Nat.reduceLeDiff,reduceCtorEq,Nat.reduceMul]
end Go.Proofs.Ytkpfjolcmkikeaa.Tm
end
section
set_option linter.unusedSimpArgs false
set_option linter.unusedVariables false
namespace Go.Proofs.Ytkpfjolcmkikeaa
open Go.Fx
theorem cellsI : Try.prog.cellsOf 3 = 1 := by kernel_rfl
theorem cellsSt : Try.prog.cellsOf 9 = 1 := by kernel_rfl
theorem len4 {α : Type} {l : List α} (h : l.length = 4) : ∃ a b c d,l = [a,b,c,d] := by
  match l,h with
  | [a,b,c,d],_ => exact ⟨a,b,c,d,rfl⟩
theorem own : ownKnob Try.prog.godebug = none := by kernel_rfl
theorem laidOut : laidOutB Try.prog = true := by kernel_rfl
end Go.Proofs.Ytkpfjolcmkikeaa
end
section
set_option linter.unusedSimpArgs false
set_option linter.unusedVariables false
namespace Go.Proofs.Ytkpfjolcmkikeaa.Tm
open Go.Fx
theorem cellsTm : Try.prog.cellsOf 46 = 4 := by kernel_rfl
theorem bytesTm : Try.prog.bytesOf 46 = 56 := by kernel_rfl
theorem cellsLT : Try.prog.cellsOf 44 = 1 := by kernel_rfl
theorem ct_intT {n : Nat} {qs : List PV} (h : CT Try.prog n 3 qs) : ∃ i,qs = [.i .i64 i] ∧ (Lit.int .i64 i).wf = true := by
  cases n with
  | zero => exact h.elim
  | succ n => simp only [CT,Try.underlying3] at h; exact h
theorem ct_term : ∀ {n : Nat} {qs : List PV},CT Try.prog n 46 qs → ∃ t,T.Ok t ∧ qs = enc t := by
  intro n
  induction n using Nat.strongRecOn with
  | _ n ih =>
    intro qs h
    cases n with
    | zero => exact h.elim
    | succ n =>
      simp only [CT,Try.underlying46,cellsTm] at h
      obtain ⟨hl,hf⟩ := h
      obtain ⟨q0,q1,q2,q3,rfl⟩ := len4 hl
      · have f0 : CT Try.prog n 3 (List.take (Try.prog.cellsOf 3) [q0,q1,q2,q3]) := hf _ (Array.mem_of_getElem? (i := 0) rfl)
        have f1 : CT Try.prog n 3 (List.take (Try.prog.cellsOf 3) [q1,q2,q3]) := hf _ (Array.mem_of_getElem? (i := 1) rfl)
        have f2 : CT Try.prog n 9 (List.take (Try.prog.cellsOf 9) [q2,q3]) := hf _ (Array.mem_of_getElem? (i := 2) rfl)
        have f3 : CT Try.prog n 44 (List.take (Try.prog.cellsOf 44) [q3]) := hf _ (Array.mem_of_getElem? (i := 3) rfl)
        rw [cellsI] at f0 f1
        rw [cellsSt] at f2
        rw [cellsLT] at f3
        have f0 : CT Try.prog n 3 [q0] := f0
        have f1 : CT Try.prog n 3 [q1] := f1
        have f2 : CT Try.prog n 9 [q2] := f2
        have f3 : CT Try.prog n 44 [q3] := f3
        obtain ⟨k,e0,hk⟩ := ct_intT f0
        obtain ⟨m,e1,hm⟩ := ct_intT f1
        cases n with
        | zero => exact f0.elim
        | succ n =>
          simp only [CT,Try.underlying9] at f2
          simp only [CT,Try.underlying44,bytesTm] at f3
          obtain ⟨s,e2,hs⟩ := f2
          obtain ⟨rows,e3,hr,hrow⟩ := f3
          simp only [List.cons.injEq,and_true] at e0 e1 e2 e3
          subst e0 e1 e2 e3
          have : ∀ (rows : List (List PV)),(∀ r,r ∈ rows → r.length = Try.prog.cellsOf 46 ∧ CT Try.prog n 46 r) → ∃ l : List T,rows = l.map enc ∧ ∀ t,t ∈ l → T.Ok t := by
            intro rows
            induction rows with
            | nil => intro _; exact ⟨[],rfl,fun t ht => by simp at ht⟩
            | cons r rows ihr =>
              intro h
              obtain ⟨t,ht,rfl⟩ := ih n (by omega) (h r (by simp)).2
              obtain ⟨l,rfl,hl⟩ := ihr fun r hr => h r (by simp [hr])
              exact ⟨t :: l,rfl,fun u hu => by rcases List.mem_cons.1 hu with rfl | hu; exact ht; exact hl u hu⟩
          obtain ⟨l,rfl,hall⟩ := this rows hrow
          exact ⟨.mk k m s l,.mk k m s l hk hm hs (by simpa using hr) hall,by simp [enc,encL_map]⟩
theorem aggTm : aggT Try.prog 46 = true := by simp only [aggT,Try.underlying46,aggD]
theorem at_term {p : PT} (h : AT Try.prog 46 p ∧ p.isG = aggT Try.prog 46) : ∃ t,T.Ok t ∧ p = .g (enc t) := by
  obtain ⟨h1,h2⟩ := h
  rw [aggTm] at h2
  cases p with
  | g qs => obtain ⟨n,hn⟩ := h1; obtain ⟨t,ht,rfl⟩ := ct_term hn; exact ⟨t,ht,rfl⟩
  | _ => simp [PT.isG] at h2
def lawTt : List TypeId := [3,9,44,46]
theorem lawTtOk : closedTs Try.prog lawTt = true := by kernel_rfl
end Go.Proofs.Ytkpfjolcmkikeaa.Tm
end
namespace Go.Proofs.Ytkpfjolcmkikeaa.pairsWoven
open Go.Fx Go.ChangeShapes Go.WideShapes Go.ChangeAt Go.RowKit
theorem law (ps : List PT) (h : F2 (fun t p => AT Try.checked.prog t p ∧ p.isG = aggT Try.checked.prog t) Try.f13.params.toList ps) : eP S 13 ps = some (.a (.b true)) := by
  have h' : F2 (fun t p => AT Try.prog t p ∧ p.isG = aggT Try.prog t) [46] ps := by rw [Try.params13] at h; exact h
  obtain _ | ⟨h1,r1⟩ := h'
  obtain _ | _ := r1
  obtain ⟨a1,k1,rfl⟩ := Tm.at_term h1
  exact Tm.pairsWoven_law k1
set_option maxRecDepth 100000 in
theorem lifted (os : Os) (started : os.Started) (H : Type) (enc : TypeId × Value → H) :
    ReturnsInHanded {} Try.checked os 13 .any (Rows.pairsWovenSpec.pre6 enc Try.prog Try.f13 Rows.pairsWovenRow.domain false) (Rows.pairsWovenSpec.post enc Try.prog Try.f13 false true false false) := by
  refine row_ok (C := Try.checked) (eqs := [(43,[0,0]),(79,[1,0]),(60,[0,0]),(140,[0,0]),(43,[9]),(134,[8]),(136,[8]),(108,[8]),(135,[8]),(112,[8])]) (S := S) (ts := Tm.lawTt) (tb := 4) own started (by kernel_rfl) Try.func13 laidOut
    (ChangeSpec.witness6 (enc := enc) (C := Try.checked) false ⟨#[],#[.agg #[.int .i64 0,.int .i64 0,.string ByteArray.empty,.slice none 0 0]],[]⟩ 8 (by kernel_rfl) (by kernel_rfl) (by kernel_rfl) (by kernel_rfl))
    Tm.lawTtOk (by kernel_rfl) rfl Try.underlying4 rfl ?_ seatOk law
  intro ds hd
  match ds,hd with
  | [d1],_ => rfl
theorem over : Rows.pairsWovenRow.holds Try.pinned (OpenSpec.ofChange Rows.pairsWovenSpec) :=
  OpenClaim.holds_of_wide 13 Try.f13 rfl rfl rfl rfl rfl rfl rfl ⟨rfl,rfl,rfl,rfl,rfl⟩ rfl rfl rfl rfl rfl (by kernel_rfl) Try.func13 (by kernel_rfl)
    (of_decide_eq_true (by kernel_rfl)) (by unfold Func.isWrapper; first | (rw [if_pos (by decide +kernel)]; kernel_rfl) | (rw [if_neg (by decide +kernel)]; exact ⟨rfl,rfl⟩))
    (fun os started H enc _ => lifted os started H enc)
theorem proved : Rows.PairsWovenSaid := over
#print axioms proved
end Go.Proofs.Ytkpfjolcmkikeaa.pairsWoven
