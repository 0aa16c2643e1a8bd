import Derived.Test.YtkpfjolcmkikeaaFx5
/-
  Each operation that reads alone is carried out as the evaluator tells.
-/
namespace Go.Fx
open Go.RowKit

/-- Structs of these types are held against each other cell by cell. -/
def EqOk (P : Program) (eqs : List (TypeId × List Nat)) : Prop :=
  ∀ t sh, (t, sh) ∈ eqs → ∀ (as cs : List AV) (r : Bool), eqCells sh as cs = some r → ∀ (m : Mt) (σ : St) (w : World) (xs ys : List Value), F2 (RA m σ w) as xs → F2 (RA m σ w) cs ys →
    ∀ (w' : World), (Op.equal t (.agg xs.toArray) (.agg ys.toArray)).run P w' = .ok r w' ∧ ∀ op ox oy, (eqGuard op t ox oy (.agg xs.toArray) (.agg ys.toArray)).run P w' = .ok () w'

section
variable {P : Program} {eqs : List (TypeId × List Nat)} {CR : Nat → Code → C → Prop} {m : Mt} {σ : St} {w : World} {e : Env} {a : Act}

theorem bindO {α β : Type} {x : Option α} {f : α → Option β} {y : β} (h : x.bind f = some y) : ∃ z, x = some z ∧ f z = some y := Option.bind_eq_some_iff.1 h

theorem load_ok (hR : SR CR m σ w) {x : AV} {v : Value} (hx : RA m σ w x v) {t : TypeId} {n : Nat} {g : Bool} (hn : tsz P t = some n) (hg : tag P t = some g) (hg1 : ¬ (g = false ∧ n ≠ 1)) {r : TV}
    (h : (ldCells σ n x).bind (mkT g) = some r) : ∃ u, (Instr.loadAt t v).run P w = .ok u w ∧ RT m σ w r u := by
  obtain ⟨cs, h1, h2⟩ := bindO h
  obtain ⟨B, o, vs, rfl, hl, hc, hf⟩ := ldCells_ok hR hx h1
  have hm := mkT_ok hf h2
  simp only [Instr.loadAt, Instr.sureAddr, Sem.run_bind, Sem.run_pure, Result.andThen_ok, loadVar, tag_run hg]
  cases g with
  | true =>
    simp only [if_true] at hm ⊢
    have hl' := run_loadCells_list (P := P) w ⟨B, o, none⟩ vs (fun j u hu => by rw [addr_add]; exact hc j u hu)
    rw [hl] at hl'
    refine ⟨.agg vs.toArray, ?_, hm⟩
    simp [tsz_run hn, hl']
  | false =>
    simp only [Bool.false_eq_true, if_false] at hm ⊢
    obtain ⟨u, rfl, hu⟩ := hm
    refine ⟨u, ?_, hu⟩
    have := hc 0 u (by simp)
    simp only [Nat.add_zero] at this
    simp [this]

theorem part_ok {cs : List AV} {vs : List Value} (hf : F2 (RA m σ w) cs vs) {t : TypeId} {n off : Nat} {g : Bool} (hn : tsz P t = some n) (hg : tag P t = some g) (hg1 : ¬ (g = false ∧ n ≠ 1)) {r : TV}
    (h : mkT g ((cs.drop off).take n) = some r) : ∃ u, (part t vs.toArray off).run P w = .ok u w ∧ RT m σ w r u := by
  have hm := mkT_ok ((hf.drop off).take n) h
  simp only [part, Sem.run_bind, tag_run hg, Result.andThen_ok]
  cases g with
  | true =>
    simp only [if_true] at hm ⊢
    refine ⟨_, ?_, hm⟩
    simp only [Sem.run_bind, tsz_run hn, Result.andThen_ok, Sem.run_pure]
    congr 2
    apply Array.ext'
    simp [List.extract_eq_take_drop]
  | false =>
    simp only [Bool.false_eq_true, if_false] at hm ⊢
    obtain ⟨u, hu, hr⟩ := hm
    refine ⟨u, ?_, hr⟩
    have hn1 : n = 1 := by simp at hg1; exact hg1
    have : vs[off]? = some u := by
      have h0 : ((vs.drop off).take n)[0]? = some u := by rw [hu]; simp
      rw [List.getElem?_take, if_pos (by omega), List.getElem?_drop] at h0
      simpa using h0
    simp [this]

theorem optInt_ok (hE : RE m σ w e a.tmps) {x : Option Operand} {y : Option X} (h : optX x = some y) {d n : Int} (hn : optInt e y d = some n) :
    (x = none ∧ n = d) ∨ ∃ o k, x = some o ∧ a.eval o = .int k n := by
  cases x with
  | none => simp only [optX, Option.some.injEq] at h; subst h; simp only [optInt, Option.some.injEq] at hn; exact .inl ⟨rfl, hn.symm⟩
  | some o =>
    simp only [optX] at h
    obtain ⟨z, hz, h⟩ := bindO h
    simp only [Option.some.injEq] at h; subst h
    simp only [optInt] at hn
    obtain ⟨k, hk⟩ := intT_ok (ev_ok hE hz) hn
    exact .inr ⟨o, k, rfl, hk⟩

theorem bound_ok {k : IntKind} {i : Int} {y : Nat} {c : BoundsCode} (h0 : 0 ≤ i) (h1 : i ≤ y) : (Instr.sliceBound (.int k i) y c).run P w = .ok i.toNat w := by
  simp [Instr.sliceBound, asIntOf, h0, h1]

/-- two bounds, of a slice or a text -/
theorem bounds_ok (hE : RE m σ w e a.tmps) {lo hi : Option Operand} {lo' hi' : Option X} (hlo : optX lo = some lo') (hhi : optX hi = some hi') {l h : Int} {len cap : Nat} {b : Bool}
    (hl : optInt e lo' 0 = some l) (hh : optInt e hi' len = some h) (h0 : 0 ≤ l) (h1 : l ≤ h) (h2 : h ≤ len) (hc : len ≤ cap) :
    (Instr.sliceBounds b len cap (lo.map a.eval) (hi.map a.eval) none).run P w = .ok (l.toNat, h.toNat, cap) w := by
  rcases optInt_ok hE hhi hh with ⟨rfl, rfl⟩ | ⟨o, k, rfl, ho⟩ <;> rcases optInt_ok hE hlo hl with ⟨rfl, rfl⟩ | ⟨o', k', rfl, ho'⟩
  · simp [Instr.sliceBounds]
  · simp only [Instr.sliceBounds, Option.map_none, Option.map_some, ho', Sem.run_bind, Sem.run_pure, Result.andThen_ok]
    rw [bound_ok h0 (by omega)]; simp
  · simp only [Instr.sliceBounds, Option.map_none, Option.map_some, ho, Sem.run_bind, Sem.run_pure, Result.andThen_ok]
    rw [bound_ok (by omega) (by omega)]; simp
  · simp only [Instr.sliceBounds, Option.map_some, ho, ho', Sem.run_bind, Sem.run_pure, Result.andThen_ok]
    rw [bound_ok (by omega) (by omega)]; simp only [Result.andThen_ok]
    rw [bound_ok h0 (by omega)]; simp

theorem bytes_ok {rows : List (List PV)} {bs : List UInt8} (h : bytesOf rows = some bs) (f : Nat → Nat → Value) (hf : ∀ (i : Nat) (r : List PV) (j : Nat) (c : PV), rows[i]? = some r → r[j]? = some c → RP w m.D c (f i j)) :
    ∀ i, i < rows.length → ∃ n : Int, f i 0 = .int .u8 n ∧ bs[i]? = some (UInt8.ofNat n.toNat) := by
  induction rows generalizing bs f with
  | nil => intro i hi; simp at hi
  | cons r rs ih =>
    have : ∃ n, r = [.i .u8 n] := by
      unfold bytesOf at h
      split at h
      · rename_i e; cases e
      · rename_i e; cases e; exact ⟨_, rfl⟩
      · cases h
    obtain ⟨n, rfl⟩ := this
    simp only [bytesOf] at h
    obtain ⟨bs', h1, h⟩ := bindO h
    simp only [Option.some.injEq] at h; subst h
    intro i hi
    cases i with
    | zero =>
      have := hf 0 [.i .u8 n] 0 (.i .u8 n) (by simp) (by simp)
      generalize f 0 0 = v at this ⊢
      cases this
      exact ⟨n, rfl, by simp⟩
    | succ i =>
      obtain ⟨q, h2, h3⟩ := ih h1 (fun i j => f (i + 1) j) (fun i r j c hi hj => hf (i + 1) r j c (by simpa using hi) hj) i (by simpa using hi)
      exact ⟨q, h2, by simpa using h3⟩

theorem bytes_len {rows : List (List PV)} {bs : List UInt8} (h : bytesOf rows = some bs) : bs.length = rows.length := by
  induction rows generalizing bs with
  | nil => simp [bytesOf] at h; subst h; rfl
  | cons r rs ih =>
    unfold bytesOf at h
    split at h
    · rename_i e; cases e
    · rename_i e; cases e
      obtain ⟨bs', h1, h⟩ := bindO h
      simp only [Option.some.injEq] at h; subst h
      simp [ih h1]
    · cases h

theorem fill_over {place : Nat → Option (Nat × Nat)} {cells : Array Value} {i off size : Nat} {v : Value} {rest : List (Nat × Value)} (hp : place i = some (off, size)) (hs : v.cells.size = size) (ho : off + size ≤ cells.size) :
    Instr.fill place cells ((i, v) :: rest) = Instr.fill place (over cells.toList off v.cells.toList).toArray rest := by
  have key : ∀ (vs : List Value) (k : Nat) (cs : Array Value), off + k + vs.length ≤ cs.size →
      (vs.zipIdx k).foldl (fun cs (x : Value × Nat) => cs.setIfInBounds (off + x.2) x.1) cs = (over cs.toList (off + k) vs).toArray := by
    intro vs
    induction vs with
    | nil => intro k cs _; simp [over]
    | cons x vs ih =>
      intro k cs hl
      simp only [List.zipIdx_cons, List.foldl_cons]
      rw [ih (k + 1) _ (by simp at hl ⊢; omega)]
      congr 1
      simp only [over, Array.toList_setIfInBounds]
      have e := list_seg_step cs.toList (off + k) x vs (by simp at hl ⊢; omega)
      simpa [Nat.add_assoc] using e
  simp only [Instr.fill, hp]
  rw [if_neg (by simp [hs]; omega)]
  congr 1
  have := key v.cells.toList 0 cells (by simp [hs]; omega)
  simp only [Nat.add_zero] at this
  rw [← this]
  rw [← Array.foldl_toList, Array.toList_zipIdx]

theorem fillA_ok (hE : RE m σ w e a.tmps) {place : Nat → Option (Nat × Nat)} : ∀ {ps : List (Nat × Operand)} {ps' : List (Nat × Nat × X)} {z r : List AV} {cells : List Value},
    F2 (fun (y : Nat × Nat × X) (p : Nat × Operand) => place p.1 = some (y.1, y.2.1) ∧ ccX p.2 = some y.2.2) ps' ps → F2 (RA m σ w) z cells → fillA e z ps' = some r →
    ∃ vs, Instr.fill place cells.toArray (ps.map fun p => (p.1, a.eval p.2)) = some vs.toArray ∧ F2 (RA m σ w) r vs
  | _, _, z, r, cells, .nil, hz, h => by
    simp only [fillA, Option.some.injEq] at h; subst h
    exact ⟨cells, rfl, hz⟩
  | _, _, z, r, cells, .cons (a := y) (b := p) hp t, hz, h => by
    obtain ⟨off, size, x⟩ := y
    obtain ⟨i, q⟩ := p
    simp only [fillA] at h
    obtain ⟨vs, hv, h⟩ := bindO h
    split at h
    · rename_i hc
      obtain ⟨hc1, hc2⟩ := hc
      have hcl := cells_ok (ev_ok hE hp.2) hv
      have hlen := hcl.length
      have hzl := hz.length
      have hz' := F2.over off hz hcl
      obtain ⟨us, hu1, hu2⟩ := fillA_ok hE t hz' h
      refine ⟨us, ?_, hu2⟩
      simp only [List.map_cons]
      rw [fill_over (off := off) (size := size) hp.1 (by simp at hlen; omega) (by simp; omega)]
      exact hu1
    · cases h

theorem places_spec {fs : Array Field} (h : fs.toList.all (fun f => (tsz P f.type).isSome) = true) :
    ∃ places : List (Nat × Nat), fs.toList.mapM (fun f => (P.info? f.type).map fun i => (f.offset, i.size)) = some places ∧ ∀ (i : Nat) (f : Field) (n : Nat), fs[i]? = some f → tsz P f.type = some n → places[i]? = some (f.offset, n) := by
  have : ∀ (l : List Field), l.all (fun f => (tsz P f.type).isSome) = true → ∃ places : List (Nat × Nat), l.mapM (fun f => (P.info? f.type).map fun i => (f.offset, i.size)) = some places ∧ ∀ (i : Nat) (f : Field) (n : Nat), l[i]? = some f → tsz P f.type = some n → places[i]? = some (f.offset, n) := by
    intro l
    induction l with
    | nil => intro _; exact ⟨[], by simp, by simp⟩
    | cons f l ih =>
      intro hl
      simp only [List.all_cons, Bool.and_eq_true] at hl
      obtain ⟨ps, h1, h2⟩ := ih hl.2
      obtain ⟨n, hn⟩ := Option.isSome_iff_exists.1 hl.1
      have hn' := hn
      unfold tsz at hn
      obtain ⟨i, hi, hn⟩ := bindO hn
      simp only [Option.some.injEq] at hn
      refine ⟨(f.offset, n) :: ps, by simp [List.mapM_cons, hi, h1, hn], fun j g k hj hk => ?_⟩
      cases j with
      | zero => simp at hj; subst hj; rw [hn'] at hk; simp only [Option.some.injEq] at hk; simp [hk]
      | succ j => simpa using h2 j g k (by simpa using hj) hk
  obtain ⟨ps, h1, h2⟩ := this fs.toList h
  exact ⟨ps, h1, fun i f n hi hn => h2 i f n (by simpa using hi) hn⟩

theorem mapO_F2' {α β : Type} {f : α → Option β} {R : β → α → Prop} (h : ∀ x y, f x = some y → R y x) : ∀ {l : List α} {l' : List β}, mapO f l = some l' → F2 R l' l
  | [], l', e => by simp [mapO] at e; subst e; exact .nil
  | x :: r, l', e => by
    simp only [mapO] at e
    obtain ⟨y, h1, e⟩ := bindO e
    obtain ⟨ys, h2, e⟩ := bindO e
    simp only [Option.some.injEq] at e; subst e
    exact .cons (h x y h1) (mapO_F2' h h2)

theorem build_ok (hE : RE m σ w e a.tmps) {t : TypeId} {ps : Array (Nat × Operand)} {op : O} (h : ccO P eqs (.build t ps) = some op) {cp : FuncId → List PT → Option PT} {sp : FuncId → Bool} {r : TV}
    (hev : evR cp sp e σ op = some r) : ∃ v, (Instr.build t (ps.map fun (i, x) => (i, a.eval x))).run P w = .ok v w ∧ RT m σ w r v := by
  simp only [ccO] at h
  obtain ⟨z, hz, h⟩ := bindO h
  unfold tzero at hz
  obtain ⟨it, hit, hz⟩ := bindO hz
  obtain ⟨zv, hzv, hz⟩ := bindO hz
  have hz2 : F2 (RA m σ w) z zv.cells.toList := by
    have := mapO_F2 (R := RA m σ w) (g := fun v : Value => v) (fun _ _ => cAV_ok) hz
    simpa using this
  cases hu : P.underlying t with
  | none => simp [hu] at h
  | some d =>
    cases d with
    | struct fs =>
      simp only [hu] at h
      split at h
      · rename_i hall
        obtain ⟨ps', hps, h⟩ := bindO h
        simp only [Option.some.injEq] at h; subst h
        simp only [evR] at hev
        obtain ⟨cs, hcs, hev⟩ := bindO hev
        simp only [Option.some.injEq] at hev; subst hev
        obtain ⟨places, hp1, hp2⟩ := places_spec hall
        have hF := mapO_F2' (R := fun (y : Nat × Nat × X) (p : Nat × Operand) => (places.toArray[p.1]?) = some (y.1, y.2.1) ∧ ccX p.2 = some y.2.2) (fun p y hy => by
          obtain ⟨f, hf, hy⟩ := bindO hy
          obtain ⟨n, hn, hy⟩ := bindO hy
          obtain ⟨x, hx, hy⟩ := bindO hy
          simp only [Option.some.injEq] at hy; subst hy
          unfold tfield at hf
          simp only [hu] at hf
          obtain ⟨fd, hfd, hf⟩ := bindO hf
          simp only [Option.some.injEq] at hf; subst hf
          exact ⟨by simpa using hp2 p.1 fd n hfd hn, hx⟩) hps
        obtain ⟨vs, hv1, hv2⟩ := fillA_ok hE (place := fun i => places.toArray[i]?) hF hz2 hcs
        rw [Array.toArray_toList] at hv1
        refine ⟨.agg vs.toArray, run_build w t _ _ ?_, vs, rfl, hv2⟩
        simp only [Program.built, hit, hu, hzv, hp1]
        rw [show (ps.map fun (x : Nat × Operand) => (x.1, a.eval x.2)).toList = ps.toList.map fun p => (p.1, a.eval p.2) by simp]
        exact hv1
      · cases h
    | array n el =>
      simp only [hu] at h
      obtain ⟨k, hk, h⟩ := bindO h
      obtain ⟨ps', hps, h⟩ := bindO h
      simp only [Option.some.injEq] at h; subst h
      simp only [evR] at hev
      obtain ⟨cs, hcs, hev⟩ := bindO hev
      simp only [Option.some.injEq] at hev; subst hev
      unfold tsz at hk
      obtain ⟨ie, hie, hk⟩ := bindO hk
      simp only [Option.some.injEq] at hk; subst hk
      have hF := mapO_F2' (R := fun (y : Nat × Nat × X) (p : Nat × Operand) => (fun i => some (i * ie.size, ie.size)) p.1 = some (y.1, y.2.1) ∧ ccX p.2 = some y.2.2) (fun p y hy => by
          obtain ⟨x, hx, hy⟩ := bindO hy
          simp only [Option.some.injEq] at hy; subst hy
          exact ⟨rfl, hx⟩) hps
      obtain ⟨vs, hv1, hv2⟩ := fillA_ok hE (place := fun i => some (i * ie.size, ie.size)) hF hz2 hcs
      rw [Array.toArray_toList] at hv1
      refine ⟨.agg vs.toArray, run_build w t _ _ ?_, vs, rfl, hv2⟩
      simp only [Program.built, hit, hu, hzv, hie]
      rw [show (ps.map fun (x : Nat × Operand) => (x.1, a.eval x.2)).toList = ps.toList.map fun p => (p.1, a.eval p.2) by simp]
      exact hv1
    | _ => simp [hu] at h
end

end Go.Fx
