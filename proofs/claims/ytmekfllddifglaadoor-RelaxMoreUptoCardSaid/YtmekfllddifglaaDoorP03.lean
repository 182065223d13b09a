/- The relax seat: Mi, Mj, Mk, Ml, Mm. Conditions: none. -/
import Derived.Test.YtmekfllddifglaaDoorP02
import Derived.Orders
set_option linter.unusedVariables false
set_option linter.unusedSimpArgs false
/- The abstract machine, part i: slices made, appended to. Conditions: none. -/
set_option linter.unusedVariables false
set_option linter.unusedSimpArgs false
namespace Go.Proofs.YtmekfllddifglaaDoor.AM
open Go

/-! ### Zero cells -/
theorem range_zero (zl : List Value) (s : Nat) (hs : zl.length = s) (n : Nat) : (List.range (n * s)).map (fun i => zl[i % s]!) = (List.replicate n zl).flatten := by
  induction n with
  | zero => simp
  | succ n ih =>
    rw [Nat.add_mul, Nat.one_mul, List.range_add, List.map_append, ih, List.replicate_succ', List.flatten_append]
    congr 1
    simp only [List.flatten_cons, List.flatten_nil, List.append_nil, List.map_map]
    apply List.ext_getElem
    · simp [hs]
    · intro i h1 h2
      have hi : i < s := by simpa using h1
      have e : (n * s + i) % s = i := by rw [Nat.mul_comm, Nat.mul_add_mod]; exact Nat.mod_eq_of_lt hi
      simp [e, getElem!_pos, hs, hi]

def zelT (P : Program) (e : TypeId) (z : List Value) : AV := if aggT P e then .agg (z.map .v) else .v (z.headD undef)
/-- An element type: its size, its bytes, its zero's cells, its zero element. -/
def elT (P : Program) (e : TypeId) : Option (Nat × Nat × List Value × AV) :=
  match P.info? e with
  | some i => match i.zero with
    | some z => if z.cells.size = i.size ∧ 0 < i.size ∧ z.cells.toList.all (·.oneCell') = true ∧ (cellsOf (zelT P e z.cells.toList)).length = i.size then some (i.size, i.bytes, z.cells.toList, zelT P e z.cells.toList) else none
    | none => none
  | none => none
def sliceT (P : Program) (t : TypeId) : Option TypeId := match P.underlying t with | some (.slice e) => some e | _ => none
theorem sliceT_of {P : Program} {t e : TypeId} (h : sliceT P t = some e) : P.underlying t = some (.slice e) := by
  unfold sliceT at h
  split at h
  · simp only [Option.some.injEq] at h; subst h; assumption
  · cases h

theorem elT_of {P : Program} {e : TypeId} {sz by_ : Nat} {z : List Value} {zel : AV} (h : elT P e = some (sz, by_, z, zel)) :
    ∃ i z0, P.info? e = some i ∧ i.zero = some z0 ∧ z0.cells.toList = z ∧ i.size = sz ∧ i.bytes = by_ ∧ z.length = sz ∧ 0 < sz ∧ (∀ u ∈ z, u.oneCell' = true) ∧ (cellsOf zel).length = sz ∧ (∀ imm w, IRels imm w (cellsOf zel) z) := by
  unfold elT at h
  split at h
  · rename_i i hi
    split at h
    · rename_i z0 hz
      split at h
      · rename_i hc
        obtain ⟨c1, c2, c3, c4⟩ := hc
        simp only [Option.some.injEq, Prod.mk.injEq] at h
        obtain ⟨rfl, rfl, rfl, rfl⟩ := h
        refine ⟨i, z0, hi, hz, rfl, rfl, rfl, by simpa using c1, c2, fun u hu => List.all_eq_true.1 c3 u hu, c4, fun imm w => ?_⟩
        unfold zelT at c4 ⊢
        split
        · exact IRels_consts _
        · rename_i hagg
          rw [if_neg hagg] at c4
          simp only [cellsOf, List.length_singleton] at c4
          have : z0.cells.toList.length = 1 := by simp; omega
          match hm : z0.cells.toList, this with
          | [a], _ => exact ⟨a, [], rfl, rfl, rfl⟩
      · cases h
    · cases h
  · cases h

theorem flatMap_replicate (n : Nat) (zel : AV) : (List.replicate n zel).flatMap cellsOf = (List.replicate n (cellsOf zel)).flatten := by
  induction n with
  | zero => rfl
  | succ n ih => simp [List.replicate_succ, ih]
theorem IRels_replicate {imm : Nat → Prop} {w : World} {l : List AV} {us : List Value} (h : IRels imm w l us) (n : Nat) : IRels imm w (List.replicate n l).flatten (List.replicate n us).flatten := by
  induction n with
  | zero => rfl
  | succ n ih => simp only [List.replicate_succ, List.flatten_cons]; exact IRels_append h ih

/-! ### New arrays -/
def newArr (d : Nat) (nl : Bool) (sz : Nat) (e : TypeId) (el : List AV) : RW AV :=
  .get d fun s => .put d (s.put [] ((s.ent []).1 + 1, some (.arr nl false sz e el))) (.ret (.own d [] ((s.ent []).1 + 1) 0 el.length))

theorem newArr_good {C : Ctx} {S : Subs} {γ : Gh} {imm : Nat → Prop} {w : World} (h : Inv C S γ imm w) (d : Nat) {sz cap : Nat} {e : TypeId} {el : List AV} {cs : Array Value} {xs : List Value}
    (ho : (w.alloc (.cells cs e)).ownsRow 0 e sz (.slice (some ⟨w.heap.size, 0, none⟩) el.length cap) el.length xs) (hx : IRels imm w (el.flatMap cellsOf) xs) (hl : ∀ x ∈ el, (cellsOf x).length = sz) (h1 : ∀ u ∈ xs, u.oneCell' = true)
    {x : AV} {S' : Subs} (hr : (newArr d false sz e el).run S = some (x, S')) :
    To C S γ imm w S' (w.alloc (.cells cs e)) (fun γ' imm' => VRel S' γ' imm' (w.alloc (.cells cs e)) x (.slice (some ⟨w.heap.size, 0, none⟩) el.length cap)) := by
  simp only [newArr, RW.run] at hr
  split at hr
  · rename_i hlt
    simp only [Option.some.injEq, Prod.mk.injEq] at hr
    obtain ⟨rfl, rfl⟩ := hr
    have hcap : el.length ≤ cap := by
      rcases ho.2 with ⟨e1, _⟩ | ⟨g, cap', cur, e1, _, _, h3, _⟩
      · cases e1
      · injection e1 with _ _ e3; omega
    refine To.alloc (p := []) (o' := .arr false false sz e el) (g := .slice (some ⟨w.heap.size, 0, none⟩) el.length cap) h hlt (.cells cs e) rfl (fun γ' hext hg hk => ?_) fun γ' hext hg => ?_
    · exact ⟨xs, ho, IRels_mono (fun _ x => x) hk _ _ hx, hl, h1, ⟨fun x => (by cases x), fun x => (by cases x)⟩, fun x => by cases x⟩
    · refine ⟨Nat.le_of_eq (ctr_setEnt_same (e := ((ctr S d [] + 1, some (.arr false false sz e el)) : Ent)) hlt).symm, fun o ho' => ?_⟩
      have hls := live_setEnt_same (S := S) (r := d) (p := []) (v := ctr S d [] + 1) (ver := ctr S d [] + 1) (o := some (.arr false false sz e el)) hlt
      rw [if_pos rfl] at hls
      have ho2 := hls.symm.trans ho'
      simp only [Option.some.injEq] at ho2
      subst ho2
      exact ⟨sz, el.length, rfl, some ⟨w.heap.size, 0, none⟩, cap, some ⟨w.heap.size, 0, none⟩, hg, Nat.zero_le _, Nat.le_refl _, hcap, by simp, fun _ => rfl, fun _ => ⟨_, rfl, by simp⟩, fun b e => ⟨0, e⟩⟩
  · cases hr

def setAll (sz : Nat) : List AV → List (Nat × AV) → Option (List AV)
  | el, [] => some el
  | el, (i, y) :: rest => if i < el.length ∧ (cellsOf y).length = sz ∧ (cellsOf y).all cellAV = true then setAll sz (el.set i y) rest else none

/-- Parts that can't change. -/
def IParts (imm : Nat → Prop) (w : World) : List (Nat × AV) → List (Nat × Value) → Prop
  | [], qs => qs = []
  | (i, x) :: ps, qs => ∃ u qs', qs = (i, u) :: qs' ∧ IRel imm w x u ∧ IParts imm w ps qs'
theorem IParts_of {imm : Nat → Prop} {w : World} : ∀ (is : List Nat) (xs : List AV) (qs : List (Nat × Value)), is = qs.map (·.1) → IRels imm w xs (qs.map (·.2)) → IParts imm w (is.zip xs) qs
  | is, xs, [], h1, h2 => by
    subst h1
    simp [IParts]
  | is, xs, (i, u) :: qs, h1, h2 => by
    subst h1
    cases xs with
    | nil => simp [IRels] at h2
    | cons x xs =>
      obtain ⟨u', us', e, h3, h4⟩ := h2
      simp only [List.map_cons, List.cons.injEq] at e
      obtain ⟨rfl, rfl⟩ := e
      exact ⟨u, qs, rfl, h3, IParts_of _ xs qs rfl h4⟩

theorem cellsOf_rel {imm : Nat → Prop} {w : World} {x : AV} {u : Value} (h : IRel imm w x u) (hc : (cellsOf x).all cellAV = true) : IRels imm w (cellsOf x) u.cells.toList ∧ (∀ v ∈ u.cells.toList, v.oneCell' = true) := by
  cases x with
  | agg l =>
    obtain ⟨us, rfl, hv⟩ := h
    have : (Value.agg us.toArray).cells.toList = us := by simp [Value.cells]
    rw [this]
    exact ⟨hv, IRels_one l us hv hc⟩
  | _ =>
    simp only [cellsOf, List.all_cons, List.all_nil, Bool.and_true] at hc
    have h1 := cellAV_one (S := []) (γ := fun _ _ _ => undef) hc (VRel_of_IRel _ _ h)
    rw [cells_of_one h1]
    exact ⟨⟨u, [], rfl, h, rfl⟩, by simp [h1]⟩

theorem setAll_ok {imm : Nat → Prop} {w : World} {sz : Nat} : ∀ (ps : List (Nat × AV)) (qs : List (Nat × Value)) (el : List AV) (cs : Array Value) (r : List AV),
    IParts imm w ps qs → (∀ x ∈ el, (cellsOf x).length = sz) → IRels imm w (el.flatMap cellsOf) cs.toList → (∀ u ∈ cs.toList, u.oneCell' = true) → setAll sz el ps = some r →
    ∃ cs', Instr.fill (fun i => some (i * sz, sz)) cs qs = some cs' ∧ IRels imm w (r.flatMap cellsOf) cs'.toList ∧ (∀ x ∈ r, (cellsOf x).length = sz) ∧ (∀ u ∈ cs'.toList, u.oneCell' = true) ∧ r.length = el.length
  | [], qs, el, cs, r, hp, hl, hx, h1, hs => by
    simp only [IParts] at hp
    subst hp
    simp only [setAll, Option.some.injEq] at hs
    subst hs
    exact ⟨cs, rfl, hx, hl, h1, rfl⟩
  | (i, x) :: ps, qs, el, cs, r, hp, hl, hx, h1, hs => by
    obtain ⟨u, qs', rfl, hxu, hrest⟩ := hp
    simp only [setAll] at hs
    split at hs
    · rename_i hc
      obtain ⟨hi, hlen, hall⟩ := hc
      obtain ⟨k1, k2⟩ := cellsOf_rel hxu hall
      have hul := IRels_length k1
      have hcl := IRels_length hx
      rw [flatMap_length hl] at hcl
      have hsz : u.cells.size = sz := by rw [← Array.length_toList, hul, hlen]
      have hisz : (i + 1) * sz ≤ el.length * sz := Nat.mul_le_mul_right _ hi
      rw [Nat.add_mul, Nat.one_mul] at hisz
      rw [fill_step (fun i => some (i * sz, sz)) cs i u qs' rfl hsz (by rw [← Array.length_toList, hcl]; omega)]
      have hset := flatMap_set hl i hi x
      have q1 : ∀ y ∈ el.set i x, (cellsOf y).length = sz := by
        intro y hy
        rcases List.mem_or_eq_of_mem_set hy with e | e
        · exact hl y e
        · rw [e]; exact hlen
      have q2 : IRels imm w ((el.set i x).flatMap cellsOf) (cs.toList.take (i * sz) ++ u.cells.toList ++ cs.toList.drop (i * sz + sz)).toArray.toList := by
        rw [hset]
        exact IRels_append (IRels_append (IRels_take hx _) k1) (IRels_drop hx _)
      have q3 : ∀ v ∈ (cs.toList.take (i * sz) ++ u.cells.toList ++ cs.toList.drop (i * sz + sz)).toArray.toList, v.oneCell' = true := by
        intro v hv
        rcases List.mem_append.1 hv with e | e
        · rcases List.mem_append.1 e with e | e
          · exact h1 v (List.mem_of_mem_take e)
          · exact k2 v e
        · exact h1 v (List.mem_of_mem_drop e)
      obtain ⟨cs', e1, e2, e3, e4, e5⟩ := setAll_ok ps qs' (el.set i x) _ r hrest q1 q2 q3 hs
      exact ⟨cs', e1, e2, e3, e4, by rw [e5, List.length_set]⟩
    · cases hs

def aBuildSlice (P : Program) (d : Nat) (t : TypeId) (len : Nat) (is : List Nat) (xs : List AV) : RW AV :=
  match sliceT P t with
  | none => .fail
  | some e => match elT P e with
    | none => .fail
    | some (sz, _, _, zel) => if len * sz ≤ 16777216 then
        (mapRW (pub 4) xs).bind fun ys => match setAll sz (List.replicate len zel) (is.zip ys) with
          | some el => newArr d false sz e el
          | none => .fail
      else .fail

theorem run_buildSlice' {P : Program} (w : World) (t e : TypeId) (len : Nat) (parts : Array (Nat × Value)) (cells : Array Value) (ie : TypeInfo) (z : Value)
    (hu : P.underlying t = some (.slice e)) (hie : P.info? e = some ie) (hz : ie.zero = some z) (hzs : z.cells.size = ie.size) (hsmall : ¬ len * ie.size > 2 ^ 24)
    (h : Instr.fill (fun i => some (i * ie.size, ie.size)) (List.replicate len z.cells.toList).flatten.toArray parts.toList = some cells) :
    (Instr.buildSlice t len parts).run P w = .ok (.slice (some ⟨w.heap.size, 0, none⟩) len len) (w.alloc (.cells cells e)) := by
  have hr := range_zero z.cells.toList ie.size (by simpa using hzs) len
  have hr' : (Array.range (len * ie.size)).map (fun i => z.cells[i % z.cells.size]!) = (List.replicate len z.cells.toList).flatten.toArray := by
    apply Array.ext'
    rw [← hr]
    simp [hzs]
    intro a _
    exact getElem!_def _ _ |>.trans (by cases z.cells[a % ie.size]? <;> rfl)
  by_cases hpos : len * ie.size = 0
  · have e0 : (List.replicate len z.cells.toList).flatten.toArray = #[] := by rw [← hr', hpos]; simp
    rw [e0] at h
    have hz0 : ∀ f : Nat → Value, (Array.range 0).map f = #[] := fun f => by apply Array.ext' ; simp
    simp [Instr.buildSlice, run_underlying hu, sizeOf, typeInfo, zeroValue, hie, hz, hsmall, hpos, newRow]
    simp [hz0, h]
  · rw [← hr'] at h
    exact run_buildSlice w t e len parts cells ie z hu hie hz hsmall hpos h

theorem buildSlice_good {P : Program} {C : Ctx} {S : Subs} {γ : Gh} {imm : Nat → Prop} {w : World} (h : Inv C S γ imm w) (d : Nat) (t : TypeId) (len : Nat) {is : List Nat} {xs : List AV} {qs : Array (Nat × Value)}
    (h1 : is = qs.toList.map (·.1)) (h2 : VRels S γ imm w xs (qs.toList.map (·.2))) : GoodV P C S γ imm w (aBuildSlice P d t len is xs) (Instr.buildSlice t len qs) := by
  intro y S' hr
  unfold aBuildSlice at hr
  split at hr
  · simp [RW.run] at hr
  · rename_i e he
    split at hr
    · simp [RW.run] at hr
    · rename_i sz by_ z zel hel
      obtain ⟨i, z0, hi, hz, hzz, hsz, hby, hzl, hpos, hzo, hzc, hzr⟩ := elT_of hel
      split at hr
      · rename_i hsmall
        rw [RW.run_bind] at hr
        obtain ⟨⟨ys, S1⟩, k1, k2⟩ := Option.bind_eq_some_iff.1 hr
        obtain ⟨γ1, imm1, hi1, he1, hm1, hk1, hys⟩ := mapRW_good (C := C) (w := w) (f := pub 4) (fun S γ imm h x u hx => pub_good 4 S γ imm h x u hx) xs (qs.toList.map (·.2)) S γ imm h h2 ys S1 k1
        split at k2
        · rename_i el hset
          have hp := IParts_of is ys qs.toList h1 hys
          obtain ⟨cs, e1, e2, e3, e4, e5⟩ := setAll_ok (is.zip ys) qs.toList (List.replicate len zel) (List.replicate len z).flatten.toArray el hp
            (fun x hx => by rw [List.eq_of_mem_replicate hx]; exact hzc) (by rw [flatMap_replicate]; simpa using IRels_replicate (hzr imm1 w) len)
            (fun u hu => by
              simp only [List.toList_toArray, List.mem_flatten] at hu
              obtain ⟨l, hl, hu⟩ := hu
              rw [List.eq_of_mem_replicate hl] at hu
              exact hzo u hu) hset
          have hrun := run_buildSlice' w t e len qs cs i z0 (sliceT_of he) hi hz (by rw [← Array.length_toList, hzz, hzl, hsz]) (by rw [hsz]; simpa using hsmall) (by rw [hzz, hsz]; exact e1)
          have hlen : el.length = len := by rw [e5, List.length_replicate]
          have hcsz : cs.size = el.length * sz := by rw [← Array.length_toList, IRels_length e2, flatMap_length e3]
          have hmax : el.length ≤ maxLen := by
            have : el.length * 1 ≤ el.length * sz := Nat.mul_le_mul_left _ hpos
            rw [hlen] at this ⊢
            simp only [maxLen]
            omega
          have ho := World.ownsRow_lit (base := 0) (e := e) (size := sz) w cs el.length (Nat.zero_le _) hmax hcsz
          have := newArr_good hi1 d ho e2 e3 e4 k2
          rw [hlen] at this
          exact ⟨_, _, hrun, To.after he1 hm1 hk1 this⟩
        · simp [RW.run] at k2
      · simp [RW.run] at hr
end Go.Proofs.YtmekfllddifglaaDoor.AM

/- The abstract machine, part j: make, append. Conditions: none. -/
set_option linter.unusedVariables false
set_option linter.unusedSimpArgs false
namespace Go.Proofs.YtmekfllddifglaaDoor.AM
open Go

theorem wrap64_id {n : Int} (h0 : 0 ≤ n) (h1 : n ≤ 9223372036854775807) : IntKind.i64.wrap n = n := by
  simp only [IntKind.wrap, IntKind.bits, IntKind.signed]
  simp
  omega

theorem flatten_replicate_take (z : List Value) (sz : Nat) (hz : z.length = sz) {n c : Nat} (h : n ≤ c) : (List.replicate c z).flatten.take (n * sz) = (List.replicate n z).flatten := by
  obtain ⟨k, rfl⟩ : ∃ k, c = n + k := ⟨c - n, by omega⟩
  rw [← List.replicate_append_replicate, List.flatten_append]
  have hl : (List.replicate n z).flatten.length = n * sz := by simp [List.length_flatten, hz]
  rw [← hl, List.take_left']
  rfl

def aMakeSlice (P : Program) (d : Nat) (t : TypeId) (l c : AV) : RW AV :=
  match l, c with
  | .v (.int _ n), .v (.int _ m) => match sliceT P t with
    | none => .fail
    | some e => match elT P e with
      | none => .fail
      | some (sz, by_, _, zel) => if 0 ≤ n ∧ n ≤ m ∧ m.toNat * (by_ + 1) ≤ 140737488355328 then newArr d false sz e (List.replicate n.toNat zel) else .fail
  | _, _ => .fail

theorem makeSlice_good {P : Program} {C : Ctx} {S : Subs} {γ : Gh} {imm : Nat → Prop} {w : World} (h : Inv C S γ imm w) (d : Nat) (t : TypeId) {l c : AV} {ul uc : Value} (hl : VRel S γ imm w l ul) (hc : VRel S γ imm w c uc) :
    GoodV P C S γ imm w (aMakeSlice P d t l c) (Instr.makeSlice t ul uc) := by
  intro y S' hr
  unfold aMakeSlice at hr
  split at hr
  · rename_i k1 n k2 m
    obtain rfl : ul = .int k1 n := hl
    obtain rfl : uc = .int k2 m := hc
    split at hr
    · simp [RW.run] at hr
    · rename_i e he
      split at hr
      · simp [RW.run] at hr
      · rename_i sz by_ z zel hel
        obtain ⟨i, z0, hi, hz, hzz, hsz, hby, hzl, hpos, hzo, hzc, hzr⟩ := elT_of hel
        split at hr
        · rename_i hcond
          obtain ⟨h0, hnm, hB⟩ := hcond
          obtain ⟨n, rfl⟩ := Int.eq_ofNat_of_zero_le h0
          obtain ⟨m, rfl⟩ := Int.eq_ofNat_of_zero_le (Int.le_trans h0 hnm)
          have hnm' : n ≤ m := by omega
          have hB' : m * (by_ + 1) ≤ 140737488355328 := by rw [Int.toNat_natCast] at hB; exact hB
          have hmb : m * by_ ≤ 140737488355328 := Nat.le_trans (Nat.mul_le_mul_left _ (by omega)) hB'
          have hm : m ≤ 140737488355328 := Nat.le_trans (Nat.le_mul_of_pos_right _ (by omega)) hB'
          have hwl : IntKind.i64.wrap (n : Int) = n := wrap64_id (by omega) (by omega)
          have hwc : IntKind.i64.wrap (m : Int) = m := wrap64_id (by omega) (by omega)
          have hr1 := range_zero z sz hzl m
          have hcells : (Array.range (m * sz)).map (fun j => z0.cells[j % z0.cells.size]!) = (List.replicate m z).flatten.toArray := by
            apply Array.ext'
            rw [List.toList_toArray, ← hr1]
            have : z0.cells.size = sz := by rw [← Array.length_toList, hzz, hzl]
            simp [this, ← hzz]
            intro a _
            exact getElem!_def _ _ |>.trans (by cases z0.cells[a % sz]? <;> rfl)
          have hsize : z0.cells.size = sz := by rw [← Array.length_toList, hzz, hzl]
          have hrun : (Instr.makeSlice t (.int k1 (n : Int)) (.int k2 (m : Int))).run P w = .ok (.slice (some ⟨w.heap.size, 0, none⟩) n m) (w.alloc (.cells (List.replicate m z).flatten.toArray e)) := by
            have g1 : ¬ ((m : Int) < 0) := by omega
            have g2 : ¬ (by_ * (m : Int) > 281474976710656) := by
              have h1 : by_ * m ≤ 140737488355328 := by rw [Nat.mul_comm]; exact hmb
              have h2 : (by_ : Int) * m = ((by_ * m : Nat) : Int) := by rw [Int.natCast_mul]
              rw [h2]
              omega
            have g3 : ¬ ((n : Int) < 0) := by omega
            have g4 : ¬ ((n : Int) > (m : Int)) := by omega
            by_cases hms : m * sz = 0
            · have hm0 : m = 0 := by rcases Nat.mul_eq_zero.1 hms with e | e <;> omega
              subst hm0
              have hn0 : n = 0 := by omega
              subst hn0
              have hz0 : ∀ f : Nat → Value, (Array.range 0).map f = #[] := fun f => by apply Array.ext'; simp
              simp [Instr.makeSlice, run_underlying (sliceT_of he), asInt, asIntOf, typeInfo, hi, hwl, sizeOf, hsz, hby, newRow, IntKind.wrap, hz0]
              simp [IntKind.bits, IntKind.signed, hz0]
            · simp [Instr.makeSlice, run_underlying (sliceT_of he), asInt, asIntOf, typeInfo, hi, hwl, hwc, g1, g2, g3, g4, sizeOf, hsz, hby, zeroValue, hz, newRow, hms, hcells]
          have hlen : (List.replicate n zel).length = n := List.length_replicate
          have ho : (w.alloc (.cells (List.replicate m z).flatten.toArray e)).ownsRow 0 e sz (.slice (some ⟨w.heap.size, 0, none⟩) (List.replicate n zel).length m) (List.replicate n zel).length (List.replicate n z).flatten := by
            rw [hlen]
            refine ⟨by simp [List.length_flatten, hzl], .inr ⟨w.heap.size, m, _, rfl, Nat.zero_le _, heap_alloc_new w _, hnm', by simp only [maxLen]; omega, by simp [List.length_flatten, hzl], ?_⟩⟩
            exact flatten_replicate_take z sz hzl hnm'
          have := newArr_good h d ho (by rw [flatMap_replicate]; exact IRels_replicate (hzr imm w) n) (fun x hx => by rw [List.eq_of_mem_replicate hx]; exact hzc)
            (fun u hu => by
              simp only [List.mem_flatten] at hu
              obtain ⟨l, hl, hu⟩ := hu
              rw [List.eq_of_mem_replicate hl] at hu
              exact hzo u hu) hr
          rw [hlen] at this
          exact ⟨_, _, hrun, this⟩
        · simp [RW.run] at hr
  · simp [RW.run] at hr
end Go.Proofs.YtmekfllddifglaaDoor.AM

/- The abstract machine, part k: append. Conditions: none. -/
set_option linter.unusedVariables false
set_option linter.unusedSimpArgs false
namespace Go.Proofs.YtmekfllddifglaaDoor.AM
open Go

def newArrN (d : Nat) (nl : Bool) (sz : Nat) (e : TypeId) (el : List AV) : RW AV := newArr d nl sz e el

/-- The elements of what is appended. -/
def elemsRW (sz : Nat) : AV → RW (List AV)
  | .own r p ver lo hi => .get r fun s => match s.live p ver with
    | some (.arr _ _ sz' _ el) => if sz' = sz then .ret ((el.take hi).drop lo) else .fail
    | _ => .fail
  | .sl _ l => if l.all (fun x => (cellsOf x).length == sz) then .ret l else .fail
  | .v (.slice none 0 0) => .ret []
  | _ => .fail

theorem elems_ok {C : Ctx} {S : Subs} {γ : Gh} {imm : Nat → Prop} {w : World} (h : Inv C S γ imm w) {sz : Nat} {x : AV} {u : Value} (hx : VRel S γ imm w x u) {news : List AV} {S' : Subs} (hr : (elemsRW sz x).run S = some (news, S')) :
    S' = S ∧ (∀ y ∈ news, (cellsOf y).length = sz) ∧ ((u = .slice none 0 0 ∧ news = []) ∨
      ∃ ad c vs, u = .slice (some ad) news.length c ∧ IRels imm w (news.flatMap cellsOf) vs ∧ (∀ j v, vs[j]? = some v → w.cell? (ad.add j) = some v) ∧ (∀ v ∈ vs, v.oneCell' = true)) := by
  cases x with
  | own r p ver lo hi =>
    simp only [elemsRW, RW.run] at hr
    split at hr
    · rename_i nl fz sz' e el hl
      split at hr
      · rename_i e1
        subst e1
        simp only [RW.run, Option.some.injEq, Prod.mk.injEq] at hr
        obtain ⟨rfl, rfl⟩ := hr
        obtain ⟨_, h2⟩ := hx
        obtain ⟨sz2, n, hs, hh⟩ := h2 _ hl
        simp only [shp, Prod.mk.injEq, true_and] at hs
        obtain ⟨rfl, rfl⟩ := hs
        obtain ⟨xs, k1, k2, k3, k4, k5, _⟩ := h.obj r p ver _ hl
        obtain ⟨a, cap, a', hg, q1, q2, q3, rfl, q5, q6, q7⟩ := hh
        rw [hg] at k1
        have hsub : ∀ y ∈ el.take hi, (cellsOf y).length = sz' := fun y hy => k3 y (List.mem_of_mem_take hy)
        refine ⟨rfl, fun y hy => hsub y (List.mem_of_mem_drop hy), ?_⟩
        cases ha : a with
        | none =>
          rw [ha] at k1
          rcases k1.2 with ⟨e1, e2⟩ | ⟨b, cap', cur, e1, _⟩
          · injection e1 with _ _ e3
            left
            have hel : el = [] := List.eq_nil_of_length_eq_zero e2
            subst hel
            obtain rfl : hi = 0 := by simpa using q2
            obtain rfl : lo = 0 := by omega
            subst e3
            refine ⟨?_, by simp⟩
            rw [q5 rfl, ha]
          · injection e1 with e1; cases e1
        | some ad0 =>
          right
          obtain ⟨b, rfl⟩ : ∃ b, ad0 = ⟨b, 0, none⟩ := by
            rw [ha] at k1
            rcases k1.2 with ⟨e1, _⟩ | ⟨b, cap', cur, e1, _⟩
            · cases e1
            · injection e1 with e1; injection e1 with e1; exact ⟨b, e1⟩
          rw [ha] at k1
          obtain ⟨o, ho⟩ := q7 b ha
          subst ho
          refine ⟨⟨b, o, none⟩, cap - lo, (xs.take (hi * sz')).drop (lo * sz'), by simp; omega, ?_, ?_, fun v hv => k4 v (List.mem_of_mem_take (List.mem_of_mem_drop hv))⟩
          · rw [flatMap_drop hsub, flatMap_take k3]
            exact IRels_drop (IRels_take k2 _) _
          · intro j v hv
            rcases Nat.lt_or_ge lo hi with hlt | hge
            · obtain ⟨b', e1, e2⟩ := q6 hlt
              rw [ha] at e1
              injection e1 with e1
              injection e1 with e1
              injection e2 with e2
              injection e2 with e2 e3
              subst e1; subst e3
              rw [add_plain]
              rw [List.getElem?_drop] at hv
              obtain ⟨hj, rfl⟩ := List.getElem?_eq_some_iff.1 hv
              have hj' : lo * sz' + j < xs.length := by simp at hj; omega
              rw [ownsRow_cell k1 hj']
              simp
            · obtain rfl : lo = hi := by omega
              rw [List.drop_of_length_le (by simp; omega)] at hv
              simp at hv
      · simp [RW.run] at hr
    · simp [RW.run] at hr
  | sl nl l =>
    simp only [elemsRW] at hr
    split at hr
    · rename_i hall
      simp only [RW.run, Option.some.injEq, Prod.mk.injEq] at hr
      obtain ⟨rfl, rfl⟩ := hr
      have hall' : ∀ y ∈ l, (cellsOf y).length = sz := by simpa using hall
      obtain ⟨a, n, cap, rfl, hn, hc, _, h1, h2⟩ := hx
      refine ⟨rfl, hall', ?_⟩
      cases nl with
      | true =>
        obtain ⟨e1, e2, e3⟩ := h1 rfl
        subst e1; subst e2; subst e3
        exact .inl ⟨rfl, List.eq_nil_of_length_eq_zero hn.symm⟩
      | false =>
        obtain ⟨⟨b, o, sp⟩, rfl, hs, he⟩ := h2 rfl
        right
        subst hn
        by_cases hl0 : l = []
        · subst hl0
          exact ⟨⟨b, o, sp⟩, cap, [], rfl, rfl, by simp, by simp⟩
        have hs' : sp = none := hs hl0
        subst hs'
        have hc2 := ElemsAt_iff.1 he
        have hex : ∀ (l : List AV) (o : Nat), CellsAt imm w l b o → ∃ vs, IRels imm w l vs ∧ (∀ j v, vs[j]? = some v → w.cell? ⟨b, o + j, none⟩ = some v) ∧ (∀ v ∈ vs, v.oneCell' = true) := by
          intro l
          induction l with
          | nil => intro o _; exact ⟨[], rfl, by simp, by simp⟩
          | cons y l ih =>
            intro o hcl
            obtain ⟨⟨_, u, hu, h1, hy⟩, hl⟩ := hcl
            obtain ⟨vs, g1, g2, g3⟩ := ih (o + 1) hl
            refine ⟨u :: vs, ⟨u, vs, rfl, hy, g1⟩, fun j v hv => ?_, fun v hv => ?_⟩
            · cases j with
              | zero => simp at hv; subst hv; exact hu
              | succ j => have := g2 j v (by simpa using hv); rwa [Nat.add_assoc, Nat.add_comm 1] at this
            · rcases List.mem_cons.1 hv with e | e
              · rw [e]; exact h1
              · exact g3 v e
        obtain ⟨vs, g1, g2, g3⟩ := hex _ o hc2
        exact ⟨⟨b, o, none⟩, cap, vs, rfl, g1, fun j v hv => by rw [add_plain]; exact g2 j v hv, g3⟩
    · simp [RW.run] at hr
  | v y =>
    obtain rfl : u = y := hx
    unfold elemsRW at hr
    split at hr
    · rename_i e; cases e
    · rename_i e; cases e
    · rename_i e
      injection e with e
      simp only [RW.run, Option.some.injEq, Prod.mk.injEq] at hr
      obtain ⟨rfl, rfl⟩ := hr
      exact ⟨rfl, by simp, .inl ⟨e, rfl⟩⟩
    · simp [RW.run] at hr
  | _ => simp [elemsRW, RW.run] at hr

def nilV : AV → Bool
  | .v (.slice none 0 0) => true
  | _ => false

def aAppend (P : Program) (d : Nat) (t : TypeId) (s x : AV) : RW AV :=
  match sliceT P t with
  | none => .fail
  | some e => match elT P e with
    | none => .fail
    | some (sz, by_, _, _) => (elemsRW sz x).bind fun news =>
      if nilV s then
        if news.length * (by_ + 1) ≤ 140737488355328 then newArr d news.isEmpty sz e news else .fail
      else match s with
        | .own r p ver lo hi => .get r fun st => match st.live p ver with
          | some (.arr nl false sz' e' el) =>
            if lo = 0 ∧ sz' = sz ∧ e' = e ∧ (hi + news.length) * (by_ + 1) ≤ 140737488355328 then .put r (st.put p (ver, none)) (newArr d (nl && news.isEmpty) sz e (el.take hi ++ news)) else .fail
          | _ => .fail
        | _ => .fail

/-- What is left of a world behind an append, told of the store. -/
theorem append_inv {C : Ctx} {S : Subs} {γ : Gh} {imm : Nat → Prop} {w w' : World} (h : Inv C S γ imm w) {d : Nat} (hd : d < S.length) {v v' : Value} (hg : w.grownBy w' v.ownBlock)
    (hv : ∀ b, v.ownBlock = some b → b < w.heap.size ∧ (C.E b ∨ C.w0.heap.size ≤ b) ∧ ¬ imm b ∧ ∀ r1 p1 v1 o1, live S r1 p1 v1 = some o1 → bl (γ r1 p1 v1) ≠ some b)
    (hb : v'.ownBlock = v.ownBlock ∨ v'.ownBlock = some w.heap.size) (hlt : ∀ b, v'.ownBlock = some b → b < w'.heap.size) {nl : Bool} {sz : Nat} {e : TypeId} {el : List AV} {xs : List Value}
    (ho : w'.ownsRow 0 e sz v' el.length xs) (hx : IRels imm w (el.flatMap cellsOf) xs) (hl : ∀ x ∈ el, (cellsOf x).length = sz) (h1 : ∀ u ∈ xs, u.oneCell' = true) (hn : nl = true ↔ v' = .slice none 0 0)
    {x : AV} {S' : Subs} (hr : (newArr d nl sz e el).run S = some (x, S')) : To C S γ imm w S' w' (fun γ' imm' => VRel S' γ' imm' w' x v') := by
  have hsl : ∃ a cap, v' = .slice a el.length cap ∧ el.length ≤ cap ∧ (∀ b, a = some b → b = ⟨b.block, 0, none⟩) := by
    rcases ho.2 with ⟨e1, e2⟩ | ⟨g, cap, cur, e1, _, _, h3, _⟩
    · exact ⟨none, 0, by rw [e1, e2], by omega, fun b h => by cases h⟩
    · exact ⟨_, cap, e1, h3, fun b h => by cases h; rfl⟩
  obtain ⟨a, cap, hv', hcap, haz⟩ := hsl
  have hbl : ∀ b, bl v' = some b → v'.ownBlock = some b := by
    intro b hb'; rw [hv'] at hb' ⊢
    cases a with
    | none => simp [bl] at hb'
    | some ad => simpa [bl, Value.ownBlock] using hb'
  simp only [newArr, RW.run] at hr
  rw [if_pos hd] at hr
  simp only [Option.some.injEq, Prod.mk.injEq] at hr
  obtain ⟨rfl, rfl⟩ := hr
  have hsame : ∀ b, b < w.heap.size → ¬ (v.ownBlock = some b) → w'.heap[b]? = w.heap[b]? := fun b hb hne => hg.block b hb (fun e => hne e.symm)
  have hk : Keeps imm w w' := ⟨fun b hb => hsame b (h.immlt b hb) fun e => (hv b e).2.2.1 hb⟩
  have hnew : ∀ b, bl v' = some b → (v.ownBlock = some b ∨ b = w.heap.size) := by
    intro b hb'
    rcases hb with e | e
    · exact .inl (e ▸ hbl b hb')
    · right; have := hbl b hb'; rw [e] at this; injection this with this; exact this.symm
  have hext : Ext S γ (setEnt S d [] (ctr S d [] + 1, some (.arr nl false sz e el))) (upd γ d [] (ctr S d [] + 1) v') := Ext.put hd (.inl rfl)
  refine ⟨upd γ d [] (ctr S d [] + 1) v', imm, ?_, hext, fun _ x => x, hk, ?_⟩
  · refine Inv.put (p := []) (γ := γ) (fun b => v.ownBlock = some b) h hd (.inl rfl) hg.tape hg.os hg.output hg.size (fun b hb => ⟨(hv b hb).2.1, (hv b hb).2.2.1⟩) hsame (fun _ x => x) (fun _ x => .inl x) ?_ ?_ ?_
    · exact ⟨xs, ho, IRels_mono (fun _ x => x) hk _ _ hx, hl, h1, hn, fun x => by cases x⟩
    · intro b hb'
      refine ⟨hlt b (hbl b hb'), ?_, fun _ hi => ?_⟩
      · rcases hnew b hb' with e | e
        · exact (hv b e).2.1
        · right; rw [e]; exact h.size
      · rcases hnew b hb' with e | e
        · exact (hv b e).2.2.1 hi
        · have := h.immlt b hi; omega
    · intro r1 p1 v1 o1 b hl1 _ hb1
      have hown := h.own _ _ _ _ b hl1 hb1
      refine ⟨fun e => (hv b e).2.2.2 _ _ _ _ hl1 hb1, hown.2.2, fun e => ?_⟩
      rcases hnew b e with e2 | e2
      · exact (hv b e2).2.2.2 _ _ _ _ hl1 hb1
      · omega
  · refine ⟨Nat.le_of_eq (ctr_setEnt_same (e := ((ctr S d [] + 1, some (.arr nl false sz e el)) : Ent)) hd).symm, fun o ho' => ?_⟩
    have hls := live_setEnt_same (S := S) (r := d) (p := []) (v := ctr S d [] + 1) (ver := ctr S d [] + 1) (o := some (.arr nl false sz e el)) hd
    rw [if_pos rfl] at hls
    have ho2 := hls.symm.trans ho'
    simp only [Option.some.injEq] at ho2
    subst ho2
    refine ⟨sz, el.length, rfl, a, cap, a, (upd_same _ _ _ _ _).trans hv', Nat.zero_le _, Nat.le_refl _, hcap, by rw [hv']; simp, fun _ => rfl, fun hlt2 => ?_, fun b e => ⟨0, e⟩⟩
    cases a with
    | none =>
      rw [hv'] at ho
      rcases ho.2 with ⟨e1, e2⟩ | ⟨g, cap', cur, e1, _⟩
      · omega
      · injection e1 with e1; cases e1
    | some ad => rw [haz ad rfl]; exact ⟨ad.block, rfl, by simp⟩
end Go.Proofs.YtmekfllddifglaaDoor.AM

/- The abstract machine, part l: append is sound. Conditions: none. -/
set_option linter.unusedVariables false
set_option linter.unusedSimpArgs false
namespace Go.Proofs.YtmekfllddifglaaDoor.AM
open Go

theorem run_append_nil_nil {P : Program} (w : World) (t ty e : TypeId) (i : TypeInfo) (ht : P.underlying t = some (.slice e)) (hi : P.info? e = some i) :
    (Builtin.append_ #[t, t] ty #[.slice none 0 0, .slice none 0 0]).run P w = .ok (.slice none 0 0) w := by
  simp [Builtin.append_, run_underlying ht, sizeOf, typeInfo, hi, Builtin.lenOf, Builtin.firstCells]

/-- The two shapes of what is appended, one law. -/
theorem run_append_any {P : Program} (w : World) (t ty e : TypeId) (i : TypeInfo) (z : Value) (sz by_ : Nat) (ht : P.underlying t = some (.slice e)) (hi : P.info? e = some i) (hz : i.zero = some z)
    (hsize : i.size = sz) (hby : i.bytes = by_) (hzs : z.cells.size = sz) (hsz : 0 < sz) {v : Value} {n : Nat} {xs : List Value} (hown : w.ownsRow 0 e sz v n xs) {u : Value} {m : Nat} {vs : List Value}
    (hu : (u = .slice none 0 0 ∧ m = 0 ∧ vs = []) ∨ ∃ ad c, u = .slice (some ad) m c ∧ (∀ j y, vs[j]? = some y → w.cell? (ad.add j) = some y) ∧ (∀ y ∈ vs, y.oneCell' = true)) (hl : vs.length = m * sz)
    (hB : (n + m) * (by_ + 1) ≤ 140737488355328) :
    ∃ v' w', (Builtin.append_ #[t, t] ty #[v, u]).run P w = .ok v' w' ∧ w'.ownsRow 0 e sz v' (n + m) (xs ++ vs) ∧ w.grownBy w' v.ownBlock ∧ (v' = .slice none 0 0 ↔ v = .slice none 0 0 ∧ m = 0) ∧
      (v'.ownBlock = v.ownBlock ∨ v'.ownBlock = some w.heap.size) ∧ (∀ b, v'.ownBlock = some b → b < w'.heap.size) := by
  have h1 : n + m ≤ 140737488355328 := Nat.le_trans (Nat.le_mul_of_pos_right _ (by omega)) hB
  have h2 : (n + m) * by_ ≤ 140737488355328 := Nat.le_trans (Nat.mul_le_mul_left _ (by omega)) hB
  have hlast : ∀ (v' : Value) (w' : World) (k : Nat) (ys : List Value), w'.ownsRow 0 e sz v' k ys → ∀ b, v'.ownBlock = some b → b < w'.heap.size := fun v' w' k ys ho b hb => (ho.lt b hb).2
  rcases hu with ⟨rfl, rfl, rfl⟩ | ⟨ad, c, rfl, hc, ho⟩
  · have := run_append_owned_none (P := P) w 0 t ty e i sz ht hi v n xs hown
    refine ⟨v, w, this, by simpa using hown, ⟨rfl, rfl, rfl, Nat.le_refl _, fun _ _ _ => rfl⟩, by simp, .inl rfl, hlast _ _ _ _ hown⟩
  · obtain ⟨v', w', g1, g2, g3, g4, g5⟩ := run_append_own_at (P := P) w 0 t ty e i z sz by_ ht hi hz hsize hby hzs hsz v n xs hown ad m c vs hl hc ho (by simp only [maxLen]; omega) h2 (Nat.zero_le _)
    exact ⟨v', w', g1, g2, g3, g4, g5, hlast _ _ _ _ g2⟩

theorem append_good {P : Program} {C : Ctx} {S : Subs} {γ : Gh} {imm : Nat → Prop} {w : World} (h : Inv C S γ imm w) (d : Nat) (t ty : TypeId) {s x : AV} {us ux : Value} (hs : VRel S γ imm w s us) (hx : VRel S γ imm w x ux) :
    GoodV P C S γ imm w (aAppend P d t s x) (Builtin.append_ #[t, t] ty #[us, ux]) := by
  intro y S' hr
  unfold aAppend at hr
  split at hr
  · simp [RW.run] at hr
  · rename_i e he
    split at hr
    · simp [RW.run] at hr
    · rename_i sz by_ z zel hel
      obtain ⟨i, z0, hi, hz, hzz, hsz, hby, hzl, hpos, hzo, hzc, hzr⟩ := elT_of hel
      have hzs : z0.cells.size = sz := by rw [← Array.length_toList, hzz, hzl]
      rw [RW.run_bind] at hr
      obtain ⟨⟨news, S1⟩, k1, k2⟩ := Option.bind_eq_some_iff.1 hr
      obtain ⟨rfl, hnl, hnews⟩ := elems_ok h hx k1
      have hex : ∃ vs, vs.length = news.length * sz ∧ IRels imm w (news.flatMap cellsOf) vs ∧ (∀ v ∈ vs, v.oneCell' = true) ∧ ((ux = .slice none 0 0 ∧ news.length = 0 ∧ vs = []) ∨ ∃ ad c, ux = .slice (some ad) news.length c ∧ (∀ j y, vs[j]? = some y → w.cell? (ad.add j) = some y) ∧ (∀ y ∈ vs, y.oneCell' = true)) := by
        rcases hnews with ⟨e1, e2⟩ | ⟨ad, c, vs, e1, e2, e3, e4⟩
        · subst e2
          exact ⟨[], by simp, rfl, by simp, .inl ⟨e1, rfl, rfl⟩⟩
        · exact ⟨vs, by rw [IRels_length e2, flatMap_length hnl], e2, e4, .inr ⟨ad, c, e1, e3, e4⟩⟩
      obtain ⟨vs, hvl, hvr, hvo, hux⟩ := hex
      dsimp only at k2
      split at k2
      · rename_i hnil
        have hus : us = .slice none 0 0 := by
          unfold nilV at hnil
          split at hnil
          · exact hs
          · cases hnil
        subst hus
        split at k2
        · rename_i hB
          have hd : d < S1.length := by
            simp only [newArr, RW.run] at k2
            split at k2
            · assumption
            · cases k2
          obtain ⟨v', w', g1, g2, g3, g4, g5, g6⟩ := run_append_any (P := P) w t ty e i z0 sz by_ (sliceT_of he) hi hz hsz hby hzs hpos (World.ownsRow_nil w 0 e sz) (u := ux) (m := news.length) hux hvl (by simpa using hB)
          simp only [Nat.zero_add, List.nil_append] at g2
          refine ⟨v', w', g1, append_inv h hd g3 (fun b hb => by cases hb) g5 g6 g2 hvr hnl hvo ?_ k2⟩
          rw [g4]
          simp
        · simp [RW.run] at k2
      · split at k2
        · rename_i r p ver lo hi' _hn
          simp only [RW.run] at k2
          split at k2
          · rename_i nl sz' e' el hl
            split at k2
            · rename_i hcond
              obtain ⟨rfl, rfl, rfl, hB⟩ := hcond
              simp only [RW.run] at k2
              split at k2
              · rename_i hlt
                have hl' : live S1 r p ver = some (.arr nl false sz' e' el) := hl
                have hc : ctr S1 r p = ver := ctr_of_live hl'
                have hdl : Inv C (setEnt S1 r p (ver, none)) γ imm w := Inv.del h hlt (by omega)
                have hed : Ext S1 γ (setEnt S1 r p (ver, none)) γ := Ext.del hlt (by omega)
                obtain ⟨_, h2⟩ := hs
                obtain ⟨sz2, n', hsh, a, cap, a', hg, _, q4, q5, rfl, q6, q7, _⟩ := h2 _ hl'
                simp only [shp, Prod.mk.injEq, true_and] at hsh
                obtain ⟨rfl, rfl⟩ := hsh
                obtain rfl : a' = a := q6 rfl
                obtain ⟨xs, c1, c2, c3, c4, c5, _⟩ := h.obj r p ver _ hl'
                rw [hg] at c1 c5
                have c1' := ownsRow_take c1 q4
                obtain ⟨v', w', g1, g2, g3, g4, g5, g6⟩ := run_append_any (P := P) w t ty e' i z0 sz' by_ (sliceT_of he) hi hz hsz hby hzs hpos c1' (u := ux) (m := news.length) hux hvl hB
                have hd : d < (setEnt S1 r p (ver, none)).length := by
                  simp only [newArr, RW.run] at k2
                  split at k2
                  · assumption
                  · cases k2
                have hlen : (el.take hi' ++ news).length = hi' + news.length := by simp; omega
                have hbl : ∀ b, (Value.slice a' hi' cap).ownBlock = some b → bl (γ r p ver) = some b := by
                  intro b hb; rw [hg]; cases a' with
                  | none => simp [Value.ownBlock] at hb
                  | some ad => simpa [bl, Value.ownBlock] using hb
                have happ := append_inv (C := C) (S := setEnt S1 r p (ver, none)) (el := el.take hi' ++ news) (xs := xs.take (hi' * sz') ++ vs) hdl hd g3 (fun b hb => ?_) g5 g6 (by rw [hlen]; exact g2) (by
                    rw [List.flatMap_append, flatMap_take c3]
                    exact IRels_append (IRels_take c2 _) hvr) (fun x hx => by
                    rcases List.mem_append.1 hx with e | e
                    · exact c3 x (List.mem_of_mem_take e)
                    · exact hnl x e) (fun u hu => by
                    rcases List.mem_append.1 hu with e | e
                    · exact c4 u (List.mem_of_mem_take e)
                    · exact hvo u e) ?_ k2
                · simp only [Nat.sub_zero] at *
                  exact ⟨v', w', g1, To.after hed (fun _ x => x) (Keeps.refl _ _) happ⟩
                · have hb' := hbl b hb
                  have hown := h.own _ _ _ _ b hl' hb'
                  refine ⟨hown.1, hown.2.1, hown.2.2 rfl, fun r1 p1 v1 o1 hl1 hb1 => ?_⟩
                  have hnn : ¬ (r = r1 ∧ p = p1) := by
                    rintro ⟨rfl, rfl⟩
                    rw [live_setEnt_same hlt] at hl1
                    split at hl1 <;> cases hl1
                  rw [live_setEnt_other hlt hnn] at hl1
                  have := h.inj _ _ _ _ _ _ _ _ b hl' hl1 hb' hb1
                  exact hnn ⟨this.1, this.2.1⟩
                · rw [g4, Bool.and_eq_true, c5]
                  constructor
                  · rintro ⟨e1, e2⟩
                    injection e1 with e1 e3 e4
                    subst e1; subst e4
                    refine ⟨?_, by simpa using e2⟩
                    congr 1
                    omega
                  · rintro ⟨e1, e2⟩
                    injection e1 with e1 e3 e4
                    subst e1; subst e4
                    refine ⟨?_, by simpa using e2⟩
                    rcases c1.2 with ⟨e5, _⟩ | ⟨b, cap', cur, e5, _⟩
                    · exact e5
                    · injection e5 with e5; cases e5
              · cases k2
            · simp [RW.run] at k2
          · simp [RW.run] at k2
        · simp [RW.run] at k2
end Go.Proofs.YtmekfllddifglaaDoor.AM

/- The abstract machine, part m: the operations that neither read nor write memory, and addresses. Conditions: none. -/
set_option linter.unusedVariables false
set_option linter.unusedSimpArgs false
namespace Go.Proofs.YtmekfllddifglaaDoor.AM
open Go

/-! ### Memory-free values -/
def concL : List AV → Option (List Value)
  | [] => some []
  | .v x :: l => (concL l).map (x :: ·)
  | _ => none
def conc : AV → Option Value
  | .v x => some x
  | .agg l => (concL l).map fun us => .agg us.toArray
  | .ifc t x => (conc x).map (.iface t)
  | .clo f [] [] => some (.func (.func f) #[] #[])
  | _ => none
theorem concL_ok {S : Subs} {γ : Gh} {imm : Nat → Prop} {w : World} : ∀ (l : List AV) (us vs : List Value), concL l = some vs → VRels S γ imm w l us → us = vs
  | [], us, vs, h, hv => by simp only [concL, Option.some.injEq] at h; subst h; exact hv
  | x :: l, us, vs, h, hv => by
    cases x with
    | v y =>
      simp only [concL, Option.map_eq_some_iff] at h
      obtain ⟨vs', h1, rfl⟩ := h
      obtain ⟨u, us', rfl, h2, h3⟩ := hv
      obtain rfl : u = y := h2
      rw [concL_ok l us' vs' h1 h3]
    | _ => simp [concL] at h
theorem conc_ok {S : Subs} {γ : Gh} {imm : Nat → Prop} {w : World} : ∀ (x : AV) (u y : Value), conc x = some y → VRel S γ imm w x u → u = y
  | .v x, u, y, h, hv => by simp only [conc, Option.some.injEq] at h; subst h; exact hv
  | .agg l, u, y, h, hv => by
    simp only [conc, Option.map_eq_some_iff] at h
    obtain ⟨vs, h1, rfl⟩ := h
    obtain ⟨us, rfl, h2⟩ := hv
    rw [concL_ok l us vs h1 h2]
  | .ifc t x, u, y, h, hv => by
    simp only [conc, Option.map_eq_some_iff] at h
    obtain ⟨z, h1, rfl⟩ := h
    obtain ⟨y', rfl, h2⟩ := hv
    rw [conc_ok x y' z h1 h2]
  | .clo f fs cs, u, y, h, hv => by
    cases fs with
    | nil =>
      cases cs with
      | nil =>
        simp only [conc, Option.some.injEq] at h
        subst h
        obtain ⟨us, vs, rfl, h1, h2⟩ := hv
        simp only [VRels] at h1 h2
        subst h1; subst h2
        rfl
      | cons => simp [conc] at h
    | cons => simp [conc] at h
  | .dead, u, y, h, hv => by simp [conc] at h
  | .tup _, u, y, h, hv => by simp [conc] at h
  | .sl _ _, u, y, h, hv => by simp [conc] at h
  | .ref _, u, y, h, hv => by simp [conc] at h
  | .loc _ _ _ _, u, y, h, hv => by simp [conc] at h
  | .own _ _ _ _ _, u, y, h, hv => by simp [conc] at h
  | .elt _ _ _ _ _, u, y, h, hv => by simp [conc] at h
  | .mp _ _ _, u, y, h, hv => by simp [conc] at h

def ofV1 : Value → AV
  | .agg cs => .agg (cs.toList.map .v)
  | x => .v x
def ofV : Value → AV
  | .agg cs => .agg (cs.toList.map .v)
  | .tuple vs => .tup (vs.toList.map ofV1)
  | .iface t x => .ifc t (ofV1 x)
  | x => .v x
theorem ofV1_ok {S : Subs} {γ : Gh} {imm : Nat → Prop} {w : World} (x : Value) : VRel S γ imm w (ofV1 x) x := by
  cases x with
  | agg cs => exact ⟨cs.toList, by simp, VRels_consts _⟩
  | _ => rfl
theorem ofV_ok {S : Subs} {γ : Gh} {imm : Nat → Prop} {w : World} (x : Value) : VRel S γ imm w (ofV x) x := by
  cases x with
  | agg cs => exact ⟨cs.toList, by simp, VRels_consts _⟩
  | tuple vs =>
    refine ⟨vs.toList, by simp, ?_⟩
    generalize vs.toList = l
    induction l with
    | nil => rfl
    | cons y l ih => exact ⟨y, l, rfl, ofV1_ok y, ih⟩
  | iface t y => exact ⟨y, rfl, ofV1_ok y⟩
  | _ => rfl

/-- An operation on memory-free values. -/
def aStill (P : Program) (o : Oper) (ρ : Operand → AV) : Option AV :=
  if o.op.operands.all (fun x => (conc (ρ x)).isSome) then
    match still P (execOp (fun x => (conc (ρ x)).getD undef) o) with
    | some (.value r) => some (ofV r)
    | _ => none
  else none

theorem still_good {P : Program} {S : Subs} {γ : Gh} {imm : Nat → Prop} {w : World} {o : Oper} {ρ : Operand → AV} {η : Operand → Value} (hs : ∀ cs b, o.op ≠ .select cs b) (hρ : ∀ x, VRel S γ imm w (ρ x) (η x)) {y : AV} (h : aStill P o ρ = some y) :
    ∃ u, (execOp η o).run P w = .ok (.value u) w ∧ VRel S γ imm w y u := by
  unfold aStill at h
  split at h
  · rename_i hall
    split at h
    · rename_i r hr
      simp only [Option.some.injEq] at h
      subst h
      have he : execOp η o = execOp (fun x => (conc (ρ x)).getD undef) o := by
        refine execOp_congr o hs fun x hx => ?_
        have := Array.all_eq_true_iff_forall_mem.1 hall x hx
        obtain ⟨z, hz⟩ := Option.isSome_iff_exists.1 this
        simp only [hz, Option.getD_some]
        exact conc_ok _ _ _ hz (hρ x)
      exact ⟨r, by rw [he]; exact still_run _ hr w, ofV_ok r⟩
    · cases h
  · cases h

/-! ### What is live -/
def isLive (x : AV) : RW Unit := match x with
  | .loc r p ver _ => .get r fun s => match s.live p ver with
    | some (.box _ _) => .ret ()
    | _ => .fail
  | .elt r p ver _ _ => .get r fun s => match s.live p ver with
    | some (.arr _ _ _ _ _) => .ret ()
    | _ => .fail
  | .own r p ver _ _ => .get r fun s => match s.live p ver with
    | some (.arr _ _ _ _ _) => .ret ()
    | _ => .fail
  | .ref _ | .sl _ _ | .clo _ _ _ | .ifc _ _ => .ret ()
  | _ => .fail
theorem isLive_run {x : AV} {S S' : Subs} (h : (isLive x).run S = some ((), S')) : S' = S := by
  unfold isLive at h
  split at h <;> first
    | (simp only [RW.run, Option.some.injEq, Prod.mk.injEq] at h; exact h.2.symm)
    | (simp only [RW.run] at h; split at h <;> first
        | (simp only [RW.run, Option.some.injEq, Prod.mk.injEq] at h; exact h.2.symm)
        | simp [RW.run] at h)
    | simp [RW.run] at h

/-! ### Addresses -/
def fieldT (P : Program) (s : TypeId) (f : Nat) : Option Nat :=
  match P.underlying s with
  | some (.struct fs) => match fs[f]? with
    | some fd => match szT P fd.type with
      | some n => if n = 0 then none else some fd.offset
      | none => none
    | none => none
  | _ => none
def shift (k : Nat) : AV → Option AV
  | .ref l => some (.ref (l.drop k))
  | .loc r p ver off => some (.loc r p ver (off + k))
  | .elt r p ver i off => some (.elt r p ver i (off + k))
  | _ => none
theorem CellsAt_drop {imm : Nat → Prop} {w : World} {l : List AV} {b o : Nat} (h : CellsAt imm w l b o) (k : Nat) : k ≤ l.length → CellsAt imm w (l.drop k) b (o + k) := by
  intro hk
  rw [← List.take_append_drop k l] at h
  have := (CellsAt_append.1 h).2
  rwa [List.length_take, Nat.min_eq_left hk] at this
theorem shift_ok {S : Subs} {γ : Gh} {imm : Nat → Prop} {w : World} {x y : AV} {u : Value} {k : Nat} (h : shift k x = some y) (hx : VRel S γ imm w x u) {S' : Subs} (hl : (isLive x).run S = some ((), S')) :
    ∃ b o, u = .pointer (some ⟨b, o, none⟩) ∧ VRel S γ imm w y (.pointer (some ⟨b, o + k, none⟩)) := by
  cases x with
  | ref l =>
    simp only [shift, Option.some.injEq] at h
    subst h
    obtain ⟨b, o, rfl, hc⟩ := hx
    refine ⟨b, o, rfl, b, o + k, rfl, ?_⟩
    rcases Nat.lt_or_ge l.length k with hlt | hge
    · rw [List.drop_of_length_le (by omega)]; trivial
    · exact CellsAt_drop hc k hge
  | loc r p ver off =>
    simp only [shift, Option.some.injEq] at h
    subst h
    simp only [isLive, RW.run] at hl
    split at hl
    · rename_i fz cells hlv
      obtain ⟨b, hg, rfl⟩ := hx.2 _ hlv
      exact ⟨b, off, rfl, hx.1, fun o ho => ⟨b, hg, rfl⟩⟩
    · simp [RW.run] at hl
  | elt r p ver i off =>
    simp only [shift, Option.some.injEq] at h
    subst h
    simp only [isLive, RW.run] at hl
    split at hl
    · rename_i nl fz sz e el hlv
      obtain ⟨sz', n, b, cap, hs, hi, hg, rfl⟩ := hx.2 _ hlv
      refine ⟨b, i * sz' + off, rfl, hx.1, fun o ho => ⟨sz', n, b, cap, ?_, hi, hg, by simp [Nat.add_assoc]⟩⟩
      have : live S r p ver = some (.arr nl fz sz e el) := hlv
      rw [this] at ho
      simp only [Option.some.injEq] at ho
      subst ho
      exact hs
    · simp [RW.run] at hl
  | _ => simp [shift] at h

def aField (P : Program) (s : TypeId) (f : Nat) (x : AV) : RW AV := (isLive x).bind fun _ => RW.ofO ((fieldT P s f).bind fun k => shift k x)
theorem fieldAddr_good {P : Program} {C : Ctx} {S : Subs} {γ : Gh} {imm : Nat → Prop} {w : World} (h : Inv C S γ imm w) (s : TypeId) (f : Nat) {x : AV} {u : Value} (hx : VRel S γ imm w x u) :
    GoodV P C S γ imm w (aField P s f x) (Instr.fieldAt s u f) := by
  intro y S' hr
  rw [aField, RW.run_bind] at hr
  obtain ⟨⟨_, S1⟩, k1, k2⟩ := Option.bind_eq_some_iff.1 hr
  have e1 := isLive_run k1
  subst e1
  obtain ⟨k3, rfl⟩ := RW.run_ofO k2
  obtain ⟨k, hk, hsh⟩ := Option.bind_eq_some_iff.1 k3
  obtain ⟨b, o, rfl, hv⟩ := shift_ok hsh hx k1
  unfold fieldT at hk
  split at hk
  · rename_i fs hfs
    split at hk
    · rename_i fd hfd
      split at hk
      · rename_i n hn
        split at hk
        · cases hk
        · rename_i hn0
          simp only [Option.some.injEq] at hk
          subst hk
          refine ⟨_, w, ?_, To.stay h hv⟩
          simp [Instr.fieldAt, run_underlying hfs, hfd, Instr.sureAddr, fieldPlace, run_sizeOf hn, hn0, add_plain]
      · cases hk
    · cases hk
  · cases hk

def arrT (P : Program) (t : TypeId) : Option (Nat × TypeId) := match P.underlying t with | some (.array n e) => some (n, e) | _ => none

def aIndex (P : Program) (t : TypeId) (x i : AV) : RW AV :=
  match i with
  | .v (.int _ n) => match sliceT P t with
    | some e => match szT P e with
      | none => .fail
      | some sz => match x with
        | .own r p ver lo hi => .get r fun s => match s.live p ver with
          | some (.arr _ _ sz' _ _) => if 0 ≤ n ∧ n < ((hi - lo : Nat) : Int) ∧ sz' = sz then .ret (.elt r p ver (lo + n.toNat) 0) else .fail
          | _ => .fail
        | .sl _ l => if 0 ≤ n ∧ n < (l.length : Int) ∧ (cellsOf (l.getD n.toNat .dead)).length = sz then .ret (.ref (cellsOf (l.getD n.toNat .dead))) else .fail
        | _ => .fail
    | none => match arrT P t with
      | some (len, e) => match szT P e with
        | none => .fail
        | some sz => if 0 ≤ n ∧ n < (len : Int) then (isLive x).bind fun _ => RW.ofO (shift (n.toNat * sz) x) else .fail
      | none => .fail
  | _ => .fail

theorem ElemsAt_get {imm : Nat → Prop} {w : World} {l : List AV} {b o sz : Nat} (h : ElemsAt imm w l b o) (hu : ∀ x ∈ l, (cellsOf x).length = sz) (i : Nat) (hi : i < l.length) : CellsAt imm w (cellsOf l[i]) b (o + i * sz) := by
  have h1 := ElemsAt_iff.1 h
  have h2 := CellsAt_drop h1 (i * sz) (by rw [flatMap_length hu]; exact Nat.mul_le_mul_right _ (Nat.le_of_lt hi))
  rw [← flatMap_drop hu, List.drop_eq_getElem_cons hi, List.flatMap_cons] at h2
  exact (CellsAt_append.1 h2).1

theorem indexAddr_good {P : Program} {C : Ctx} {S : Subs} {γ : Gh} {imm : Nat → Prop} {w : World} (h : Inv C S γ imm w) (t : TypeId) {x i : AV} {u ui : Value} (hx : VRel S γ imm w x u) (hi : VRel S γ imm w i ui) :
    GoodV P C S γ imm w (aIndex P t x i) (Instr.indexAt t u ui) := by
  intro y S' hr
  unfold aIndex at hr
  split at hr
  · rename_i k n
    obtain rfl : ui = .int k n := hi
    split at hr
    · rename_i e he
      split at hr
      · simp [RW.run] at hr
      · rename_i sz hsz
        split at hr
        · rename_i r p ver lo hi'
          simp only [RW.run] at hr
          split at hr
          · rename_i nl fz sz' e' el hl
            split at hr
            · rename_i hc
              obtain ⟨h0, hn, rfl⟩ := hc
              simp only [RW.run, Option.some.injEq, Prod.mk.injEq] at hr
              obtain ⟨rfl, rfl⟩ := hr
              obtain ⟨sz2, n', hs, a, cap, a', hg, q1, q2, q3, rfl, q5, q6, q7⟩ := hx.2 _ hl
              obtain ⟨n, rfl⟩ := Int.eq_ofNat_of_zero_le h0
              have hs' := hs
              simp only [shp, Prod.mk.injEq, true_and] at hs'
              obtain ⟨rfl, rfl⟩ := hs'
              have hlt : lo < hi' := by omega
              obtain ⟨b, e1, e2⟩ := q6 hlt
              refine ⟨.pointer (some ⟨b, lo * sz' + n * sz', none⟩), w, ?_, To.stay h ⟨hx.1, fun o ho => ⟨sz', el.length, b, cap, ?_, by simp; omega, by rw [hg, e1], by simp [Nat.add_mul]⟩⟩⟩
              · simp [Instr.indexAt, asIntOf, run_underlying (sliceT_of he), e2, run_sizeOf hsz, add_plain]
                omega
              · have : live S r p ver = some (.arr nl fz sz' e' el) := hl
                rw [this] at ho
                simp only [Option.some.injEq] at ho
                subst ho
                exact hs
            · simp [RW.run] at hr
          · simp [RW.run] at hr
        · rename_i nl l
          split at hr
          · rename_i hc
            obtain ⟨h0, hn, hcl⟩ := hc
            simp only [RW.run, Option.some.injEq, Prod.mk.injEq] at hr
            obtain ⟨rfl, rfl⟩ := hr
            obtain ⟨n, rfl⟩ := Int.eq_ofNat_of_zero_le h0
            obtain ⟨a, m, cap, rfl, hm, hcap, hun, q1, q2⟩ := hx
            have hnl : nl = false := by
              cases nl with
              | false => rfl
              | true => have := (q1 rfl).2.1; omega
            obtain ⟨⟨b, o, sp⟩, rfl, hsp, he2⟩ := q2 hnl
            have hlt : n < l.length := by omega
            have hsp' : sp = none := hsp (fun e => by simp [e] at hlt)
            subst hsp'
            have hget : l.getD n .dead = l[n] := by simp [List.getD_eq_getElem?_getD, hlt]
            simp only [Int.toNat_natCast, hget] at hcl ⊢
            have hu' : ∀ z ∈ l, (cellsOf z).length = sz := fun z hz => (hun z hz l[n] (List.getElem_mem _)).trans hcl
            refine ⟨.pointer (some ⟨b, o + n * sz, none⟩), w, ?_, To.stay h ⟨b, o + n * sz, rfl, ElemsAt_get he2 hu' n hlt⟩⟩
            simp [Instr.indexAt, asIntOf, run_underlying (sliceT_of he), run_sizeOf hsz, add_plain]
            omega
          · simp [RW.run] at hr
        · simp [RW.run] at hr
    · rename_i he
      split at hr
      · rename_i len e hla
        split at hr
        · simp [RW.run] at hr
        · rename_i sz hsz
          split at hr
          · rename_i hc
            obtain ⟨h0, hn⟩ := hc
            rw [RW.run_bind] at hr
            obtain ⟨⟨_, S1⟩, k1, k2⟩ := Option.bind_eq_some_iff.1 hr
            have e1 := isLive_run k1
            subst e1
            obtain ⟨k3, rfl⟩ := RW.run_ofO k2
            obtain ⟨b, o, rfl, hv⟩ := shift_ok k3 hx k1
            have hu : P.underlying t = some (.array len e) := by
              unfold arrT at hla
              split at hla
              · simp only [Option.some.injEq, Prod.mk.injEq] at hla
                obtain ⟨rfl, rfl⟩ := hla
                assumption
              · cases hla
            refine ⟨_, w, ?_, To.stay h hv⟩
            simp [Instr.indexAt, asIntOf, run_underlying hu, Instr.sureAddr, run_sizeOf hsz, add_plain, h0, hn]
          · simp [RW.run] at hr
      · simp [RW.run] at hr
  · simp [RW.run] at hr
end Go.Proofs.YtmekfllddifglaaDoor.AM
