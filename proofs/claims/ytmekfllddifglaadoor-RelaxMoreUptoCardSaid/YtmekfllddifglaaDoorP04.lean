/- The relax seat: Mn, Mo, Moa, Mob, Mp, Mq. Conditions: none. -/
import Derived.Test.YtmekfllddifglaaDoorP03
import Derived.RangeFuncIn
import Derived.RangeFuncRecord
import Derived.Laws.BytesString
set_option linter.unusedVariables false
set_option linter.unusedSimpArgs false
/- The abstract machine, part n: slices cut, lengths, nil, interfaces, parts. Conditions: none. -/
set_option linter.unusedVariables false
set_option linter.unusedSimpArgs false
namespace Go.Proofs.YtmekfllddifglaaDoor.AM
open Go

/-! ### x[lo:hi] -/
def bnd (dflt : Nat) : Option AV → Option Nat
  | none => some dflt
  | some (.v (.int _ n)) => if 0 ≤ n then some n.toNat else none
  | _ => none

def mxA : Option AV → Option (Option Nat)
  | none => some none
  | some m => (bnd 0 (some m)).map some
def mxOk (mx hi : Option AV) (m : Option Nat) (b : Nat) : Bool := match mx with
  | none => true
  | some _ => hi.isSome && (m == some b)

def aSlice (P : Program) (t : TypeId) (x : AV) (lo hi mx : Option AV) : RW AV :=
  match sliceT P t with
  | none => .fail
  | some e => match szT P e with
    | none => .fail
    | some sz => match x with
      | .own r p ver l h => .get r fun s => match s.live p ver with
        | some (.arr _ _ sz' _ _) => match bnd 0 lo, bnd (h - l) hi, mx with
          | some a, some b, none => if a ≤ b ∧ b ≤ h - l ∧ sz' = sz then .ret (.own r p ver (l + a) (l + b)) else .fail
          | _, _, _ => .fail
        | _ => .fail
      | .sl nl l => match bnd 0 lo, bnd l.length hi, mxA mx with
        | some a, some b, some m => if a ≤ b ∧ b ≤ l.length ∧ mxOk mx hi m b = true ∧ l.all (fun x => (cellsOf x).length == sz) then .ret (.sl nl ((l.take b).drop a)) else .fail
        | _, _, _ => .fail
      | _ => .fail

theorem sliceBound_ok {P : Program} {w : World} {k : IntKind} {n : Int} {y : Nat} (h0 : 0 ≤ n) (h1 : n.toNat ≤ y) (c : BoundsCode) : (Instr.sliceBound (.int k n) y c).run P w = .ok n.toNat w := by
  have : n ≤ (y : Int) := by omega
  simp [Instr.sliceBound, asIntOf, h0, this]

theorem bnd_rel {S : Subs} {γ : Gh} {imm : Nat → Prop} {w : World} {d a : Nat} {x : AV} {u : Value} (hx : VRel S γ imm w x u) (h : bnd d (some x) = some a) : ∃ k n, u = .int k n ∧ 0 ≤ n ∧ n.toNat = a := by
  cases x with
  | v y =>
    obtain rfl : u = y := hx
    cases u with
    | int k n =>
      simp only [bnd] at h
      split at h
      · rename_i h0
        simp only [Option.some.injEq] at h
        exact ⟨k, n, rfl, h0, h⟩
      · cases h
    | _ => simp [bnd] at h
  | _ => simp [bnd] at h

/-- The two bounds of a slice expression without a third. -/
theorem sliceBounds_ok {P : Program} {S : Subs} {γ : Gh} {imm : Nat → Prop} {w : World} {len cap a b : Nat} {lo hi : Option AV} {ulo uhi : Option Value}
    (hlo : ∀ x, lo = some x → ∃ u, ulo = some u ∧ VRel S γ imm w x u) (hlo' : lo = none → ulo = none) (hhi : ∀ x, hi = some x → ∃ u, uhi = some u ∧ VRel S γ imm w x u) (hhi' : hi = none → uhi = none)
    (ha : bnd 0 lo = some a) (hb : bnd len hi = some b) (hab : a ≤ b) (hbc : b ≤ cap) :
    (Instr.sliceBounds true len cap ulo uhi none).run P w = .ok (a, b, cap) w := by
  have h2 : (match uhi, (none : Option Value) with
    | some v, some _ => Instr.sliceBound v cap .slice3B
    | some v, none => Instr.sliceBound v cap .sliceAcap
    | none, none => pure len
    | none, some _ => stuck "Slice: max without high").run P w = .ok b w := by
    cases hi with
    | none =>
      rw [hhi' rfl]
      simp only [bnd, Option.some.injEq] at hb
      subst hb
      rfl
    | some y =>
      obtain ⟨u, rfl, hv⟩ := hhi y rfl
      obtain ⟨k, n, rfl, h0, rfl⟩ := bnd_rel hv hb
      exact sliceBound_ok h0 hbc _
  have h3 : (match ulo with
    | some v => Instr.sliceBound v b .sliceB
    | none => pure 0).run P w = .ok a w := by
    cases lo with
    | none =>
      rw [hlo' rfl]
      simp only [bnd, Option.some.injEq] at ha
      subst ha
      rfl
    | some y =>
      obtain ⟨u, rfl, hv⟩ := hlo y rfl
      obtain ⟨k, n, rfl, h0, rfl⟩ := bnd_rel hv ha
      exact sliceBound_ok h0 hab _
  cases uhi with
  | none =>
    simp only [Sem.run_pure] at h2
    injection h2 with h2
    subst h2
    cases ulo with
    | none =>
      simp only [Sem.run_pure] at h3
      injection h3 with h3
      subst h3
      simp [Instr.sliceBounds]
    | some v => simp only [] at h3; simp [Instr.sliceBounds, h3]
  | some v =>
    simp only [] at h2
    cases ulo with
    | none =>
      simp only [Sem.run_pure] at h3
      injection h3 with h3
      subst h3
      simp [Instr.sliceBounds, h2]
    | some v' => simp only [] at h3; simp [Instr.sliceBounds, h2, h3]

theorem HdrAt_sub {sz n : Nat} {g : Value} {l h : Nat} {u : Value} (hh : HdrAt sz n g l h u) {a b : Nat} (hab : a ≤ b) (hb : b ≤ h - l) {ad : Option Addr} {len cap : Nat} (hu : u = .slice ad len cap)
    (hnil : ∀ x, ad = some x → x.spot = none) : HdrAt sz n g (l + a) (l + b) (.slice (if cap = a then ad else ad.map (·.add (a * sz))) (b - a) (cap - a)) := by
  obtain ⟨a0, c0, a', rfl, q1, q2, q3, e, q5, q6, q7⟩ := hh
  rw [hu] at e
  injection e with e1 e2 e3
  subst e1; subst e2; subst e3
  refine ⟨a0, c0, _, rfl, by omega, by omega, q3, by rw [show l + b - (l + a) = b - a by omega, show c0 - (l + a) = c0 - l - a by omega], fun e => ?_, fun e => ?_, fun b' e => ?_⟩
  · have hl : l = 0 := by omega
    have ha : a = 0 := by omega
    subst ha
    rw [q5 hl]
    split
    · rfl
    · cases a0 with
      | none => rfl
      | some x => simp [Addr.add]
  · obtain ⟨b', e1, e2⟩ := q6 (by omega)
    refine ⟨b', e1, ?_⟩
    rw [if_neg (by omega), e2]
    simp [add_plain, Nat.add_mul]
  · obtain ⟨o, ho⟩ := q7 b' e
    rw [ho]
    split
    · exact ⟨o, rfl⟩
    · exact ⟨o + a * sz, by simp [add_plain]⟩

theorem slice_good {P : Program} {C : Ctx} {S : Subs} {γ : Gh} {imm : Nat → Prop} {w : World} (h : Inv C S γ imm w) (t : TypeId) {x : AV} {u : Value} (hx : VRel S γ imm w x u) {lo hi mx : Option AV} {ulo uhi umx : Option Value}
    (hlo : ∀ x, lo = some x → ∃ u, ulo = some u ∧ VRel S γ imm w x u) (hlo' : lo = none → ulo = none) (hhi : ∀ x, hi = some x → ∃ u, uhi = some u ∧ VRel S γ imm w x u) (hhi' : hi = none → uhi = none)
    (hmx : ∀ x, mx = some x → ∃ u, umx = some u ∧ VRel S γ imm w x u) (hmx' : mx = none → umx = none) :
    GoodV P C S γ imm w (aSlice P t x lo hi mx) (Instr.sliceAt t u ulo uhi umx) := by
  intro y S' hr
  unfold aSlice at hr
  split at hr
  · simp [RW.run] at hr
  · rename_i e he
    have hu := sliceT_of he
    split at hr
    · simp [RW.run] at hr
    · rename_i sz hsz
      split at hr
      · rename_i r p ver l hh
        simp only [RW.run] at hr
        split at hr
        · rename_i nl fz sz' e' el hl
          split at hr
          · rename_i a b ha hb
            split at hr
            · rename_i hc
              obtain ⟨hab, hbl, rfl⟩ := hc
              simp only [RW.run, Option.some.injEq, Prod.mk.injEq] at hr
              obtain ⟨rfl, rfl⟩ := hr
              obtain ⟨sz2, n', hs, hH⟩ := hx.2 _ hl
              have hs' := hs
              simp only [shp, Prod.mk.injEq, true_and] at hs'
              obtain ⟨rfl, rfl⟩ := hs'
              have hH' := hH
              obtain ⟨a0, c0, a', hg, q1, q2, q3, rfl, q5, q6, q7⟩ := hH
              have hsb := sliceBounds_ok (P := P) (cap := c0 - l) hlo hlo' hhi hhi' ha hb hab (by omega)
              rw [hmx' rfl]
              refine ⟨_, w, ?_, To.stay h ⟨hx.1, fun o ho => ⟨sz', el.length, ?_, HdrAt_sub hH' hab hbl rfl ?_⟩⟩⟩
              · simp [Instr.sliceAt, Instr.slice, run_underlying hu, hsb, run_sizeOf hsz]
              · have : live S r p ver = some (.arr nl fz sz' e' el) := hl
                rw [this] at ho
                simp only [Option.some.injEq] at ho
                subst ho
                exact hs
              · intro z hz
                obtain ⟨xs, k1, _⟩ := h.obj r p ver _ hl
                rw [hg] at k1
                rcases k1.2 with ⟨e1, e2⟩ | ⟨g, cap', cur, e1, _⟩
                · injection e1 with e1
                  subst e1
                  have : el = [] := List.eq_nil_of_length_eq_zero e2
                  subst this
                  have hl0 : l = 0 := by simp at q2; omega
                  rw [q5 hl0] at hz
                  cases hz
                · injection e1 with e1
                  obtain ⟨o, ho⟩ := q7 g e1
                  rw [ho] at hz
                  injection hz with hz
                  rw [← hz]
            · simp [RW.run] at hr
          · simp [RW.run] at hr
        · simp [RW.run] at hr
      · rename_i nl l
        split at hr
        · rename_i a b m ha hb hm
          split at hr
          · rename_i hc
            obtain ⟨hab, hbl, hmc, hall⟩ := hc
            have hall' : ∀ y ∈ l, (cellsOf y).length = sz := by simpa using hall
            simp only [RW.run, Option.some.injEq, Prod.mk.injEq] at hr
            obtain ⟨rfl, rfl⟩ := hr
            obtain ⟨ad, n, cap, rfl, hn, hcap, hun, q1, q2⟩ := hx
            -- the bounds, and what the capacity is
            have hB : ∃ c', (Instr.sliceBounds true n cap ulo uhi umx).run P w = .ok (a, b, c') w ∧ b ≤ c' ∧ c' ≤ cap := by
              cases mx with
              | none =>
                rw [hmx' rfl]
                exact ⟨cap, sliceBounds_ok hlo hlo' hhi hhi' ha (by rw [hn]; exact hb) hab (by omega), by omega, Nat.le_refl _⟩
              | some xm =>
                simp only [mxOk, Bool.and_eq_true, beq_iff_eq] at hmc
                obtain ⟨hhs, hme⟩ := hmc
                obtain ⟨um, rfl, hvm⟩ := hmx xm rfl
                simp only [mxA, Option.map_eq_some_iff] at hm
                obtain ⟨m', hm1, rfl⟩ := hm
                injection hme with hme
                subst hme
                obtain ⟨km, nm, rfl, h0m, rfl⟩ := bnd_rel hvm hm1
                obtain ⟨xh, rfl⟩ := Option.isSome_iff_exists.1 hhs
                obtain ⟨uh, rfl, hvh⟩ := hhi xh rfl
                obtain ⟨kh, nh, rfl, h0h, hbe⟩ := bnd_rel hvh hb
                have g1 := sliceBound_ok (P := P) (w := w) (k := km) (y := cap) h0m (by omega) .slice3Acap
                have g2 := sliceBound_ok (P := P) (w := w) (k := kh) (y := nm.toNat) h0h (by omega) .slice3B
                have g3 : (match ulo with
                  | some v => Instr.sliceBound v nm.toNat .slice3C
                  | none => pure 0).run P w = .ok a w := by
                  cases lo with
                  | none =>
                    rw [hlo' rfl]
                    simp only [bnd, Option.some.injEq] at ha
                    subst ha
                    rfl
                  | some y =>
                    obtain ⟨u, rfl, hv⟩ := hlo y rfl
                    obtain ⟨k, n', rfl, h0, rfl⟩ := bnd_rel hv ha
                    exact sliceBound_ok h0 hab _
                refine ⟨nm.toNat, ?_, Nat.le_refl _, by omega⟩
                rw [hbe] at g2
                cases ulo with
                | none =>
                  simp only [Sem.run_pure] at g3
                  injection g3 with g3
                  subst g3
                  simp [Instr.sliceBounds, g1, g2]
                | some v => simp only [] at g3; simp [Instr.sliceBounds, g1, g2, g3]
            obtain ⟨c', hsb, hbc, hcc⟩ := hB
            refine ⟨.slice (if c' = a then ad else ad.map (·.add (a * sz))) (b - a) (c' - a), w, ?_, To.stay h ?_⟩
            · simp [Instr.sliceAt, Instr.slice, run_underlying hu, hsb, run_sizeOf hsz]
            · refine ⟨_, _, _, rfl, by simp; omega, by omega, fun x hx y hy => ?_, fun e => ?_, fun e => ?_⟩
              · rw [hall' x (List.mem_of_mem_take (List.mem_of_mem_drop hx)), hall' y (List.mem_of_mem_take (List.mem_of_mem_drop hy))]
              · obtain ⟨e1, e2, e3⟩ := q1 e
                subst e1
                refine ⟨by split <;> rfl, by omega, by omega⟩
              · obtain ⟨⟨bb, o, sp⟩, rfl, hsp, he2⟩ := q2 e
                by_cases hl0 : (l.take b).drop a = []
                · rw [hl0]
                  split
                  · exact ⟨_, rfl, fun x => absurd rfl x, trivial⟩
                  · exact ⟨_, rfl, fun x => absurd rfl x, trivial⟩
                have hsp' : sp = none := hsp (fun e => hl0 (by simp [e]))
                subst hsp'
                split
                · exact absurd (List.drop_of_length_le (by simp; omega)) hl0
                · refine ⟨⟨bb, o + a * sz, none⟩, by simp [add_plain], fun _ => rfl, ElemsAt_iff.2 ?_⟩
                  have hsub : ∀ x ∈ l.take b, (cellsOf x).length = sz := fun x hx => hall' x (List.mem_of_mem_take hx)
                  have h1 := ElemsAt_iff.1 he2
                  have h2 : CellsAt imm w ((l.take b).flatMap cellsOf) bb o := by
                    rw [← List.take_append_drop b l, List.flatMap_append] at h1
                    exact (CellsAt_append.1 h1).1
                  have h3 := CellsAt_drop h2 (a * sz) (by rw [flatMap_length hsub]; exact Nat.mul_le_mul_right _ (by simp; omega))
                  rwa [← flatMap_drop hsub] at h3
          · simp [RW.run] at hr
        · simp [RW.run] at hr
      · simp [RW.run] at hr

/-! ### len -/
def aLen (P : Program) (t : TypeId) (x : AV) : RW AV :=
  match sliceT P t with
  | none => .fail
  | some _ => match x with
    | .own r p ver lo hi => (isLive (.own r p ver lo hi)).bind fun _ => .ret (.v (.int .i64 ((hi - lo : Nat) : Int)))
    | .sl _ l => .ret (.v (.int .i64 (l.length : Int)))
    | _ => .fail
theorem len_good {P : Program} {C : Ctx} {S : Subs} {γ : Gh} {imm : Nat → Prop} {w : World} (h : Inv C S γ imm w) (t ty : TypeId) {x : AV} {u : Value} (hx : VRel S γ imm w x u) :
    GoodV P C S γ imm w (aLen P t x) (Builtin.len_ #[t] ty #[u]) := by
  intro y S' hr
  unfold aLen at hr
  split at hr
  · simp [RW.run] at hr
  · rename_i e he
    have hu := sliceT_of he
    split at hr
    · rename_i r p ver lo hi
      rw [RW.run_bind] at hr
      obtain ⟨⟨_, S1⟩, k1, k2⟩ := Option.bind_eq_some_iff.1 hr
      have e1 := isLive_run k1
      subst e1
      simp only [RW.run, Option.some.injEq, Prod.mk.injEq] at k2
      obtain ⟨rfl, rfl⟩ := k2
      simp only [isLive, RW.run] at k1
      split at k1
      · rename_i nl fz sz e' el hl
        obtain ⟨sz2, n', hs, a, cap, a', hg, q1, q2, q3, rfl, _⟩ := hx.2 _ hl
        exact ⟨_, w, by simp [Builtin.len_, run_underlying hu, goInt], To.stay h rfl⟩
      · simp [RW.run] at k1
    · rename_i nl l
      simp only [RW.run, Option.some.injEq, Prod.mk.injEq] at hr
      obtain ⟨rfl, rfl⟩ := hr
      obtain ⟨a, n, cap, rfl, hn, _⟩ := hx
      subst hn
      exact ⟨_, w, by simp [Builtin.len_, run_underlying hu, goInt], To.stay h rfl⟩
    · simp [RW.run] at hr
end Go.Proofs.YtmekfllddifglaaDoor.AM

/- The abstract machine, part o: nil, interfaces, parts of tuples and structs, functions. Conditions: none. -/
set_option linter.unusedVariables false
set_option linter.unusedSimpArgs false
namespace Go.Proofs.YtmekfllddifglaaDoor.AM
open Go

/-- The answer of 'x == nil', x no memory-free value. -/
def nilEq (x : AV) (y : Value) : RW Bool :=
  match x, y with
  | .ifc _ _, .nilIface => .ret false
  | .ref _, .pointer none => .ret false
  | .loc r p ver off, .pointer none => (isLive (.loc r p ver off)).bind fun _ => .ret false
  | .elt r p ver i off, .pointer none => (isLive (.elt r p ver i off)).bind fun _ => .ret false
  | .clo _ _ _, .nilFunc => .ret false
  | .sl nl _, .slice none 0 0 => .ret nl
  | .own r p ver lo hi, .slice none 0 0 => .get r fun s => match s.live p ver with
    | some (.arr nl _ _ _ _) => .ret nl
    | _ => .fail
  | _, _ => .fail

def nilKind (P : Program) (t : TypeId) (y : Value) : Bool :=
  match P.underlying t, y with
  | some (.interface _), .nilIface => true
  | some (.pointer _), .pointer none => true
  | some (.func _ _ _), .nilFunc => true
  | some (.slice _), .slice none 0 0 => true
  | _, _ => false

theorem nilKind_iface {P : Program} {t : TypeId} (h : nilKind P t .nilIface = true) : ∃ ms, P.underlying t = some (.interface ms) := by
  cases hd : P.underlying t with
  | none => simp [nilKind, hd] at h
  | some d => cases d <;> first | (simp [nilKind, hd] at h; done) | exact ⟨_, rfl⟩
theorem nilKind_ptr {P : Program} {t : TypeId} (h : nilKind P t (.pointer none) = true) : ∃ e, P.underlying t = some (.pointer e) := by
  cases hd : P.underlying t with
  | none => simp [nilKind, hd] at h
  | some d => cases d <;> first | (simp [nilKind, hd] at h; done) | exact ⟨_, rfl⟩
theorem nilKind_func {P : Program} {t : TypeId} (h : nilKind P t .nilFunc = true) : ∃ a b c, P.underlying t = some (.func a b c) := by
  cases hd : P.underlying t with
  | none => simp [nilKind, hd] at h
  | some d => cases d <;> first | (simp [nilKind, hd] at h; done) | exact ⟨_, _, _, rfl⟩
theorem nilKind_slice {P : Program} {t : TypeId} (h : nilKind P t (.slice none 0 0) = true) : ∃ e, P.underlying t = some (.slice e) := by
  cases hd : P.underlying t with
  | none => simp [nilKind, hd] at h
  | some d => cases d <;> first | (simp [nilKind, hd] at h; done) | exact ⟨_, rfl⟩

theorem equal_succ (t : TypeId) (x y : Value) : Op.equal t x y = Op.equalIn (9999 + 1) t x y := rfl

theorem nilEq_good {P : Program} {C : Ctx} {S : Subs} {γ : Gh} {imm : Nat → Prop} {w : World} (h : Inv C S γ imm w) (t : TypeId) {x : AV} {u y : Value} (hx : VRel S γ imm w x u) (hk : nilKind P t y = true) :
    ∀ b S', (nilEq x y).run S = some (b, S') → S' = S ∧ (Op.equal t u y).run P w = .ok b w ∧ (∀ cs, u ≠ .agg cs) ∧ u ≠ .nilIface ∧ (∀ k n, u ≠ .int k n) ∧ (∀ k n, u ≠ .float k n) ∧ (∀ s, u ≠ .string s) ∧ (∀ k a c, u ≠ .complex k a c) := by
  intro b S' hr
  unfold nilEq at hr
  split at hr
  · rename_i t' z
    simp only [RW.run, Option.some.injEq, Prod.mk.injEq] at hr
    obtain ⟨rfl, rfl⟩ := hr
    obtain ⟨v, rfl, _⟩ := hx
    obtain ⟨ms, hu⟩ := nilKind_iface hk
    refine ⟨rfl, ?_, by simp, by simp, by simp, by simp, by simp, by simp⟩
    rw [equal_succ]; generalize 9999 = d; simp [Op.equalIn, run_underlying hu]
  · rename_i l
    simp only [RW.run, Option.some.injEq, Prod.mk.injEq] at hr
    obtain ⟨rfl, rfl⟩ := hr
    obtain ⟨bb, o, rfl, _⟩ := hx
    obtain ⟨e, hu⟩ := nilKind_ptr hk
    refine ⟨rfl, ?_, by simp, by simp, by simp, by simp, by simp, by simp⟩
    rw [equal_succ]; generalize 9999 = d; simp [Op.equalIn, run_underlying hu]
  · rename_i r p ver off
    rw [RW.run_bind] at hr
    obtain ⟨⟨_, S1⟩, k1, k2⟩ := Option.bind_eq_some_iff.1 hr
    have e1 := isLive_run k1
    subst e1
    simp only [RW.run, Option.some.injEq, Prod.mk.injEq] at k2
    obtain ⟨rfl, rfl⟩ := k2
    simp only [isLive, RW.run] at k1
    split at k1
    · rename_i fz cells hl
      obtain ⟨bb, hg, rfl⟩ := hx.2 _ hl
      obtain ⟨e, hu⟩ := nilKind_ptr hk
      refine ⟨rfl, ?_, by simp, by simp, by simp, by simp, by simp, by simp⟩
      rw [equal_succ]; generalize 9999 = d; simp [Op.equalIn, run_underlying hu]
    · simp [RW.run] at k1
  · rename_i r p ver i off
    rw [RW.run_bind] at hr
    obtain ⟨⟨_, S1⟩, k1, k2⟩ := Option.bind_eq_some_iff.1 hr
    have e1 := isLive_run k1
    subst e1
    simp only [RW.run, Option.some.injEq, Prod.mk.injEq] at k2
    obtain ⟨rfl, rfl⟩ := k2
    simp only [isLive, RW.run] at k1
    split at k1
    · rename_i nl fz sz e el hl
      obtain ⟨sz2, n', b', cap, hs, hi, hg, rfl⟩ := hx.2 _ hl
      obtain ⟨e, hu⟩ := nilKind_ptr hk
      refine ⟨rfl, ?_, by simp, by simp, by simp, by simp, by simp, by simp⟩
      rw [equal_succ]; generalize 9999 = d; simp [Op.equalIn, run_underlying hu]
    · simp [RW.run] at k1
  · rename_i f fs cs
    simp only [RW.run, Option.some.injEq, Prod.mk.injEq] at hr
    obtain ⟨rfl, rfl⟩ := hr
    obtain ⟨us, vs, rfl, _⟩ := hx
    obtain ⟨a1, a2, a3, hu⟩ := nilKind_func hk
    refine ⟨rfl, ?_, by simp, by simp, by simp, by simp, by simp, by simp⟩
    rw [equal_succ]; generalize 9999 = d; simp [Op.equalIn, run_underlying hu]
  · rename_i nl l
    simp only [RW.run, Option.some.injEq, Prod.mk.injEq] at hr
    obtain ⟨rfl, rfl⟩ := hr
    obtain ⟨a, n, cap, rfl, hn, hc, _, q1, q2⟩ := hx
    obtain ⟨e, hu⟩ := nilKind_slice hk
    refine ⟨rfl, ?_, by simp, by simp, by simp, by simp, by simp, by simp⟩
    cases nl with
    | true =>
      obtain ⟨rfl, _, _⟩ := q1 rfl
      rw [equal_succ]; generalize 9999 = d; simp [Op.equalIn, run_underlying hu]
    | false =>
      obtain ⟨bb, rfl, _⟩ := q2 rfl
      rw [equal_succ]; generalize 9999 = d; simp [Op.equalIn, run_underlying hu]
  · rename_i r p ver lo hi
    simp only [RW.run] at hr
    split at hr
    · rename_i nl fz sz e' el hl
      simp only [RW.run, Option.some.injEq, Prod.mk.injEq] at hr
      obtain ⟨rfl, rfl⟩ := hr
      obtain ⟨sz2, n', hs, a, cap, a', hg, q1, q2, q3, rfl, q5, q6, q7⟩ := hx.2 _ hl
      obtain ⟨xs, k1, _, _, _, k5, _⟩ := h.obj r p ver _ hl
      rw [hg] at k1 k5
      obtain ⟨e, hu⟩ := nilKind_slice hk
      refine ⟨rfl, ?_, by simp, by simp, by simp, by simp, by simp, by simp⟩
      simp only [shp, Prod.mk.injEq, true_and] at hs
      obtain ⟨rfl, rfl⟩ := hs
      cases nl with
      | true =>
        have := k5.1 rfl
        injection this with e1 e2 e3
        have hl0 : lo = 0 := by omega
        rw [q5 hl0, e1]
        rw [equal_succ]; generalize 9999 = d; simp [Op.equalIn, run_underlying hu]
      | false =>
        rcases k1.2 with ⟨e1, _⟩ | ⟨g, cap', cur, e1, _⟩
        · have := k5.2 e1; cases this
        · injection e1 with e1
          obtain ⟨o, ho⟩ := q7 g e1
          rw [ho]
          rw [equal_succ]; generalize 9999 = d; simp [Op.equalIn, run_underlying hu]
    · simp [RW.run] at hr
  · simp [RW.run] at hr

/-! ### The other operations on values -/
def concreteT (P : Program) (t : TypeId) : Bool := match P.underlying t with | some (.interface _) => false | some _ => true | none => false
theorem run_mkIface {P : Program} {t : TypeId} (h : concreteT P t = true) (u : Value) (w : World) : (Instr.makeInterface t u).run P w = .ok (.iface t u) w := by
  unfold concreteT at h
  split at h
  · cases h
  · rename_i d hne hd
    cases d with
    | interface ms => exact (hne ms rfl).elim
    | _ => simp [Instr.makeInterface, run_underlying hd]
  · cases h

def aField1 (P : Program) (t : TypeId) (f : Nat) (x : AV) : Option AV :=
  match x, P.underlying t with
  | .agg l, some (.struct fs) => match fs[f]? with
    | some fd => if fd.offset ≤ l.length then pickT P fd.type (l.drop fd.offset) else none
    | none => none
  | _, _ => none
theorem part_ok {P : Program} {S : Subs} {γ : Gh} {imm : Nat → Prop} {w : World} {t : TypeId} {l : List AV} {us : List Value} (hv : VRels S γ imm w l us) {off : Nat} (hoff : off ≤ l.length) {y : AV} (h : pickT P t (l.drop off) = some y) :
    ∃ u, (part t us.toArray off).run P w = .ok u w ∧ VRel S γ imm w y u := by
  have hlen := VRels_length hv
  unfold pickT at h
  split at h
  · rename_i hu
    split at h
    · rename_i ha
      obtain ⟨n, hn, h⟩ := Option.bind_eq_some_iff.1 h
      split at h
      · rename_i hle
        simp only [Option.some.injEq] at h
        subst h
        refine ⟨.agg (us.toArray.extract off (off + n)), ?_, (us.drop off).take n, ?_, VRels_take (VRels_drop hv off) n⟩
        · simp [part, run_isAgg hu, ha, run_sizeOf hn]
        · congr 1
          apply Array.ext'
          simp [List.extract_eq_take_drop]
      · cases h
    · rename_i ha
      have hd := VRels_drop hv off
      cases hdl : l.drop off with
      | nil => rw [hdl] at h; simp at h
      | cons z l' =>
        rw [hdl] at h hd
        simp only [List.head?_cons, Option.some.injEq] at h
        subst h
        obtain ⟨u, us', e, hz, _⟩ := hd
        have hget : us[off]? = some u := by
          have := congrArg List.head? e
          simpa [List.head?_drop] using this
        exact ⟨u, by simp [part, run_isAgg hu, ha, hget], hz⟩
  · cases h
end Go.Proofs.YtmekfllddifglaaDoor.AM

/- The abstract machine, part oa: maps whose keys are strings, numbers or bools. Conditions: none. -/
set_option linter.unusedVariables false
set_option linter.unusedSimpArgs false
namespace Go.Proofs.YtmekfllddifglaaDoor.AM
open Go

/-- An object that is no row of cells is turned. -/
theorem To.turn {C : Ctx} {S : Subs} {γ : Gh} {imm : Nat → Prop} {w : World} (h : Inv C S γ imm w) {r : Nat} {p : List Nat} {ver : Nat} {o o' : Ob} (hr : r < S.length) (hl : live S r p ver = some o)
    (hs : shp o = shp o') (hf : fzOf o = false) {b : Nat} (hb : bl (γ r p ver) = some b) (new : Obj)
    (hO : Ext S γ (setEnt S r p (ver, some o')) γ → Keeps imm w (w.putObj b new) → ORel (setEnt S r p (ver, some o')) γ imm (w.putObj b new) o' (γ r p ver))
    {R : Gh → (Nat → Prop) → Prop} (hR : R γ imm) : To C S γ imm w (setEnt S r p (ver, some o')) (w.putObj b new) R := by
  have hext : Ext S γ (setEnt S r p (ver, some o')) γ := by
    have := Ext.put (γ := γ) (g := γ r p ver) (o' := o') hr (.inr ⟨o, hl, hs, rfl⟩)
    rwa [upd_self] at this
  have hown := h.own _ _ _ _ b hl hb
  have hsame : ∀ k, k ≠ b → (w.putObj b new).heap[k]? = w.heap[k]? := fun k hk => World.putObj_heap_other hk
  have hk : Keeps imm w (w.putObj b new) := ⟨fun k hk => hsame k fun e => hown.2.2 hf (e ▸ hk)⟩
  refine ⟨γ, imm, ?_, hext, fun _ x => x, hk, hR⟩
  have := Inv.put (p := p) (γ := γ) (imm' := imm) (w' := w.putObj b new) (g := γ r p ver) (o' := o') (fun k => k = b) h hr (.inr ⟨o, hl, hs, rfl⟩) rfl rfl rfl (by simp)
    (fun k e => by subst e; exact ⟨hown.2.1, hown.2.2 hf⟩) (fun k _ hk => hsame k hk) (fun _ x => x) (fun _ x => .inl x) (by rw [upd_self]; exact hO hext hk) ?_ ?_
  · rwa [upd_self] at this
  · intro k hk
    have hkk := h.own _ _ _ _ k hl hk
    exact ⟨by simpa using hkk.1, hkk.2.1, fun _ => hkk.2.2 hf⟩
  · intro r1 p1 v1 o1 k h1 hn hk
    have hne : bl (γ r p ver) ≠ some k := fun e => hn (by have := h.inj _ _ _ _ _ _ _ _ k hl h1 e hk; exact ⟨this.1, this.2.1⟩)
    exact ⟨fun e => hne (by rw [e]; exact hb), (h.own _ _ _ _ k h1 hk).2.2, hne⟩

/-! ### Entries -/
def mapT (P : Program) (t : TypeId) : Option (TypeId × TypeId) := match P.underlying t with
  | some (.map k e) => some (k, e)
  | _ => none
/-- The kind of a key that is a string, a number, or a bool. -/
def keyT (P : Program) (t : TypeId) : Option TypeDesc := match P.underlying t with
  | some .string => some .string
  | some .bool => some .bool
  | some (.int k) => some (.int k)
  | _ => none
theorem keyT_under {P : Program} {t : TypeId} {d : TypeDesc} (h : keyT P t = some d) : P.underlying t = some d ∧ (d = .string ∨ d = .bool ∨ ∃ k, d = .int k) := by
  unfold keyT at h
  split at h <;> first | (simp only [Option.some.injEq] at h; subst h; rename_i e; exact ⟨e, by simp⟩) | cases h
def findA (kind : TypeDesc) (k : Value) : List (Value × AV) → Nat → Option (Option (Nat × AV))
  | [], _ => some none
  | (k', x) :: es, i => match Instr.sameNow kind k k' with
    | some true => some (some (i, x))
    | some false => findA kind k es (i + 1)
    | none => none
theorem find_ok {imm : Nat → Prop} {w : World} (kind : TypeDesc) (k : Value) : ∀ (en : List (Value × AV)) (es : List MapEntry) (i : Nat), es.map (·.key) = en.map (·.1) → IRels imm w (en.map (·.2)) (es.map (·.val)) →
    (findA kind k en i = some none → Instr.findNow kind k es i = some none) ∧
    (∀ j x, findA kind k en i = some (some (j, x)) → ∃ e, i ≤ j ∧ es[j - i]? = some e ∧ IRel imm w x e.val ∧ Instr.sameNow kind k e.key = some true ∧ Instr.findNow kind k es i = some (some (j, e.val)))
  | [], es, i, h1, h2 => by
    obtain rfl : es = [] := by simpa using h1
    exact ⟨fun _ => rfl, fun j x h => by simp [findA] at h⟩
  | (k', x) :: en, [], i, h1, h2 => by simp at h1
  | (k', x) :: en, e :: es, i, h1, h2 => by
    simp only [List.map_cons, List.cons.injEq] at h1
    obtain ⟨h1, h1'⟩ := h1
    obtain ⟨u, us, h3, h4, h5⟩ := h2
    simp only [List.map_cons, List.cons.injEq] at h3
    obtain ⟨rfl, rfl⟩ := h3
    simp only [findA, Instr.findNow, h1]
    cases hs : Instr.sameNow kind k k' with
    | none => simp
    | some b =>
      cases b with
      | true =>
        refine ⟨by simp, fun j y h => ?_⟩
        simp only [Option.some.injEq, Prod.mk.injEq] at h
        obtain ⟨rfl, rfl⟩ := h
        exact ⟨e, Nat.le_refl _, by simp, h4, by rw [h1]; exact hs, rfl⟩
      | false =>
        obtain ⟨g1, g2⟩ := find_ok kind k en es (i + 1) h1' h5
        refine ⟨g1, fun j y h => ?_⟩
        obtain ⟨e', q1, q2, q3, q4, q5⟩ := g2 j y h
        exact ⟨e', by omega, by rw [show j - i = (j - (i + 1)) + 1 by omega]; simpa using q2, q3, q4, q5⟩
theorem run_checkKey {P : Program} {t : TypeId} {d : TypeDesc} (h : keyT P t = some d) (b : Bool) (k : Value) (w : World) : (Instr.checkKey b 10000 t k).run P w = .ok () w := by
  obtain ⟨h1, h2⟩ := keyT_under h
  unfold Instr.checkKey
  rcases h2 with rfl | rfl | ⟨k, rfl⟩ <;> simp [run_underlying h1]
theorem run_findKey {P : Program} {t : TypeId} {d : TypeDesc} (h : P.underlying t = some d) {k : Value} {es : List MapEntry} {r : Option (Nat × Value)} (hf : Instr.findNow d k es 0 = some r) (w : World) : (Instr.findKey t k es).run P w = .ok r w := by
  simp [Instr.findKey, run_underlying h, hf]

def zeroA (P : Program) (e : TypeId) : Option AV := ((P.info? e).bind (·.zero)).map ofV1
theorem zeroA_ok {P : Program} {e : TypeId} {x : AV} (h : zeroA P e = some x) {S : Subs} {γ : Gh} {imm : Nat → Prop} {w : World} : ∃ z, (zeroValue e).run P w = .ok z w ∧ VRel S γ imm w x z := by
  obtain ⟨z, h1, rfl⟩ := Option.map_eq_some_iff.1 h
  obtain ⟨i, h2, h3⟩ := Option.bind_eq_some_iff.1 h1
  exact ⟨z, by simp [zeroValue, typeInfo, h2, h3], ofV1_ok z⟩
def lookRes (ok : Bool) (y : AV) (b : Bool) : AV := if ok then .tup [y, .v (.bool b)] else y
def aLookup (P : Program) (t : TypeId) (x k : AV) (ok : Bool) : RW AV := match mapT P t with
  | none => .fail
  | some (kt, e) => match keyT P kt with
    | none => .fail
    | some d => match k with
      | .v kv => (match x with
        | .mp r p ver => .get r fun s => match s.live p ver with
          | some (.map _ en) => (match findA d kv en 0 with
            | some (some (_, y)) => .ret (lookRes ok y true)
            | some none => RW.ofO ((zeroA P e).map fun z => lookRes ok z false)
            | none => .fail)
          | _ => .fail
        | .v (.map none) => RW.ofO ((zeroA P e).map fun z => lookRes ok z false)
        | _ => .fail)
      | _ => .fail
theorem lookRes_ok {S : Subs} {γ : Gh} {imm : Nat → Prop} {w : World} {y : AV} {v : Value} (hy : VRel S γ imm w y v) (ok b : Bool) : VRel S γ imm w (lookRes ok y b) (if ok then .tuple #[v, .bool b] else v) := by
  cases ok with
  | false => exact hy
  | true => exact ⟨[v, .bool b], rfl, v, [.bool b], rfl, hy, .bool b, [], rfl, rfl, rfl⟩
theorem run_getMap {P : Program} {b : Nat} {es : Array MapEntry} {c : Nat} {w : World} (h : w.heap[b]? = some (.map es c)) : (getObj b).run P w = .ok (.map es c) w := by simp [getObj, Sem.run, h]
theorem lookup_good {P : Program} {C : Ctx} {S : Subs} {γ : Gh} {imm : Nat → Prop} {w : World} (h : Inv C S γ imm w) (t : TypeId) {x k : AV} {u uk : Value} (hx : VRel S γ imm w x u) (hk : VRel S γ imm w k uk) (ok : Bool) :
    GoodV P C S γ imm w (aLookup P t x k ok) (Instr.lookup t u uk ok) := by
  intro y S' hr
  unfold aLookup at hr
  split at hr
  · simp [RW.run] at hr
  · rename_i kt e hm
    have hm' : P.underlying t = some (.map kt e) := by
      unfold mapT at hm
      split at hm
      · rename_i k' e' he; simp only [Option.some.injEq, Prod.mk.injEq] at hm; obtain ⟨rfl, rfl⟩ := hm; exact he
      · cases hm
    split at hr
    · simp [RW.run] at hr
    · rename_i d hd
      obtain ⟨hd1, _⟩ := keyT_under hd
      split at hr
      · rename_i kv
        obtain rfl : uk = kv := hk
        split at hr
        · rename_i r p ver
          simp only [RW.run] at hr
          split at hr
          · rename_i t' en hl
            obtain ⟨b, es, clock, hg, hh, h1, h2⟩ := h.obj r p ver _ hl
            obtain rfl : u = γ r p ver := hx.2 _ hl
            rw [hg]
            obtain ⟨g1, g2⟩ := find_ok (imm := imm) (w := w) d uk en es.toList 0 h1 h2
            split at hr
            · rename_i j z hf
              simp only [RW.run, Option.some.injEq, Prod.mk.injEq] at hr
              obtain ⟨rfl, rfl⟩ := hr
              obtain ⟨en', q1, q2, q3, q4, q5⟩ := g2 j z hf
              refine ⟨_, w, ?_, To.stay h (lookRes_ok (VRel_of_IRel _ _ q3) ok true)⟩
              simp [Instr.lookup, run_underlying hm', run_getMap hh, run_checkKey hd, run_findKey hd1 q5]
            · rename_i hf
              obtain ⟨q, rfl⟩ := RW.run_ofO hr
              obtain ⟨z, hz, rfl⟩ := Option.map_eq_some_iff.1 q
              obtain ⟨zv, hz1, hz2⟩ := zeroA_ok hz (S := S') (γ := γ) (imm := imm) (w := w)
              refine ⟨_, w, ?_, To.stay h (lookRes_ok hz2 ok false)⟩
              simp [Instr.lookup, run_underlying hm', run_getMap hh, run_checkKey hd, run_findKey hd1 (g1 hf), hz1]
            · simp [RW.run] at hr
          · simp [RW.run] at hr
        · obtain rfl : u = .map none := hx
          obtain ⟨q, rfl⟩ := RW.run_ofO hr
          obtain ⟨z, hz, rfl⟩ := Option.map_eq_some_iff.1 q
          obtain ⟨zv, hz1, hz2⟩ := zeroA_ok hz (S := S') (γ := γ) (imm := imm) (w := w)
          refine ⟨_, w, ?_, To.stay h (lookRes_ok hz2 ok false)⟩
          simp [Instr.lookup, run_underlying hm', run_checkKey hd, run_findKey hd1 (show Instr.findNow d uk [] 0 = some none from rfl), hz1]
        · simp [RW.run] at hr
      · simp [RW.run] at hr

/-! ### An entry is laid -/
def updA (d : TypeDesc) (k : Value) (y : AV) (en : List (Value × AV)) : Option (List (Value × AV)) := match findA d k en 0 with
  | some (some (j, _)) => some (en.set j (k, y))
  | some none => some (en ++ [(k, y)])
  | none => none
def aMapUpd (P : Program) (t : TypeId) (x k v : AV) : RW Unit := match mapT P t with
  | none => .fail
  | some (kt, e) => match keyT P kt with
    | none => .fail
    | some d => match k, x with
      | .v kv, .mp r p ver => (pub 60 v).bind fun y => .get r fun s => match s.live p ver with
        | some (.map t' en) => (match updA d kv y en with
          | some en' => .put r (s.put p (ver, some (.map t' en'))) (.ret ())
          | none => .fail)
        | _ => .fail
      | _, _ => .fail
theorem same_bits {d : TypeDesc} {k k' : Value} (h : Instr.sameNow d k k' = some true) (n : Nat) : Instr.sameBits n k' k = true := by
  unfold Instr.sameNow at h
  split at h
  · split at h
    · rename_i k1 a k2 b e
      subst e
      simp only [Option.some.injEq, beq_iff_eq] at h
      subst h
      cases n <;> simp [Instr.sameBits]
    · cases h
  · rename_i a b
    simp only [Option.some.injEq] at h
    have e : a.data = b.data := by
      have : (a.data == b.data) = true := h
      simpa using this
    have e2 : a = b := by cases a; cases b; simpa using e
    subst e2
    have : (a == a) = true := h
    cases n <;> simp [Instr.sameBits, this]
  · simp only [Option.some.injEq, beq_iff_eq] at h
    subst h
    cases n <;> simp [Instr.sameBits]
  · cases h
theorem IRels_set {imm : Nat → Prop} {w : World} {l : List AV} {us : List Value} (h : IRels imm w l us) (j : Nat) {x : AV} {u : Value} (hx : IRel imm w x u) : IRels imm w (l.set j x) (us.set j u) := by
  induction l generalizing us j with
  | nil => simp only [IRels] at h; subst h; rfl
  | cons y l ih =>
    obtain ⟨v, us', rfl, h1, h2⟩ := h
    cases j with
    | zero => exact ⟨u, us', rfl, hx, h2⟩
    | succ j => exact ⟨v, us'.set j u, rfl, h1, ih h2 j⟩
theorem modify_map {α β : Type} (f : α → β) (g : α → α) (l : List α) (j : Nat) (x : α) (h : l[j]? = some x) : (l.modify j g).map f = (l.map f).set j (f (g x)) := by
  induction l generalizing j with
  | nil => simp at h
  | cons y l ih =>
    cases j with
    | zero => simp only [List.getElem?_cons_zero, Option.some.injEq] at h; subst h; rfl
    | succ j => simpa using ih j (by simpa using h)
theorem mapUpd_good {P : Program} {C : Ctx} {S : Subs} {γ : Gh} {imm : Nat → Prop} {w : World} (h : Inv C S γ imm w) (t : TypeId) {x k v : AV} {u uk uv : Value} (hx : VRel S γ imm w x u) (hk : VRel S γ imm w k uk) (hv : VRel S γ imm w v uv) :
    GoodU P C S γ imm w (aMapUpd P t x k v) (Instr.mapUpdate t u uk uv) := by
  intro _ S' hr
  unfold aMapUpd at hr
  split at hr
  · simp [RW.run] at hr
  · rename_i kt e hm
    have hm' : P.underlying t = some (.map kt e) := by
      unfold mapT at hm
      split at hm
      · rename_i k' e' he; simp only [Option.some.injEq, Prod.mk.injEq] at hm; obtain ⟨rfl, rfl⟩ := hm; exact he
      · cases hm
    split at hr
    · simp [RW.run] at hr
    · rename_i d hd
      obtain ⟨hd1, _⟩ := keyT_under hd
      split at hr
      · rename_i kv r p ver
        obtain rfl : uk = kv := hk
        rw [RW.run_bind] at hr
        obtain ⟨⟨y, S1⟩, k1, k2⟩ := Option.bind_eq_some_iff.1 hr
        obtain ⟨γ1, imm1, hi1, he1, hm1, hk1, hy⟩ := pub_good 60 S γ imm h v uv hv y S1 k1
        have hx1 := VRel_mono he1 hm1 hk1 _ _ hx
        simp only [RW.run] at k2
        split at k2
        · rename_i t' en hl
          split at k2
          · rename_i en' hen
            simp only [RW.run] at k2
            split at k2
            · rename_i hlt
              simp only [Option.some.injEq, Prod.mk.injEq, true_and] at k2
              subst k2
              have hl' : live S1 r p ver = some (.map t' en) := hl
              obtain ⟨b, es, clock, hg, hh, h1, h2⟩ := hi1.obj r p ver _ hl'
              obtain rfl : u = γ1 r p ver := hx1.2 _ hl'
              obtain ⟨g1, g2⟩ := find_ok (imm := imm1) (w := w) d uk en es.toList 0 h1 h2
              unfold updA at hen
              split at hen
              · rename_i j z hf
                simp only [Option.some.injEq] at hen
                subst hen
                obtain ⟨en0, q1, q2, q3, q4, q5⟩ := g2 j z hf
                simp only [Nat.sub_zero] at q2
                have q2' : es[j]? = some en0 := by rw [← Array.getElem?_toList]; exact q2
                refine ⟨w.putObj b (.map (es.modify j fun e => { e with key := uk, val := uv }) clock), ?_, To.after he1 hm1 hk1 (To.turn (o' := .map t' (en.set j (uk, y))) (R := fun _ _ => True) hi1 hlt hl' rfl rfl (b := b) (by rw [hg]; rfl) _ (fun he hk => ?_) trivial)⟩
                · rw [hg]
                  simp [Instr.mapUpdate, run_underlying hm', run_getMap hh, run_checkKey hd, run_findKey hd1 q5, q2', Instr.keyThatStays, same_bits q4, setObj, Sem.run, hh, World.putObj]
                · refine ⟨b, _, clock, hg, World.putObj_heap_same ?_, ?_, ?_⟩
                  · exact (Array.getElem?_eq_some_iff.1 hh).1
                  · rw [Array.toList_modify, modify_map _ _ _ _ _ q2, h1, List.map_set]
                  · rw [Array.toList_modify, modify_map _ _ _ _ _ q2, List.map_set]
                    exact IRels_set (IRels_mono (fun _ x => x) hk _ _ h2) j (IRel_mono (fun _ x => x) hk _ _ hy)
              · rename_i hf
                simp only [Option.some.injEq] at hen
                subst hen
                refine ⟨w.putObj b (.map (es.push { key := uk, val := uv, born := clock }) (clock + 1)), ?_, To.after he1 hm1 hk1 (To.turn (o' := .map t' (en ++ [(uk, y)])) (R := fun _ _ => True) hi1 hlt hl' rfl rfl (b := b) (by rw [hg]; rfl) _ (fun he hk => ?_) trivial)⟩
                · rw [hg]
                  simp [Instr.mapUpdate, run_underlying hm', run_getMap hh, run_checkKey hd, run_findKey hd1 (g1 hf), setObj, Sem.run, hh, World.putObj]
                · refine ⟨b, _, clock + 1, hg, World.putObj_heap_same ?_, ?_, ?_⟩
                  · exact (Array.getElem?_eq_some_iff.1 hh).1
                  · simp [h1]
                  · simp only [Array.toList_push, List.map_append, List.map_cons, List.map_nil]
                    exact IRels_append (IRels_mono (fun _ x => x) hk _ _ h2) ⟨_, [], rfl, IRel_mono (fun _ x => x) hk _ _ hy, rfl⟩
              · cases hen
            · cases k2
          · simp [RW.run] at k2
        · simp [RW.run] at k2
      · simp [RW.run] at hr

/-! ### A new map -/
def newMp (d : Nat) (t : TypeId) : RW AV := .get d fun s => .put d (s.put [] ((s.ent []).1 + 1, some (.map t []))) (.ret (.mp d [] ((s.ent []).1 + 1)))
theorem newMp_good {P : Program} {C : Ctx} {S : Subs} {γ : Gh} {imm : Nat → Prop} {w : World} (h : Inv C S γ imm w) (d : Nat) (t : TypeId) : GoodV P C S γ imm w (newMp d t) (Instr.makeMap t none) := by
  intro x S' hr
  simp only [newMp, RW.run] at hr
  split at hr
  · rename_i hlt
    simp only [Option.some.injEq, Prod.mk.injEq] at hr
    obtain ⟨rfl, rfl⟩ := hr
    refine ⟨.map (some w.heap.size), w.alloc (.map #[] 0), by simp [Instr.makeMap], ?_⟩
    refine To.alloc (p := []) (o' := .map t []) (g := .map (some w.heap.size)) h hlt (.map #[] 0) rfl (fun γ' hext hg hk => ?_) fun γ' hext hg => ?_
    · exact ⟨w.heap.size, #[], 0, rfl, heap_alloc_new w _, rfl, rfl⟩
    · refine ⟨?_, fun o ho => hg.symm⟩
      exact Nat.le_of_eq (ctr_setEnt_same (e := ((ctr S d [] + 1, some (.map t [])) : Ent)) hlt).symm
  · cases hr
end Go.Proofs.YtmekfllddifglaaDoor.AM

/- The abstract machine, part ob: bytes made into a string. Conditions: none. -/
set_option linter.unusedVariables false
set_option linter.unusedSimpArgs false
namespace Go.Proofs.YtmekfllddifglaaDoor.AM
open Go

def bytesA : List AV → Option (List Int)
  | [] => some []
  | .v (.int .u8 n) :: l => (bytesA l).map (n :: ·)
  | _ => none
theorem bytesA_ok {imm : Nat → Prop} {w : World} : ∀ (l : List AV) (ns : List Int) (us : List Value), bytesA l = some ns → IRels imm w (l.flatMap cellsOf) us → us = ns.map (Value.int .u8) ∧ ns.length = l.length
  | [], ns, us, h, hu => by
    simp only [bytesA, Option.some.injEq] at h
    subst h
    exact ⟨hu, rfl⟩
  | x :: l, ns, us, h, hu => by
    unfold bytesA at h
    split at h
    · rename_i e; cases e
    · rename_i n l' e
      simp only [List.cons.injEq] at e
      obtain ⟨rfl, rfl⟩ := e
      obtain ⟨ms, h1, rfl⟩ := Option.map_eq_some_iff.1 h
      obtain ⟨u, us', rfl, h2, h3⟩ := hu
      obtain rfl : u = .int .u8 n := h2
      obtain ⟨rfl, h4⟩ := bytesA_ok l ms us' h1 h3
      exact ⟨rfl, by simp [h4]⟩
    · cases h
def strOf (ns : List Int) : ByteArray := ⟨(ns.map fun n => UInt8.ofNat n.toNat).toArray⟩
theorem foldl_strOf : ∀ (ns : List Int) (s : ByteArray), ns.foldl (fun r n => r.push (UInt8.ofNat n.toNat)) s = ⟨(s.data.toList ++ ns.map fun n => UInt8.ofNat n.toNat).toArray⟩
  | [], s => by simp
  | n :: ns, s => by
    rw [List.foldl_cons, foldl_strOf ns]
    congr 2
    simp [ByteArray.push]
def u8T (P : Program) (t : TypeId) : Bool := match P.underlying t with
  | some (.int .u8) => true
  | _ => false
def stringT (P : Program) (t : TypeId) : Bool := match P.underlying t with
  | some .string => true
  | _ => false
def aBytesStr (P : Program) (a b : TypeId) (x : AV) : RW AV := match sliceT P a with
  | some e => if u8T P e && stringT P b then (elemsRW 1 x).bind fun l => RW.ofO ((bytesA l).map fun ns => .v (.string (strOf ns))) else .fail
  | none => .fail
theorem sliceT_under {P : Program} {t e : TypeId} (h : sliceT P t = some e) : P.underlying t = some (.slice e) := by
  unfold sliceT at h
  split at h
  · rename_i e' he; simp only [Option.some.injEq] at h; subst h; exact he
  · cases h
theorem bytesStr_good {P : Program} {C : Ctx} {S : Subs} {γ : Gh} {imm : Nat → Prop} {w : World} (h : Inv C S γ imm w) (a b : TypeId) {x : AV} {u : Value} (hx : VRel S γ imm w x u) :
    GoodV P C S γ imm w (aBytesStr P a b x) (convert a b u) := by
  intro y S' hr
  unfold aBytesStr at hr
  split at hr
  · rename_i e he
    split at hr
    · rename_i hc
      simp only [Bool.and_eq_true] at hc
      have h8 : P.underlying e = some (.int .u8) := by
        have := hc.1; unfold u8T at this; split at this
        · assumption
        · cases this
      have hs : P.underlying b = some .string := by
        have := hc.2; unfold stringT at this; split at this
        · assumption
        · cases this
      rw [RW.run_bind] at hr
      obtain ⟨⟨l, S1⟩, k1, k2⟩ := Option.bind_eq_some_iff.1 hr
      obtain ⟨k3, rfl⟩ := RW.run_ofO k2
      obtain ⟨ns, k4, rfl⟩ := Option.map_eq_some_iff.1 k3
      obtain ⟨rfl, _, hcase⟩ := elems_ok h hx k1
      refine ⟨.string (strOf ns), w, ?_, To.stay h rfl⟩
      rcases hcase with ⟨rfl, rfl⟩ | ⟨ad, c, vs, rfl, h1, h2, h3⟩
      · rw [run_convert_bytes_string w a b e none 0 0 (sliceT_under he) h8 hs]
        simp only [bytesA, Option.some.injEq] at k4
        subst k4
        rfl
      · rw [run_convert_bytes_string w a b e (some ad) l.length c (sliceT_under he) h8 hs]
        obtain ⟨rfl, hl⟩ := bytesA_ok l ns vs k4 h1
        rw [run_bytesToString w ad l.length c ns]
        · rw [foldl_strOf]; simp [strOf]
        · have := run_loadCells_list (P := P) w ad (ns.map (Value.int .u8)) (fun j v hj => h2 j v hj)
          simpa [hl] using this
    · simp [RW.run] at hr
  · simp [RW.run] at hr
end Go.Proofs.YtmekfllddifglaaDoor.AM

/- The abstract machine, part p: one operation that is no call of a function. Conditions: none. -/
set_option linter.unusedVariables false
set_option linter.unusedSimpArgs false
namespace Go.Proofs.YtmekfllddifglaaDoor.AM
open Go

def aAssign (d : Nat) (x : AV) : RW AV := match x with
  | .own r p ver lo hi => if lo = 0 ∧ ver ≠ 0 ∧ ¬ (r = d ∧ p = []) then .get r fun s => match s.live p ver with
      | some (.arr _ false _ _ _) => mvOb r p ver hi d []
      | _ => .ret (.own r p ver lo hi)
    else .ret (.own r p ver lo hi)
  | x => .ret x

def aNilCheck (x : AV) : RW AV := match x with
  | .ref l => .ret (.ref l)
  | .clo f a b => .ret (.clo f a b)
  | .ifc t y => .ret (.ifc t y)
  | .loc r p ver off => (isLive (.loc r p ver off)).bind fun _ => .ret (.loc r p ver off)
  | .elt r p ver i off => (isLive (.elt r p ver i off)).bind fun _ => .ret (.elt r p ver i off)
  | _ => .fail

def aAssert (P : Program) (x : AV) (asserted : TypeId) (ok : Bool) : Option AV := match x with
  | .ifc t y => if concreteT P asserted then
      (if t = asserted then some (if ok then .tup [y, .v (.bool true)] else y)
       else if ok then match (P.info? asserted).bind (·.zero) with
         | some z => some (.tup [ofV1 z, .v (.bool false)])
         | none => none
       else none)
    else none
  | _ => none

def aBin (P : Program) (op : BinOp) (t : TypeId) (x : AV) (y : AV) : RW AV := match y with
  | .v z => if nilKind P t z then (match op with
      | .eql => (nilEq x z).bind fun b => .ret (.v (.bool b))
      | .neq => (nilEq x z).bind fun b => .ret (.v (.bool (!b)))
      | _ => .fail) else .fail
  | _ => .fail

def aIndex1 (P : Program) (t : TypeId) (x i : AV) : Option AV := match x, i, arrT P t with
  | .agg l, .v (.int _ n), some (len, e) => match szT P e with
    | some sz => if 0 ≤ n ∧ n < (len : Int) ∧ n.toNat * sz ≤ l.length then pickT P e (l.drop (n.toNat * sz)) else none
    | none => none
  | _, _, _ => none

def isCall (o : Oper) : Bool := match o.op with
  | .call c => match c.callee with
    | .builtin _ => false
    | _ => true
  | _ => false

def aBuiltin (P : Program) (d : Nat) (o : Oper) (c : Call) (ρ : Operand → AV) : RW AV := match c.callee with
  | .builtin b => match b, c.args.toList, c.argTypes.toList with
    | .len, [x], [t] => if (conc (ρ x)).isSome then RW.ofO (aStill P o ρ) else aLen P t (ρ x)
    | .append, [s, x], [t, t'] => if t = t' then aAppend P d t (ρ s) (ρ x) else .fail
    | .max, _, _ => RW.ofO (aStill P o ρ)
    | .min, _, _ => RW.ofO (aStill P o ρ)
    | _, _, _ => .fail
  | _ => .fail

/-- One operation, d the place of what it makes. -/
def aop (P : Program) (d : Nat) (o : Oper) (ρ : Operand → AV) : RW AV := match o.op with
  | .move x => .ret (ρ x)
  | .assign x => aAssign d (ρ x)
  | .pick c a b => match ρ c with
    | .v (.bool t) => .ret (if t then ρ a else ρ b)
    | _ => .fail
  | .alloc t => aAlloc P d t
  | .box _ x => aBox d (ρ x)
  | .build t ps => aBuild P t (ps.toList.map fun q => (q.1, ρ q.2))
  | .buildSlice t n ps => aBuildSlice P d t n (ps.toList.map (·.1)) (ps.toList.map fun q => ρ q.2)
  | .load t x => aLoad P t (ρ x)
  | .store t a x => (aStore P t (ρ a) (ρ x)).bind fun _ => .ret .dead
  | .nilCheck x => aNilCheck (ρ x)
  | .binOp op t x y _ => if (conc (ρ x)).isSome && (conc (ρ y)).isSome then RW.ofO (aStill P o ρ) else aBin P op t (ρ x) (ρ y)
  | .makeInterface t x => if concreteT P t then .ret (.ifc t (ρ x)) else .fail
  | .makeFunc (.func f) a b => .ret (.clo f (a.toList.map ρ) (b.toList.map ρ))
  | .makeSlice t l c => aMakeSlice P d t (ρ l) (ρ c)
  | .slice t x lo hi mx => if (conc (ρ x)).isSome then RW.ofO (aStill P o ρ) else aSlice P t (ρ x) (lo.map ρ) (hi.map ρ) (mx.map ρ)
  | .fieldAddr t x f => aField P t f (ρ x)
  | .field t x f => RW.ofO (aField1 P t f (ρ x))
  | .indexAddr t x i => aIndex P t (ρ x) (ρ i)
  | .index t x i => if (conc (ρ x)).isSome then RW.ofO (aStill P o ρ) else RW.ofO (aIndex1 P t (ρ x) (ρ i))
  | .extract x i => match ρ x with
    | .tup l => RW.ofO l[i]?
    | _ => .fail
  | .typeAssert x t a ok => if (conc (ρ x)).isSome then RW.ofO (aStill P o ρ) else RW.ofO (aAssert P (ρ x) a ok)
  | .call c => aBuiltin P d o c ρ
  | .unOp _ _ _ => RW.ofO (aStill P o ρ)
  | .convert a b x => if (conc (ρ x)).isSome then RW.ofO (aStill P o ρ) else aBytesStr P a b (ρ x)
  | .makeMap t none => newMp d t
  | .lookup t x k ok => aLookup P t (ρ x) (ρ k) ok
  | .mapUpdate t x k v => (aMapUpd P t (ρ x) (ρ k) (ρ v)).bind fun _ => .ret .dead
  | _ => .fail

/-- What an operation comes to. -/
def Outs (P : Program) (s : Sem Next) (w : World) (u : Value) (w' : World) : Prop := s.run P w = .ok (.value u) w' ∨ (s.run P w = .ok .skip w' ∧ u = undef)
def GoodN (P : Program) (C : Ctx) (S : Subs) (γ : Gh) (imm : Nat → Prop) (w : World) (m : RW AV) (s : Sem Next) : Prop :=
  ∀ x S', m.run S = some (x, S') → ∃ u w', Outs P s w u w' ∧ To C S γ imm w S' w' (fun γ' imm' => VRel S' γ' imm' w' x u)

theorem GoodN.of_v {P : Program} {C : Ctx} {S : Subs} {γ : Gh} {imm : Nat → Prop} {w : World} {m : RW AV} {s : Sem Value} {s' : Sem Next} (h : GoodV P C S γ imm w m s) (e : s' = (do pure (.value (← s)))) : GoodN P C S γ imm w m s' := by
  intro x S' hr
  obtain ⟨u, w', h1, h2⟩ := h x S' hr
  exact ⟨u, w', .inl (by rw [e]; simp [h1]), h2⟩

theorem VRels_map {S : Subs} {γ : Gh} {imm : Nat → Prop} {w : World} {α : Type} {ρ : α → AV} {η : α → Value} (h : ∀ x, VRel S γ imm w (ρ x) (η x)) (l : List α) : VRels S γ imm w (l.map ρ) (l.map η) := by
  induction l with
  | nil => rfl
  | cons x l ih => exact ⟨η x, l.map η, rfl, h x, ih⟩

theorem GoodN.ret {P : Program} {C : Ctx} {S : Subs} {γ : Gh} {imm : Nat → Prop} {w : World} (h : Inv C S γ imm w) {x : AV} {s : Sem Next} {u : Value} (hs : s.run P w = .ok (.value u) w) (hx : VRel S γ imm w x u) : GoodN P C S γ imm w (.ret x) s := by
  intro y S' hr
  simp only [RW.run, Option.some.injEq, Prod.mk.injEq] at hr
  obtain ⟨rfl, rfl⟩ := hr
  exact ⟨u, w, .inl hs, To.stay h hx⟩
theorem GoodN.fail {P : Program} {C : Ctx} {S : Subs} {γ : Gh} {imm : Nat → Prop} {w : World} {s : Sem Next} : GoodN P C S γ imm w .fail s := by intro y S' hr; simp [RW.run] at hr
theorem GoodN.ofO {P : Program} {C : Ctx} {S : Subs} {γ : Gh} {imm : Nat → Prop} {w : World} (h : Inv C S γ imm w) {x : Option AV} {s : Sem Next} (hs : ∀ y, x = some y → ∃ u, s.run P w = .ok (.value u) w ∧ VRel S γ imm w y u) : GoodN P C S γ imm w (RW.ofO x) s := by
  intro y S' hr
  obtain ⟨e, rfl⟩ := RW.run_ofO hr
  obtain ⟨u, h1, h2⟩ := hs y e
  exact ⟨u, w, .inl h1, To.stay h h2⟩
theorem GoodN.ofW {P : Program} {C : Ctx} {S : Subs} {γ : Gh} {imm : Nat → Prop} {w : World} {m : RW AV} {s : Sem Next} {u : Value} (hs : s.run P w = .ok (.value u) w) (h : GoodW C S γ imm w m (fun y S' γ' imm' => VRel S' γ' imm' w y u)) : GoodN P C S γ imm w m s := by
  intro y S' hr
  exact ⟨u, w, .inl hs, h y S' hr⟩

theorem assign_good {C : Ctx} {S : Subs} {γ : Gh} {imm : Nat → Prop} {w : World} (h : Inv C S γ imm w) (d : Nat) {x : AV} {u : Value} (hx : VRel S γ imm w x u) : GoodW C S γ imm w (aAssign d x) (fun y S' γ' imm' => VRel S' γ' imm' w y u) := by
  cases x with
  | own r p ver lo hi =>
    simp only [aAssign]
    split
    · rename_i hc
      obtain ⟨rfl, _⟩ := hc
      refine GoodW.get ?_
      split
      · exact mv_good h hx d []
      · exact GoodW.ret h hx
    · exact GoodW.ret h hx
  | _ => exact GoodW.ret h hx

theorem zero_of {P : Program} {t : TypeId} {z : Value} (h : (P.info? t).bind (·.zero) = some z) (w : World) : (zeroValue t).run P w = .ok z w := by
  obtain ⟨i, hi, hz⟩ := Option.bind_eq_some_iff.1 h
  simp [zeroValue, typeInfo, hi, hz]

theorem assert_ok {P : Program} {S : Subs} {γ : Gh} {imm : Nat → Prop} {w : World} {x y : AV} {u : Value} {xt a : TypeId} {ok : Bool} (hx : VRel S γ imm w x u) (h : aAssert P x a ok = some y) :
    ∃ v, (Instr.typeAssert u xt a ok).run P w = .ok v w ∧ VRel S γ imm w y v := by
  cases x with
  | ifc t z =>
    simp only [aAssert] at h
    split at h
    · rename_i hc
      obtain ⟨v, rfl, hv⟩ := hx
      unfold concreteT at hc
      split at hc
      · cases hc
      · rename_i d hne hd
        have hrun : (Instr.typeAssert (.iface t v) xt a ok).run P w = if t = a then .ok (if ok then .tuple #[v, .bool true] else v) w else (if ok then ((zeroValue a).run P w).andThen fun z w => .ok (.tuple #[z, .bool false]) w else (Instr.typeAssert (.iface t v) xt a ok).run P w) := by
          by_cases hta : t = a
          · subst hta
            cases d with
            | interface ms => exact (hne ms rfl).elim
            | _ => cases ok <;> simp [Instr.typeAssert, run_underlying hd]
          · rw [if_neg hta]
            cases ok with
            | false => rfl
            | true =>
              cases d with
              | interface ms => exact (hne ms rfl).elim
              | _ => simp [Instr.typeAssert, run_underlying hd, hta]
        split at h
        · rename_i e
          subst e
          simp only [Option.some.injEq] at h
          subst h
          rw [if_pos rfl] at hrun
          refine ⟨_, hrun, ?_⟩
          cases ok with
          | true => exact ⟨[v, .bool true], rfl, v, [.bool true], rfl, hv, .bool true, [], rfl, rfl, rfl⟩
          | false => exact hv
        · rename_i hta
          split at h
          · rename_i hok
            split at h
            · rename_i z hz
              simp only [Option.some.injEq] at h
              subst h
              rw [if_neg hta, hok, if_pos rfl, zero_of hz] at hrun
              refine ⟨.tuple #[z, .bool false], by rw [hok]; exact hrun, [z, .bool false], rfl, z, [.bool false], rfl, ofV1_ok z, .bool false, [], rfl, rfl, rfl⟩
            · cases h
          · cases h
      · cases hc
    · cases h
  | _ => simp [aAssert] at h
end Go.Proofs.YtmekfllddifglaaDoor.AM

/- The abstract machine, part q: one operation that is no call is sound. Conditions: none. -/
set_option linter.unusedVariables false
set_option linter.unusedSimpArgs false
namespace Go.Proofs.YtmekfllddifglaaDoor.AM
open Go

section
variable {P : Program} {C : Ctx} {S : Subs} {γ : Gh} {imm : Nat → Prop} {w : World}

theorem nilCheck_good (h : Inv C S γ imm w) {x : AV} {u : Value} (hx : VRel S γ imm w x u) {η : Operand → Value} {o : Oper} {ox : Operand} (ho : o.op = .nilCheck ox) (hu : η ox = u) :
    GoodN P C S γ imm w (aNilCheck x) (execOp η o) := by
  have hlv : ∀ (z : AV) , VRel S γ imm w z u → (∀ k1, (isLive z).run S = some ((), k1) → ∃ a, u = .pointer (some a)) → GoodN P C S γ imm w ((isLive z).bind fun _ => .ret z) (execOp η o) := by
    intro z hz hp y S' hr
    rw [RW.run_bind] at hr
    obtain ⟨⟨_, S1⟩, k1, k2⟩ := Option.bind_eq_some_iff.1 hr
    obtain ⟨a, rfl⟩ := hp S1 k1
    have e1 := isLive_run k1
    subst e1
    simp only [RW.run, Option.some.injEq, Prod.mk.injEq] at k2
    obtain ⟨rfl, rfl⟩ := k2
    exact ⟨_, w, .inl (by simp [execOp, ho, hu]), To.stay h hz⟩
  cases x with
  | ref l =>
    obtain ⟨b, o', rfl, hc⟩ := hx
    exact GoodN.ret h (u := .pointer (some ⟨b, o', none⟩)) (by simp [execOp, ho, hu]) ⟨b, o', rfl, hc⟩
  | clo f fs cs =>
    obtain ⟨us, vs, rfl, h1, h2⟩ := hx
    exact GoodN.ret h (u := .func (.func f) us.toArray vs.toArray) (by simp [execOp, ho, hu]) ⟨us, vs, rfl, h1, h2⟩
  | ifc t y =>
    obtain ⟨v, rfl, h1⟩ := hx
    exact GoodN.ret h (u := .iface t v) (by simp [execOp, ho, hu]) ⟨v, rfl, h1⟩
  | loc r p ver off =>
    refine hlv _ hx fun k1 hk => ?_
    simp only [isLive, RW.run] at hk
    split at hk
    · rename_i hl
      obtain ⟨b, hg, rfl⟩ := hx.2 _ hl
      exact ⟨_, rfl⟩
    · simp [RW.run] at hk
  | elt r p ver i off =>
    refine hlv _ hx fun k1 hk => ?_
    simp only [isLive, RW.run] at hk
    split at hk
    · rename_i hl
      obtain ⟨sz', n, b, cap, hs, hi, hg, rfl⟩ := hx.2 _ hl
      exact ⟨_, rfl⟩
    · simp [RW.run] at hk
  | _ => exact GoodN.fail

theorem bin_good (h : Inv C S γ imm w) {x y : AV} {u v : Value} (hx : VRel S γ imm w x u) (hy : VRel S γ imm w y v) {η : Operand → Value} {o : Oper} {op : BinOp} {t yt : TypeId} {ox oy : Operand} (ho : o.op = .binOp op t ox oy yt) (hu : η ox = u) (hv : η oy = v) :
    GoodN P C S γ imm w (aBin P op t x y) (execOp η o) := by
  unfold aBin
  split
  · rename_i z
    obtain rfl : v = z := hy
    split
    · rename_i hk
      have main : ∀ b S', (nilEq x v).run S = some (b, S') → S' = S ∧ (execOp η o).run P w = (match op with | .eql => .ok (.value (.bool b)) w | .neq => .ok (.value (.bool (!b))) w | _ => (execOp η o).run P w) := by
        intro b S' hb
        obtain ⟨e, he, n1, n2, n3, n4, n5, n6⟩ := nilEq_good h t hx hk b S' hb
        refine ⟨e, ?_⟩
        have hguard : ∀ op', (eqGuard op' t ox oy u v).run P w = .ok () w := by
          intro op'
          cases op' <;> first
            | rfl
            | (cases u with
              | agg cs => exact absurd rfl (n1 cs)
              | nilIface => exact absurd rfl n2
              | _ => rfl)
        have hbin : (binOp .eql t u v).run P w = .ok (.bool b) w ∧ (binOp .neq t u v).run P w = .ok (.bool (!b)) w := by
          cases u with
          | int k n => exact absurd rfl (n3 k n)
          | float k n => exact absurd rfl (n4 k n)
          | string s => exact absurd rfl (n5 s)
          | complex k a c => exact absurd rfl (n6 k a c)
          | _ => constructor <;> simp [binOp, he]
        cases op <;> first
          | (simp only [execOp, ho, hu, hv, Sem.run_bind, hguard, Result.andThen_ok, hbin.1]; rfl)
          | (simp only [execOp, ho, hu, hv, Sem.run_bind, hguard, Result.andThen_ok, hbin.2]; rfl)
          | rfl
      split
      · intro y' S' hr
        rw [RW.run_bind] at hr
        obtain ⟨⟨b, S1⟩, k1, k2⟩ := Option.bind_eq_some_iff.1 hr
        obtain ⟨rfl, hm⟩ := main b S1 k1
        simp only [RW.run, Option.some.injEq, Prod.mk.injEq] at k2
        obtain ⟨rfl, rfl⟩ := k2
        exact ⟨_, w, .inl hm, To.stay h rfl⟩
      · intro y' S' hr
        rw [RW.run_bind] at hr
        obtain ⟨⟨b, S1⟩, k1, k2⟩ := Option.bind_eq_some_iff.1 hr
        obtain ⟨rfl, hm⟩ := main b S1 k1
        simp only [RW.run, Option.some.injEq, Prod.mk.injEq] at k2
        obtain ⟨rfl, rfl⟩ := k2
        exact ⟨_, w, .inl hm, To.stay h rfl⟩
      · exact GoodN.fail
    · exact GoodN.fail
  · exact GoodN.fail

theorem index1_ok {t : TypeId} {x i y : AV} {u ui : Value} (hx : VRel S γ imm w x u) (hi : VRel S γ imm w i ui) (h : aIndex1 P t x i = some y) :
    ∃ v, (Instr.index t u ui).run P w = .ok v w ∧ VRel S γ imm w y v := by
  unfold aIndex1 at h
  split at h
  · rename_i l k n len e ha
    split at h
    · rename_i sz hsz
      split at h
      · rename_i hc
        obtain ⟨h0, hn, hle⟩ := hc
        obtain ⟨us, rfl, hv⟩ := hx
        obtain rfl : ui = .int k n := hi
        have hu : P.underlying t = some (.array len e) := by
          unfold arrT at ha
          split at ha
          · simp only [Option.some.injEq, Prod.mk.injEq] at ha
            obtain ⟨rfl, rfl⟩ := ha
            assumption
          · cases ha
        obtain ⟨v, h1, h2⟩ := part_ok (P := P) (t := e) hv hle h
        exact ⟨v, by simp [Instr.index, asIntOf, run_underlying hu, h0, hn, run_sizeOf hsz, h1], h2⟩
      · cases h
    · cases h
  · cases h

/-- **One operation that is no call of a function.** -/
theorem aop_good (h : Inv C S γ imm w) (d : Nat) (o : Oper) {ρ : Operand → AV} {η : Operand → Value} (hρ : ∀ x, VRel S γ imm w (ρ x) (η x)) : GoodN P C S γ imm w (aop P d o ρ) (execOp η o) := by
  have hst : (∀ cs b, o.op ≠ .select cs b) → GoodN P C S γ imm w (RW.ofO (aStill P o ρ)) (execOp η o) := fun hs => GoodN.ofO h fun y hy => still_good hs hρ hy
  unfold aop
  cases ho : o.op with
  | move x =>
    simp only []
    exact GoodN.ret h (by simp [execOp, ho]) (hρ x)
  | assign x =>
    simp only []
    exact GoodN.ofW (by simp [execOp, ho]) (assign_good h d (hρ x))
  | pick c a b =>
    simp only []
    split
    · rename_i t hc
      have hcv := hρ c
      rw [hc] at hcv
      have hcv' : η c = .bool t := hcv
      cases t with
      | true => exact GoodN.ret h (u := η a) (by simp [execOp, ho, hcv', asBool]) (by simpa using hρ a)
      | false => exact GoodN.ret h (u := η b) (by simp [execOp, ho, hcv', asBool]) (by simpa using hρ b)
    · exact GoodN.fail
  | alloc t =>
    simp only []
    exact GoodN.of_v (alloc_good h d t) (by simp [execOp, ho])
  | box t x =>
    simp only []
    exact GoodN.of_v (box_good h d t (hρ x)) (by simp [execOp, ho])
  | build t ps =>
    simp only []
    exact GoodN.of_v (build_good (qs := ps.map fun (i, x) => (i, η x)) h t (by simp) (by simpa [Function.comp_def] using VRels_map (fun (q : Nat × Operand) => hρ q.2) ps.toList)) (by simp [execOp, ho])
  | buildSlice t n ps =>
    simp only []
    exact GoodN.of_v (buildSlice_good (qs := ps.map fun (i, x) => (i, η x)) h d t n (by simp) (by simpa [Function.comp_def] using VRels_map (fun (q : Nat × Operand) => hρ q.2) ps.toList)) (by simp [execOp, ho])
  | load t x =>
    simp only []
    exact GoodN.of_v (good_load h t (hρ x)) (by simp [execOp, ho])
  | store t a x =>
    simp only []
    intro y S' hr
    rw [RW.run_bind] at hr
    obtain ⟨⟨_, S1⟩, k1, k2⟩ := Option.bind_eq_some_iff.1 hr
    simp only [RW.run, Option.some.injEq, Prod.mk.injEq] at k2
    obtain ⟨rfl, rfl⟩ := k2
    obtain ⟨w', h1, γ', imm', g1, g2, g3, g4, _⟩ := store_good h t (hρ a) (hρ x) _ _ k1
    exact ⟨undef, w', .inr ⟨by simp [execOp, ho, h1], rfl⟩, γ', imm', g1, g2, g3, g4, trivial⟩
  | nilCheck x =>
    simp only []
    exact nilCheck_good h (hρ x) ho rfl
  | binOp op t x y yt =>
    simp only []
    split
    · exact hst (fun cs b => by rw [ho]; simp)
    · exact bin_good h (hρ x) (hρ y) ho rfl rfl
  | makeInterface t x =>
    simp only []
    split
    · rename_i hc
      exact GoodN.ret h (u := .iface t (η x)) (by simp [execOp, ho, run_mkIface hc]) ⟨η x, rfl, hρ x⟩
    · exact GoodN.fail
  | makeFunc fn a b =>
    cases fn with
    | func f =>
      exact GoodN.ret h (u := .func (.func f) (a.map η) (b.map η)) (by simp [execOp, ho, Instr.makeFunc]) ⟨a.toList.map η, b.toList.map η, by congr 1 <;> (apply Array.ext'; simp), VRels_map hρ _, VRels_map hρ _⟩
    | _ => exact GoodN.fail
  | makeSlice t l c =>
    simp only []
    exact GoodN.of_v (makeSlice_good h d t (hρ l) (hρ c)) (by simp [execOp, ho])
  | slice t x lo hi mx =>
    simp only []
    split
    · exact hst (fun cs b => by rw [ho]; simp)
    · refine GoodN.of_v (slice_good (ulo := lo.map η) (uhi := hi.map η) (umx := mx.map η) h t (hρ x) ?_ ?_ ?_ ?_ ?_ ?_) (by simp [execOp, ho])
      · intro y hy; obtain ⟨z, rfl, rfl⟩ := Option.map_eq_some_iff.1 hy; exact ⟨η z, rfl, hρ z⟩
      · intro e; rw [Option.map_eq_none_iff] at e ⊢; exact e
      · intro y hy; obtain ⟨z, rfl, rfl⟩ := Option.map_eq_some_iff.1 hy; exact ⟨η z, rfl, hρ z⟩
      · intro e; rw [Option.map_eq_none_iff] at e ⊢; exact e
      · intro y hy; obtain ⟨z, rfl, rfl⟩ := Option.map_eq_some_iff.1 hy; exact ⟨η z, rfl, hρ z⟩
      · intro e; rw [Option.map_eq_none_iff] at e ⊢; exact e
  | fieldAddr t x f =>
    simp only []
    exact GoodN.of_v (fieldAddr_good h t f (hρ x)) (by simp [execOp, ho])
  | field t x f =>
    simp only []
    refine GoodN.ofO h fun y hy => ?_
    unfold aField1 at hy
    split at hy
    · rename_i l fs hl hfs
      split at hy
      · rename_i fd hfd
        split at hy
        · rename_i hle
          have hx := hρ x
          rw [hl] at hx
          obtain ⟨us, hus, hv⟩ := hx
          obtain ⟨u, h1, h2⟩ := part_ok (P := P) (t := fd.type) hv hle hy
          refine ⟨u, ?_, h2⟩
          simp [execOp, ho, Instr.field, run_underlying hfs, hfd, hus, asAgg, h1]
        · cases hy
      · cases hy
    · cases hy
  | indexAddr t x i =>
    simp only []
    exact GoodN.of_v (indexAddr_good h t (hρ x) (hρ i)) (by simp [execOp, ho])
  | index t x i =>
    simp only []
    split
    · exact hst (fun cs b => by rw [ho]; simp)
    · refine GoodN.ofO h fun y hy => ?_
      obtain ⟨v, h1, h2⟩ := index1_ok (hρ x) (hρ i) hy
      exact ⟨v, by simp [execOp, ho, h1], h2⟩
  | extract x i =>
    simp only []
    split
    · rename_i l hl
      refine GoodN.ofO h fun y hy => ?_
      have hx := hρ x
      rw [hl] at hx
      obtain ⟨us, hus, hv⟩ := hx
      obtain ⟨hi, rfl⟩ := List.getElem?_eq_some_iff.1 hy
      have hlen := VRels_length hv
      refine ⟨us[i]'(by omega), ?_, VRels_get hv i hi (by omega)⟩
      have hget : us[i]? = some (us[i]'(by omega)) := by simp [hlen, hi]
      simp [execOp, ho, Instr.extract, hus, hget]
    · exact GoodN.fail
  | typeAssert x t a ok =>
    simp only []
    split
    · exact hst (fun cs b => by rw [ho]; simp)
    · refine GoodN.ofO h fun y hy => ?_
      obtain ⟨v, h1, h2⟩ := assert_ok (xt := t) (hρ x) hy
      exact ⟨v, by simp [execOp, ho, h1], h2⟩
  | call c =>
    simp only []
    obtain ⟨callee, args, argTypes⟩ := c
    cases callee with
    | builtin b =>
      simp only [aBuiltin]
      split
      · rename_i _ _ _ x t e1 e2
        obtain rfl : args = #[x] := Array.ext' e1
        obtain rfl : argTypes = #[t] := Array.ext' e2
        split
        · exact hst (fun cs b => by rw [ho]; simp)
        · exact GoodN.of_v (len_good h t o.type (hρ x)) (by simp [execOp, ho, resolve, invoke, builtin])
      · rename_i _ _ _ s x t t' e1 e2
        obtain rfl : args = #[s, x] := Array.ext' e1
        obtain rfl : argTypes = #[t, t'] := Array.ext' e2
        split
        · rename_i e
          subst e
          exact GoodN.of_v (append_good h d t o.type (hρ s) (hρ x)) (by simp [execOp, ho, resolve, invoke, builtin])
        · exact GoodN.fail
      · exact hst (fun cs b => by rw [ho]; simp)
      · exact hst (fun cs b => by rw [ho]; simp)
      · exact GoodN.fail
    | _ => exact GoodN.fail
  | unOp _ _ _ => exact hst (fun cs b => by rw [ho]; simp)
  | convert a b x =>
    simp only []
    split
    · exact hst (fun cs b => by rw [ho]; simp)
    · exact GoodN.of_v (bytesStr_good h a b (hρ x)) (by simp [execOp, ho])
  | makeMap t n =>
    cases n with
    | none => exact GoodN.of_v (newMp_good h d t) (by simp [execOp, ho])
    | some n => exact GoodN.fail
  | lookup t x k ok =>
    simp only []
    exact GoodN.of_v (lookup_good h t (hρ x) (hρ k) ok) (by simp [execOp, ho])
  | mapUpdate t x k v =>
    simp only []
    intro y S' hr
    rw [RW.run_bind] at hr
    obtain ⟨⟨_, S1⟩, k1, k2⟩ := Option.bind_eq_some_iff.1 hr
    simp only [RW.run, Option.some.injEq, Prod.mk.injEq] at k2
    obtain ⟨rfl, rfl⟩ := k2
    obtain ⟨w', h1, γ', imm', g1, g2, g3, g4, _⟩ := mapUpd_good h t (hρ x) (hρ k) (hρ v) _ _ k1
    exact ⟨undef, w', .inr ⟨by simp [execOp, ho, h1], rfl⟩, γ', imm', g1, g2, g3, g4, trivial⟩
  | _ => exact GoodN.fail
end
end Go.Proofs.YtmekfllddifglaaDoor.AM
