/- The relax seat: Sb, Se, Sg, Sf, Sn, So, Sp, Sq, Tb. Conditions: none. -/
import Derived.Test.YtmekfllddifglaaDoorP15
import Derived.Test.YtmekfllddifglaaDoorP12
import Derived.Test.YtmekfllddifglaaDoorP14
import Derived.WalkKit
import Derived.LaidEql
import Derived.Stop.Asserts
import Derived.RowKitTokens
import Derived.OneCell
import Derived.Test.YtmekfllddifglaaDoorTie
import Derived.ChangeSame
import Derived.ChangeVars
import Derived.ReadAgain
import Derived.LaidLaws
import Derived.LaidHandle
import Derived.OpenShut
import Derived.Deep.DeepHandedRow
set_option linter.unusedVariables false
set_option linter.unusedSimpArgs false
/- The relax seat: what a fault is, as the document tells it. Conditions: none. -/
set_option linter.unusedVariables false
set_option linter.unusedSimpArgs false
set_option maxRecDepth 10000
namespace Go.Proofs.YtmekfllddifglaaDoor.AM
open Go
variable (G : Gl) (N : Nats) (k : Nat)
/-- What errors.Is answers. -/
structure Nats.Ok2 (N : Nats) : Prop where
  isOk : ∀ (G : Gl) (k : Nat) (a b c d : Int), rn (DR G N) (k + 1) 34 [.ifc 67 (.ref [.v (.int .i64 a), .v (.int .i64 b), .ifc 87 (.v (.int .i64 c))]), .ifc 87 (.v (.int .i64 d))] [[], []] = some (.v (.bool (decide (c = d))), [[], []])
theorem faultN_rn : rn (DR G N) (k + 2) 17 [.v .nilIface] [[]] = some (fltA (0, 0, 0), [[]]) := by
  rw [run17]
  simp -implicitDefEqProofs [Tryd.f17, endF, argsIn, subsIn, fltA]
def st17 (f : Flt) (c : Int) : St :=
  ⟨[.dead, .dead, .loc 2 [] 1 0, .loc 3 [] 1 0, .v (.int .i64 c)] ++ List.replicate 32 .dead, [[], [], [([], (1, some (.box false [.v (.int .i64 0), .v (.int .i64 0), .v (.int .i64 0)])))], [([], (1, some (.box false [.ref [.v (.int .i64 f.1), .v (.int .i64 f.2.1), .ifc 87 (.v (.int .i64 f.2.2))]])))]] ++ List.replicate 33 []⟩
set_option maxHeartbeats 2000000 in
theorem faultE_rn (ok : N.Ok) (ok2 : N.Ok2) (f : Flt) (h1 : 1 ≤ f.2.2) (h2 : f.2.2 ≤ 16) : rn (DR G N) (k + 3) 17 [errA f.1 f.2.1 f.2.2] [[]] = some (fltA f, [[]]) := by
  rw [run17]
  have asR : ∀ fc x, rn (DR G N) (k + 2) 24 [.ifc 67 (.ref fc), .ifc 69 (.loc 1 [] 0 0)] [[], [([], (0, some (.box false [x])))]] = some (.v (.bool true), [[], [([], (0, some (.box false [.ref fc])))]]) := ok.asOk G (k + 1)
  have isR : ∀ a b c d : Int, rn (DR G N) (k + 2) 34 [.ifc 67 (.ref [.v (.int .i64 a), .v (.int .i64 b), .ifc 87 (.v (.int .i64 c))]), .ifc 87 (.v (.int .i64 d))] [[], []] = some (.v (.bool (decide (c = d))), [[], []]) := ok2.isOk G (k + 1)
  simp -implicitDefEqProofs [Tryd.f17, endF, argsIn, subsIn, errA, subIn, subOut, keyIn, φin, φout, who, strip, live, asR, acode_loop]
  refine aloop_nat (Q := fun r => finF _ _ _ (thenA (blockA r 0) _) = _) (I := fun m st => ∃ c : Int, 1 ≤ c ∧ c ≤ f.2.2 ∧ c + m = 17 ∧ i17.hints.nm 0 st = some (st17 f c)) ?_ 16 _ ⟨1, by omega, h1, by omega, by simp -implicitDefEqProofs [NormD.run, norm, st17, List.lookup]⟩
  rintro m st ⟨c, c1, c2, c3, hst⟩ K hK
  rw [hst]
  have c4 : c ≤ 16 := by omega
  by_cases hc : f.2.2 = c
  · simp -implicitDefEqProofs [st17, endF, argsIn, subsIn, isR, c4, hc, fltA, drawD_nil, setAll, cellAV]
  · have hw := wrapI64 (x := c + 1) (by omega) (by omega)
    simp -implicitDefEqProofs [st17, endF, argsIn, subsIn, isR, c4, hc, hw]
    refine hK (m - 1) _ (by omega) ⟨c + 1, by omega, by omega, by omega, ?_⟩
    simp -implicitDefEqProofs [NormD.run, norm, st17, List.lookup]
end Go.Proofs.YtmekfllddifglaaDoor.AM

/- The relax seat: faults held against one another; the first answers. Conditions: none. -/
set_option linter.unusedVariables false
set_option linter.unusedSimpArgs false
set_option maxRecDepth 10000
namespace Go.Proofs.YtmekfllddifglaaDoor.AM
open Go
theorem und52 : Tryd.prog.underlying 52 = some (.struct #[{ name := "Line", type := 3, offset := 0, embedded := false, tag := "", pkgPath := "", byteOffset := 0 }, { name := "Col", type := 3, offset := 1, embedded := false, tag := "", pkgPath := "", byteOffset := 8 }, { name := "Code", type := 3, offset := 2, embedded := false, tag := "", pkgPath := "", byteOffset := 16 }]) := by kernel_rfl
theorem und3 : Tryd.prog.underlying 3 = some (.int .i64) := by kernel_rfl
theorem guard52 : Tryd.prog.eqGuardType Tryd.prog.depth 52 = false := by kernel_rfl
theorem held52 : Tryd.prog.stoodInHeld 52 = false := by kernel_rfl
theorem still_program {α : Type} (P : Program) (f : Program → Sem α) : still P (.program f) = still P (f P) := rfl
theorem still_fmap {α β : Type} (P : Program) (f : α → β) (s : Sem α) : still P (f <$> s) = (still P s).map f := by
  rw [map_eq_pure_bind, still_bind]
  cases still P s <;> simp
theorem part3 (xs : Array Value) (i : Nat) (a : Int) (h : xs[i]? = some (Value.int .i64 a)) : still Tryd.prog (part 3 xs i) = some (Value.int .i64 a) := by
  simp [part, isAgg, still_under _ _ und3, h]
theorem equal3 (n : Nat) (a b : Int) : still Tryd.prog (Op.equalIn (n + 1) 3 (.int .i64 a) (.int .i64 b)) = some (a == b) := by
  simp [Op.equalIn, still_under _ _ und3]
theorem equal52 (n : Nat) (a b c a' b' c' : Int) : still Tryd.prog (Op.equalIn (n + 2) 52 (.agg #[.int .i64 a, .int .i64 b, .int .i64 c]) (.agg #[.int .i64 a', .int .i64 b', .int .i64 c'])) = some (decide (a = a' ∧ b = b' ∧ c = c')) := by
  rw [Op.equalIn]
  by_cases h1 : a = a' <;> by_cases h2 : b = b' <;> by_cases h3 : c = c' <;> simp [still_under _ _ und52, held52, program, still, part3, equal3, h1, h2, h3]
section
variable (x y : Operand) (S : Subs)
theorem step52 (u v : Value) : ∃ n, Op.equal 52 u v = Op.equalIn (n + 2) 52 u v := ⟨9998, rfl⟩
@[simp] theorem binA52_eql (a b c a' b' c' : Int) : binA Tryd.prog .eql 52 x y S (.agg [.v (.int .i64 a), .v (.int .i64 b), .v (.int .i64 c)]) (.agg [.v (.int .i64 a'), .v (.int .i64 b'), .v (.int .i64 c')]) = some (.v (.bool (decide (a = a' ∧ b = b' ∧ c = c'))), S) := by
  obtain ⟨n, hn⟩ := step52 (.agg #[.int .i64 a, .int .i64 b, .int .i64 c]) (.agg #[.int .i64 a', .int .i64 b', .int .i64 c'])
  simp only [binA, conc, concL, stillB, eqGuard, binOp, hn]
  simp [hn, still_fmap, equal52, guard52, program, still, ofV]
@[simp] theorem binA52_neq (a b c a' b' c' : Int) : binA Tryd.prog .neq 52 x y S (.agg [.v (.int .i64 a), .v (.int .i64 b), .v (.int .i64 c)]) (.agg [.v (.int .i64 a'), .v (.int .i64 b'), .v (.int .i64 c')]) = some (.v (.bool (!decide (a = a' ∧ b = b' ∧ c = c'))), S) := by
  obtain ⟨n, hn⟩ := step52 (.agg #[.int .i64 a, .int .i64 b, .int .i64 c]) (.agg #[.int .i64 a', .int .i64 b', .int .i64 c'])
  simp only [binA, conc, concL, stillB, eqGuard, binOp, hn]
  simp [hn, still_fmap, equal52, guard52, program, still, ofV]
end
end Go.Proofs.YtmekfllddifglaaDoor.AM

/- The relax seat: footprints of what builds lists and hands them on. Conditions: none. -/
set_option linter.unusedVariables false
set_option linter.unusedSimpArgs false
set_option maxRecDepth 10000
namespace Go.Proofs.YtmekfllddifglaaDoor.AM
open Go
theorem mapRW_flatA (n : Nat) : ∀ l : List AV, l.all flatA = true → ∃ ys, mapRW (pub (n + 2)) l = .ret ys
  | [], _ => ⟨[], rfl⟩
  | x :: l, h => by
    simp only [List.all_cons, Bool.and_eq_true] at h
    obtain ⟨y, hy⟩ := pub_flatA n x h.1
    obtain ⟨ys, hys⟩ := mapRW_flatA n l h.2
    exact ⟨y :: ys, by simp only [mapRW, hy, RW.bind, hys]⟩
section
variable (G : Gl) (P : Program) (T : Tbl) (sl : List AV) (S : Subs) (dst : Option Tmp) (ty : TypeId) (pos : String) (af : Array Edge) (gd : Option (Nat × Bool))
theorem fpC_buildSlice (t : TypeId) (n : Nat) (ps : Array (Nat × Operand)) (h1 : (ps.toList.map fun q => opd G sl q.2).all flatA = true)
    (h2 : ((aBuildSlice P (dst.getD 0) t n (ps.toList.map (·.1)) (ps.toList.map fun q => opd G sl q.2)).run S).isSome = true) :
    fpC G (carry P T) ⟨dst, .buildSlice t n ps, ty, pos, af, gd⟩ ⟨sl, S⟩ = ([dst.getD 0], [dst.getD 0]) := by
  unfold fpC
  simp only [carry, aop]
  obtain ⟨ys, hys⟩ := mapRW_flatA 2 _ h1
  unfold aBuildSlice at h2 ⊢
  cases hs : sliceT P t with
  | none => simp [hs] at h2
  | some e =>
    simp only [hs] at h2 ⊢
    cases he : elT P e with
    | none => simp [he] at h2
    | some q =>
      obtain ⟨sz, by_, z, zel⟩ := q
      simp only [he] at h2 ⊢
      split at h2
      · rename_i hn
        rw [if_pos hn]
        rw [hys] at h2 ⊢
        simp only [RW.bind] at h2 ⊢
        cases ha : setAll sz (List.replicate n zel) ((ps.toList.map (·.1)).zip ys) with
        | none => rw [ha] at h2; simp at h2
        | some el => rfl
      · simp at h2
theorem callOwn_reach (F : FnA) (r : Nat) (p : List Nat) (ver lo hi : Nat) (rest : List AV) (h : rest.all flatA = true) {nl fz : Bool} {sz : Nat} {e : TypeId} {el : List AV} (hl : (sub S r).live p ver = some (.arr nl fz sz e el)) : (aCall F [] (.own r p ver lo hi :: rest)).reach S = ([r], [r]) := by
  obtain ⟨ys, h1, h2⟩ := prepA_flat rest [] h
  have e0 : prepA [] (.own r p ver lo hi :: rest) = .get r fun s => ((match s.live p ver with
      | some (.arr nl _ sz e el) => .put r (s.put p (ver, some (.arr nl true sz e el))) (.ret (.sl nl ((el.take hi).drop lo)))
      | _ => .fail : RW AV).bind fun y => .ret ((y, none) :: ys)) := by
    simp only [prepA, List.headD_nil, Bool.false_eq_true, if_false, List.tail_nil, h1, RW.bind]
    rfl
  unfold aCall
  rw [e0]
  simp only [RW.bind, RW.reach, hl]
  have key : ∀ (x : AV) (S' : Subs), (RW.bind (gather ((x, none) :: ys)) fun qs => if (roots qs).Nodup then
    (match F (argsIn qs) (subsIn qs) with
    | some (res, Sc) => (putB qs Sc qs 0).bind fun _ => .ret res
    | none => .fail) else .fail).reach S' = ([], []) := by
    intro x S'
    obtain ⟨qs, g1, g2⟩ := gather_flat ((x, none) :: ys) (by simpa using h2)
    rw [g1]
    simp only [RW.bind]
    split
    · split
      · rename_i res Sc _
        rw [putB_flat qs Sc qs 0 g2]; rfl
      · rfl
    · rfl
  exact congrArg (fun x : FP => (r :: x.1, r :: x.2)) (key _ _)
def isArr : Option Ob → Bool
  | some (.arr _ _ _ _ _) => true
  | _ => false
@[simp] theorem isArr_some (nl fz : Bool) (sz : Nat) (e : TypeId) (el : List AV) : isArr (some (.arr nl fz sz e el)) = true := rfl
def fpArgs (S : Subs) : List AV → Option FP
  | .own r p ver lo hi :: rest => if rest.all flatA && isArr ((sub S r).live p ver) then some ([r], [r]) else none
  | _ => none
@[simp] theorem fpArgs_own (r : Nat) (p : List Nat) (ver lo hi : Nat) (rest : List AV) : fpArgs S (.own r p ver lo hi :: rest) = if rest.all flatA && isArr ((sub S r).live p ver) then some ([r], [r]) else none := rfl
theorem fpC_callOwn {g : FuncId} {F : FnA} (hT : T g = some ([], F)) (args : Array Operand) (ats : Array TypeId) {f : FP} (h : fpArgs S (args.toList.map (opd G sl)) = some f) :
    fpC G (carry P T) ⟨dst, .call ⟨.value (.func g), args, ats⟩, ty, pos, af, gd⟩ ⟨sl, S⟩ = f := by
  unfold fpC
  have ho : opd G sl (.func g) = .clo g [] [] := rfl
  simp only [carry, ho, hT, List.nil_append, List.append_nil]
  generalize args.toList.map (opd G sl) = l at h ⊢
  unfold fpArgs at h
  split at h
  · rename_i r p ver lo hi rest
    split at h
    · rename_i hc
      simp only [Bool.and_eq_true] at hc
      cases h
      obtain ⟨h1, h2⟩ := hc
      unfold isArr at h2
      split at h2
      · rename_i hl
        exact callOwn_reach S F r p ver lo hi rest h1 hl
      · cases h2
    · cases h
  · cases h
end
end Go.Proofs.YtmekfllddifglaaDoor.AM

/- The relax seat: the answers that the document fixes. Conditions: none. -/
set_option linter.unusedVariables false
set_option linter.unusedSimpArgs false
set_option maxRecDepth 10000
namespace Go.Proofs.YtmekfllddifglaaDoor.AM
open Go
variable (G : Gl) (N : Nats) (k : Nat)
@[simp] theorem plain_str (s : ByteArray) : plainAV (.v (.string s)) = true := rfl
@[simp] theorem plain_bool (s : Bool) : plainAV (.v (.bool s)) = true := rfl
theorem tbl_at {D : Desc} {f : FuncId} {i : FInfo} {fn : Func} (hi : D.info f = some i) (hn : ∀ T, D.nat T f = none) (hf : D.P.funcs[f]? = some fn) (k : Nat) : ∃ F, tbl D (k + 1) f = some (i.md, F) := by
  simp only [tbl, hi, hn, hf]
  exact ⟨_, rfl⟩
def xN : ByteArray := ⟨#[120]⟩
def jI : It := ⟨5, 0, 0, xN, 0, 0, 0, 0, 0, ByteArray.empty, 0, true, [], 0, true, true⟩
def bI (z : ByteArray) : It := ⟨9, 0, 0, z, 0, 0, 0, 0, 0, ByteArray.empty, 0, true, [], 0, false, false⟩
def hI : It := ⟨1, 0, 0, xN, 0, 0, 0, 0, 0, ByteArray.empty, 0, true, [], 0, false, false⟩
theorem wr64 (n : Int) (h0 : 0 ≤ n) (h1 : n < 18446744073709551616) : IntKind.wrap .u64 n = n := by simp [IntKind.wrap, IntKind.bits, IntKind.signed]; omega
theorem zsz (n : Nat) : (zeroS n).size = n := by simp [zeroS, strOf, ByteArray.size]
theorem awA (z : ByteArray) (hz : z.size = 2044) : layP [jI, bI z, hI] [] 0 3 (szP 0 [jI, bI z, hI] (List.replicate 3 0)) none 0 = some (.ok ⟨[2, 0, 0], [0, 2, 2046, 2046], [⟨xN, 2046, 1⟩], 1⟩) := by
  simp [layP, szP, placeQ, stepQ, bytesP, jI, bI, hI, It.grows, It.instr, classesP, grownP, labelsP, goalsP, hasN, tgtF, symF, hereF, growP, grow1, farP, reachesP, nextP, leastF, idxF, fitP, signP, endP, hz, IntKind.wrap, IntKind.bits, IntKind.signed]
theorem awB (z : ByteArray) (hz : z.size = 2046) : layP [jI, bI z, hI] [] 0 3 (szP 0 [jI, bI z, hI] (List.replicate 3 0)) none 0 = some (.ok ⟨[4, 0, 0], [0, 4, 2050, 2050], [⟨xN, 2050, 1⟩], 2⟩) := by
  simp [layP, szP, placeQ, stepQ, bytesP, jI, bI, hI, It.grows, It.instr, classesP, grownP, labelsP, goalsP, hasN, tgtF, symF, hereF, growP, grow1, farP, reachesP, nextP, leastF, idxF, fitP, signP, endP, hz, IntKind.wrap, IntKind.bits, IntKind.signed]
theorem awC : layP [jI] [] 0 3 (szP 0 [jI] (List.replicate 1 0)) none 0 = some (.error (0, 0, 11)) := by
  simp [layP, szP, placeQ, stepQ, bytesP, jI, bI, hI, It.grows, It.instr, classesP, grownP, labelsP, goalsP, hasN, tgtF, symF, hereF, growP, grow1, farP, reachesP, nextP, leastF, idxF, fitP, signP, endP, IntKind.wrap, IntKind.bits, IntKind.signed]
set_option maxHeartbeats 8000000 in
theorem awake_rn (ok : N.Ok) (ok2 : N.Ok2) : rn (DR G N) (k + 20) 7 [] [] = some (.v (.bool true), []) := by
  rw [run7]
  have z1 : rn (DR G N) (k + 19) 14 [.v (.int .i64 2044)] [[]] = some (.v (.string (zeroS 2044)), [[]]) := zeros_rn G N (k + 18) 2044 (by omega)
  have z2 : rn (DR G N) (k + 19) 14 [.v (.int .i64 2046)] [[]] = some (.v (.string (zeroS 2046)), [[]]) := zeros_rn G N (k + 18) 2046 (by omega)
  have rA := relax_rn G N (k + 3) ok false true [jI, bI (zeroS 2044), hI] [] 0 (by simp) (by simp) (by omega) (by omega) 3 (by omega) _ (awA _ (zsz _))
  have rB := relax_rn G N (k + 3) ok false true [jI, bI (zeroS 2046), hI] [] 0 (by simp) (by simp) (by omega) (by omega) 3 (by omega) _ (awB _ (zsz _))
  have rC := relax_rn G N (k + 3) ok false true [jI] [] 0 (by simp) (by simp) (by omega) (by omega) 3 (by omega) _ awC
  have fC := faultE_rn G N (k + 16) ok ok2 (0, 0, 11) (by simp) (by simp)
  simp only [layA, items, List.map, jI, bI, hI, It.cells, syms, ints, words, Sy.cells, xN, List.isEmpty_cons, List.isEmpty_nil, errA, fltA] at rA rB rC fC
  obtain ⟨F9, hF9⟩ := tbl_at (D := DR G N) (f := 9) (i := i9) rfl (fun T => N.off T 9 (by decide) (by decide)) Tryd.func9 (k + 18)
  generalize zeroS 2044 = q1 at *
  generalize zeroS 2046 = q2 at *
  simp -implicitDefEqProofs [Tryd.f7, endF, argsIn, subsIn, acode_loop, z1, z2, rA, rB, rC, fC, drawD_cons, drawD_nil, Susp.at, Susp.keeps, List.lookup, FP.offB, fpC_store, cellsS, fpC_buildSlice, fpC_callOwn G (T := tbl (DR G N) (k + 19)) (hT := hF9), setAll, cellAV]
end Go.Proofs.YtmekfllddifglaaDoor.AM

/- The relax seat: errors.As at a *api.Fault, by its contract (the worked proof of toyas, turned). Conditions: none. -/
set_option linter.unusedVariables false
set_option linter.unusedSimpArgs false
namespace Go.Proofs.YtmekfllddifglaaDoor.AM
open Go Go.RowKit Go.Extern.Stop Go.Stop Go.Extern
theorem As.valueOf27 (t : Addr) (w : World) : (ReflectliteValue.unpack (.iface 69 (.pointer (some t)))).run Tryd.prog w
    = .ok (.agg #[.pointer (some ⟨1, 69, none⟩), .pointer (some ⟨w.heap.size, 0, none⟩), .int .u64 150]) (w.alloc (.cells #[.pointer (some t)] 69)) := by kernel_rfl
theorem As.type27 (a : Addr) (w : World) : (ReflectliteValue.methodAny (ReflectliteValue.valueError "reflectlite.Value.Type" 0) (fun t _ _ _ => ReflectliteType.toType t) #[.agg #[.pointer (some ⟨1, 69, none⟩), .pointer (some a), .int .u64 150]]).run Tryd.prog w
    = .ok (.iface 125 (.agg #[.pointer (some ⟨1, 69, none⟩)])) w := by kernel_rfl
theorem As.methodKind (h : Value) (w : World) : (Go.method 308 125 (.agg #[h]) "Kind").run Tryd.prog w = .ok (100, h) w := by kernel_rfl
theorem As.kind27 (w : World) : ((ReflectliteType.abiMethod fun t => (fun a : Nat => Value.int IntKind.u8 (a : Int)) <$> Rtype.kind t) #[.pointer (some ⟨1, 69, none⟩)]).run Tryd.prog w = .ok (.int .u8 22) w := by kernel_rfl
theorem As.kind25 (w : World) : ((ReflectliteType.abiMethod fun t => (fun a : Nat => Value.int IntKind.u8 (a : Int)) <$> Rtype.kind t) #[.pointer (some ⟨1, 67, none⟩)]).run Tryd.prog w = .ok (.int .u8 22) w := by kernel_rfl

/-! ### THE ENTRIES THAT READ OR WRITE MEMORY: laws with a premise on the cell (after Derived/Lib/ReflectliteSlice.lean's manner: each unfolding a lemma of its own, by rfl) -/
theorem As.rlm (z : Sem Value) (f : TypeId → Addr → Nat → Nat → Sem Value) (v : Value) :
    ReflectliteValue.method z f #[v] = (do match ← ReflectliteValue.parts v with | none => z | some (t, a, fl) => f t a fl (fl % 32)) := rfl
theorem As.parts27 (a : Addr) (w : World) : (ReflectliteValue.parts (.agg #[.pointer (some ⟨1, 69, none⟩), .pointer (some a), .int .u64 150])).run Tryd.prog w = .ok (some (69, a, 150)) w := by kernel_rfl
/-- (Value).IsNil at the Value of a **p.E that is not nil. -/
theorem As.isNil27 (a p : Addr) (W : World) (ha : W.cell? a = some (.pointer (some p))) :
    (ReflectliteValue.method (ReflectliteValue.valueError "reflectlite.Value.IsNil" 0) ReflectliteValue.isNil #[.agg #[.pointer (some ⟨1, 69, none⟩), .pointer (some a), .int .u64 150]]).run Tryd.prog W = .ok (.bool false) W := by
  rw [As.rlm]
  simp only [Sem.run_bind, As.parts27, Result.andThen]
  simp [ReflectliteValue.isNil, loadVar, isAgg, underlying, Tryd.underlying69, ha, Result.andThen]

theorem As.methodElem (h : Value) (w : World) : (Go.method 308 125 (.agg #[h]) "Elem").run Tryd.prog w = .ok (112, .agg #[h]) w := by kernel_rfl
theorem As.methodImplements (h : Value) (w : World) : (Go.method 308 125 (.agg #[h]) "Implements").run Tryd.prog w = .ok (113, .agg #[h]) w := by kernel_rfl
theorem As.methodAssignableTo (h : Value) (w : World) : (Go.method 308 125 (.agg #[h]) "AssignableTo").run Tryd.prog w = .ok (110, .agg #[h]) w := by kernel_rfl
theorem As.elem27 (w : World) : (ReflectliteType.method ReflectliteType.elem #[.agg #[.pointer (some ⟨1, 69, none⟩)]]).run Tryd.prog w = .ok (.iface 125 (.agg #[.pointer (some ⟨1, 67, none⟩)])) w := by kernel_rfl
theorem As.implements25 (w : World) : (ReflectliteType.relation "Implements" ReflectliteType.implements_ #[.agg #[.pointer (some ⟨1, 67, none⟩)], .iface 125 (.agg #[.pointer (some ⟨1, 33, none⟩)])]).run Tryd.prog w = .ok (.bool true) w := by kernel_rfl
theorem As.typeOf25 (v : Value) (w : World) : (ReflectliteType.typeOf #[.iface 67 v]).run Tryd.prog w = .ok (.iface 125 (.agg #[.pointer (some ⟨1, 67, none⟩)])) w := by kernel_rfl
theorem As.assignable25 (w : World) : (ReflectliteType.relation "AssignableTo" ReflectliteType.assignableTo #[.agg #[.pointer (some ⟨1, 67, none⟩)], .iface 125 (.agg #[.pointer (some ⟨1, 67, none⟩)])]).run Tryd.prog w = .ok (.bool true) w := by kernel_rfl
theorem As.valueOf25 (e : Addr) (w : World) : (ReflectliteValue.unpack (.iface 67 (.pointer (some e)))).run Tryd.prog w
    = .ok (.agg #[.pointer (some ⟨1, 67, none⟩), .pointer (some ⟨w.heap.size, 0, none⟩), .int .u64 150]) (w.alloc (.cells #[.pointer (some e)] 67)) := by kernel_rfl

theorem As.elemOf27 (w : World) : (Rtype.elem? 69).run Tryd.prog w = .ok (some 67) w := by kernel_rfl
theorem As.mk25 (p : Addr) (w : World) : (ReflectliteValue.mk 67 p ReflectliteValue.flagAddr).run Tryd.prog w = .ok (.agg #[.pointer (some ⟨1, 67, none⟩), .pointer (some p), .int .u64 406]) w := by kernel_rfl
/-- (Value).Elem at the Value of a **p.E that is not nil: the Value of the *p.E variable that it points to, addressable. -/
theorem As.elemV27 (a p : Addr) (W : World) (ha : W.cell? a = some (.pointer (some p))) :
    (ReflectliteValue.method (ReflectliteValue.valueError "reflectlite.Value.Elem" 0) ReflectliteValue.elem #[.agg #[.pointer (some ⟨1, 69, none⟩), .pointer (some a), .int .u64 150]]).run Tryd.prog W
      = .ok (.agg #[.pointer (some ⟨1, 67, none⟩), .pointer (some p), .int .u64 406]) W := by
  rw [As.rlm]
  simp only [Sem.run_bind, As.parts27, Result.andThen]
  simp [ReflectliteValue.elem, loadVar, isAgg, underlying, Tryd.underlying69, ha, Result.andThen, As.elemOf27, As.mk25]
theorem As.rls (v x : Value) : ReflectliteValue.set #[v, x] = (do
    let (some (dst, a, fl), some (src, b, _)) := (← ReflectliteValue.parts v, ← ReflectliteValue.parts x)
      | unsupported (.noEntry "extern/(internal/reflectlite.Value).Set.zeroValue")
    if fl / ReflectliteValue.flagAddr % 2 == 0 then unsupported (.noEntry "extern/(internal/reflectlite.Value).Set.unaddressable")
    let val ← loadVar src b
    if ← Rtype.directlyAssignable dst src then storeVar dst a val
    else if ← Rtype.implements dst src then
      if (← Rtype.kind src) == 20 then
        match val with
        | .nilIface => unsupported (.noEntry "extern/reflectlite: a nil value of one interface type handed on as a value of another")
        | _ => storeVar dst a val
      else storeVar dst a (.iface src val)
    else panicString ("reflectlite.Set: value of type " ++ (← Rtype.spelt src) ++ " is not assignable to type " ++ (← Rtype.spelt dst))
    pure (.tuple #[])) := rfl
theorem As.parts25a (a : Addr) (w : World) : (ReflectliteValue.parts (.agg #[.pointer (some ⟨1, 67, none⟩), .pointer (some a), .int .u64 406])).run Tryd.prog w = .ok (some (67, a, 406)) w := by kernel_rfl
theorem As.parts25 (a : Addr) (w : World) : (ReflectliteValue.parts (.agg #[.pointer (some ⟨1, 67, none⟩), .pointer (some a), .int .u64 150])).run Tryd.prog w = .ok (some (67, a, 150)) w := by kernel_rfl
theorem As.direct25 (w : World) : (Rtype.directlyAssignable 67 67).run Tryd.prog w = .ok true w := by kernel_rfl
theorem As.size25 (w : World) : (sizeOf 67).run Tryd.prog w = .ok 1 w := by kernel_rfl
/-- (Value).Set: the *p.E variable at 'ta' gets what the Value's own variable 'b' holds. -/
theorem As.set25 (ta b e : Addr) (old : Value) (W : World) (hb : W.cell? b = some (.pointer (some e))) (ht : W.cell? ta = some old) (hf : W.frozen? ta = false) :
    (ReflectliteValue.set #[.agg #[.pointer (some ⟨1, 67, none⟩), .pointer (some ta), .int .u64 406], .agg #[.pointer (some ⟨1, 67, none⟩), .pointer (some b), .int .u64 150]]).run Tryd.prog W
      = .ok (.tuple #[]) (W.setCell ta (.pointer (some e))) := by
  rw [As.rls]
  simp only [Sem.run_bind, As.parts25a, As.parts25, Result.andThen]
  simp [ReflectliteValue.flagAddr, loadVar, isAgg, underlying, Tryd.underlying67, hb, Result.andThen, As.direct25, storeVar, Value.cells, storeCells, Addr.add]
  rw [run_store Tryd.prog W ta _ _ (by rfl)]
  simp [ht, hf]

set_option maxHeartbeats 4000000 in
theorem as_hit (e t : Addr) (old : Value) (w : World) (hg : w.cell? ⟨0, 0, none⟩ = some (.iface 125 (.agg #[.pointer (some ⟨1, 33, none⟩)]))) (ht0 : w.cell? t = some old) (hf0 : w.frozen? t = false) :
    Calls Tryd.prog 24 #[.iface 67 (.pointer (some e)), .iface 69 (.pointer (some t))] w fun ev w' => ev = .returned (.bool true) ∧ w' = ((((w.alloc (.cells #[.pointer (some t)] 69)).alloc (.cells #[.pointer (some ⟨1, 69, none⟩), .pointer (some ⟨w.heap.size, 0, none⟩), .int .u64 150] 101)).alloc (.cells #[.pointer (some ⟨1, 69, none⟩), .pointer (some ⟨w.heap.size, 0, none⟩), .int .u64 150] 101)).alloc (.cells #[.pointer (some e)] 67)).setCell t (.pointer (some e)) := by
  have h40 := @run_callFunc_extern Tryd.prog 40 _ (fun args => ReflectliteValue.unpack (args.getD 0 (.tuple #[]))) Tryd.func40 (by kernel_rfl) (by kernel_rfl) (by kernel_rfl) (by kernel_rfl)
  have h41 := @run_callFunc_extern Tryd.prog 41 _ (ReflectliteValue.methodAny (ReflectliteValue.valueError "reflectlite.Value.Type" 0) (fun t _ _ _ => ReflectliteType.toType t)) Tryd.func41 (by kernel_rfl) (by kernel_rfl) (by kernel_rfl) (by kernel_rfl)
  have h42 := @run_callFunc_extern Tryd.prog 42 _ (ReflectliteValue.method (ReflectliteValue.valueError "reflectlite.Value.IsNil" 0) ReflectliteValue.isNil) Tryd.func42 (by kernel_rfl) (by kernel_rfl) (by kernel_rfl) (by kernel_rfl)
  have h100 := @run_callFunc_extern Tryd.prog 100 _ (ReflectliteType.abiMethod fun t => do pure (.int .u8 (← Rtype.kind t))) Tryd.func100 (by kernel_rfl) (by kernel_rfl) (by kernel_rfl) (by kernel_rfl)
  have h112 := @run_callFunc_extern Tryd.prog 112 _ (ReflectliteType.method ReflectliteType.elem) Tryd.func112 (by kernel_rfl) (by kernel_rfl) (by kernel_rfl) (by kernel_rfl)
  have h113 := @run_callFunc_extern Tryd.prog 113 _ (ReflectliteType.relation "Implements" ReflectliteType.implements_) Tryd.func113 (by kernel_rfl) (by kernel_rfl) (by kernel_rfl) (by kernel_rfl)
  have h45 := @run_callFunc_extern Tryd.prog 45 _ ReflectliteType.typeOf Tryd.func45 (by kernel_rfl) (by kernel_rfl) (by kernel_rfl) (by kernel_rfl)
  have h110 := @run_callFunc_extern Tryd.prog 110 _ (ReflectliteType.relation "AssignableTo" ReflectliteType.assignableTo) Tryd.func110 (by kernel_rfl) (by kernel_rfl) (by kernel_rfl) (by kernel_rfl)
  have h54 := @run_callFunc_extern Tryd.prog 54 _ (ReflectliteValue.method (ReflectliteValue.valueError "reflectlite.Value.Elem" 0) ReflectliteValue.elem) Tryd.func54 (by kernel_rfl) (by kernel_rfl) (by kernel_rfl) (by kernel_rfl)
  have h55 := @run_callFunc_extern Tryd.prog 55 _ ReflectliteValue.set Tryd.func55 (by kernel_rfl) (by kernel_rfl) (by kernel_rfl) (by kernel_rfl)
  have tO := As.typeOf25
  have mA := As.methodAssignableTo
  have a25 := As.assignable25
  have v25 := As.valueOf25
  have f6 := As.valueOf27
  have f7 := As.type27
  have mK := As.methodKind
  have mE := As.methodElem
  have mI := As.methodImplements
  have k27 := As.kind27
  have k25 := As.kind25
  have e27 := As.elem27
  have i25 := As.implements25
  have n42 := As.isNil27 ⟨w.heap.size, 0, none⟩ t ((w.alloc (.cells #[.pointer (some t)] 69)).alloc (.cells #[.pointer (some ⟨1, 69, none⟩), .pointer (some ⟨w.heap.size, 0, none⟩), .int .u64 150] 101)) (by simp)
  have hlt : 0 < w.heap.size := by
    rcases Nat.eq_zero_or_pos w.heap.size with h0 | h
    · simp [World.cell?, h0] at hg
    · exact h
  have hg2 : ((w.alloc (.cells #[.pointer (some t)] 69)).alloc (.cells #[.pointer (some ⟨1, 69, none⟩), .pointer (some ⟨w.heap.size, 0, none⟩), .int .u64 150] 101)).cell? ⟨0, 0, none⟩ = some (.iface 125 (.agg #[.pointer (some ⟨1, 33, none⟩)])) := by
    rw [World.cell?_alloc_lt _ _ ⟨0, 0, none⟩ (by simp), World.cell?_alloc_lt _ _ ⟨0, 0, none⟩ hlt]; exact hg
  have htl : t.block < w.heap.size := by
    rcases Nat.lt_or_ge t.block w.heap.size with h | h
    · exact h
    · simp [World.cell?, Array.getElem?_eq_none h] at ht0
  have el := As.elemV27 ⟨w.heap.size, 0, none⟩ t (((w.alloc (.cells #[.pointer (some t)] 69)).alloc (.cells #[.pointer (some ⟨1, 69, none⟩), .pointer (some ⟨w.heap.size, 0, none⟩), .int .u64 150] 101)).alloc (.cells #[.pointer (some ⟨1, 69, none⟩), .pointer (some ⟨w.heap.size, 0, none⟩), .int .u64 150] 101)) (by rw [World.cell?_alloc_lt _ _ ⟨w.heap.size, 0, none⟩ (by simp; omega)]; simp)
  have st := As.set25 t ⟨w.heap.size + 1 + 1 + 1, 0, none⟩ e old ((((w.alloc (.cells #[.pointer (some t)] 69)).alloc (.cells #[.pointer (some ⟨1, 69, none⟩), .pointer (some ⟨w.heap.size, 0, none⟩), .int .u64 150] 101)).alloc (.cells #[.pointer (some ⟨1, 69, none⟩), .pointer (some ⟨w.heap.size, 0, none⟩), .int .u64 150] 101)).alloc (.cells #[.pointer (some e)] 67))
    (by rw [World.cell?_alloc_at _ _ _ _ (by simp)]; rfl)
    (by rw [World.cell?_alloc_lt _ _ t (by simp; omega), World.cell?_alloc_lt _ _ t (by simp; omega), World.cell?_alloc_lt _ _ t (by simp; omega), World.cell?_alloc_lt _ _ t htl]; exact ht0)
    (by rw [World.frozen?_alloc_old _ _ t (by simp; omega), World.frozen?_alloc_old _ _ t (by simp; omega), World.frozen?_alloc_old _ _ t (by simp; omega), World.frozen?_alloc_old _ _ t (Nat.ne_of_lt htl)]; exact hf0)
  go_enter Tryd.func24, Tryd.ntmps24
  go_wp2
  refine wp_loop_rounds 1 ?_
  rw [rounds_succ]
  go_wp2
  go_ret
  exact ⟨rfl, rfl⟩

end Go.Proofs.YtmekfllddifglaaDoor.AM

/- The relax seat: errors.Is of a *api.Fault, held against a Code, by its contract. Conditions: none. -/
set_option linter.unusedVariables false
set_option linter.unusedSimpArgs false
namespace Go.Proofs.YtmekfllddifglaaDoor.AM
open Go Go.RowKit Go.Extern.Stop Go.Stop Go.Extern
theorem Is.typeOf87 (v : Value) (w : World) : (Extern.ReflectliteType.typeOf #[.iface 87 v]).run Tryd.prog w = .ok (.iface 125 (.agg #[.pointer (some ⟨1, 87, none⟩)])) w := by kernel_rfl
theorem Is.comparable87 (w : World) : (Extern.ReflectliteType.method (fun t => do Rtype.noPackHeld "Comparable" t; pure (.bool (← typeInfo t).comparable)) #[.agg #[.pointer (some ⟨1, 87, none⟩)]]).run Tryd.prog w = .ok (.bool true) w := by kernel_rfl
theorem Is.call111 (w : World) : (callFunc 111 #[.agg #[.pointer (some ⟨1, 87, none⟩)]]).run Tryd.prog w = .ok (.value (.bool true)) w := by
  have h111 := @run_callFunc_extern Tryd.prog 111 _ (Extern.ReflectliteType.method fun t => do Rtype.noPackHeld "Comparable" t; pure (.bool (← typeInfo t).comparable)) Tryd.func111 (by kernel_rfl) (by kernel_rfl) (by kernel_rfl) (by kernel_rfl)
  rw [h111, Is.comparable87]
  rfl
theorem Is.methodComparable (v : Value) (w : World) : (Go.method 308 125 v "Comparable").run Tryd.prog w = .ok (111, v) w := by kernel_rfl
theorem Is.methodUnwrap (v : Value) (w : World) : (Go.method 308 67 v "Unwrap").run Tryd.prog w = .ok (104, v) w := by kernel_rfl
theorem Is.noIs67 (v : Value) (xT : TypeId) (w : World) : (Instr.typeAssert (.iface 67 v) xT 137 true).run Tryd.prog w = .ok (.tuple #[.nilIface, .bool false]) w := run_typeAssert_lacksB Tryd.underlying137 (by kernel_rfl) (by kernel_rfl) v xT w
theorem Is.noIs87 (v : Value) (xT : TypeId) (w : World) : (Instr.typeAssert (.iface 87 v) xT 137 true).run Tryd.prog w = .ok (.tuple #[.nilIface, .bool false]) w := run_typeAssert_lacksB Tryd.underlying137 (by kernel_rfl) (by kernel_rfl) v xT w
theorem Is.noUnwrap87 (v : Value) (xT : TypeId) (w : World) : (Instr.typeAssert (.iface 87 v) xT 132 true).run Tryd.prog w = .ok (.tuple #[.nilIface, .bool false]) w := run_typeAssert_lacksB Tryd.underlying132 (by kernel_rfl) (by kernel_rfl) v xT w
theorem Is.noUnwraps87 (v : Value) (xT : TypeId) (w : World) : (Instr.typeAssert (.iface 87 v) xT 134 true).run Tryd.prog w = .ok (.tuple #[.nilIface, .bool false]) w := run_typeAssert_lacksB Tryd.underlying134 (by kernel_rfl) (by kernel_rfl) v xT w
theorem Is.hasUnwrap67 (v : Value) (xT : TypeId) (w : World) : (Instr.typeAssert (.iface 67 v) xT 132 true).run Tryd.prog w = .ok (.tuple #[.iface 67 v, .bool true]) w := run_typeAssert_hasB Tryd.underlying132 (by kernel_rfl) v xT w
theorem Is.comp87 : (Tryd.prog.info? 87).map (·.comparable) = some true := by kernel_rfl
theorem Is.eql87 (c d : Int) (w : World) : (binOp .eql 33 (.iface 87 (.int .i64 c)) (.iface 87 (.int .i64 d))).run Tryd.prog w = .ok (.bool (c == d)) w := by
  obtain ⟨i, hi, hcmp⟩ := Option.map_eq_some_iff.1 Is.comp87
  have h : ∀ n : Nat, (Op.equalIn (n + 2) 33 (.iface 87 (.int .i64 c)) (.iface 87 (.int .i64 d))).run Tryd.prog w = .ok (c == d) w := fun n => by
    simp [Op.equalIn, run_underlying Tryd.underlying33, run_underlying Tryd.underlying87, typeInfo, hi, hcmp]
  have h2 : (Op.equal 33 (.iface 87 (.int .i64 c)) (.iface 87 (.int .i64 d))).run Tryd.prog w = .ok (c == d) w := h 9998
  simp [binOp, h2]
set_option maxHeartbeats 4000000 in
theorem is_same (fb fo : Nat) (c : Int) (w : World) (h1 : w.cell? ⟨fb, fo + 2, none⟩ = some (.iface 87 (.int .i64 c))) :
    Calls Tryd.prog 34 #[.iface 67 (.pointer (some ⟨fb, fo, none⟩)), .iface 87 (.int .i64 c)] w fun e w' => e = .returned (.bool true) ∧ w' = w := by
  have h45 := @run_callFunc_extern Tryd.prog 45 _ Extern.ReflectliteType.typeOf Tryd.func45 (by kernel_rfl) (by kernel_rfl) (by kernel_rfl) (by kernel_rfl)
  have h111 := Is.call111
  have tT := Is.typeOf87
  have mR := Is.methodComparable
  have nE := Is.noIs67
  have uW := Is.hasUnwrap67
  have mU := Is.methodUnwrap
  have heq := Is.eql87 c c w
  simp only [beq_self_eq_true] at heq
  have hty := run_eql_iface_types (P := Tryd.prog) 67 87 (.pointer (some ⟨fb, fo, none⟩)) (.int .i64 c) Tryd.underlying33 (by decide) w
  go_enter Tryd.func34, Tryd.ntmps34
  go_wp2
  refine wp_loop_rounds 2 ?_
  rw [rounds_succ]
  go_wp2
  rw [rounds_succ]
  go_wp2
  go_ret
  exact ⟨rfl, rfl⟩
set_option maxHeartbeats 4000000 in
theorem is_other (fb fo : Nat) (c d : Int) (hne : c ≠ d) (w : World) (h1 : w.cell? ⟨fb, fo + 2, none⟩ = some (.iface 87 (.int .i64 c))) :
    Calls Tryd.prog 34 #[.iface 67 (.pointer (some ⟨fb, fo, none⟩)), .iface 87 (.int .i64 d)] w fun e w' => e = .returned (.bool false) ∧ w' = w := by
  have h45 := @run_callFunc_extern Tryd.prog 45 _ Extern.ReflectliteType.typeOf Tryd.func45 (by kernel_rfl) (by kernel_rfl) (by kernel_rfl) (by kernel_rfl)
  have h111 := Is.call111
  have tT := Is.typeOf87
  have mR := Is.methodComparable
  have nE := Is.noIs67
  have uW := Is.hasUnwrap67
  have mU := Is.methodUnwrap
  have heq := Is.eql87 c d w
  simp only [beq_false_of_ne hne] at heq
  have nE2 := Is.noIs87
  have uW2 := Is.noUnwrap87
  have vW2 := Is.noUnwraps87
  have hty := run_eql_iface_types (P := Tryd.prog) 67 87 (.pointer (some ⟨fb, fo, none⟩)) (.int .i64 d) Tryd.underlying33 (by decide) w
  go_enter Tryd.func34, Tryd.ntmps34
  go_wp2
  refine wp_loop_rounds 2 ?_
  rw [rounds_succ]
  go_wp2
  rw [rounds_succ]
  go_wp2
  go_ret
  exact ⟨rfl, rfl⟩
end Go.Proofs.YtmekfllddifglaaDoor.AM

/- The relax seat: errors.As and errors.Is, told to the abstract machine. Conditions: none. -/
set_option linter.unusedVariables false
set_option linter.unusedSimpArgs false
namespace Go.Proofs.YtmekfllddifglaaDoor.AM
open Go
/-- What is known of the package's variables: errors.errorType. -/
def G0 : Gl := fun g => if g = 0 then some [.ifc 125 (.agg [.v (.pointer (some ⟨1, 33, none⟩))])] else none
def asF : FnA := fun args S => match args, S with
  | [.ifc t (.ref fc), .ifc t2 (.loc r p v o)], [[], [([], (n, some (.box fz [x])))]] => if t = 67 ∧ t2 = 69 ∧ r = 1 ∧ p = [] ∧ v = 0 ∧ o = 0 ∧ n = 0 ∧ fz = false then some (.v (.bool true), [[], [([], (0, some (.box false [.ref fc])))]]) else none
  | _, _ => none
def isF : FnA := fun args S => match args, S with
  | [.ifc t (.ref [a, b, .ifc t2 (.v (.int k c))]), .ifc t3 (.v (.int k2 d))], [[], []] => if t = 67 ∧ t2 = 87 ∧ t3 = 87 ∧ k = .i64 ∧ k2 = .i64 then some (.v (.bool (decide (c = d))), [[], []]) else none
  | _, _ => none
theorem G0_cell {C : Ctx} (hC : COk C G0) : C.w0.cell? ⟨0, 0, none⟩ = some (.iface 125 (.agg #[.pointer (some ⟨1, 33, none⟩)])) := by
  obtain ⟨⟨_, u, h1, _, h2⟩, _⟩ := hC.glob 0 _ rfl
  obtain ⟨y, rfl, us, rfl, v, vs, rfl, h3, h4⟩ := h2
  have e3 : v = .pointer (some ⟨1, 33, none⟩) := h3
  have e4 : vs = [] := h4
  subst e3; subst e4
  exact h1
theorem heap_alloc_lt (w : World) (o : Obj) {k : Nat} (h : k < w.heap.size) : (w.alloc o).heap[k]? = w.heap[k]? := by
  show (w.heap.push o)[k]? = _
  simp [Array.getElem?_push, Nat.ne_of_lt h]
theorem live_one {r : Nat} {p : List Nat} {v : Nat} {o o1 : Ob} (h : live [[], [([], (0, some o1))]] r p v = some o) : r = 1 ∧ p = [] ∧ v = 0 ∧ o = o1 := by
  match r with
  | 0 => simp [live, sub, Sub.live, Sub.ent] at h
  | 1 =>
    simp only [live, sub, List.getD_cons_succ, List.getD_cons_zero, Sub.live, Sub.ent] at h
    by_cases hp : [] = p
    · subst hp
      simp only [if_true] at h
      by_cases hv : 0 = v
      · simp only [hv, if_true, Option.some.injEq] at h
        exact ⟨rfl, rfl, hv.symm, h.symm⟩
      · simp [hv] at h
    · simp [hp] at h
  | n + 2 => simp [live, sub, Sub.live, Sub.ent] at h
theorem isF_ok : FnOk Tryd.prog G0 34 isF := by
  intro args S res S' hr h0 C γ vals hC hi hv
  unfold isF at hr
  split at hr
  · rename_i t a b t2 k c t3 k2 d
    split at hr
    · rename_i hc
      obtain ⟨rfl, rfl, rfl, rfl, rfl⟩ := hc
      cases hr
      obtain ⟨u1, us1, rfl, ⟨y1, rfl, hy1⟩, u2, us2, rfl, ⟨y2, rfl, hy2⟩, hn⟩ := hv
      have hn' : us2 = [] := hn
      subst hn'
      obtain ⟨fb, fo, rfl, hfc⟩ := hy1
      have hy2' : y2 = .int .i64 d := hy2
      subst hy2'
      obtain ⟨_, u, hcell, _, y3, rfl, hy3⟩ := CellsAt_get hfc 2 (by simp)
      have hy3' : y3 = .int .i64 c := hy3
      subst hy3'
      have fin : ∀ (e : Ending) (w' : World), (e = .returned (.bool (decide (c = d))) ∧ w' = C.w0) → ∃ u S2, e = .returned u ∧ ([[], []] : Subs) = S2.take ([[], []] : Subs).length ∧ To C [[], []] γ C.imm0 C.w0 S2 w' (fun _ imm' => IRel imm' w' (.v (.bool (decide (c = d)))) u) := by
        rintro e w' ⟨rfl, rfl⟩
        exact ⟨_, [[], []], rfl, rfl, To.stay hi rfl⟩
      by_cases hcd : c = d
      · subst hcd
        refine (is_same fb fo c C.w0 hcell).mono fun e w' he => fin e w' ?_
        simpa using he
      · refine (is_other fb fo c d hcd C.w0 hcell).mono fun e w' he => fin e w' ?_
        simpa [hcd] using he
    · cases hr
  · cases hr
theorem asF_ok : FnOk Tryd.prog G0 24 asF := by
  intro args S res S' hr h0 C γ vals hC hi hv
  unfold asF at hr
  split at hr
  · rename_i t fc t2 r p v o n fz x
    split at hr
    · rename_i hc
      obtain ⟨rfl, rfl, rfl, rfl, rfl, rfl, rfl, rfl⟩ := hc
      cases hr
      obtain ⟨u1, us1, rfl, ⟨y1, rfl, hy1⟩, u2, us2, rfl, ⟨y2, rfl, hy2⟩, hn⟩ := hv
      have hn' : us2 = [] := hn
      subst hn'
      obtain ⟨fb, fo, rfl, hfc⟩ := hy1
      have hlive : live [[], [([], (0, some (.box false [x])))]] 1 [] 0 = some (.box false [x]) := rfl
      obtain ⟨b, hγ, rfl⟩ := hy2.2 _ hlive
      obtain ⟨b', cs, e, hg', hh, hvs, h1, _⟩ := hi.obj 1 [] 0 _ hlive
      rw [hγ] at hg'
      obtain rfl : b = b' := by simpa using hg'
      obtain ⟨c, cs', rfl, hx, hn2⟩ := hvs
      have hn2' : cs' = [] := hn2
      subst hn2'
      have hcell : C.w0.cell? ⟨b, 0, none⟩ = some c := by simp [World.cell?, hh]
      have hfr : C.w0.frozen? ⟨b, 0, none⟩ = false := by simp [World.frozen?, hh]
      have hown := hi.own 1 [] 0 _ b hlive (by rw [hγ]; rfl)
      have hlt : b < C.w0.heap.size := hown.1
      refine (as_hit ⟨fb, fo, none⟩ ⟨b, 0, none⟩ c C.w0 (G0_cell hC) hcell hfr).mono ?_
      rintro ev w' ⟨rfl, hw'⟩
      have hsz : C.w0.heap.size ≤ w'.heap.size := by rw [hw']; simp; omega
      have hb' : w'.heap[b]? = some (.cells #[.pointer (some ⟨fb, fo, none⟩)] e (0, 0)) := by
        rw [hw']
        refine one_setCell (v := c) ?_
        rw [heap_alloc_lt _ _ (by simp; omega), heap_alloc_lt _ _ (by simp; omega), heap_alloc_lt _ _ (by simp; omega), heap_alloc_lt _ _ hlt]
        exact hh
      have hsame : ∀ k, k < C.w0.heap.size → k ≠ b → w'.heap[k]? = C.w0.heap[k]? := by
        intro k hk hne
        rw [hw', heap_setCell_other _ _ _ _ hne]
        rw [heap_alloc_lt _ _ (by simp; omega), heap_alloc_lt _ _ (by simp; omega), heap_alloc_lt _ _ (by simp; omega), heap_alloc_lt _ _ hk]
      have hk : Keeps C.imm0 C.w0 w' := ⟨fun k hk => hsame k (hi.immlt k hk) fun e => hown.2.2 rfl (e ▸ hk)⟩
      have hext : Ext [[], [([], (0, some (.box false [x])))]] γ [[], [([], (0, some (.box false [.ref fc])))]] γ := by
        have := Ext.put (S := [[], [([], (0, some (.box false [x])))]]) (γ := γ) (g := γ 1 [] 0) (r := 1) (p := []) (v := 0) (o' := .box false [.ref fc]) (by simp) (.inr ⟨_, hlive, rfl, rfl⟩)
        rwa [upd_self] at this
      refine ⟨_, [[], [([], (0, some (.box false [.ref fc])))]], rfl, rfl, γ, C.imm0, ?_, hext, fun _ x => x, hk, rfl⟩
      have hbl : bl (γ 1 [] 0) = some b := by rw [hγ]; rfl
      have e1 : w'.tape = C.w0.tape := by rw [hw']; rfl
      have e2 : w'.os = C.w0.os := by rw [hw']; rfl
      have e3 : w'.output = C.w0.output := by rw [hw']; rfl
      refine Inv.step (fun k => k = b) hi hext e1 e2 e3 hsz (fun k e => by subst e; exact ⟨hown.2.1, hown.2.2 rfl⟩) hsame (fun _ x => x) (fun _ x => .inl x) ?_ ?_
      · intro r p v o hl
        obtain ⟨rfl, rfl, rfl, rfl⟩ := live_one hl
        refine .inr ⟨⟨b, [.pointer (some ⟨fb, fo, none⟩)], e, hγ, hb', ⟨_, [], rfl, ⟨fb, fo, rfl, ?_⟩, rfl⟩, ?_, fun x => by cases x⟩, fun k hk2 => ?_⟩
        · exact CellsAt_monoC (hk.cells (fun _ x => x)) fc fb fo hfc
        · simp [Value.oneCell']
        · rw [hbl] at hk2; cases hk2
          exact ⟨Nat.lt_of_lt_of_le hlt hsz, hown.2.1, fun _ => hown.2.2 rfl⟩
      · intro r p v o r' p' v' o' k h1 h2 _ _
        obtain ⟨rfl, rfl, rfl, rfl⟩ := live_one h1
        obtain ⟨rfl, rfl, rfl, rfl⟩ := live_one h2
        exact ⟨rfl, rfl, rfl⟩
    · cases hr
  · cases hr
end Go.Proofs.YtmekfllddifglaaDoor.AM

/- The relax seat: what is told of its functions is so (written by mksq.py). Conditions: none. -/
set_option linter.unusedVariables false
set_option linter.unusedSimpArgs false
set_option maxRecDepth 10000
namespace Go.Proofs.YtmekfllddifglaaDoor.AM
open Go
theorem inf3 : InfoOk Tryd.prog 3 i3 Tryd.f3 := .of_plain (by kernel_rfl) (by kernel_rfl) rfl (by kernel_rfl)
theorem inf4 : InfoOk Tryd.prog 4 i4 Tryd.f4 := .of_plain (by kernel_rfl) (by kernel_rfl) rfl (by kernel_rfl)
theorem inf5 : InfoOk Tryd.prog 5 i5 Tryd.f5 := .of_plain (by kernel_rfl) (by kernel_rfl) rfl (by kernel_rfl)
theorem inf6 : InfoOk Tryd.prog 6 i6 Tryd.f6 := .of_plain (by kernel_rfl) (by kernel_rfl) rfl (by kernel_rfl)
theorem inf7 : InfoOk Tryd.prog 7 i7 Tryd.f7 := .of_plain (by kernel_rfl) (by kernel_rfl) rfl (by kernel_rfl)
theorem inf8 : InfoOk Tryd.prog 8 i8 Tryd.f8 := .of_plain (by kernel_rfl) (by kernel_rfl) rfl (by kernel_rfl)
theorem inf9 : InfoOk Tryd.prog 9 i9 Tryd.f9 := .of_plain (by kernel_rfl) (by kernel_rfl) rfl (by kernel_rfl)
theorem inf10 : InfoOk Tryd.prog 10 i10 Tryd.f10 := .of_plain (by kernel_rfl) (by kernel_rfl) rfl (by kernel_rfl)
theorem inf11 : InfoOk Tryd.prog 11 i11 Tryd.f11 := .of_plain (by kernel_rfl) (by kernel_rfl) rfl (by kernel_rfl)
theorem inf12 : InfoOk Tryd.prog 12 i12 Tryd.f12 := .of_plain (by kernel_rfl) (by kernel_rfl) rfl (by kernel_rfl)
theorem inf13 : InfoOk Tryd.prog 13 i13 Tryd.f13 := .of_plain (by kernel_rfl) (by kernel_rfl) rfl (by kernel_rfl)
theorem inf14 : InfoOk Tryd.prog 14 i14 Tryd.f14 := .of_plain (by kernel_rfl) (by kernel_rfl) rfl (by kernel_rfl)
theorem inf15 : InfoOk Tryd.prog 15 i15 Tryd.f15 := .of_plain (by kernel_rfl) (by kernel_rfl) rfl (by kernel_rfl)
theorem inf16 : InfoOk Tryd.prog 16 i16 Tryd.f16 := .of_plain (by kernel_rfl) (by kernel_rfl) rfl (by kernel_rfl)
theorem inf17 : InfoOk Tryd.prog 17 i17 Tryd.f17 := .of_plain (by kernel_rfl) (by kernel_rfl) rfl (by kernel_rfl)
theorem inf18 : InfoOk Tryd.prog 18 i18 Tryd.f18 := .of_plain (by kernel_rfl) (by kernel_rfl) rfl (by kernel_rfl)
theorem inf19 : InfoOk Tryd.prog 19 i19 Tryd.f19 := .of_plain (by kernel_rfl) (by kernel_rfl) rfl (by kernel_rfl)
theorem inf20 : InfoOk Tryd.prog 20 i20 Tryd.f20 := .of_plain (by kernel_rfl) (by kernel_rfl) rfl (by kernel_rfl)
theorem inf21 : InfoOk Tryd.prog 21 i21 Tryd.f21 := .of_plain (by kernel_rfl) (by kernel_rfl) rfl (by kernel_rfl)
theorem inf22 : InfoOk Tryd.prog 22 i22 Tryd.f22 := .of_plain (by kernel_rfl) (by kernel_rfl) rfl (by kernel_rfl)
theorem inf25 : InfoOk Tryd.prog 25 i25 Tryd.f25 := .of_plain (by kernel_rfl) (by kernel_rfl) rfl (by kernel_rfl)
theorem inf26 : InfoOk Tryd.prog 26 i26 Tryd.f26 := .of_plain (by kernel_rfl) (by kernel_rfl) rfl (by kernel_rfl)
theorem inf27 : InfoOk Tryd.prog 27 i27 Tryd.f27 := .of_plain (by kernel_rfl) (by kernel_rfl) rfl (by kernel_rfl)
theorem inf28 : InfoOk Tryd.prog 28 i28 Tryd.f28 := .of_plain (by kernel_rfl) (by kernel_rfl) rfl (by kernel_rfl)
theorem inf29 : InfoOk Tryd.prog 29 i29 Tryd.f29 := .of_plain (by kernel_rfl) (by kernel_rfl) rfl (by kernel_rfl)
theorem inf30 : InfoOk Tryd.prog 30 i30 Tryd.f30 := .of_plain (by kernel_rfl) (by kernel_rfl) rfl (by kernel_rfl)
theorem inf31 : InfoOk Tryd.prog 31 i31 Tryd.f31 := .of_plain (by kernel_rfl) (by kernel_rfl) rfl (by kernel_rfl)
theorem inf32 : InfoOk Tryd.prog 32 i32 Tryd.f32 := .of_plain (by kernel_rfl) (by kernel_rfl) rfl (by kernel_rfl)
theorem inf33 : InfoOk Tryd.prog 33 i33 Tryd.f33 := .of_plain (by kernel_rfl) (by kernel_rfl) rfl (by kernel_rfl)
theorem inf35 : InfoOk Tryd.prog 35 i35 Tryd.f35 := .of_plain (by kernel_rfl) (by kernel_rfl) rfl (by kernel_rfl)
theorem inf36 : InfoOk Tryd.prog 36 i36 Tryd.f36 := .of_plain (by kernel_rfl) (by kernel_rfl) rfl (by kernel_rfl)
theorem inf37 : InfoOk Tryd.prog 37 i37 Tryd.f37 := .of_plain (by kernel_rfl) (by kernel_rfl) rfl (by kernel_rfl)
theorem inf38 : InfoOk Tryd.prog 38 i38 Tryd.f38 := .of_plain (by kernel_rfl) (by kernel_rfl) rfl (by kernel_rfl)
theorem inf39 : InfoOk Tryd.prog 39 i39 Tryd.f39 := .of_plain (by kernel_rfl) (by kernel_rfl) rfl (by kernel_rfl)
theorem inf44 : InfoOk Tryd.prog 44 i44 Tryd.f44 := .of_plain (by kernel_rfl) (by kernel_rfl) rfl (by kernel_rfl)
theorem inf47 : InfoOk Tryd.prog 47 i47 Tryd.f47 := .of_plain (by kernel_rfl) (by kernel_rfl) rfl (by kernel_rfl)
theorem inf48 : InfoOk Tryd.prog 48 i48 Tryd.f48 := .of_plain (by kernel_rfl) (by kernel_rfl) rfl (by kernel_rfl)
theorem inf49 : InfoOk Tryd.prog 49 i49 Tryd.f49 := .of_plain (by kernel_rfl) (by kernel_rfl) rfl (by kernel_rfl)
theorem inf51 : InfoOk Tryd.prog 51 i51 Tryd.f51 := .of_plain (by kernel_rfl) (by kernel_rfl) rfl (by kernel_rfl)
theorem inf52 : InfoOk Tryd.prog 52 i52 Tryd.f52 := .of_plain (by kernel_rfl) (by kernel_rfl) rfl (by kernel_rfl)
theorem inf53 : InfoOk Tryd.prog 53 i53 Tryd.f53 := .of_plain (by kernel_rfl) (by kernel_rfl) rfl (by kernel_rfl)
theorem inf56 : InfoOk Tryd.prog 56 i56 Tryd.f56 := .of_plain (by kernel_rfl) (by kernel_rfl) rfl (by kernel_rfl)
theorem inf57 : InfoOk Tryd.prog 57 i57 Tryd.f57 := .of_plain (by kernel_rfl) (by kernel_rfl) rfl (by kernel_rfl)
theorem inf58 : InfoOk Tryd.prog 58 i58 Tryd.f58 := .of_plain (by kernel_rfl) (by kernel_rfl) rfl (by kernel_rfl)
theorem inf59 : InfoOk Tryd.prog 59 i59 Tryd.f59 := .of_plain (by kernel_rfl) (by kernel_rfl) rfl (by kernel_rfl)
theorem inf60 : InfoOk Tryd.prog 60 i60 Tryd.f60 := .of_plain (by kernel_rfl) (by kernel_rfl) rfl (by kernel_rfl)
theorem inf61 : InfoOk Tryd.prog 61 i61 Tryd.f61 := .of_plain (by kernel_rfl) (by kernel_rfl) rfl (by kernel_rfl)
theorem inf62 : InfoOk Tryd.prog 62 i62 Tryd.f62 := .of_plain (by kernel_rfl) (by kernel_rfl) rfl (by kernel_rfl)
theorem inf63 : InfoOk Tryd.prog 63 i63 Tryd.f63 := .of_plain (by kernel_rfl) (by kernel_rfl) rfl (by kernel_rfl)
theorem inf64 : InfoOk Tryd.prog 64 i64 Tryd.f64 := .of_plain (by kernel_rfl) (by kernel_rfl) rfl (by kernel_rfl)
theorem inf65 : InfoOk Tryd.prog 65 i65 Tryd.f65 := .of_plain (by kernel_rfl) (by kernel_rfl) rfl (by kernel_rfl)
theorem inf66 : InfoOk Tryd.prog 66 i66 Tryd.f66 := .of_plain (by kernel_rfl) (by kernel_rfl) rfl (by kernel_rfl)
theorem inf67 : InfoOk Tryd.prog 67 i67 Tryd.f67 := .of_plain (by kernel_rfl) (by kernel_rfl) rfl (by kernel_rfl)
theorem inf68 : InfoOk Tryd.prog 68 i68 Tryd.f68 := .of_plain (by kernel_rfl) (by kernel_rfl) rfl (by kernel_rfl)
theorem inf69 : InfoOk Tryd.prog 69 i69 Tryd.f69 := .of_plain (by kernel_rfl) (by kernel_rfl) rfl (by kernel_rfl)
theorem inf70 : InfoOk Tryd.prog 70 i70 Tryd.f70 := .of_plain (by kernel_rfl) (by kernel_rfl) rfl (by kernel_rfl)
theorem inf71 : InfoOk Tryd.prog 71 i71 Tryd.f71 := .of_plain (by kernel_rfl) (by kernel_rfl) rfl (by kernel_rfl)
theorem inf72 : InfoOk Tryd.prog 72 i72 Tryd.f72 := .of_plain (by kernel_rfl) (by kernel_rfl) rfl (by kernel_rfl)
theorem inf73 : InfoOk Tryd.prog 73 i73 Tryd.f73 := .of_plain (by kernel_rfl) (by kernel_rfl) rfl (by kernel_rfl)
theorem inf74 : InfoOk Tryd.prog 74 i74 Tryd.f74 := .of_plain (by kernel_rfl) (by kernel_rfl) rfl (by kernel_rfl)
theorem inf75 : InfoOk Tryd.prog 75 i75 Tryd.f75 := .of_plain (by kernel_rfl) (by kernel_rfl) rfl (by kernel_rfl)
theorem inf76 : InfoOk Tryd.prog 76 i76 Tryd.f76 := .of_plain (by kernel_rfl) (by kernel_rfl) rfl (by kernel_rfl)
theorem inf77 : InfoOk Tryd.prog 77 i77 Tryd.f77 := .of_plain (by kernel_rfl) (by kernel_rfl) rfl (by kernel_rfl)
theorem inf78 : InfoOk Tryd.prog 78 i78 Tryd.f78 := .of_plain (by kernel_rfl) (by kernel_rfl) rfl (by kernel_rfl)
theorem inf79 : InfoOk Tryd.prog 79 i79 Tryd.f79 := .of_plain (by kernel_rfl) (by kernel_rfl) rfl (by kernel_rfl)
theorem inf80 : InfoOk Tryd.prog 80 i80 Tryd.f80 := .of_plain (by kernel_rfl) (by kernel_rfl) rfl (by kernel_rfl)
theorem inf81 : InfoOk Tryd.prog 81 i81 Tryd.f81 := .of_plain (by kernel_rfl) (by kernel_rfl) rfl (by kernel_rfl)
theorem inf82 : InfoOk Tryd.prog 82 i82 Tryd.f82 := .of_plain (by kernel_rfl) (by kernel_rfl) rfl (by kernel_rfl)
theorem inf83 : InfoOk Tryd.prog 83 i83 Tryd.f83 := .of_plain (by kernel_rfl) (by kernel_rfl) rfl (by kernel_rfl)
theorem inf84 : InfoOk Tryd.prog 84 i84 Tryd.f84 := .of_plain (by kernel_rfl) (by kernel_rfl) rfl (by kernel_rfl)
theorem inf85 : InfoOk Tryd.prog 85 i85 Tryd.f85 := .of_plain (by kernel_rfl) (by kernel_rfl) rfl (by kernel_rfl)
theorem inlOk23 : InlOk Tryd.prog (i23.inlT Tryd.prog) := by
  intro g i fn c h
  by_cases hg : g = 36
  · subst hg
    rw [inl23_36] at h
    cases h
    exact ⟨by kernel_rfl, Tryd.func36, rfl, by kernel_rfl, by kernel_rfl⟩
  · have hg' : (g == 36) = false := by simpa using hg
    simp [FInfo.inlT, inl23, List.lookup, hg'] at h
theorem ranges23 : ranges 0 (bodyOf Tryd.f23) = [(0, .tmp 12, lc23.ps, lc23.asg, lc23.body)] := by kernel_rfl
theorem lcOk23 : lc23.Ok := ⟨by kernel_rfl, by kernel_rfl, by kernel_rfl, by kernel_rfl⟩
noncomputable def rgR23 : RgI := ⟨94, 99, 49, Tryd.f49, bodyOf Tryd.f49, susL [], nmY 94 [(0, ⟨[0, 1], [0, 1, 2, 3, 4, 94, 96], [], []⟩)], lc23⟩
theorem rgOk23 : rgR23.Ok Tryd.prog := ⟨by kernel_rfl, Tryd.func49, rfl, rfl, by kernel_rfl, by kernel_rfl, nmY_ok 94 _, lcOk23⟩
theorem rgI23 : rgI Tryd.prog rg23 = some rgR23 := by
  have h : Tryd.prog.funcs[rg23.g]? = some Tryd.f49 := Tryd.func49
  simp only [rgI, h]
  rfl
theorem inf23 : InfoOk Tryd.prog 23 i23 Tryd.f23 := by
  refine ⟨by kernel_rfl, by kernel_rfl, inlOk23, fun x hx => ?_⟩
  rw [ranges23] at hx
  obtain rfl := List.mem_singleton.1 hx
  exact ⟨rg23, rgR23, by simp [rgs23], rfl, rgI23, rgOk23, rfl, rfl, rfl⟩
theorem inlOk50 : InlOk Tryd.prog (i50.inlT Tryd.prog) := by
  intro g i fn c h
  by_cases hg : g = 58
  · subst hg
    rw [inl50_58] at h
    cases h
    exact ⟨by kernel_rfl, Tryd.func58, rfl, by kernel_rfl, by kernel_rfl⟩
  · have hg' : (g == 58) = false := by simpa using hg
    simp [FInfo.inlT, inl50, List.lookup, hg'] at h
theorem ranges50 : ranges 0 (bodyOf Tryd.f50) = [(0, .tmp 22, lc50.ps, lc50.asg, lc50.body)] := by kernel_rfl
theorem lcOk50 : lc50.Ok := ⟨by kernel_rfl, by kernel_rfl, by kernel_rfl, by kernel_rfl⟩
noncomputable def rgR50 : RgI := ⟨43, 52, 73, Tryd.f73, bodyOf Tryd.f73, susL [], nmY 43 [(0, ⟨[0, 1, 2, 3, 5, 14, 15, 16], [1, 6, 7, 8, 43, 47, 48, 49], [], []⟩)], lc50⟩
theorem rgOk50 : rgR50.Ok Tryd.prog := ⟨by kernel_rfl, Tryd.func73, rfl, rfl, by kernel_rfl, by kernel_rfl, nmY_ok 43 _, lcOk50⟩
theorem rgI50 : rgI Tryd.prog rg50 = some rgR50 := by
  have h : Tryd.prog.funcs[rg50.g]? = some Tryd.f73 := Tryd.func73
  simp only [rgI, h]
  rfl
theorem inf50 : InfoOk Tryd.prog 50 i50 Tryd.f50 := by
  refine ⟨by kernel_rfl, by kernel_rfl, inlOk50, fun x hx => ?_⟩
  rw [ranges50] at hx
  obtain rfl := List.mem_singleton.1 hx
  exact ⟨rg50, rgR50, by simp [rgs50], rfl, rgI50, rgOk50, rfl, rfl, rfl⟩
/-- What is told outright. -/
def N0 : Nats := ⟨fun _ f => if f = 24 then some asF else if f = 34 then some isF else none, fun T f h1 h2 => by simp [h1, h2]⟩
theorem N0_ok : N0.Ok := by
  refine ⟨fun G k fc x => ?_⟩
  rw [rn_nat (D := DR G N0) (f := 24) (i := i24) (F := asF) rfl (k := k) rfl]
  simp [asF]
theorem N0_ok2 : N0.Ok2 := by
  refine ⟨fun G k a b c d => ?_⟩
  rw [rn_nat (D := DR G N0) (f := 34) (i := i34) (F := isF) rfl (k := k) rfl]
  simp [isF]
theorem infoR_ok : ∀ f i fn, infoR f = some i → Tryd.prog.funcs[f]? = some fn → f ≠ 24 → f ≠ 34 → InfoOk Tryd.prog f i fn := by
  intro f i fn h hf n1 n2
  unfold infoR at h
  split at h
  · cases h; obtain rfl := Option.some.inj (Tryd.func3.symm.trans hf); exact inf3
  · cases h; obtain rfl := Option.some.inj (Tryd.func4.symm.trans hf); exact inf4
  · cases h; obtain rfl := Option.some.inj (Tryd.func5.symm.trans hf); exact inf5
  · cases h; obtain rfl := Option.some.inj (Tryd.func6.symm.trans hf); exact inf6
  · cases h; obtain rfl := Option.some.inj (Tryd.func7.symm.trans hf); exact inf7
  · cases h; obtain rfl := Option.some.inj (Tryd.func8.symm.trans hf); exact inf8
  · cases h; obtain rfl := Option.some.inj (Tryd.func9.symm.trans hf); exact inf9
  · cases h; obtain rfl := Option.some.inj (Tryd.func10.symm.trans hf); exact inf10
  · cases h; obtain rfl := Option.some.inj (Tryd.func11.symm.trans hf); exact inf11
  · cases h; obtain rfl := Option.some.inj (Tryd.func12.symm.trans hf); exact inf12
  · cases h; obtain rfl := Option.some.inj (Tryd.func13.symm.trans hf); exact inf13
  · cases h; obtain rfl := Option.some.inj (Tryd.func14.symm.trans hf); exact inf14
  · cases h; obtain rfl := Option.some.inj (Tryd.func15.symm.trans hf); exact inf15
  · cases h; obtain rfl := Option.some.inj (Tryd.func16.symm.trans hf); exact inf16
  · cases h; obtain rfl := Option.some.inj (Tryd.func17.symm.trans hf); exact inf17
  · cases h; obtain rfl := Option.some.inj (Tryd.func18.symm.trans hf); exact inf18
  · cases h; obtain rfl := Option.some.inj (Tryd.func19.symm.trans hf); exact inf19
  · cases h; obtain rfl := Option.some.inj (Tryd.func20.symm.trans hf); exact inf20
  · cases h; obtain rfl := Option.some.inj (Tryd.func21.symm.trans hf); exact inf21
  · cases h; obtain rfl := Option.some.inj (Tryd.func22.symm.trans hf); exact inf22
  · cases h; obtain rfl := Option.some.inj (Tryd.func23.symm.trans hf); exact inf23
  · exact absurd rfl n1
  · cases h; obtain rfl := Option.some.inj (Tryd.func25.symm.trans hf); exact inf25
  · cases h; obtain rfl := Option.some.inj (Tryd.func26.symm.trans hf); exact inf26
  · cases h; obtain rfl := Option.some.inj (Tryd.func27.symm.trans hf); exact inf27
  · cases h; obtain rfl := Option.some.inj (Tryd.func28.symm.trans hf); exact inf28
  · cases h; obtain rfl := Option.some.inj (Tryd.func29.symm.trans hf); exact inf29
  · cases h; obtain rfl := Option.some.inj (Tryd.func30.symm.trans hf); exact inf30
  · cases h; obtain rfl := Option.some.inj (Tryd.func31.symm.trans hf); exact inf31
  · cases h; obtain rfl := Option.some.inj (Tryd.func32.symm.trans hf); exact inf32
  · cases h; obtain rfl := Option.some.inj (Tryd.func33.symm.trans hf); exact inf33
  · exact absurd rfl n2
  · cases h; obtain rfl := Option.some.inj (Tryd.func35.symm.trans hf); exact inf35
  · cases h; obtain rfl := Option.some.inj (Tryd.func36.symm.trans hf); exact inf36
  · cases h; obtain rfl := Option.some.inj (Tryd.func37.symm.trans hf); exact inf37
  · cases h; obtain rfl := Option.some.inj (Tryd.func38.symm.trans hf); exact inf38
  · cases h; obtain rfl := Option.some.inj (Tryd.func39.symm.trans hf); exact inf39
  · cases h; obtain rfl := Option.some.inj (Tryd.func44.symm.trans hf); exact inf44
  · cases h; obtain rfl := Option.some.inj (Tryd.func47.symm.trans hf); exact inf47
  · cases h; obtain rfl := Option.some.inj (Tryd.func48.symm.trans hf); exact inf48
  · cases h; obtain rfl := Option.some.inj (Tryd.func49.symm.trans hf); exact inf49
  · cases h; obtain rfl := Option.some.inj (Tryd.func50.symm.trans hf); exact inf50
  · cases h; obtain rfl := Option.some.inj (Tryd.func51.symm.trans hf); exact inf51
  · cases h; obtain rfl := Option.some.inj (Tryd.func52.symm.trans hf); exact inf52
  · cases h; obtain rfl := Option.some.inj (Tryd.func53.symm.trans hf); exact inf53
  · cases h; obtain rfl := Option.some.inj (Tryd.func56.symm.trans hf); exact inf56
  · cases h; obtain rfl := Option.some.inj (Tryd.func57.symm.trans hf); exact inf57
  · cases h; obtain rfl := Option.some.inj (Tryd.func58.symm.trans hf); exact inf58
  · cases h; obtain rfl := Option.some.inj (Tryd.func59.symm.trans hf); exact inf59
  · cases h; obtain rfl := Option.some.inj (Tryd.func60.symm.trans hf); exact inf60
  · cases h; obtain rfl := Option.some.inj (Tryd.func61.symm.trans hf); exact inf61
  · cases h; obtain rfl := Option.some.inj (Tryd.func62.symm.trans hf); exact inf62
  · cases h; obtain rfl := Option.some.inj (Tryd.func63.symm.trans hf); exact inf63
  · cases h; obtain rfl := Option.some.inj (Tryd.func64.symm.trans hf); exact inf64
  · cases h; obtain rfl := Option.some.inj (Tryd.func65.symm.trans hf); exact inf65
  · cases h; obtain rfl := Option.some.inj (Tryd.func66.symm.trans hf); exact inf66
  · cases h; obtain rfl := Option.some.inj (Tryd.func67.symm.trans hf); exact inf67
  · cases h; obtain rfl := Option.some.inj (Tryd.func68.symm.trans hf); exact inf68
  · cases h; obtain rfl := Option.some.inj (Tryd.func69.symm.trans hf); exact inf69
  · cases h; obtain rfl := Option.some.inj (Tryd.func70.symm.trans hf); exact inf70
  · cases h; obtain rfl := Option.some.inj (Tryd.func71.symm.trans hf); exact inf71
  · cases h; obtain rfl := Option.some.inj (Tryd.func72.symm.trans hf); exact inf72
  · cases h; obtain rfl := Option.some.inj (Tryd.func73.symm.trans hf); exact inf73
  · cases h; obtain rfl := Option.some.inj (Tryd.func74.symm.trans hf); exact inf74
  · cases h; obtain rfl := Option.some.inj (Tryd.func75.symm.trans hf); exact inf75
  · cases h; obtain rfl := Option.some.inj (Tryd.func76.symm.trans hf); exact inf76
  · cases h; obtain rfl := Option.some.inj (Tryd.func77.symm.trans hf); exact inf77
  · cases h; obtain rfl := Option.some.inj (Tryd.func78.symm.trans hf); exact inf78
  · cases h; obtain rfl := Option.some.inj (Tryd.func79.symm.trans hf); exact inf79
  · cases h; obtain rfl := Option.some.inj (Tryd.func80.symm.trans hf); exact inf80
  · cases h; obtain rfl := Option.some.inj (Tryd.func81.symm.trans hf); exact inf81
  · cases h; obtain rfl := Option.some.inj (Tryd.func82.symm.trans hf); exact inf82
  · cases h; obtain rfl := Option.some.inj (Tryd.func83.symm.trans hf); exact inf83
  · cases h; obtain rfl := Option.some.inj (Tryd.func84.symm.trans hf); exact inf84
  · cases h; obtain rfl := Option.some.inj (Tryd.func85.symm.trans hf); exact inf85
  · cases h
/-- **What is told of the program is so.** -/
theorem descOk : DescOk (DR G0 N0) := by
  refine ⟨by kernel_rfl, fun T hT f F h => ?_, fun f i fn h hf hn => ?_, fun f => ?_⟩
  · have h' : (if f = 24 then some asF else if f = 34 then some isF else none) = some F := h
    by_cases e1 : f = 24
    · subst e1
      rw [if_pos rfl] at h'
      cases h'
      exact ⟨by kernel_rfl, asF_ok⟩
    · by_cases e2 : f = 34
      · subst e2
        rw [if_neg e1, if_pos rfl] at h'
        cases h'
        exact ⟨by kernel_rfl, isF_ok⟩
      · rw [if_neg e1, if_neg e2] at h'; cases h'
  · have h0 : (if f = 24 then some asF else if f = 34 then some isF else none) = none := hn (fun _ => none)
    exact infoR_ok f i fn h hf (fun e => by subst e; simp at h0) (fun e => by subst e; simp at h0)
  · by_cases e1 : f = 24
    · exact .inr fun T => ⟨asF, by subst e1; rfl⟩
    · by_cases e2 : f = 34
      · exact .inr fun T => ⟨isF, by subst e2; rfl⟩
      · exact .inl fun T => N0.off T f e1 e2
end Go.Proofs.YtmekfllddifglaaDoor.AM

/- The relax seat: from a run of the abstract machine to a call; what is kept; what is read again. Conditions: none. -/
set_option linter.unusedVariables false
set_option linter.unusedSimpArgs false
namespace Go.Proofs.YtmekfllddifglaaDoor.AM
open Go Go.ChangeShapes Go.WideShapes
abbrev laidR : List (String × DataW Unit) := [("errors.errorType", Rows.laid_errors_errorType)]
theorem ownR : ownKnob Tryd.prog.godebug = none := by kernel_rfl
theorem etR : Tryd.prog.globalNamed "errors.errorType" = some 0 := by kernel_rfl
theorem rtR : (Tryd.prog.cutTypes.find? (·.1 == "internal/reflectlite.rtype")).map (·.2) = some 125 := by kernel_rfl
theorem oneRowR : ((List.range 208).filter fun t => Tryd.prog.rowNamed t [101, 114, 114, 111, 114]) = [33] := by kernel_rfl
theorem sizeR : Tryd.prog.types.size = 208 := by kernel_rfl
/-- What the condition gives: the variable's one cell. -/
theorem handle_of_laid {W : World} (h : laidMetH Tryd.prog laidR W) : W.cell? ⟨0, 0, none⟩ = some (.iface 125 (.agg #[.pointer (some ⟨1, 33, none⟩)])) := by
  have h' : laidMet Tryd.prog [] W ∧ handlesMet Tryd.prog laidR W := h
  obtain ⟨name, u, ty, e1, e2, e3, e4, e5⟩ := h'.2 _ (List.mem_singleton.2 rfl)
  have en : name = [101, 114, 114, 111, 114] := (Option.some.inj e1).symm
  subst en
  obtain rfl := Option.some.inj (rtR.symm.trans e2)
  have hm : ty ∈ (List.range 208).filter fun t => Tryd.prog.rowNamed t [101, 114, 114, 111, 114] := List.mem_filter.2 ⟨List.mem_range.2 (by rw [← sizeR]; exact e3), e4⟩
  rw [oneRowR] at hm
  obtain rfl := List.mem_singleton.1 hm
  have hh : typeHandle Tryd.prog 33 = .pointer (some ⟨1, 33, none⟩) := by kernel_rfl
  rw [hh] at e5
  simpa using World.var?_cell etR e5 0
/-- A world that meets the condition: the settled one, the variable's cell laid. -/
noncomputable def laidWorld (os : Os) : World :=
  let w0 := World.holding Tryd.prog os ⟨#[], #[], []⟩
  { w0 with heap := w0.heap.modify 0 fun
      | .cells _ t frozen => .cells #[.iface 125 (.agg #[.pointer (some ⟨1, 33, none⟩)])] t frozen
      | o => o }
theorem laidWorld_met (os : Os) (args : Array Value) : laidMetH Tryd.prog laidR ((laidWorld os).forCall (fun _ _ => 0) ⟨#[], args, []⟩).memory :=
  laidMetH_of_parts (laidMet_nil _ _) (by kernel_rfl)
/-- What a run leaves of the world. -/
structure Kept (W W' : World) : Prop where
  os : W'.os = W.os
  output : W'.output = W.output
  size : W.heap.size ≤ W'.heap.size
  heap : ∀ b, b < W.heap.size → W'.heap[b]? = W.heap[b]?
theorem Kept.but {W W' : World} (h : Kept W W') (may : MemPlace → Prop) : W.keptBut W' may := by
  refine ⟨h.os, h.output, fun i hi => ?_⟩
  rw [h.heap i hi]
  cases W.heap[i]? with
  | none => rfl
  | some o => cases o <;> first | exact ⟨rfl, rfl, rfl, fun _ _ => rfl⟩ | exact .inr ⟨rfl, rfl⟩ | rfl
theorem kidsR : Kids Tryd.prog (· < Tryd.prog.types.size) := kids_rows (by kernel_rfl) (by kernel_rfl)
theorem fullR : ∀ t e, t < Tryd.prog.types.size → Tryd.prog.underlying t = some (.slice e) → 0 < Tryd.prog.cellsOf e := slices_full_of _ (by kernel_rfl)
section
variable {H : Type} {enc : TypeId × Value → H}
theorem Kept.at {W W' : World} (h : Kept W W') (p : MemPlace) (hp : p.block < W.heap.size) : W.sameAt W' p := by
  cases p with
  | cell b off => exact World.cell?_of_block (w := W) (h.heap b hp)
  | map b => exact h.heap b hp
theorem carryAll {P : Program} {W W' : World} {base : Nat} {spare : Nat → Bool} {held : Bool} : ∀ {ts : List TypeId} {vs : List Value} {ds : List (DataW H)} {ps : List MemPlace}, DataW.TrodAll enc P W base spare held ts vs ds ps → (∀ p ∈ ps, W.sameAt W' p) → DataW.TrodAll enc P W' base spare held ts vs ds ps
  | [], [], [], _, h, _ => h
  | _ :: _, _ :: _, _ :: _, _, ⟨p, q, ⟨n, h1⟩, h2, e⟩, hs => ⟨p, q, ⟨n, DataW.trod_carry n _ _ _ h1 (fun x hx => hs x (by rw [e]; exact List.mem_append_left _ hx))⟩, carryAll h2 (fun x hx => hs x (by rw [e]; exact List.mem_append_right _ hx)), e⟩
theorem Kept.again {W W' : World} (h : Kept W W') {ts : List TypeId} {vs : List Value} {ds : List (DataW H)} {ps : List MemPlace} (hT : ∀ t ∈ ts, t < Tryd.prog.types.size) (hr : DataW.TrodAll enc Tryd.prog W 0 (fun _ => true) true ts vs ds ps) :
    DataW.TrodAll enc Tryd.prog W' 0 (fun b => decide (b < W.heap.size)) true ts vs ds ps := by
  have hlt := DataW.TrodAll.lt hr
  exact DataW.TrodAll.respare kidsR fullR hT (carryAll hr fun p hp => h.at p (hlt p hp)) fun p hp => by simpa using hlt p hp
end
/-- **A run of the abstract machine that answers true is a call that answers true, and leaves all there was.** -/
theorem call_of_run {W : World} (hL : laidMetH Tryd.prog laidR W) {f K n : Nat} {avs : List AV} {vals : List Value} (hv : ∀ S γ, VRels S γ (old W) W avs vals) (hr : rn (DR G0 N0) K f avs (List.replicate n []) = some (.v (.bool true), List.replicate n [])) :
    Calls Tryd.prog f vals.toArray W fun e W' => e = .returned (.bool true) ∧ Kept W W' := by
  have nl : ∀ r p v o, live (List.replicate n ([] : Sub)) r p v ≠ some o := by
    intro r p v o h
    have : sub (List.replicate n ([] : Sub)) r = [] := by
      simp only [sub, List.getD_eq_getElem?_getD, List.getElem?_replicate]
      split <;> rfl
    unfold live at h
    rw [this] at h
    by_cases hv0 : 0 = v <;> simp [Sub.live, Sub.ent, hv0] at h
  have c0 : ∀ r p, ctr (List.replicate n ([] : Sub)) r p = 0 := by
    intro r p
    have : sub (List.replicate n ([] : Sub)) r = [] := by
      simp only [sub, List.getD_eq_getElem?_getD, List.getElem?_replicate]
      split <;> rfl
    unfold ctr
    rw [this]
    rfl
  have hC : COk (⟨W, fun _ => False, old W⟩ : Ctx) G0 := ⟨fun g cells hg => by
    unfold G0 at hg
    split at hg
    · rename_i h0
      subst h0
      cases hg
      have hc := handle_of_laid hL
      exact ⟨⟨(cell_lt hc).1, _, hc, rfl, ⟨_, rfl, _, rfl, _, _, rfl, rfl, rfl⟩⟩, trivial⟩
    · cases hg⟩
  have hI : Inv (⟨W, fun _ => False, old W⟩ : Ctx) (List.replicate n []) (fun _ _ _ => undef) (old W) W :=
    ⟨rfl, rfl, rfl, Nat.le_refl _, fun _ _ _ => rfl, fun _ _ => rfl, fun _ h => h, fun _ h => h, fun _ h => .inl h, fun r p v o h => absurd h (nl r p v o), fun r p v o b h => absurd h (nl r p v o), fun r p v o _ _ _ _ _ h => absurd h (nl r p v o)⟩
  refine (rn_ok descOk K f avs _ _ _ hr c0 _ (fun _ _ _ => undef) vals hC hI (hv _ _)).mono ?_
  rintro e W' ⟨u, S2, rfl, _, γ', imm', hi, _, _, _, hx⟩
  obtain rfl : u = .bool true := hx
  exact ⟨rfl, hi.os, hi.output, hi.size, fun b hb => hi.keep b hb (fun h => h)⟩
end Go.Proofs.YtmekfllddifglaaDoor.AM
