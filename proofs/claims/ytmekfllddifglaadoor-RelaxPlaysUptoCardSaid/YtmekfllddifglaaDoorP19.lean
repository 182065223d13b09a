/- The relax seat: Sj. Conditions: none. -/
import Derived.Test.YtmekfllddifglaaDoorP18
set_option linter.unusedVariables false
set_option linter.unusedSimpArgs false
/- The relax seat: RelaxPlays, as the machine runs it. Conditions: none. -/
set_option linter.unusedVariables false
set_option linter.unusedSimpArgs false
set_option maxRecDepth 10000
namespace Go.Proofs.YtmekfllddifglaaDoor.AM
open Go
variable (G : Gl) (N : Nats) (k : Nat)
def isIfc : List AV → Bool
  | [.ifc _ (.ref _)] => true
  | _ => false
@[simp] theorem isIfc_1 (t : TypeId) (l : List AV) : isIfc [.ifc t (.ref l)] = true := rfl
theorem fpC_callIfc (P : Program) (T : Tbl) (sl : List AV) (S : Subs) (dst : Option Tmp) (ty : TypeId) (pos : String) (af : Array Edge) (gd : Option (Nat × Bool)) (g : FuncId) (args : Array Operand) (ats : Array TypeId) (h : isIfc (args.toList.map (opd G sl)) = true) :
    fpC G (carry P T) ⟨dst, .call ⟨.value (.func g), args, ats⟩, ty, pos, af, gd⟩ ⟨sl, S⟩ = ([], []) := by
  unfold fpC
  have ho : opd G sl (.func g) = .clo g [] [] := rfl
  simp only [carry, ho, List.nil_append, List.append_nil]
  cases hT : T g with
  | none => rfl
  | some x =>
    obtain ⟨md, F⟩ := x
    simp only []
    generalize args.toList.map (opd G sl) = l at h ⊢
    unfold isIfc at h
    split at h
    · rename_i t l
      have e0 : prepA md [.ifc t (.ref l)] = .ret [(.ifc t (.ref l), none)] := by
        simp only [prepA, tgt]
        cases md.headD false <;> rfl
      unfold aCall
      rw [e0]
      obtain ⟨qs, g1, g2⟩ := gather_flat [((.ifc t (.ref l) : AV), (none : Option (Nat × List Nat)))] (by simp)
      simp only [RW.bind]
      rw [g1]
      simp only [RW.bind]
      split
      · split
        · rename_i res Sc _
          rw [putB_flat qs Sc qs 0 g2]; rfl
        · rfl
      · rfl
    · cases h
def st6 (ni ns : Bool) (l : List It) (sy : List Sy) (i : Nat) : St :=
  ⟨[.sl ni (items l), .sl ns (syms sy)] ++ List.replicate 9 .dead ++ [.v (.int .i64 i)] ++ List.replicate 68 .dead, List.replicate 80 []⟩
set_option maxHeartbeats 8000000 in
theorem plays_rn (ok : N.Ok) (ok2 : N.Ok2) (ni ns : Bool) (l : List It) (sy : List Sy) (base : Int) (hsm : Small l) (hs : sy.length < 1000000) (hok : ∀ x ∈ l, x.Ok) (hb0 : 0 ≤ base) (hb1 : base < 4294967296) :
    rn (DR G N) (k + 21) 6 [.sl ni (items l), .sl ns (syms sy), .v (.int .u32 base)] [[], [], []] = some (.v (.bool true), [[], [], []]) := by
  rw [run6]
  have ha := awake_rn G N k ok ok2
  have hlt := light_rn G N (k + 18) ni ns l sy hsm
  cases hL : lightP l sy with
  | false =>
    rw [hL] at hlt
    simp -implicitDefEqProofs [Tryd.f6, endF, argsIn, subsIn, ha, hlt]
  | true =>
    rw [hL] at hlt
    obtain ⟨l60, s60⟩ := lightP_len hL
    have hsc := symsC_rn G N (k + 19) ns sy hs
    obtain ⟨m, res, hm, hrf, hy, hr⟩ := relax_light G N (k + 4) ok ni sy.isEmpty l (sy.map symC) base hok hsm.1 (by simpa using hs) hb0 hb1
    rw [ref_C] at hrf
    have hq := refRelax_rn G N (k + 4) ni ns l sy base hsm.1 hs hok hb0 hb1 m hm res hrf
    cases res with
    | error f =>
      obtain ⟨c1, c2⟩ := ref_code _ _ _ _ _ _ _ hrf
      simp only [layA, errA] at hr
      simp only [refA, fltA] at hq
      have hf := faultE_rn G N (k + 17) ok ok2 f c1 c2
      simp only [errA, fltA] at hf
      have hsame := same_rn G N (k + 18) true true true true true true ⟨[], [], [], 0⟩ ⟨[], [], [], 0⟩ (by simp) (by simp) (by simp)
      rw [sameP_refl] at hsame
      simp only [layL, ints, words, syms, List.map_nil, Int.natCast_zero, Int.cast_ofNat_Int] at hsame
      simp -implicitDefEqProofs [Tryd.f6, endF, argsIn, subsIn, ha, hlt, hsc, hr, hq, hsame, hf, setAll, cellAV, cellsS, drawD_cons, drawD_nil, Susp.at, Susp.keeps, List.lookup, FP.offB, fpC_callIfc, acode_loop]
      refine aloop_ind (Q := fun r => finF _ _ _ (thenA (blockA r 0) _) = _) (I := fun r st => ∃ p, l = p ++ r ∧ i6.hints.nm 0 st = some (st6 ni ns l sy p.length)) ?_ ?_ l _ ⟨[], rfl, by simp -implicitDefEqProofs [NormD.run, norm, st6, List.lookup]⟩
      · rintro st ⟨p, hp, hst⟩ K
        rw [List.append_nil] at hp
        subst hp
        rw [hst]
        simp -implicitDefEqProofs [st6, endF]
      · rintro x r st ⟨p, hp, hst⟩ K hK
        have h1 : p.length < l.length := by rw [hp]; simp
        have h2 : l[p.length] = x := by simp [hp]
        have h3 := wrap64 p.length (by omega)
        have ht := target_rn G N (k + 19) x sy.isEmpty (sy.map symC) (by simp; omega)
        rw [symF_C] at ht
        have hq := targetR_rn G N (k + 19) x ns sy (by omega)
        rw [hst]
        cases hs1 : symF x.name sy with
        | none =>
          rw [hs1] at ht hq
          simp -implicitDefEqProofs [st6, endF, argsIn, subsIn, h1, h2, h3, hsc, ht, hq, symA, drawD_cons, drawD_nil, Susp.at, Susp.keeps, List.lookup, FP.offB]
          refine hK _ ⟨p ++ [x], by simp [hp], ?_⟩
          simp -implicitDefEqProofs [NormD.run, norm, st6, List.lookup]
        | some v =>
          rw [hs1] at ht hq
          simp -implicitDefEqProofs [st6, endF, argsIn, subsIn, h1, h2, h3, hsc, ht, hq, symA, drawD_cons, drawD_nil, Susp.at, Susp.keeps, List.lookup, FP.offB]
          refine hK _ ⟨p ++ [x], by simp [hp], ?_⟩
          simp -implicitDefEqProofs [NormD.run, norm, st6, List.lookup]
    | ok y =>
      obtain ⟨y1, y2, y3⟩ := hy y rfl
      obtain ⟨y4, y5⟩ := ref_lens _ _ _ _ _ _ _ hrf
      have hsl := hsm.1
      simp only [layA] at hr
      simp only [refA, layL, fltA] at hq
      have hf := faultN_rn G N (k + 18)
      simp only [fltA] at hf
      have hsame := same_rn G N (k + 18) false false y.labs.isEmpty false false y.labs.isEmpty y y (by omega) (by omega) (by omega)
      rw [sameP_refl] at hsame
      simp only [layL] at hsame
      simp -implicitDefEqProofs [Tryd.f6, endF, argsIn, subsIn, ha, hlt, hsc, hr, hq, hsame, hf, setAll, cellAV, cellsS, drawD_cons, drawD_nil, Susp.at, Susp.keeps, List.lookup, FP.offB, acode_loop]
      refine aloop_ind (Q := fun r => finF _ _ _ (thenA (blockA r 0) _) = _) (I := fun r st => ∃ p, l = p ++ r ∧ i6.hints.nm 0 st = some (st6 ni ns l sy p.length)) ?_ ?_ l _ ⟨[], rfl, by simp -implicitDefEqProofs [NormD.run, norm, st6, List.lookup]⟩
      · rintro st ⟨p, hp, hst⟩ K
        rw [List.append_nil] at hp
        subst hp
        rw [hst]
        simp -implicitDefEqProofs [st6, endF]
      · rintro x r st ⟨p, hp, hst⟩ K hK
        have h1 : p.length < l.length := by rw [hp]; simp
        have h2 : l[p.length] = x := by simp [hp]
        have h3 := wrap64 p.length (by omega)
        have ht := target_rn G N (k + 19) x sy.isEmpty (sy.map symC) (by simp; omega)
        rw [symF_C] at ht
        have hq := targetR_rn G N (k + 19) x ns sy (by omega)
        rw [hst]
        cases hs1 : symF x.name sy with
        | none =>
          rw [hs1] at ht hq
          simp -implicitDefEqProofs [st6, endF, argsIn, subsIn, h1, h2, h3, hsc, ht, hq, symA, drawD_cons, drawD_nil, Susp.at, Susp.keeps, List.lookup, FP.offB]
          refine hK _ ⟨p ++ [x], by simp [hp], ?_⟩
          simp -implicitDefEqProofs [NormD.run, norm, st6, List.lookup]
        | some v =>
          rw [hs1] at ht hq
          simp -implicitDefEqProofs [st6, endF, argsIn, subsIn, h1, h2, h3, hsc, ht, hq, symA, drawD_cons, drawD_nil, Susp.at, Susp.keeps, List.lookup, FP.offB]
          refine hK _ ⟨p ++ [x], by simp [hp], ?_⟩
          simp -implicitDefEqProofs [NormD.run, norm, st6, List.lookup]
end Go.Proofs.YtmekfllddifglaaDoor.AM
