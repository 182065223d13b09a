/- The relax seat: Pb, Pc, Pd, Sh, Pe. Conditions: none. -/
import Derived.Test.YtmekfllddifglaaDoorP17
import Derived.Test.YtmekfllddifglaaDoorP16
set_option linter.unusedVariables false
set_option linter.unusedSimpArgs false
/- The relax seat, in plain Lean: the program's places are the document's. Conditions: none. -/
set_option linter.unusedVariables false
set_option linter.unusedSimpArgs false
namespace Go.Proofs.YtmekfllddifglaaDoor.AM
open Go
def clampP (s : Int) : Int := if s < 0 then 0 else if 8 < s then 8 else s
theorem said_clamp (sz : List Int) (i : Nat) : saidP sz i = clampP (sz.getD i 0) := by
  unfold saidP clampP
  split
  · rename_i h; simp [h]
  · rename_i h; simp [List.getElem?_eq_none (show sz.length ≤ i by omega)]
theorem clamp_range (s : Int) : 0 ≤ clampP s ∧ clampP s ≤ 8 := by
  unfold clampP; split
  · omega
  · split <;> omega
theorem wrapU64 {x : Int} (h0 : 0 ≤ x) (h1 : x < 18446744073709551616) : IntKind.wrap .u64 x = x := by simp [IntKind.wrap, IntKind.bits, IntKind.signed]; omega
/-- How many bytes. -/
theorem bytes_eq (x : It) (hx : x.Ok) (s at_ base : Int) (hb0 : 0 ≤ base) (ha0 : base ≤ at_) (ha1 : at_ ≤ base + 65536) (ha2 : at_ < 4294967296) :
    bytesP x s at_ base = lenP x (clampP s) at_ base ∧ ∀ n, lenP x (clampP s) at_ base = some n → 0 ≤ n ∧ n < 4294967296 + 65536 := by
  have hc := clamp_range s
  have hn := hx.1
  have hh := classes_pos x
  have hs := classes_small x hx.2.1
  unfold bytesP lenP
  by_cases h4 : x.kind = 4
  · have : IntKind.wrap .u64 (clampP s) = clampP s := wrapU64 hc.1 (by omega)
    have e : (if 8 < (if s < 0 then 0 else s) then 8 else (if s < 0 then 0 else s)) = clampP s := by unfold clampP; repeat' split <;> omega
    simp [h4, e, this]; omega
  by_cases h5 : x.kind = 5
  · have : IntKind.wrap .u64 (clampP s) = clampP s := wrapU64 hc.1 (by omega)
    have e : (if 8 < (if s < 0 then 0 else s) then 8 else (if s < 0 then 0 else s)) = clampP s := by unfold clampP; repeat' split <;> omega
    simp [h5, e, this]; omega
  by_cases h6 : x.kind = 6
  · have : IntKind.wrap .u64 (clampP s) = clampP s := wrapU64 hc.1 (by omega)
    have e : (if 8 < (if s < 0 then 0 else s) then 8 else (if s < 0 then 0 else s)) = clampP s := by unfold clampP; repeat' split <;> omega
    simp [h6, e, this]; omega
  by_cases h10 : x.kind = 10
  · have w : IntKind.wrap .u64 x.num = x.num := wrapU64 hn.1 (by omega)
    by_cases hz : x.num = 0
    · have w0 : IntKind.wrap .u64 0 = 0 := by decide
      simp [h10, hz, w0]
    · have hp : 0 < x.num := by omega
      have ht : at_.tmod x.num = at_ % x.num := Int.tmod_eq_emod_of_nonneg (by omega)
      have m0 := Int.emod_nonneg at_ hz
      have m1 := Int.emod_lt_of_pos at_ hp
      have w2 : IntKind.wrap .u64 (x.num - at_ % x.num) = x.num - at_ % x.num := wrapU64 (by omega) (by omega)
      have t2 : (x.num - at_ % x.num).tmod x.num = (x.num - at_ % x.num) % x.num := Int.tmod_eq_emod_of_nonneg (by omega)
      have q0 := Int.emod_nonneg (x.num - at_ % x.num) hz
      have q1 := Int.emod_lt_of_pos (x.num - at_ % x.num) hp
      have k1 : ¬ ((10 : Int) = 4) := by omega
      have k2 : ¬ ((10 : Int) = 5) := by omega
      have k3 : ¬ ((10 : Int) = 6) := by omega
      have k4 : ¬ ((10 : Int) = 11) := by omega
      simp only [h10, w, hz, hp, ht, w2, t2, k1, k2, k3, or_self, if_true, if_false]
      exact ⟨trivial, fun n h => by cases h; omega⟩
  by_cases h11 : x.kind = 11
  · have w : IntKind.wrap .u64 x.num = x.num := wrapU64 hn.1 (by omega)
    have w2 : IntKind.wrap .u64 (at_ - base) = at_ - base := wrapU64 (by omega) (by omega)
    by_cases hz : x.num < at_ - base
    · simp [h11, w, w2, hz]; omega
    · have w3 : IntKind.wrap .u64 (x.num - (at_ - base)) = x.num - (at_ - base) := wrapU64 (by omega) (by omega)
      simp only [h11, w, w2, hz, w3]
      simp
      refine ⟨⟨by omega, by omega⟩, by omega⟩
  · have : IntKind.wrap .u64 ((classesP x).headD 0) = (classesP x).headD 0 := wrapU64 hh (by omega)
    simp only [h4, h5, h6, h10, h11, this, or_self, if_false, Option.some.injEq, true_and]
    intro n hn'; omega
theorem step_eq (x : It) (hx : x.Ok) (s at_ base : Int) (hb0 : 0 ≤ base) (hb1 : base < 4294967296) (ha0 : base ≤ at_) (ha1 : at_ ≤ base + 65536) (ha2 : at_ < 4294967296) :
    stepQ x s at_ base = stepP x (clampP s) at_ base ∧ ∀ e, stepP x (clampP s) at_ base = .ok e → base ≤ e ∧ e ≤ base + 65536 ∧ e < 4294967296 ∧ at_ ≤ e := by
  obtain ⟨hb, hr⟩ := bytes_eq x hx s at_ base hb0 ha0 ha1 ha2
  have hi : x.instr = true ↔ 2 ≤ x.kind ∧ x.kind ≤ 7 := by
    simp only [It.instr, Bool.or_eq_true, decide_eq_true_eq]; omega
  have ht : at_.tmod 2 = at_ % 2 := Int.tmod_eq_emod_of_nonneg (by omega)
  unfold stepQ stepP
  rw [hb]
  by_cases c : 2 ≤ x.kind ∧ x.kind ≤ 7 ∧ at_ % 2 = 1
  · have c' : x.instr = true ∧ ¬ at_.tmod 2 = 0 := ⟨hi.2 ⟨c.1, c.2.1⟩, by rw [ht]; omega⟩
    rw [if_pos c, if_pos c']
    exact ⟨rfl, fun e h => by cases h⟩
  · have c' : ¬ (x.instr = true ∧ ¬ at_.tmod 2 = 0) := by
      rintro ⟨d1, d2⟩
      rw [ht] at d2
      exact c ⟨(hi.1 d1).1, (hi.1 d1).2, by omega⟩
    rw [if_neg c, if_neg c']
    cases hl : lenP x (clampP s) at_ base with
    | none => exact ⟨rfl, fun e h => by cases h⟩
    | some n =>
      obtain ⟨n0, n1⟩ := hr n hl
      have w1 : IntKind.wrap .u64 (at_ + n) = at_ + n := wrapU64 (by omega) (by omega)
      have w2 : IntKind.wrap .u64 (at_ + n - base) = at_ + n - base := wrapU64 (by omega) (by omega)
      simp only [w1, w2]
      by_cases d1 : 65536 < at_ + n - base
      · simp [d1]
      · by_cases d2 : 4294967296 ≤ at_ + n
        · have : 4294967295 < at_ + n := by omega
          simp [d1, d2, this]
        · have : ¬ 4294967295 < at_ + n := by omega
          simp only [d1, d2, this, or_self, if_false, true_and]
          intro e he
          cases he
          omega
theorem place_eq (base : Int) (sz : List Int) (hb0 : 0 ≤ base) (hb1 : base < 4294967296) : ∀ (l : List It) (i : Nat) (at_ : Int), (∀ x ∈ l, x.Ok) → base ≤ at_ → at_ ≤ base + 65536 → at_ < 4294967296 →
    placeQ base sz i l at_ = placeP base (saidP sz) i l at_
  | [], i, at_, _, _, _, _ => rfl
  | x :: r, i, at_, hok, h0, h1, h2 => by
    obtain ⟨he, hr⟩ := step_eq x (hok x (by simp)) (sz.getD i 0) at_ base hb0 hb1 h0 h1 h2
    simp only [placeQ, placeP, he, said_clamp]
    cases hs : stepP x (clampP (sz.getD i 0)) at_ base with
    | error c => rfl
    | ok e =>
      obtain ⟨r1, r2, r3, r4⟩ := hr e hs
      simp only []
      rw [place_eq base sz hb0 hb1 r (i + 1) e (fun y hy => hok y (by simp [hy])) r1 r2 r3, wrapU32 (by omega) r3]
end Go.Proofs.YtmekfllddifglaaDoor.AM

/- The relax seat, in plain Lean: the program's passes are the document's. Conditions: none. -/
set_option linter.unusedVariables false
set_option linter.unusedSimpArgs false
namespace Go.Proofs.YtmekfllddifglaaDoor.AM
open Go
theorem labs_sym (at_ : List Int) (sy : List Sy) (n : ByteArray) : ∀ (l : List It) (i : Nat) (q labs : List Sy), labelsP at_ sy i l q = .ok labs → symF n labs = (symF n q).or ((hereF n i l).map fun j => at_.getD j 0)
  | [], i, q, labs, h => by simp only [labelsP] at h; cases h; simp [hereF]
  | x :: r, i, q, labs, h => by
    simp only [labelsP] at h
    simp only [hereF]
    split at h
    · rename_i hk
      rw [if_pos hk]
      split at h
      · cases h
      · rw [labs_sym at_ sy n r (i + 1) _ labs h, symF_append, Option.or_assoc]
        congr 1
        simp only [symF, sameN_eq]
        by_cases e : x.name = n <;> simp [e]
    · rename_i hk
      rw [if_neg hk]
      exact labs_sym at_ sy n r (i + 1) q labs h
theorem labels_map (at_ at2 : List Int) (sy : List Sy) : ∀ (l : List It) (i : Nat) (q q2 : List Sy), (∀ n, hasN n q = hasN n q2) → (∀ f, labelsP at_ sy i l q = .error f ↔ labelsP at2 sy i l q2 = .error f)
  | [], i, q, q2, h, f => by simp [labelsP]
  | x :: r, i, q, q2, h, f => by
    simp only [labelsP]
    by_cases hk : x.kind = 1
    · simp only [hk, if_true, h x.name]
      split
      · exact Iff.rfl
      · exact labels_map at_ at2 sy r (i + 1) _ _ (fun n => by rw [hasN_append, hasN_append, h n]; rfl) f
    · simp only [hk, if_false]
      exact labels_map at_ at2 sy r (i + 1) q q2 h f
def tgtV (at_ : List Int) (g : Int × Int) : Int := if 0 ≤ g.1 then at_.getD g.1.toNat 0 else g.2
theorem tgt_sym {at_ : List Int} {sy : List Sy} {l : List It} {labs : List Sy} (h : labelsP at_ sy 0 l [] = .ok labs) (n : ByteArray) : symF n (sy ++ labs) = (tgtF n sy l).map (tgtV at_) := by
  rw [symF_append, labs_sym at_ sy n l 0 [] labs h]
  unfold tgtF
  cases symF n sy with
  | some v => simp [tgtV]
  | none =>
    simp only [symF, Option.none_or]
    cases hereF n 0 l with
    | none => rfl
    | some j => simp [tgtV]
/-- The goals, one behind the other. -/
def goalsF (sy : List Sy) (l0 : List It) : Nat → List It → Except Flt (List Gl')
  | _, [] => .ok []
  | i, x :: r => if x.grows then (match tgtF x.name sy l0 with
      | none => .error (x.line, x.col, 11)
      | some g => (goalsF sy l0 (i + 1) r).map (⟨i, g.1, g.2⟩ :: ·)) else goalsF sy l0 (i + 1) r
theorem goals_F (sy : List Sy) (l0 : List It) : ∀ (r : List It) (i : Nat) (acc : List Gl'), goalsP sy l0 i r acc = (goalsF sy l0 i r).map (acc ++ ·)
  | [], i, acc => by simp [goalsP, goalsF, Except.map]
  | x :: r, i, acc => by
    simp only [goalsP, goalsF]
    split
    · cases tgtF x.name sy l0 with
      | none => rfl
      | some g =>
        simp only []
        rw [goals_F sy l0 r (i + 1) _]
        cases goalsF sy l0 (i + 1) r <;> simp [Except.map]
    · exact goals_F sy l0 r (i + 1) acc
theorem round_err {at_ : List Int} {sy : List Sy} {l0 : List It} {labs : List Sy} (h : labelsP at_ sy 0 l0 [] = .ok labs) (sz : List Int) : ∀ (r : List It) (i : Nat) (f : Flt) (nx : List Int) (ag : Bool), goalsF sy l0 i r = .error f → roundR (sy ++ labs) at_ sz i r nx ag = .error f
  | [], i, f, nx, ag, hg => by simp [goalsF] at hg
  | x :: r, i, f, nx, ag, hg => by
    simp only [goalsF] at hg
    simp only [roundR]
    split at hg
    · rename_i hx
      rw [if_pos hx, tgt_sym h]
      cases ht : tgtF x.name sy l0 with
      | none => rw [ht] at hg; cases hg; rfl
      | some g =>
        rw [ht] at hg
        simp only [] at hg
        have hg' : goalsF sy l0 (i + 1) r = .error f := by
          cases hh : goalsF sy l0 (i + 1) r with
          | error e => rw [hh] at hg; cases hg; rfl
          | ok e => rw [hh] at hg; cases hg
        simp only [Option.map_some]
        split
        · exact round_err h sz r (i + 1) f nx ag hg'
        · split
          · exact round_err h sz r (i + 1) f _ true hg'
          · exact round_err h sz r (i + 1) f nx ag hg'
    · rename_i hx
      rw [if_neg hx]
      exact round_err h sz r (i + 1) f nx ag hg
theorem getD_set_ne (l : List Int) {i j : Nat} (v : Int) (h : i ≠ j) : (l.set i v).getD j 0 = l.getD j 0 := by
  simp [List.getD_eq_getElem?_getD, List.getElem?_set_ne h]
theorem round_ok {at_ : List Int} {sy : List Sy} {l0 : List It} {labs : List Sy} (h : labelsP at_ sy 0 l0 [] = .ok labs) (sz : List Int) : ∀ (r : List It) (p : List It) (gs : List Gl') (nx : List Int) (ag : Bool), l0 = p ++ r → goalsF sy l0 p.length r = .ok gs → (∀ j, p.length ≤ j → nx.getD j 0 = sz.getD j 0) →
    roundR (sy ++ labs) at_ sz p.length r nx ag = .ok (growP l0 at_ gs nx ag)
  | [], p, gs, nx, ag, hp, hg, hz => by simp only [goalsF] at hg; cases hg; rfl
  | x :: r, p, gs, nx, ag, hp, hg, hz => by
    simp only [goalsF] at hg
    simp only [roundR]
    have hp' : l0 = (p ++ [x]) ++ r := by simp [hp]
    have hl : (p ++ [x]).length = p.length + 1 := by simp
    have hz' : ∀ j, (p ++ [x]).length ≤ j → nx.getD j 0 = sz.getD j 0 := fun j hj => hz j (by simp at hj; omega)
    split at hg
    · rename_i hx
      rw [if_pos hx, tgt_sym h]
      cases ht : tgtF x.name sy l0 with
      | none => rw [ht] at hg; cases hg
      | some g =>
        rw [ht] at hg
        simp only [] at hg
        cases hh : goalsF sy l0 (p.length + 1) r with
        | error e => rw [hh] at hg; cases hg
        | ok gs' =>
          rw [hh] at hg
          cases hg
          have hx0 : l0[p.length]? = some x := by rw [hp]; simp
          have hfar : farP ⟨p.length, g.1, g.2⟩ at_ = IntKind.wrap .i32 (IntKind.wrap .u32 (tgtV at_ g - at_.getD p.length 0)) := by simp [farP, tgtV]
          have hr := i32_range (IntKind.wrap .u32 (tgtV at_ g - at_.getD p.length 0))
          have ih := fun nx ag hz => round_ok h sz r (p ++ [x]) gs' nx ag hp' (by rw [hl]; exact hh) hz
          rw [hl] at ih
          simp only [Option.map_some, growP, grow1, Int.toNat_natCast, hx0, hfar, hz p.length (Nat.le_refl _), next_eq x hx, reach_eq x hx _ _ hr.1 hr.2]
          split
          · exact ih nx ag (by simpa [hl] using hz')
          · split
            · refine ih _ true fun j hj => ?_
              rw [getD_set_ne _ _ (by omega)]
              exact hz j (by omega)
            · exact ih nx ag (by simpa [hl] using hz')
    · rename_i hx
      rw [if_neg hx]
      have ih := round_ok h sz r (p ++ [x]) gs nx ag hp' (by rw [hl]; exact hg) hz'
      rw [hl] at ih
      exact ih
end Go.Proofs.YtmekfllddifglaaDoor.AM

/- The relax seat, in plain Lean: the passes come to an end, and are the document's. Conditions: none. -/
set_option linter.unusedVariables false
set_option linter.unusedSimpArgs false
namespace Go.Proofs.YtmekfllddifglaaDoor.AM
open Go
def rank (x : It) (s : Int) : Nat := if x.grows then (classesP x).countP (fun c => decide (s < c)) else 0
def potF : List It → List Int → Nat
  | x :: r, s :: t => rank x s + potF r t
  | _, _ => 0
theorem potF_set (v : Int) : ∀ (l : List It) (nx : List Int) (i : Nat) (x : It), nx.length = l.length → l[i]? = some x → potF l (nx.set i v) + rank x (nx.getD i 0) = potF l nx + rank x v
  | [], nx, i, x, hn, hx => by simp at hx
  | y :: l, [], i, x, hn, hx => by simp at hn
  | y :: l, s :: t, 0, x, hn, hx => by
    simp at hx; subst hx
    simp [potF]; omega
  | y :: l, s :: t, i + 1, x, hn, hx => by
    have := potF_set v l t i x (by simpa using hn) (by simpa using hx)
    simp [potF] at this ⊢
    omega
theorem rank_next (x : It) (h : x.grows = true) (s : Int) (hn : (nextF s (classesP x)).2 = true) : rank x (nextF s (classesP x)).1 + 1 ≤ rank x s := by
  unfold rank
  rw [if_pos h, if_pos h]
  rcases classes_cases x h with e | e | e | e | e <;> rw [e] at hn ⊢ <;> simp only [nextF] at hn ⊢ <;>
    by_cases h2 : s < 2 <;> by_cases h4 : s < 4 <;> by_cases h8 : s < 8 <;> simp [h2, h4, h8] at hn ⊢ <;> omega
theorem rank_first (x : It) (h : x.grows = true) : rank x ((classesP x).headD 0) ≤ 2 := by
  unfold rank
  rw [if_pos h]
  rcases classes_cases x h with e | e | e | e | e <;> rw [e] <;> simp
theorem round_pot (all : List Sy) (at_ sz : List Int) (l0 : List It) : ∀ (r p : List It) (nx : List Int) (ag : Bool) (nx' : List Int) (ag' : Bool), l0 = p ++ r → nx.length = l0.length → (∀ j, p.length ≤ j → nx.getD j 0 = sz.getD j 0) →
    roundR all at_ sz p.length r nx ag = .ok (nx', ag') → nx'.length = l0.length ∧ potF l0 nx' + ag'.toNat ≤ potF l0 nx + ag.toNat
  | [], p, nx, ag, nx', ag', hp, hn, hz, h => by
    simp only [roundR] at h; cases h; exact ⟨hn, Nat.le_refl _⟩
  | x :: r, p, nx, ag, nx', ag', hp, hn, hz, h => by
    have hp' : l0 = (p ++ [x]) ++ r := by simp [hp]
    have hl : (p ++ [x]).length = p.length + 1 := by simp
    have hz' : ∀ j, (p ++ [x]).length ≤ j → nx.getD j 0 = sz.getD j 0 := fun j hj => hz j (by simp at hj; omega)
    have ih := fun nx ag hn hz h => round_pot all at_ sz l0 r (p ++ [x]) nx ag nx' ag' hp' hn hz h
    rw [hl] at ih hz'
    simp only [roundR] at h
    split at h
    · rename_i hx
      cases hs : symF x.name all with
      | none => rw [hs] at h; cases h
      | some v =>
        rw [hs] at h
        simp only [] at h
        split at h
        · exact ih nx ag hn hz' h
        · split at h
          · rename_i hn2
            have hx0 : l0[p.length]? = some x := by rw [hp]; simp
            have e := potF_set (nextF (sz.getD p.length 0) (classesP x)).1 l0 nx p.length x hn hx0
            have := ih _ true (by simpa using hn) (fun j hj => by rw [getD_set_ne _ _ (by omega)]; exact hz j (by omega)) h
            have hr := rank_next x hx _ hn2
            rw [hz p.length (Nat.le_refl _)] at e
            refine ⟨this.1, ?_⟩
            have h2 := this.2
            have t1 : true.toNat = 1 := rfl
            have t2 : false.toNat = 0 := rfl
            rw [t1] at h2
            cases ag
            · rw [t2]; omega
            · rw [t1]; omega
          · exact ih nx ag hn hz' h
    · exact ih nx ag hn hz' h
theorem ref_ends (l : List It) (sy : List Sy) (base : Int) : ∀ (m : Nat) (sz : List Int) (n : Nat), sz.length = l.length → potF l sz < m → ∃ res, refP l sy base m sz n = some res ∧ ∀ y, res = .ok y → n + 1 ≤ y.n ∧ y.n ≤ n + 1 + potF l sz ∧ y.sz.length = l.length
  | 0, sz, n, hz, hm => by omega
  | m + 1, sz, n, hz, hm => by
    simp only [refP]
    cases hP : placeP base (saidP sz) 0 l base with
    | error f => exact ⟨_, rfl, fun y h => by cases h⟩
    | ok es =>
      simp only []
      cases hL : labelsP (base :: es) sy 0 l [] with
      | error f => exact ⟨_, rfl, fun y h => by cases h⟩
      | ok labs =>
        simp only []
        cases hR : roundR (sy ++ labs) (base :: es) sz 0 l sz false with
        | error f => exact ⟨_, rfl, fun y h => by cases h⟩
        | ok q =>
          obtain ⟨nx, ag⟩ := q
          have hp := round_pot (sy ++ labs) (base :: es) sz l l [] sz false nx ag rfl hz (fun _ _ => rfl) hR
          cases ag with
          | false =>
            simp only [Bool.false_eq_true, if_false]
            refine ⟨_, rfl, fun y h => ?_⟩
            cases h
            exact ⟨Nat.le_refl _, by simp, hp.1⟩
          | true =>
            simp only [if_true]
            have h2 := hp.2
            simp at h2
            obtain ⟨res, h3, h4⟩ := ref_ends l sy base m nx (n + 1) hp.1 (by omega)
            refine ⟨res, h3, fun y h => ?_⟩
            have := h4 y h
            omega
theorem pot_first : ∀ l : List It, potF l (l.map sz1) ≤ 2 * l.countP (·.grows)
  | [] => by simp [potF]
  | x :: l => by
    have := pot_first l
    simp only [List.map_cons, potF, List.countP_cons]
    cases hx : x.grows with
    | true =>
      have h1 := rank_first x hx
      simp [sz1, hx] at h1 ⊢
      omega
    | false =>
      have : rank x (sz1 x) = 0 := by simp [rank, hx]
      simp [this]; omega
theorem szP_eq : ∀ (r p : List It) (z : List Int), z.length = p.length + r.length → (∀ j, p.length ≤ j → z.getD j 0 = 0) → szP p.length r z = z.take p.length ++ r.map sz1
  | [], p, z, h, hz => by simp only [szP, List.map_nil, List.append_nil]; rw [List.take_of_length_le (by simp at h; omega)]
  | x :: r, p, z, h, hz => by
    simp only [szP]
    have key : ∀ z' : List Int, z'.length = z.length → (∀ j, p.length + 1 ≤ j → z'.getD j 0 = 0) → z'.take (p.length + 1) = z.take p.length ++ [sz1 x] → szP (p.length + 1) r z' = z.take p.length ++ (x :: r).map sz1 := by
      intro z' h1 h2 h3
      have := szP_eq r (p ++ [x]) z' (by simp at h ⊢; omega) (fun j hj => h2 j (by simpa using hj))
      rw [List.length_append, List.length_singleton] at this
      rw [this, h3]
      simp
    have hlt : p.length < z.length := by simp at h; omega
    split
    · rename_i hx
      refine key _ (by simp) (fun j hj => by rw [getD_set_ne _ _ (by omega)]; exact hz j (by omega)) ?_
      have e : sz1 x = (classesP x).headD 0 := by simp [sz1, hx]
      rw [e, List.take_add_one]
      simp [hlt]
      rw [List.take_set_of_le (by omega)]
    · rename_i hx
      refine key z rfl (fun j hj => hz j (by omega)) ?_
      have e : sz1 x = 0 := by simp [sz1, hx]
      have := hz p.length (Nat.le_refl _)
      rw [List.getD_eq_getElem?_getD, List.getElem?_eq_getElem hlt] at this
      simp at this
      rw [e, List.take_add_one, List.getElem?_eq_getElem hlt, this]
      rfl
theorem szP_first (l : List It) : szP 0 l (List.replicate l.length 0) = l.map sz1 := by
  have := szP_eq l [] (List.replicate l.length 0) (by simp) (fun j _ => by simp [List.getD_eq_getElem?_getD, List.getElem?_replicate]; split <;> rfl)
  simpa using this
theorem lay_some {l : List It} {sy : List Sy} {base : Int} (hok : ∀ x ∈ l, x.Ok) (hb0 : 0 ≤ base) (hb1 : base < 4294967296) {at0 : List Int} {labs0 : List Sy} (h0 : labelsP at0 sy 0 l [] = .ok labs0) {g : List Gl'} (hg : goalsF sy l 0 l = .ok g) :
    ∀ (m : Nat) (sz : List Int) (n : Nat), layP l sy base m sz (some g) n = refP l sy base m sz n
  | 0, sz, n => rfl
  | m + 1, sz, n => by
    simp only [layP, refP, place_eq base sz hb0 hb1 l 0 base hok (Int.le_refl _) (by omega) hb1]
    cases hP : placeP base (saidP sz) 0 l base with
    | error f => rfl
    | ok es =>
      simp only []
      cases hL : labelsP (base :: es) sy 0 l [] with
      | error f =>
        have := (labels_map (base :: es) at0 sy l 0 [] [] (fun _ => rfl) f).1 hL
        rw [h0] at this; cases this
      | ok labs =>
        have hr := round_ok hL sz l [] g sz false rfl hg (fun _ _ => rfl)
        simp only [List.length_nil] at hr
        simp only [hr, endP, hL]
        rw [lay_some hok hb0 hb1 h0 hg m]
        split <;> rfl
theorem lay_none {l : List It} {sy : List Sy} {base : Int} (hok : ∀ x ∈ l, x.Ok) (hb0 : 0 ≤ base) (hb1 : base < 4294967296) : ∀ (m : Nat) (sz : List Int) (n : Nat), layP l sy base m sz none n = refP l sy base m sz n
  | 0, sz, n => rfl
  | m + 1, sz, n => by
    simp only [layP, refP, place_eq base sz hb0 hb1 l 0 base hok (Int.le_refl _) (by omega) hb1]
    cases hP : placeP base (saidP sz) 0 l base with
    | error f => rfl
    | ok es =>
      simp only []
      cases hL : labelsP (base :: es) sy 0 l [] with
      | error f => rfl
      | ok labs =>
        simp only [goals_F]
        cases hg : goalsF sy l 0 l with
        | error f =>
          rw [round_err hL sz l 0 f sz false hg]
          rfl
        | ok g =>
          have hr := round_ok hL sz l [] g sz false rfl hg (fun _ _ => rfl)
          simp only [List.length_nil] at hr
          simp only [hr, map_ok, List.nil_append, endP, hL, lay_some hok hb0 hb1 hL hg m]
end Go.Proofs.YtmekfllddifglaaDoor.AM

/- The relax seat: RelaxEnds, as the machine runs it. Conditions: none. -/
set_option linter.unusedVariables false
set_option linter.unusedSimpArgs false
set_option maxRecDepth 10000
namespace Go.Proofs.YtmekfllddifglaaDoor.AM
open Go
variable (G : Gl) (N : Nats) (k : Nat)
theorem lightP_len {l : List It} {sy : List Sy} (h : lightP l sy = true) : l.length ≤ 60 ∧ sy.length ≤ 60 := by
  simp only [lightP, Bool.and_eq_true, decide_eq_true_eq] at h
  exact ⟨h.1.2, h.2⟩
/-- What Relax answers to few items. -/
theorem relax_light (ok : N.Ok) (ni ns : Bool) (l : List It) (sy : List Sy) (base : Int) (hok : ∀ x ∈ l, x.Ok) (hl : l.length < 1000000) (hs : sy.length < 1000000) (hb0 : 0 ≤ base) (hb1 : base < 4294967296) :
    ∃ m res, m ≤ 4000000 ∧ refP l sy base m (l.map sz1) 0 = some res ∧ (∀ y, res = .ok y → 1 ≤ y.n ∧ y.n ≤ 2 * l.countP (·.grows) + 1 ∧ y.sz.length = l.length) ∧
      rn (DR G N) (k + 16) 9 [.sl ni (items l), .sl ns (syms sy), .v (.int .u32 base)] [[], [], []] = some (layA false res, [[], [], []]) := by
  have h1 := pot_first l
  have h2 : l.countP (·.grows) ≤ l.length := List.countP_le_length
  obtain ⟨res, h3, h4⟩ := ref_ends l sy base (2 * l.countP (·.grows) + 1) (l.map sz1) 0 (by simp) (by omega)
  refine ⟨2 * l.countP (·.grows) + 1, res, by omega, h3, fun y hy => ?_, ?_⟩
  · have := h4 y hy; omega
  · refine relax_rn G N k ok ni ns l sy base hl hs hb0 hb1 (2 * l.countP (·.grows) + 1) (by omega) res ?_
    rw [szP_first, lay_none hok hb0 hb1]; exact h3
def st3 (ni : Bool) (l : List It) (y : Lay) (c i : Nat) : St :=
  ⟨[.sl ni (items l)] ++ List.replicate 6 .dead ++ [.loc 7 [] 1 0, .dead, .v (.int .i64 c), .v (.int .i64 i)] ++ List.replicate 43 .dead,
   List.replicate 7 [] ++ [([], (1, some (.box false [.sl false (ints y.sz), .sl false (words y.at_), .sl y.labs.isEmpty (syms y.labs), .v (.int .i64 y.n)])))] :: List.replicate 46 []⟩
set_option maxHeartbeats 4000000 in
theorem ends_rn (ok : N.Ok) (ok2 : N.Ok2) (ni ns : Bool) (l : List It) (sy : List Sy) (base : Int) (hsm : Small l) (hs : sy.length < 1000000) (hok : ∀ x ∈ l, x.Ok) (hb0 : 0 ≤ base) (hb1 : base < 4294967296) :
    rn (DR G N) (k + 21) 3 [.sl ni (items l), .sl ns (syms sy), .v (.int .u32 base)] [[], [], []] = some (.v (.bool true), [[], [], []]) := by
  rw [run3]
  have ha := awake_rn G N k ok ok2
  have hlt := light_rn G N (k + 18) ni ns l sy hsm
  cases hL : lightP l sy with
  | false =>
    rw [hL] at hlt
    simp -implicitDefEqProofs [Tryd.f3, endF, argsIn, subsIn, ha, hlt]
  | true =>
    rw [hL] at hlt
    obtain ⟨l60, s60⟩ := lightP_len hL
    have hsc := symsC_rn G N (k + 19) ns sy hs
    obtain ⟨m, res, hm, _, hy, hr⟩ := relax_light G N (k + 4) ok ni sy.isEmpty l (sy.map symC) base hok hsm.1 (by simpa using hs) hb0 hb1
    cases res with
    | error f =>
      simp only [layA, errA] at hr
      simp -implicitDefEqProofs [Tryd.f3, endF, argsIn, subsIn, ha, hlt, hsc, hr, setAll, cellAV, cellsS]
    | ok y =>
      obtain ⟨y1, y2, y3⟩ := hy y rfl
      simp only [layA] at hr
      simp -implicitDefEqProofs [Tryd.f3, endF, argsIn, subsIn, ha, hlt, hsc, hr, setAll, cellAV, cellsS, acode_loop]
      refine aloop_ind (Q := fun r => finF _ _ _ (thenA (blockA r 0) _) = _) (I := fun r st => ∃ p, l = p ++ r ∧ i3.hints.nm 0 st = some (st3 ni l y (p.countP (·.grows)) p.length)) ?_ ?_ l _ ⟨[], rfl, by simp -implicitDefEqProofs [NormD.run, norm, st3, List.lookup]⟩
      · rintro st ⟨p, hp, hst⟩ K
        rw [List.append_nil] at hp
        subst hp
        rw [hst]
        have c1 : l.countP (·.grows) ≤ l.length := List.countP_le_length
        have w1 : IntKind.wrap .i64 (2 * (l.countP (·.grows) : Int)) = 2 * (l.countP (·.grows) : Int) := wrapI64 (by omega) (by omega)
        have w2 : IntKind.wrap .i64 (2 * (l.countP (·.grows) : Int) + 1) = 2 * (l.countP (·.grows) : Int) + 1 := wrapI64 (by omega) (by omega)
        have g1 : (1 : Int) ≤ y.n := by omega
        have g2 : (y.n : Int) ≤ 2 * (l.countP (·.grows) : Int) + 1 := by omega
        simp -implicitDefEqProofs [st3, endF, w1, w2, g1, g2]
      · rintro x r st ⟨p, hp, hst⟩ K hK
        have h1 : p.length < l.length := by rw [hp]; simp
        have h2 : l[p.length] = x := by simp [hp]
        have h3 := wrap64 p.length (by omega)
        have c1 : p.countP (·.grows) ≤ p.length := List.countP_le_length
        have h4 := wrap64 (p.countP (·.grows)) (by omega)
        have hg := grows_rn G N (k + 19) x
        rw [hst]
        cases c1 : x.grows with
        | false =>
          rw [c1] at hg
          simp -implicitDefEqProofs [st3, h1, h2, h3, hg, argsIn, subsIn]
          refine hK _ ⟨p ++ [x], by simp [hp], ?_⟩
          simp -implicitDefEqProofs [NormD.run, norm, st3, List.lookup, c1]
        | true =>
          rw [c1] at hg
          simp -implicitDefEqProofs [st3, h1, h2, h3, h4, hg, argsIn, subsIn]
          refine hK _ ⟨p ++ [x], by simp [hp], ?_⟩
          simp -implicitDefEqProofs [NormD.run, norm, st3, List.lookup, c1]
end Go.Proofs.YtmekfllddifglaaDoor.AM

/- The relax seat, in plain Lean: what symbols' classes do not change; the codes of faults. Conditions: none. -/
set_option linter.unusedVariables false
set_option linter.unusedSimpArgs false
namespace Go.Proofs.YtmekfllddifglaaDoor.AM
open Go
theorem symF_C (n : ByteArray) : ∀ sy : List Sy, symF n (sy.map symC) = symF n sy
  | [] => rfl
  | s :: l => by simp only [List.map_cons, symF, symF_C n l, symC]
theorem hasN_C (n : ByteArray) : ∀ sy : List Sy, hasN n (sy.map symC) = hasN n sy
  | [] => rfl
  | s :: l => by simp only [List.map_cons, hasN, hasN_C n l, symC]
theorem labels_C (at_ : List Int) (sy : List Sy) : ∀ (l : List It) (i : Nat) (q : List Sy), labelsP at_ (sy.map symC) i l q = labelsP at_ sy i l q
  | [], i, q => rfl
  | x :: r, i, q => by
    simp only [labelsP, hasN_C, labels_C at_ sy r]
theorem round_C (sy labs : List Sy) (at_ sz : List Int) : ∀ (l : List It) (i : Nat) (nx : List Int) (ag : Bool), roundR (sy.map symC ++ labs) at_ sz i l nx ag = roundR (sy ++ labs) at_ sz i l nx ag
  | [], i, nx, ag => rfl
  | x :: r, i, nx, ag => by
    have e : symF x.name (sy.map symC ++ labs) = symF x.name (sy ++ labs) := by rw [symF_append, symF_append, symF_C]
    simp only [roundR, e, round_C sy labs at_ sz r]
theorem ref_C (l : List It) (sy : List Sy) (base : Int) : ∀ (m : Nat) (sz : List Int) (n : Nat), refP l (sy.map symC) base m sz n = refP l sy base m sz n
  | 0, sz, n => rfl
  | m + 1, sz, n => by
    simp only [refP, labels_C, round_C, ref_C l sy base m]
theorem place_code2 {base : Int} {sz : Nat → Int} : ∀ {i : Nat} {l : List It} {at_ : Int} {f : Flt}, placeP base sz i l at_ = .error f → f.2.2 = 16 ∨ f.2.2 = 12
  | _, [], _, _, h => by simp [placeP] at h
  | i, x :: r, at_, f, h => by
    simp only [placeP] at h
    split at h
    · rename_i c hc
      cases h
      simp only [stepP] at hc
      split at hc
      · cases hc; simp
      · split at hc
        · cases hc; simp
        · split at hc
          · cases hc; simp
          · split at hc <;> cases hc
            simp
    · rename_i e he
      cases hr : placeP base sz (i + 1) r e with
      | error g => rw [hr] at h; cases h; exact place_code2 hr
      | ok g => rw [hr] at h; cases h
theorem labels_code2 {at_ : List Int} {sy : List Sy} : ∀ {i : Nat} {l : List It} {q : List Sy} {f : Flt}, labelsP at_ sy i l q = .error f → f.2.2 = 10
  | _, [], _, _, h => by simp [labelsP] at h
  | i, x :: r, q, f, h => by
    simp only [labelsP] at h
    split at h
    · split at h
      · cases h; simp
      · exact labels_code2 h
    · exact labels_code2 h
theorem round_code {all : List Sy} {at_ sz : List Int} : ∀ {l : List It} {i : Nat} {nx : List Int} {ag : Bool} {f : Flt}, roundR all at_ sz i l nx ag = .error f → f.2.2 = 11
  | [], i, nx, ag, f, h => by simp [roundR] at h
  | x :: r, i, nx, ag, f, h => by
    simp only [roundR] at h
    split at h
    · split at h
      · cases h; rfl
      · split at h
        · exact round_code h
        · split at h
          · exact round_code h
          · exact round_code h
    · exact round_code h
theorem ref_code (l : List It) (sy : List Sy) (base : Int) : ∀ (m : Nat) (sz : List Int) (n : Nat) (f : Flt), refP l sy base m sz n = some (.error f) → 1 ≤ f.2.2 ∧ f.2.2 ≤ 16
  | 0, sz, n, f, h => by simp [refP] at h
  | m + 1, sz, n, f, h => by
    simp only [refP] at h
    cases hP : placeP base (saidP sz) 0 l base with
    | error g =>
      rw [hP] at h; cases h
      have := place_code2 hP; omega
    | ok es =>
      rw [hP] at h
      simp only [] at h
      cases hL : labelsP (base :: es) sy 0 l [] with
      | error g =>
        rw [hL] at h; cases h
        have := labels_code2 hL; omega
      | ok labs =>
        rw [hL] at h
        simp only [] at h
        cases hR : roundR (sy ++ labs) (base :: es) sz 0 l sz false with
        | error g =>
          rw [hR] at h; cases h
          have := round_code hR; omega
        | ok q =>
          obtain ⟨nx, ag⟩ := q
          rw [hR] at h
          simp only [] at h
          cases ag with
          | true => exact ref_code l sy base m nx (n + 1) f h
          | false => simp at h
theorem ref_lens (l : List It) (sy : List Sy) (base : Int) : ∀ (m : Nat) (sz : List Int) (n : Nat) (y : Lay), refP l sy base m sz n = some (.ok y) → y.at_.length = l.length + 1 ∧ y.labs.length ≤ l.length
  | 0, sz, n, y, h => by simp [refP] at h
  | m + 1, sz, n, y, h => by
    simp only [refP] at h
    cases hP : placeP base (saidP sz) 0 l base with
    | error g => rw [hP] at h; cases h
    | ok es =>
      rw [hP] at h
      simp only [] at h
      cases hL : labelsP (base :: es) sy 0 l [] with
      | error g => rw [hL] at h; cases h
      | ok labs =>
        rw [hL] at h
        simp only [] at h
        cases hR : roundR (sy ++ labs) (base :: es) sz 0 l sz false with
        | error g => rw [hR] at h; cases h
        | ok q =>
          obtain ⟨nx, ag⟩ := q
          rw [hR] at h
          simp only [] at h
          cases ag with
          | true => exact ref_lens l sy base m nx (n + 1) y (by simpa using h)
          | false =>
            simp at h
            subst h
            have h1 := placeP_len hP
            have h2 := labelsP_len hL
            simp at h2
            exact ⟨by simp [h1], h2⟩
theorem symsE_refl : ∀ a : List Sy, symsE a a = true
  | [] => rfl
  | s :: l => by
    have h1 : sameN s.name s.name = true := by simp [sameN_eq]
    simp [symsE, symE, h1, symsE_refl l]
theorem sameP_refl (y : Lay) : sameP y y = true := by simp [sameP, symsE_refl]
end Go.Proofs.YtmekfllddifglaaDoor.AM
