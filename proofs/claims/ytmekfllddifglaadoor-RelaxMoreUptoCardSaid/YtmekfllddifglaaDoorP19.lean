/- The relax seat: Pf, Pg, Ph, Sk, Pi, Si, Sl. Conditions: none. -/
import Derived.Test.YtmekfllddifglaaDoorP18
import Derived.Test.YtmekfllddifglaaDoorP16
set_option linter.unusedVariables false
set_option linter.unusedSimpArgs false
/- The relax seat, in plain Lean: a round, told item by item; where items lie without an Align and an Org. Conditions: none. -/
set_option linter.unusedVariables false
set_option linter.unusedSimpArgs false
namespace Go.Proofs.YtmekfllddifglaaDoor.AM
open Go
/-- How far it is. -/
def farR (at_ : List Int) (v : Int) (i : Nat) : Int := IntKind.wrap .i32 (IntKind.wrap .u32 (v - at_.getD i 0))
/-- What a round does with an item. -/
def Told1 (all : List Sy) (at_ sz nx' : List Int) (ag' : Bool) (i : Nat) (x : It) : Prop :=
  (x.grows = false → nx'.getD i 0 = sz.getD i 0) ∧ (x.grows = true → ∃ v, symF x.name all = some v ∧
    ((reachesQ x (sz.getD i 0) (farR at_ v i) = true ∧ nx'.getD i 0 = sz.getD i 0) ∨
     (reachesQ x (sz.getD i 0) (farR at_ v i) = false ∧ (nextF (sz.getD i 0) (classesP x)).2 = true ∧ nx'.getD i 0 = (nextF (sz.getD i 0) (classesP x)).1 ∧ ag' = true) ∨
     (reachesQ x (sz.getD i 0) (farR at_ v i) = false ∧ (nextF (sz.getD i 0) (classesP x)).2 = false ∧ nx'.getD i 0 = sz.getD i 0)))
theorem getD_set_eq (l : List Int) {i : Nat} (v : Int) (h : i < l.length) : (l.set i v).getD i 0 = v := by
  simp [List.getD_eq_getElem?_getD, h]
theorem round_spec (all : List Sy) (at_ sz : List Int) (l0 : List It) : ∀ (r p : List It) (nx : List Int) (ag : Bool) (nx' : List Int) (ag' : Bool), l0 = p ++ r → nx.length = l0.length → (∀ j, p.length ≤ j → nx.getD j 0 = sz.getD j 0) →
    roundR all at_ sz p.length r nx ag = .ok (nx', ag') → (ag = true → ag' = true) ∧ nx'.length = l0.length ∧ (∀ j, j < p.length → nx'.getD j 0 = nx.getD j 0) ∧ ∀ i x, p.length ≤ i → l0[i]? = some x → Told1 all at_ sz nx' ag' i x
  | [], p, nx, ag, nx', ag', hp, hn, hz, h => by
    simp only [roundR] at h; cases h
    refine ⟨fun h => h, hn, fun _ _ => rfl, fun i x hi hx => ?_⟩
    rw [hp] at hx
    simp only [List.append_nil] at hx
    have := (List.getElem?_eq_some_iff.1 hx).1
    omega
  | x :: r, p, nx, ag, nx', ag', hp, hn, hz, h => by
    have hp' : l0 = (p ++ [x]) ++ r := by simp [hp]
    have hl : (p ++ [x]).length = p.length + 1 := by simp
    have hx0 : l0[p.length]? = some x := by rw [hp]; simp
    have hlt : p.length < l0.length := (List.getElem?_eq_some_iff.1 hx0).1
    have ih := fun nx1 ag1 hn1 hz1 h1 => round_spec all at_ sz l0 r (p ++ [x]) nx1 ag1 nx' ag' hp' hn1 hz1 h1
    rw [hl] at ih
    have fin : ∀ nx1 ag1, (ag = true → ag1 = true) → nx1.length = l0.length → (∀ j, j ≠ p.length → nx1.getD j 0 = nx.getD j 0) → (∀ nx2 : List Int, nx2.getD p.length 0 = nx1.getD p.length 0 → (ag1 = true → ag' = true) → Told1 all at_ sz nx2 ag' p.length x) →
        roundR all at_ sz (p.length + 1) r nx1 ag1 = .ok (nx', ag') → (ag = true → ag' = true) ∧ nx'.length = l0.length ∧ (∀ j, j < p.length → nx'.getD j 0 = nx.getD j 0) ∧ ∀ i y, p.length ≤ i → l0[i]? = some y → Told1 all at_ sz nx' ag' i y := by
      intro nx1 ag1 ha hn1 hne ht h1
      obtain ⟨g1, g2, g3, g4⟩ := ih nx1 ag1 hn1 (fun j hj => by rw [hne j (by omega)]; exact hz j (by omega)) h1
      refine ⟨fun e => g1 (ha e), g2, fun j hj => by rw [g3 j (by omega), hne j (by omega)], fun i y hi hy => ?_⟩
      by_cases e : i = p.length
      · subst e
        rw [hx0] at hy
        cases hy
        exact ht nx' (g3 _ (by omega)) g1
      · exact g4 i y (by omega) hy
    simp only [roundR] at h
    by_cases hg : x.grows = true
    · rw [if_pos hg] at h
      cases hs : symF x.name all with
      | none => rw [hs] at h; cases h
      | some v =>
        rw [hs] at h
        simp only [] at h
        change (if reachesQ x (sz.getD p.length 0) (farR at_ v p.length) = true then _ else _) = _ at h
        by_cases hr : reachesQ x (sz.getD p.length 0) (farR at_ v p.length) = true
        · rw [if_pos hr] at h
          refine fin nx ag (fun e => e) hn (fun _ _ => rfl) (fun nx2 e2 _ => ⟨(fun e => by rw [hg] at e; cases e), fun _ => ⟨v, hs, .inl ⟨hr, ?_⟩⟩⟩) h
          rw [e2]; exact hz _ (Nat.le_refl _)
        · have hr' : reachesQ x (sz.getD p.length 0) (farR at_ v p.length) = false := by simpa using hr
          rw [if_neg hr] at h
          by_cases hn2 : (nextF (sz.getD p.length 0) (classesP x)).2 = true
          · rw [if_pos hn2] at h
            refine fin _ true (fun _ => rfl) (by simpa using hn) (fun j hj => getD_set_ne _ _ (Ne.symm hj)) (fun nx2 e2 e3 => ⟨(fun e => by rw [hg] at e; cases e), fun _ => ⟨v, hs, .inr (.inl ⟨hr', hn2, ?_, e3 rfl⟩)⟩⟩) h
            rw [e2, getD_set_eq _ _ (by omega)]
          · have hn3 : (nextF (sz.getD p.length 0) (classesP x)).2 = false := by simpa using hn2
            rw [if_neg hn2] at h
            refine fin nx ag (fun e => e) hn (fun _ _ => rfl) (fun nx2 e2 _ => ⟨(fun e => by rw [hg] at e; cases e), fun _ => ⟨v, hs, .inr (.inr ⟨hr', hn3, ?_⟩)⟩⟩) h
            rw [e2]; exact hz _ (Nat.le_refl _)
    · have hg' : x.grows = false := by simpa using hg
      rw [if_neg hg] at h
      refine fin nx ag (fun e => e) hn (fun _ _ => rfl) (fun nx2 e2 _ => ⟨fun _ => ?_, fun e => absurd e hg⟩) h
      rw [e2]; exact hz _ (Nat.le_refl _)
theorem round_exists (all : List Sy) (at_ sz : List Int) : ∀ (r : List It) (i : Nat) (nx : List Int) (ag : Bool), (∀ x ∈ r, x.grows = true → ∃ v, symF x.name all = some v) → ∃ q, roundR all at_ sz i r nx ag = .ok q
  | [], i, nx, ag, h => ⟨_, rfl⟩
  | x :: r, i, nx, ag, h => by
    have ih := fun i nx ag => round_exists all at_ sz r i nx ag (fun y hy => h y (by simp [hy]))
    simp only [roundR]
    by_cases hg : x.grows = true
    · obtain ⟨v, hv⟩ := h x (by simp) hg
      rw [if_pos hg, hv]
      simp only []
      split
      · exact ih _ _ _
      · split
        · exact ih _ _ _
        · exact ih _ _ _
    · rw [if_neg hg]
      exact ih _ _ _
/-! ### Places -/
def len1 (x : It) (s : Int) : Int := if x.kind = 4 ∨ x.kind = 5 ∨ x.kind = 6 then s else (classesP x).headD 0
def lenAt (l : List It) (sz : Nat → Int) (n : Nat) : Int := match l[n]? with | some x => len1 x (sz n) | none => 0
def posL (l : List It) (sz : Nat → Int) : Nat → Int
  | 0 => 0
  | n + 1 => posL l sz n + lenAt l sz n
/-- Neither an Align nor an Org. -/
def Plain (l : List It) : Prop := ∀ x ∈ l, x.kind ≠ 10 ∧ x.kind ≠ 11
def PlaceOK (l : List It) (sz : Nat → Int) (base : Int) : Prop := ∀ n x, l[n]? = some x → ¬ (2 ≤ x.kind ∧ x.kind ≤ 7 ∧ (base + posL l sz n) % 2 = 1) ∧ posL l sz (n + 1) ≤ 65536 ∧ base + posL l sz (n + 1) < 4294967296
theorem len_plain (x : It) (h : x.kind ≠ 10 ∧ x.kind ≠ 11) (s at_ base : Int) : lenP x s at_ base = some (len1 x s) := by
  unfold lenP len1
  by_cases h4 : x.kind = 4
  · simp [h4]
  by_cases h5 : x.kind = 5
  · simp [h5]
  by_cases h6 : x.kind = 6
  · simp [h6]
  simp [h4, h5, h6, h.1, h.2]
theorem place_iff (l : List It) (hpl : Plain l) (sz : Nat → Int) (base : Int) : ∀ (r p : List It), l = p ++ r → ∀ es, placeP base sz p.length r (base + posL l sz p.length) = .ok es ↔
    ((∀ n x, p.length ≤ n → l[n]? = some x → ¬ (2 ≤ x.kind ∧ x.kind ≤ 7 ∧ (base + posL l sz n) % 2 = 1) ∧ posL l sz (n + 1) ≤ 65536 ∧ base + posL l sz (n + 1) < 4294967296) ∧ es = (List.range' (p.length + 1) r.length).map fun j => base + posL l sz j)
  | [], p, hp, es => by
    simp only [placeP, List.length_nil, List.range'_zero, List.map_nil]
    constructor
    · intro h; cases h
      refine ⟨fun n x hn hx => ?_, rfl⟩
      rw [hp] at hx
      simp only [List.append_nil] at hx
      have := (List.getElem?_eq_some_iff.1 hx).1
      omega
    · rintro ⟨_, rfl⟩; rfl
  | x :: r, p, hp, es => by
    have hp' : l = (p ++ [x]) ++ r := by simp [hp]
    have hl : (p ++ [x]).length = p.length + 1 := by simp
    have hx0 : l[p.length]? = some x := by rw [hp]; simp
    have hk := hpl x (by rw [hp]; simp)
    have ih := place_iff l hpl sz base r (p ++ [x]) hp'
    rw [hl] at ih
    have e1 : posL l sz (p.length + 1) = posL l sz p.length + len1 x (sz p.length) := by simp [posL, lenAt, hx0]
    have hst : stepP x (sz p.length) (base + posL l sz p.length) base = if 2 ≤ x.kind ∧ x.kind ≤ 7 ∧ (base + posL l sz p.length) % 2 = 1 then .error 16 else if 65536 < posL l sz (p.length + 1) then .error 12 else if 4294967296 ≤ base + posL l sz (p.length + 1) then .error 12 else .ok (base + posL l sz (p.length + 1)) := by
      have a1 : base + posL l sz (p.length + 1) - base = posL l sz (p.length + 1) := by omega
      have a2 : base + posL l sz p.length + len1 x (sz p.length) = base + posL l sz (p.length + 1) := by omega
      simp only [stepP, len_plain x hk, a1, a2]
    simp only [placeP, hst, List.length_cons, List.range'_succ, List.map_cons]
    by_cases c1 : 2 ≤ x.kind ∧ x.kind ≤ 7 ∧ (base + posL l sz p.length) % 2 = 1
    · rw [if_pos c1]
      simp only []
      constructor
      · intro h; cases h
      · rintro ⟨h, _⟩; exact absurd c1 (h _ _ (Nat.le_refl _) hx0).1
    rw [if_neg c1]
    by_cases c2 : 65536 < posL l sz (p.length + 1)
    · rw [if_pos c2]
      simp only []
      constructor
      · intro h; cases h
      · rintro ⟨h, _⟩; have := (h _ _ (Nat.le_refl _) hx0).2.1; omega
    rw [if_neg c2]
    by_cases c3 : 4294967296 ≤ base + posL l sz (p.length + 1)
    · rw [if_pos c3]
      simp only []
      constructor
      · intro h; cases h
      · rintro ⟨h, _⟩; have := (h _ _ (Nat.le_refl _) hx0).2.2; omega
    rw [if_neg c3]
    simp only []
    constructor
    · intro h
      cases hr : placeP base sz (p.length + 1) r (base + posL l sz (p.length + 1)) with
      | error f => rw [hr] at h; cases h
      | ok es' =>
        rw [hr] at h
        cases h
        obtain ⟨g1, g2⟩ := (ih es').1 hr
        refine ⟨fun n y hn hy => ?_, by rw [g2]⟩
        by_cases e : n = p.length
        · subst e
          rw [hx0] at hy; cases hy
          exact ⟨c1, by omega, by omega⟩
        · exact g1 n y (by omega) hy
    · rintro ⟨h, rfl⟩
      rw [(ih _).2 ⟨fun n y hn hy => h n y (by omega) hy, rfl⟩]
      rfl
theorem place_ok_iff {l : List It} (hpl : Plain l) (sz : Nat → Int) (base : Int) (es : List Int) : placeP base sz 0 l base = .ok es ↔ PlaceOK l sz base ∧ es = (List.range' 1 l.length).map fun j => base + posL l sz j := by
  have := place_iff l hpl sz base l [] rfl es
  simp only [List.length_nil, posL, Int.add_zero, Nat.zero_le, true_implies] at this
  exact this
theorem at_pos {l : List It} {sz : Nat → Int} {base : Int} (i : Nat) (hi : i ≤ l.length) : (base :: (List.range' 1 l.length).map fun j => base + posL l sz j).getD i 0 = base + posL l sz i := by
  cases i with
  | zero => simp [posL]
  | succ i =>
    have : i < l.length := by omega
    simp [List.getD_eq_getElem?_getD, this, Nat.add_comm]
end Go.Proofs.YtmekfllddifglaaDoor.AM

/- The relax seat, in plain Lean: sizes that are bounded stay so; what is at rest. Conditions: none. -/
set_option linter.unusedVariables false
set_option linter.unusedSimpArgs false
namespace Go.Proofs.YtmekfllddifglaaDoor.AM
open Go
theorem far_small {d : Int} (h0 : -2147483648 ≤ d) (h1 : d < 2147483648) : IntKind.wrap .i32 (IntKind.wrap .u32 d) = d := by
  simp [IntKind.wrap, IntKind.bits, IntKind.signed]; omega
theorem tmod_u32 {d : Int} : (IntKind.wrap .u32 d).tmod 2 = 1 ↔ d % 2 = 1 := by
  have e1 : IntKind.wrap .u32 d = d % 4294967296 := by simp [IntKind.wrap, IntKind.bits, IntKind.signed]
  rw [e1, Int.tmod_eq_emod_of_nonneg (by omega)]
  omega
theorem reach_mono (x : It) (s d d' : Int) (hs : reachesQ x s d' = true) (h1 : (0 ≤ d ∧ d ≤ d') ∨ (d' ≤ d ∧ d ≤ 0)) (hp : (d' - d) % 2 = 0) (hb : -65536 ≤ d' ∧ d' ≤ 65536) : reachesQ x s d = true := by
  have w1 : IntKind.wrap .i64 d = d := wrapI64 (by omega) (by omega)
  have w2 : IntKind.wrap .i64 d' = d' := wrapI64 (by omega) (by omega)
  have w3 : IntKind.wrap .i64 (d - 4) = d - 4 := wrapI64 (by omega) (by omega)
  have w4 : IntKind.wrap .i64 (d' - 4) = d' - 4 := wrapI64 (by omega) (by omega)
  unfold reachesQ at hs ⊢
  simp only [w1, w2, w3, w4] at hs ⊢
  by_cases c0 : hasF s (classesP x) = true
  · simp only [c0, if_true] at hs ⊢
    by_cases c1 : x.kind < 4
    · simp [c1] at hs
    by_cases c2 : 6 < x.kind
    · simp [c1, c2] at hs
    by_cases c3 : (IntKind.wrap .u32 d').tmod 2 = 1
    · simp [c1, c2, c3] at hs
    have c3' : ¬ (IntKind.wrap .u32 d).tmod 2 = 1 := by
      rw [tmod_u32] at c3 ⊢
      omega
    simp only [c1, c2, c3, c3', if_false] at hs ⊢
    unfold halfP at hs ⊢
    by_cases c4 : x.kind = 4
    · simp only [c4, if_true] at hs ⊢
      by_cases s2 : s = 2
      · simp only [s2, if_true, Bool.and_eq_true, decide_eq_true_eq] at hs ⊢; omega
      · by_cases s4 : s = 4
        · simp only [s4, if_true] at hs ⊢; simp at hs ⊢; omega
        · simp only [s2, s4, if_false, Bool.and_eq_true, decide_eq_true_eq] at hs ⊢; omega
    · simp only [c4, if_false] at hs ⊢
      by_cases s2 : s = 2
      · simp only [s2, if_true, Bool.and_eq_true, decide_eq_true_eq] at hs ⊢; omega
      · by_cases s8 : s = 8
        · simp [s8]
        · simp only [s2, s8, if_false, Bool.and_eq_true, decide_eq_true_eq] at hs ⊢; omega
  · simp [c0] at hs
theorem hasF_mem (s : Int) : ∀ l : List Int, hasF s l = true ↔ s ∈ l
  | [] => by simp [hasF]
  | c :: l => by simp only [hasF, Bool.or_eq_true, decide_eq_true_eq, hasF_mem s l, List.mem_cons]; constructor <;> rintro (h | h) <;> simp [h]
theorem grows_iff (x : It) : x.grows = true ↔ x.kind = 4 ∨ x.kind = 5 ∨ x.kind = 6 := by simp [It.grows, or_assoc]
/-- Classes are even, and from 2 to 8. -/
theorem class_even (x : It) (h : x.grows = true) (s : Int) (hs : s ∈ classesP x) : s % 2 = 0 ∧ 0 ≤ s ∧ s ≤ 8 := by
  rcases classes_cases x h with e | e | e | e | e <;> rw [e] at hs <;> simp at hs <;> omega
theorem next_mem (x : It) (h : x.grows = true) (s : Int) (hn : (nextF s (classesP x)).2 = true) : (nextF s (classesP x)).1 ∈ classesP x ∧ ∀ b, b ∈ classesP x → s < b → (nextF s (classesP x)).1 ≤ b := by
  rcases classes_cases x h with e | e | e | e | e <;> rw [e] at hn ⊢ <;> simp only [nextF] at hn ⊢ <;>
    by_cases h2 : s < 2 <;> by_cases h4 : s < 4 <;> by_cases h8 : s < 8 <;> simp [h2, h4, h8] at hn ⊢ <;> omega
theorem next_none (x : It) (h : x.grows = true) (s : Int) (hn : (nextF s (classesP x)).2 = false) : ∀ b, b ∈ classesP x → b ≤ s := by
  rcases classes_cases x h with e | e | e | e | e <;> rw [e] at hn ⊢ <;> simp only [nextF] at hn ⊢ <;>
    by_cases h2 : s < 2 <;> by_cases h4 : s < 4 <;> by_cases h8 : s < 8 <;> simp [h2, h4, h8] at hn ⊢ <;> omega
/-- Sizes that are classes. -/
def InvS (l : List It) (sz : List Int) : Prop := sz.length = l.length ∧ ∀ i x, l[i]? = some x → (x.grows = true → sz.getD i 0 ∈ classesP x) ∧ (x.grows = false → sz.getD i 0 = 0)
theorem said_class {sz : List Int} {i : Nat} {x : It} (h : x.grows = true) (hs : sz.getD i 0 ∈ classesP x) : saidP sz i = sz.getD i 0 := by
  have := class_even x h _ hs
  rw [said_clamp, clampP]
  rw [if_neg (by omega), if_neg (by omega)]
theorem len1_nonneg {l : List It} {sz : List Int} (hi : InvS l sz) (n : Nat) : 0 ≤ lenAt l (saidP sz) n := by
  unfold lenAt
  cases hx : l[n]? with
  | none => simp
  | some x =>
    simp only [len1]
    split
    · rename_i hk
      have hg := (grows_iff x).2 hk
      have h1 := ((hi.2 n x hx).1 hg)
      rw [said_class hg h1]
      exact (class_even x hg _ h1).2.1
    · exact classes_pos x
theorem pos_mono {l : List It} {sz : List Int} (hi : InvS l sz) : ∀ {n m : Nat}, n ≤ m → posL l (saidP sz) n ≤ posL l (saidP sz) m := by
  intro n m h
  induction h with
  | refl => exact Int.le_refl _
  | step _ ih => have := len1_nonneg hi; rename_i m _; have := this m; simp only [posL]; omega
/-- What is at rest. -/
def Rest (l : List It) (sz : List Int) : Prop := ∀ i x, l[i]? = some x → x.grows = true → ∃ j, hereF x.name 0 l = some j ∧ (reachesQ x (sz.getD i 0) (posL l (saidP sz) j - posL l (saidP sz) i) = true ∨ (nextF (sz.getD i 0) (classesP x)).2 = false)
theorem pos_range {l : List It} {sz : List Int} {base : Int} (hi : InvS l sz) (hp : PlaceOK l (saidP sz) base) (n : Nat) (hn : n ≤ l.length) : 0 ≤ posL l (saidP sz) n ∧ posL l (saidP sz) n ≤ 65536 := by
  have h0 := pos_mono hi (Nat.zero_le n)
  simp only [posL] at h0
  refine ⟨h0, ?_⟩
  cases n with
  | zero => simp [posL]
  | succ n =>
    have : n < l.length := by omega
    exact (hp n l[n] (List.getElem?_eq_getElem this)).2.1
/-- The target of a name, and how far it is. -/
theorem tgt_pos {l : List It} {sz : List Int} {base : Int} {labs : List Sy} {es : List Int} (hi : InvS l sz) (hp : PlaceOK l (saidP sz) base) (he : es = (List.range' 1 l.length).map fun j => base + posL l (saidP sz) j) (hL : labelsP (base :: es) [] 0 l [] = .ok labs) (n : ByteArray) (i : Nat) (hil : i < l.length) :
    symF n ([] ++ labs) = (hereF n 0 l).map (fun j => base + posL l (saidP sz) j) ∧ ∀ j, hereF n 0 l = some j → farR (base :: es) (base + posL l (saidP sz) j) i = posL l (saidP sz) j - posL l (saidP sz) i := by
  have h1 := tgt_sym hL n
  constructor
  · rw [h1]
    simp only [tgtF, symF]
    cases hh : hereF n 0 l with
    | none => rfl
    | some j =>
      have := hereF_lt n l 0 j hh
      simp only [Option.map_some, tgtV, Int.natCast_nonneg, if_true, Int.toNat_natCast]
      rw [he, at_pos j (by omega)]
  · intro j hj
    have := hereF_lt n l 0 j hj
    have r1 := pos_range hi hp j (by omega)
    have r2 := pos_range hi hp i (by omega)
    unfold farR
    rw [he, at_pos i (by omega), show base + posL l (saidP sz) j - (base + posL l (saidP sz) i) = posL l (saidP sz) j - posL l (saidP sz) i by omega]
    exact far_small (by omega) (by omega)
theorem inv_first (l : List It) : InvS l (l.map sz1) := by
  refine ⟨by simp, fun i x hx => ?_⟩
  have hi := (List.getElem?_eq_some_iff.1 hx).1
  have e : (l.map sz1).getD i 0 = sz1 x := by simp [List.getD_eq_getElem?_getD, hx]
  rw [e]
  refine ⟨fun hg => ?_, fun hg => by simp [sz1, hg]⟩
  simp only [sz1, hg, if_true]
  rcases classes_cases x hg with e | e | e | e | e <;> rw [e] <;> simp
/-- A round keeps that sizes are classes. -/
theorem inv_round {l : List It} {all : List Sy} {at_ sz nx : List Int} {ag : Bool} (hi : InvS l sz) (h : roundR all at_ sz 0 l sz false = .ok (nx, ag)) : InvS l nx ∧ ∀ i x, l[i]? = some x → Told1 all at_ sz nx ag i x := by
  obtain ⟨_, h2, _, h4⟩ := round_spec all at_ sz l l [] sz false nx ag rfl hi.1 (fun _ _ => rfl) h
  have h4' := fun i x hx => h4 i x (Nat.zero_le _) hx
  refine ⟨⟨h2, fun i x hx => ⟨fun hg => ?_, fun hg => ?_⟩⟩, h4'⟩
  · obtain ⟨v, _, h5⟩ := (h4' i x hx).2 hg
    have h6 := ((hi.2 i x hx).1 hg)
    rcases h5 with ⟨_, e⟩ | ⟨_, hn, e, _⟩ | ⟨_, _, e⟩
    · rw [e]; exact h6
    · rw [e]; exact (next_mem x hg _ hn).1
    · rw [e]; exact h6
  · rw [(h4' i x hx).1 hg]; exact (hi.2 i x hx).2 hg
theorem round_same {l : List It} {all : List Sy} {at_ sz nx : List Int} (hi : InvS l sz) (h : roundR all at_ sz 0 l sz false = .ok (nx, false)) : nx = sz := by
  obtain ⟨_, h2, _, h4⟩ := round_spec all at_ sz l l [] sz false nx false rfl hi.1 (fun _ _ => rfl) h
  apply List.ext_getElem
  · rw [h2, hi.1]
  · intro i h1 h3
    have hil : i < l.length := by omega
    have := h4 i l[i] (Nat.zero_le _) (List.getElem?_eq_getElem hil)
    have e : nx.getD i 0 = sz.getD i 0 := by
      cases hg : l[i].grows with
      | false => exact this.1 hg
      | true =>
        obtain ⟨v, _, h5⟩ := this.2 hg
        rcases h5 with ⟨_, e⟩ | ⟨_, _, _, e⟩ | ⟨_, _, e⟩
        · exact e
        · cases e
        · exact e
    simpa [List.getD_eq_getElem?_getD, h1, h3] using e
/-- What Relax comes to is at rest. -/
theorem ref_rest {l : List It} (hpl : Plain l) (base : Int) : ∀ (m : Nat) (sz : List Int) (n : Nat) (y : Lay), InvS l sz → refP l [] base m sz n = some (.ok y) →
    InvS l y.sz ∧ PlaceOK l (saidP y.sz) base ∧ (∃ at0 labs, labelsP at0 [] 0 l [] = .ok labs) ∧ Rest l y.sz
  | 0, sz, n, y, hi, h => by simp [refP] at h
  | m + 1, sz, n, y, hi, h => by
    simp only [refP] at h
    cases hP : placeP base (saidP sz) 0 l base with
    | error f => rw [hP] at h; cases h
    | ok es =>
      rw [hP] at h
      simp only [] at h
      obtain ⟨hpo, hes⟩ := (place_ok_iff hpl _ _ _).1 hP
      cases hL : labelsP (base :: es) [] 0 l [] with
      | error f => rw [hL] at h; cases h
      | ok labs =>
        rw [hL] at h
        simp only [] at h
        cases hR : roundR ([] ++ labs) (base :: es) sz 0 l sz false with
        | error f => rw [hR] at h; cases h
        | ok q =>
          obtain ⟨nx, ag⟩ := q
          rw [hR] at h
          simp only [] at h
          obtain ⟨hi', ht⟩ := inv_round hi hR
          cases ag with
          | true => exact ref_rest hpl base m nx (n + 1) y hi' (by simpa using h)
          | false =>
            have e := round_same hi hR
            subst e
            simp only [Bool.false_eq_true, if_false, Option.some.injEq, Except.ok.injEq] at h
            subst h
            refine ⟨hi, hpo, ⟨_, _, hL⟩, fun i x hx hg => ?_⟩
            have hil := (List.getElem?_eq_some_iff.1 hx).1
            obtain ⟨t1, t2⟩ := tgt_pos hi hpo hes hL x.name i hil
            obtain ⟨v, hv, h5⟩ := (ht i x hx).2 hg
            rw [t1] at hv
            obtain ⟨j, hj, rfl⟩ := Option.map_eq_some_iff.1 hv
            refine ⟨j, hj, ?_⟩
            rw [t2 j hj] at h5
            rcases h5 with ⟨h5, _⟩ | ⟨_, _, _, h5⟩ | ⟨_, h5, _⟩
            · exact .inl h5
            · cases h5
            · exact .inr h5
/-! ### Bounds -/
structure Bound (l : List It) (b gap : Nat → Int) (base : Int) : Prop where
  cls : ∀ i x, l[i]? = some x → x.grows = true → b i ∈ classesP x
  gap0 : ∀ i, 0 ≤ gap i
  gap1 : ∀ i j, i ≤ j → gap i ≤ gap j
  gap2 : ∀ i, gap i % 2 = 0
  room : ∀ i x, l[i]? = some x → ¬ (2 ≤ x.kind ∧ x.kind ≤ 7 ∧ (base + posL l b i + gap i) % 2 = 1) ∧ posL l b (i + 1) + gap i ≤ 65536 ∧ base + posL l b (i + 1) + gap i < 4294967296
  tgt : ∀ i x, l[i]? = some x → x.grows = true → ∃ j, hereF x.name 0 l = some j ∧ (reachesQ x (b i) ((posL l b j + gap j) - (posL l b i + gap i)) = true ∨ (nextF (b i) (classesP x)).2 = false)
def Below (l : List It) (sz : List Int) (b : Nat → Int) : Prop := ∀ i x, l[i]? = some x → x.grows = true → sz.getD i 0 ≤ b i
theorem step_below {l : List It} {sz : List Int} {b gap : Nat → Int} {base : Int} (hB : Bound l b gap base) (hi : InvS l sz) (hb : Below l sz b) (n : Nat) : 0 ≤ lenAt l (saidP sz) n ∧ lenAt l (saidP sz) n ≤ lenAt l b n ∧ (lenAt l b n - lenAt l (saidP sz) n) % 2 = 0 := by
  refine ⟨len1_nonneg hi n, ?_⟩
  unfold lenAt
  cases hx : l[n]? with
  | none => simp
  | some x =>
    simp only [len1]
    split
    · rename_i hk
      have hg := (grows_iff x).2 hk
      have h1 := ((hi.2 n x hx).1 hg)
      rw [said_class hg h1]
      have h2 := class_even x hg _ h1
      have h3 := class_even x hg _ (hB.cls n x hx hg)
      have h4 := hb n x hx hg
      omega
    · omega
theorem pos_below {l : List It} {sz : List Int} {b gap : Nat → Int} {base : Int} (hB : Bound l b gap base) (hi : InvS l sz) (hb : Below l sz b) : ∀ {n m : Nat}, n ≤ m → 0 ≤ posL l (saidP sz) m - posL l (saidP sz) n ∧ posL l (saidP sz) m - posL l (saidP sz) n ≤ posL l b m - posL l b n ∧ ((posL l b m - posL l b n) - (posL l (saidP sz) m - posL l (saidP sz) n)) % 2 = 0 := by
  intro n m h
  induction h with
  | refl => omega
  | step _ ih =>
    rename_i m _
    have := step_below hB hi hb m
    simp only [posL]
    omega
theorem place_below {l : List It} {sz : List Int} {b gap : Nat → Int} {base : Int} (hB : Bound l b gap base) (hi : InvS l sz) (hb : Below l sz b) : PlaceOK l (saidP sz) base := by
  intro n x hx
  obtain ⟨r1, r2, r3⟩ := hB.room n x hx
  have p1 := pos_below hB hi hb (Nat.zero_le n)
  have p2 := pos_below hB hi hb (Nat.zero_le (n + 1))
  simp only [posL] at p1 p2 r2 r3 ⊢
  have g0 := hB.gap0 n
  have g2 := hB.gap2 n
  refine ⟨fun ⟨k1, k2, k3⟩ => r1 ⟨k1, k2, by omega⟩, by omega, by omega⟩
/-- Where all reach in the bound, all reach below it. -/
theorem reach_below {l : List It} {sz : List Int} {b gap : Nat → Int} {base : Int} (hB : Bound l b gap base) (hi : InvS l sz) (hb : Below l sz b) {i : Nat} {x : It} (hx : l[i]? = some x) (hg : x.grows = true) {j : Nat} (hj : hereF x.name 0 l = some j) (he : sz.getD i 0 = b i)
    (hr : reachesQ x (b i) ((posL l b j + gap j) - (posL l b i + gap i)) = true) : reachesQ x (sz.getD i 0) (posL l (saidP sz) j - posL l (saidP sz) i) = true := by
  have hil := (List.getElem?_eq_some_iff.1 hx).1
  have hjl := hereF_lt x.name l 0 j hj
  have hjl' : j < l.length := by omega
  have g2i := hB.gap2 i
  have g2j := hB.gap2 j
  have ri := (hB.room i x hx).2.1
  have rj := (hB.room j l[j] (List.getElem?_eq_getElem hjl')).2.1
  have bi := pos_below hB hi hb (Nat.zero_le i)
  have bj := pos_below hB hi hb (Nat.zero_le j)
  have bi1 := pos_below hB hi hb (Nat.le_succ i)
  have bj1 := pos_below hB hi hb (Nat.le_succ j)
  have g0i := hB.gap0 i
  have g0j := hB.gap0 j
  simp only [posL] at bi bj
  rw [he]
  have e : ∀ n, posL l b n.succ = posL l b (n + 1) := fun _ => rfl
  refine reach_mono x (b i) _ _ hr ?_ ?_ ⟨by simp only [Nat.succ_eq_add_one] at *; omega, by simp only [Nat.succ_eq_add_one] at *; omega⟩
  · rcases Nat.le_total i j with h | h
    · have := pos_below hB hi hb h
      have := hB.gap1 i j h
      left; omega
    · have := pos_below hB hi hb h
      have := hB.gap1 j i h
      right; omega
  · rcases Nat.le_total i j with h | h
    · have := pos_below hB hi hb h
      omega
    · have := pos_below hB hi hb h
      omega
/-- **Below the bound all stays, and nothing goes wrong.** -/
theorem ref_below {l : List It} (hpl : Plain l) {b gap : Nat → Int} {base : Int} (hB : Bound l b gap base) {at0 : List Int} {labs0 : List Sy} (hL0 : labelsP at0 [] 0 l [] = .ok labs0) : ∀ (m : Nat) (sz : List Int) (n : Nat) (res : Except Flt Lay), InvS l sz → Below l sz b → refP l [] base m sz n = some res →
    ∃ y, res = .ok y ∧ Below l y.sz b
  | 0, sz, n, res, hi, hb, h => by simp [refP] at h
  | m + 1, sz, n, res, hi, hb, h => by
    simp only [refP] at h
    have hpo := place_below hB hi hb
    have hP := (place_ok_iff hpl (saidP sz) base _).2 ⟨hpo, rfl⟩
    rw [hP] at h
    simp only [] at h
    generalize hes : (List.range' 1 l.length).map (fun j => base + posL l (saidP sz) j) = es at h hP
    cases hL : labelsP (base :: es) [] 0 l [] with
    | error f =>
      have := (labels_map (base :: es) at0 [] l 0 [] [] (fun _ => rfl) f).1 hL
      rw [hL0] at this; cases this
    | ok labs =>
      rw [hL] at h
      simp only [] at h
      obtain ⟨q, hR⟩ := round_exists ([] ++ labs) (base :: es) sz l 0 sz false (fun x hx hg => by
        obtain ⟨i, hil, rfl⟩ := List.getElem_of_mem hx
        obtain ⟨j, hj, _⟩ := hB.tgt i _ (List.getElem?_eq_getElem hil) hg
        rw [(tgt_pos hi hpo hes.symm hL _ i hil).1, hj]
        exact ⟨_, rfl⟩)
      obtain ⟨nx, ag⟩ := q
      rw [hR] at h
      simp only [] at h
      obtain ⟨hi', ht⟩ := inv_round hi hR
      cases ag with
      | true =>
        refine ref_below hpl hB hL0 m nx (n + 1) res hi' (fun i x hx hg => ?_) (by simpa using h)
        have hil := (List.getElem?_eq_some_iff.1 hx).1
        obtain ⟨t1, t2⟩ := tgt_pos hi hpo hes.symm hL x.name i hil
        obtain ⟨v, hv, h5⟩ := (ht i x hx).2 hg
        rw [t1] at hv
        obtain ⟨j, hj, rfl⟩ := Option.map_eq_some_iff.1 hv
        rw [t2 j hj] at h5
        have hbi := hb i x hx hg
        rcases h5 with ⟨_, e⟩ | ⟨hr, hn, e, _⟩ | ⟨_, _, e⟩
        · rw [e]; exact hbi
        · rw [e]
          obtain ⟨j', hj', hbt⟩ := hB.tgt i x hx hg
          rw [hj] at hj'
          cases hj'
          have hlt : sz.getD i 0 < b i := by
            rcases Int.lt_or_eq_of_le hbi with h | h
            · exact h
            · exfalso
              rcases hbt with hbt | hbt
              · rw [reach_below hB hi hb hx hg hj h hbt] at hr; cases hr
              · rw [← h, hn] at hbt; cases hbt
          exact (next_mem x hg _ hn).2 _ (hB.cls i x hx hg) hlt
        · rw [e]; exact hbi
      | false =>
        have e := round_same hi hR
        subst e
        simp only [Bool.false_eq_true, if_false, Option.some.injEq] at h
        exact ⟨_, h.symm, hb⟩
end Go.Proofs.YtmekfllddifglaaDoor.AM

/- The relax seat, in plain Lean: the least; with bytes more no size is less. Conditions: none. -/
set_option linter.unusedVariables false
set_option linter.unusedSimpArgs false
namespace Go.Proofs.YtmekfllddifglaaDoor.AM
open Go
theorem fits_all {all : List Sy} {at_ sizes : List Int} (l0 : List It) : ∀ (r p : List It), l0 = p ++ r → (fitsL all at_ sizes p.length r = true ↔ ∀ i x, p.length ≤ i → l0[i]? = some x → x.grows = true → ∃ v, symF x.name all = some v ∧ reachesQ x (sizes.getD i 0) (farR at_ v i) = true)
  | [], p, hp => by
    simp only [fitsL, true_iff]
    intro i x hi hx
    rw [hp] at hx
    simp only [List.append_nil] at hx
    have := (List.getElem?_eq_some_iff.1 hx).1
    omega
  | x :: r, p, hp => by
    have hp' : l0 = (p ++ [x]) ++ r := by simp [hp]
    have hl : (p ++ [x]).length = p.length + 1 := by simp
    have hx0 : l0[p.length]? = some x := by rw [hp]; simp
    have ih := fits_all (all := all) (at_ := at_) (sizes := sizes) l0 r (p ++ [x]) hp'
    rw [hl] at ih
    have tail : (∀ i y, p.length + 1 ≤ i → l0[i]? = some y → y.grows = true → ∃ v, symF y.name all = some v ∧ reachesQ y (sizes.getD i 0) (farR at_ v i) = true) → (x.grows = true → ∃ v, symF x.name all = some v ∧ reachesQ x (sizes.getD p.length 0) (farR at_ v p.length) = true) → ∀ i y, p.length ≤ i → l0[i]? = some y → y.grows = true → ∃ v, symF y.name all = some v ∧ reachesQ y (sizes.getD i 0) (farR at_ v i) = true := by
      intro h1 h2 i y hi hy hg
      by_cases e : i = p.length
      · subst e; rw [hx0] at hy; cases hy; exact h2 hg
      · exact h1 i y (by omega) hy hg
    simp only [fitsL]
    by_cases hg : x.grows = true
    · rw [if_pos hg]
      cases hs : symF x.name all with
      | none =>
        constructor
        · intro h; cases h
        · intro h; obtain ⟨v, hv, _⟩ := h _ _ (Nat.le_refl _) hx0 hg; rw [hs] at hv; cases hv
      | some v =>
        simp only []
        by_cases hr : reachesQ x (sizes.getD p.length 0) (farR at_ v p.length) = true
        · change (if reachesQ x (sizes.getD p.length 0) (farR at_ v p.length) = true then _ else _) = true ↔ _
          rw [if_pos hr, ih]
          exact ⟨fun h => tail h fun _ => ⟨v, hs, hr⟩, fun h i y hi hy hg => h i y (by omega) hy hg⟩
        · change (if reachesQ x (sizes.getD p.length 0) (farR at_ v p.length) = true then _ else _) = true ↔ _
          rw [if_neg hr]
          constructor
          · intro h; cases h
          · intro h
            obtain ⟨v', hv, hr'⟩ := h _ _ (Nat.le_refl _) hx0 hg
            rw [hs] at hv; cases hv
            exact absurd hr' hr
    · rw [if_neg hg, ih]
      exact ⟨fun h => tail h fun e => absurd e hg, fun h i y hi hy hg => h i y (by omega) hy hg⟩
/-- Sizes that fit, told by places. -/
theorem fits_iff {l : List It} (hpl : Plain l) {sz : List Int} (hi : InvS l sz) (base : Int) : fitsP l sz [] base = true ↔ PlaceOK l (saidP sz) base ∧ (∃ at0 labs, labelsP at0 [] 0 l [] = .ok labs) ∧ ∀ i x, l[i]? = some x → x.grows = true → ∃ j, hereF x.name 0 l = some j ∧ reachesQ x (sz.getD i 0) (posL l (saidP sz) j - posL l (saidP sz) i) = true := by
  unfold fitsP
  cases hP : placeP base (saidP sz) 0 l base with
  | error f =>
    constructor
    · intro h; cases h
    · rintro ⟨h, _⟩
      rw [(place_ok_iff hpl (saidP sz) base _).2 ⟨h, rfl⟩] at hP
      cases hP
  | ok es =>
    obtain ⟨hpo, hes⟩ := (place_ok_iff hpl _ _ _).1 hP
    simp only []
    cases hL : labelsP (base :: es) [] 0 l [] with
    | error f =>
      constructor
      · intro h; cases h
      · rintro ⟨_, ⟨at0, labs, h⟩, _⟩
        have := (labels_map (base :: es) at0 [] l 0 [] [] (fun _ => rfl) f).1 hL
        rw [h] at this; cases this
    | ok labs =>
      simp only [hi.1, if_true]
      have := fits_all (all := [] ++ labs) (at_ := base :: es) (sizes := sz) l l [] rfl
      simp only [List.length_nil, Nat.zero_le, true_implies] at this
      rw [this]
      constructor
      · intro h
        refine ⟨hpo, ⟨_, _, hL⟩, fun i x hx hg => ?_⟩
        have hil := (List.getElem?_eq_some_iff.1 hx).1
        obtain ⟨t1, t2⟩ := tgt_pos hi hpo hes hL x.name i hil
        obtain ⟨v, hv, hr⟩ := h i x hx hg
        rw [t1] at hv
        obtain ⟨j, hj, rfl⟩ := Option.map_eq_some_iff.1 hv
        rw [t2 j hj] at hr
        exact ⟨j, hj, hr⟩
      · rintro ⟨_, _, h⟩ i x hx hg
        have hil := (List.getElem?_eq_some_iff.1 hx).1
        obtain ⟨t1, t2⟩ := tgt_pos hi hpo hes hL x.name i hil
        obtain ⟨j, hj, hr⟩ := h i x hx hg
        refine ⟨_, by rw [t1, hj]; rfl, ?_⟩
        rw [t2 j hj]; exact hr
/-- What fits has classes. -/
theorem fits_class {l : List It} {sz : List Int} {base : Int} (h : fitsP l sz [] base = true) : sz.length = l.length ∧ ∀ i x, l[i]? = some x → x.grows = true → sz.getD i 0 ∈ classesP x := by
  unfold fitsP at h
  split at h
  · cases h
  · rename_i es _
    split at h
    · cases h
    · rename_i labs _
      split at h
      · rename_i hl
        refine ⟨hl, fun i x hx hg => ?_⟩
        have := (fits_all (all := [] ++ labs) (at_ := base :: es) (sizes := sz) l l [] rfl).1 h i x (Nat.zero_le _) hx hg
        obtain ⟨v, _, hr⟩ := this
        unfold reachesQ at hr
        split at hr
        · rename_i hh; exact (hasF_mem _ _).1 hh
        · cases hr
      · cases h
theorem least_iff : ∀ (a b : List Int), leastP a b = true ↔ a.length ≤ b.length ∧ ∀ i, i < a.length → a.getD i 0 ≤ b.getD i 0
  | [], b => by simp [leastP]
  | x :: a, [] => by simp [leastP]
  | x :: a, y :: b => by
    have ih := least_iff a b
    simp only [leastP]
    constructor
    · intro h
      by_cases hxy : y < x
      · simp [hxy] at h
      · simp only [hxy, if_false] at h
        obtain ⟨h1, h2⟩ := ih.1 (by simpa using h)
        refine ⟨by simpa using h1, fun i hi => ?_⟩
        cases i with
        | zero => simp; omega
        | succ i => simpa using h2 i (by simpa using hi)
    · rintro ⟨h1, h2⟩
      have h0 := h2 0 (by simp)
      simp at h0
      have hxy : ¬ y < x := by omega
      simp only [hxy, if_false]
      simpa using ih.2 ⟨by simpa using h1, fun i hi => by simpa using h2 (i + 1) (by simpa using hi)⟩
/-- **The least.** -/
theorem least_law {l : List It} (hpl : Plain l) {own : List Int} (h0 : ∀ i x, l[i]? = some x → x.grows = false → own.getD i 0 = 0) {base : Int} (hf : fitsP l own [] base = true) {m : Nat} {res : Except Flt Lay} (hr : refP l [] base m (l.map sz1) 0 = some res) :
    ∃ y, res = .ok y ∧ y.sz.length = own.length ∧ leastP y.sz own = true ∧ fitsP l y.sz [] base = true := by
  obtain ⟨hl, hc⟩ := fits_class hf
  have hio : InvS l own := ⟨hl, fun i x hx => ⟨fun hg => hc i x hx hg, fun hg => h0 i x hx hg⟩⟩
  obtain ⟨hpo, ⟨at0, labs0, hL⟩, hre⟩ := (fits_iff hpl hio base).1 hf
  have hB : Bound l (saidP own) (fun _ => 0) base := by
    refine ⟨fun i x hx hg => by rw [said_class hg (hc i x hx hg)]; exact hc i x hx hg, fun _ => Int.le_refl _, fun _ _ _ => Int.le_refl _, fun _ => rfl, fun i x hx => ?_, fun i x hx hg => ?_⟩
    · simpa using hpo i x hx
    · obtain ⟨j, hj, hr⟩ := hre i x hx hg
      refine ⟨j, hj, .inl ?_⟩
      rw [said_class hg (hc i x hx hg)]
      simpa using hr
  have hi1 := inv_first l
  have hb1 : Below l (l.map sz1) (saidP own) := by
    intro i x hx hg
    have e : (l.map sz1).getD i 0 = sz1 x := by simp [List.getD_eq_getElem?_getD, hx]
    rw [e, said_class hg (hc i x hx hg)]
    have := hc i x hx hg
    simp only [sz1, hg, if_true]
    rcases classes_cases x hg with e | e | e | e | e <;> rw [e] at this ⊢ <;> simp at this ⊢ <;> omega
  obtain ⟨y, rfl, hyb⟩ := ref_below hpl hB hL m _ 0 res hi1 hb1 hr
  obtain ⟨hiy, hpy, hLy, hry⟩ := ref_rest hpl base m _ 0 y hi1 hr
  refine ⟨y, rfl, by rw [hiy.1, hl], (least_iff _ _).2 ⟨by rw [hiy.1, hl]; exact Nat.le_refl _, fun i hi => ?_⟩, (fits_iff hpl hiy base).2 ⟨hpy, hLy, fun i x hx hg => ?_⟩⟩
  · have hil : i < l.length := by rw [← hiy.1]; exact hi
    have hx : l[i]? = some l[i] := List.getElem?_eq_getElem hil
    cases hg : l[i].grows with
    | true =>
      have := hyb i _ hx hg
      rwa [said_class hg (hc i _ hx hg)] at this
    | false =>
      rw [(hiy.2 i _ hx).2 hg, h0 i _ hx hg]
      exact Int.le_refl _
  · obtain ⟨j, hj, hd⟩ := hry i x hx hg
    refine ⟨j, hj, ?_⟩
    rcases hd with hd | hd
    · exact hd
    · have hle := hyb i x hx hg
      have hge := next_none x hg _ hd _ (hB.cls i x hx hg)
      have he : y.sz.getD i 0 = saidP own i := by omega
      obtain ⟨j', hj', hbt⟩ := hB.tgt i x hx hg
      rw [hj] at hj'
      cases hj'
      have hr' : reachesQ x (saidP own i) ((posL l (saidP own) j + 0) - (posL l (saidP own) i + 0)) = true := by
        obtain ⟨j2, hj2, hr2⟩ := hre i x hx hg
        rw [hj] at hj2
        cases hj2
        rw [said_class hg (hc i x hx hg)]
        simpa using hr2
      exact reach_below hB hiy hyb hx hg hj he hr'
end Go.Proofs.YtmekfllddifglaaDoor.AM

/- The relax seat: RelaxLeast, as the machine runs it. Conditions: none. -/
set_option linter.unusedVariables false
set_option linter.unusedSimpArgs false
set_option maxRecDepth 10000
namespace Go.Proofs.YtmekfllddifglaaDoor.AM
open Go
variable (G : Gl) (N : Nats) (k : Nat)
def st4 (ni nz : Bool) (l : List It) (sizes : List Int) (base : Int) (q : List Int) : St :=
  ⟨[.sl ni (items l), .sl nz (ints sizes), .v (.int .u32 base), .dead, .dead, .dead, .dead, .own 7 [] 1 0 q.length, .v (.int .i64 q.length)] ++ List.replicate 81 .dead,
   List.replicate 7 [] ++ [([], (1, some (.arr q.isEmpty false 1 3 (ints q))))] :: List.replicate 82 []⟩
theorem ints_snoc (l : List Int) (a : Int) : ints (l ++ [a]) = ints l ++ [.v (.int .i64 a)] := by simp [ints]
set_option maxHeartbeats 8000000 in
theorem least_law_rn (ok : N.Ok) (ok2 : N.Ok2) (ni nz : Bool) (l : List It) (sizes : List Int) (base : Int) (hsm : Small l) (hsz : sizes.length < 4611686018427387904) (hok : ∀ x ∈ l, x.Ok) (hb0 : 0 ≤ base) (hb1 : base < 4294967296) :
    rn (DR G N) (k + 21) 4 [.sl ni (items l), .sl nz (ints sizes), .v (.int .u32 base)] [[], [], []] = some (.v (.bool true), [[], [], []]) := by
  rw [run4]
  have ha := awake_rn G N k ok ok2
  have hlt : rn (DR G N) (k + 20) 8 [.sl ni (items l), .sl true []] [[], []] = some (.v (.bool (lightP l [])), [[], []]) := light_rn G N (k + 18) ni true l [] hsm
  have hl := hsm.1
  cases hL : lightP l [] with
  | false =>
    rw [hL] at hlt
    simp -implicitDefEqProofs [Tryd.f4, endF, argsIn, subsIn, ha, hlt]
  | true =>
    rw [hL] at hlt
    simp -implicitDefEqProofs [Tryd.f4, endF, argsIn, subsIn, ha, hlt, acode_loop]
    refine aloop_ind (Q := fun r => finF _ _ _ (thenA (blockA r 0) _) = _) (I := fun r st => ∃ p q, l = p ++ r ∧ q.length = p.length ∧ Plain p ∧ (∀ i x, p[i]? = some x → x.grows = false → q.getD i 0 = 0) ∧ i4.hints.nm 0 st = some (st4 ni nz l sizes base q)) ?_ ?_ l _ ⟨[], [], rfl, rfl, by simp [Plain], by simp, by simp -implicitDefEqProofs [NormD.run, norm, st4, List.lookup, coSs, coS, setEnt, Sub.put, ctr, sub, Sub.ent, ints]⟩
    · rintro st ⟨p, q, hp, hq, hpl, h0, hst⟩ K
      rw [List.append_nil] at hp
      subst hp
      rw [hst]
      have hf : rn (DR G N) (k + 20) 12 [.sl ni (items l), .sl q.isEmpty (ints q), .sl true [], .v (.int .u32 base)] [[], [], [], []] = some (.v (.bool (fitsP l q [] base)), [[], [], [], []]) := fits_law_rn G N (k + 16) ni q.isEmpty true l q [] base hl (by simp) (by omega) hok hb0 hb1
      cases hF : fitsP l q [] base with
      | false =>
        rw [hF] at hf
        simp -implicitDefEqProofs [st4, endF, argsIn, subsIn, hq, hf, List.take_of_length_le]
      | true =>
        rw [hF] at hf
        obtain ⟨m, res, hm, hrf, hy, hr⟩ := relax_light G N (k + 4) ok ni true l [] base hok hl (by simp) hb0 hb1
        obtain ⟨y, rfl, y1, y2, y3⟩ := least_law hpl h0 hF hrf
        simp only [layA, syms, List.map_nil] at hr
        have hle := leastP_rn G N (k + 19) false q.isEmpty y.sz q (by omega)
        rw [y2] at hle
        have hf2 : rn (DR G N) (k + 20) 12 [.sl ni (items l), .sl false (ints y.sz), .sl true [], .v (.int .u32 base)] [[], [], [], []] = some (.v (.bool (fitsP l y.sz [] base)), [[], [], [], []]) := fits_law_rn G N (k + 16) ni false true l y.sz [] base hl (by simp) (by omega) hok hb0 hb1
        rw [y3] at hf2
        simp -implicitDefEqProofs [st4, endF, argsIn, subsIn, hq, hf, hr, hle, hf2, y1, setAll, cellAV, cellsS, List.take_of_length_le]
    · rintro x r st ⟨p, q, hp, hq, hpl, h0, hst⟩ K hK
      have h1 : p.length < l.length := by rw [hp]; simp
      have h2 : l[p.length] = x := by simp [hp]
      have h3 := wrap64 p.length (by omega)
      have hb : (p.length + 1) * 9 ≤ 140737488355328 := by omega
      have hg := grows_rn G N (k + 19) x
      rw [hst]
      by_cases c10 : x.kind = 10
      · simp -implicitDefEqProofs [st4, endF, argsIn, subsIn, hq, h1, h2, h3, c10]
      by_cases c11 : x.kind = 11
      · simp -implicitDefEqProofs [st4, endF, argsIn, subsIn, hq, h1, h2, h3, c10, c11]
      have hpl' : Plain (p ++ [x]) := by
        intro y hy
        rcases List.mem_append.1 hy with hy | hy
        · exact hpl y hy
        · cases List.mem_singleton.1 hy; exact ⟨c10, c11⟩
      have h0' : ∀ n, (x.grows = false → n = 0) → ∀ i y, (p ++ [x])[i]? = some y → y.grows = false → (q ++ [n]).getD i 0 = 0 := by
        intro n hn i y hy hgy
        by_cases hi : i < p.length
        · rw [List.getElem?_append_left hi] at hy
          rw [List.getD_eq_getElem?_getD, List.getElem?_append_left (by omega), ← List.getD_eq_getElem?_getD]
          exact h0 i y hy hgy
        · rw [List.getElem?_append_right (by omega)] at hy
          have hi2 : i - p.length = 0 := by
            rcases Nat.eq_zero_or_pos (i - p.length) with e | e
            · exact e
            · rw [List.getElem?_eq_none (by simp; omega)] at hy; cases hy
          rw [hi2] at hy
          simp at hy
          subst hy
          have : i = q.length := by omega
          subst this
          simp [List.getD_eq_getElem?_getD, hn hgy]
      cases c1 : x.grows with
      | false =>
        rw [c1] at hg
        simp -implicitDefEqProofs [st4, endF, argsIn, subsIn, hq, h1, h2, h3, c10, c11, hg, hb, setAll, cellAV, List.take_of_length_le]
        refine hK _ ⟨p ++ [x], q ++ [0], by simp [hp], by simp [hq], hpl', h0' 0 (fun _ => rfl), ?_⟩
        simp -implicitDefEqProofs [NormD.run, norm, st4, List.lookup, coSs, coS, hq, ints_snoc]
      | true =>
        rw [c1] at hg
        by_cases c2 : p.length < sizes.length
        · have c2' : p.length < (ints sizes).length := by simpa using c2
          simp -implicitDefEqProofs [st4, endF, argsIn, subsIn, hq, h1, h2, h3, c10, c11, c2, c2', hg, hb, setAll, cellAV, List.take_of_length_le]
          refine hK _ ⟨p ++ [x], q ++ [sizes[p.length]], by simp [hp], by simp [hq], hpl', h0' _ (fun e => by rw [c1] at e; cases e), ?_⟩
          simp -implicitDefEqProofs [NormD.run, norm, st4, List.lookup, coSs, coS, hq, ints_snoc]
        · simp -implicitDefEqProofs [st4, endF, argsIn, subsIn, hq, h1, h2, h3, c10, c11, c2, hg, hb, setAll, cellAV, List.take_of_length_le]
          refine hK _ ⟨p ++ [x], q ++ [0], by simp [hp], by simp [hq], hpl', h0' 0 (fun _ => rfl), ?_⟩
          simp -implicitDefEqProofs [NormD.run, norm, st4, List.lookup, coSs, coS, hq, ints_snoc]
end Go.Proofs.YtmekfllddifglaaDoor.AM

/- The relax seat, in plain Lean: with bytes more between two items no size is less. Conditions: none. -/
set_option linter.unusedVariables false
set_option linter.unusedSimpArgs false
namespace Go.Proofs.YtmekfllddifglaaDoor.AM
open Go
def idxW (k i : Nat) : Nat := if i < k then i else i + 1
theorem hereF_shift (n : ByteArray) : ∀ (l : List It) (i : Nat), hereF n (i + 1) l = (hereF n i l).map (· + 1)
  | [], i => rfl
  | x :: l, i => by
    simp only [hereF, hereF_shift n l]
    split
    · split <;> rfl
    · rfl
theorem hereF_ge (n : ByteArray) : ∀ (l : List It) (i j : Nat), hereF n i l = some j → i ≤ j
  | [], i, j, h => by simp [hereF] at h
  | x :: l, i, j, h => by
    simp only [hereF] at h
    split at h
    · split at h
      · cases h; exact Nat.le_refl _
      · have := hereF_ge n l (i + 1) j h; omega
    · have := hereF_ge n l (i + 1) j h; omega
theorem hereF_wide (n : ByteArray) {l : List It} {k : Nat} (hk : k ≤ l.length) {gI : It} (hg : gI.kind ≠ 1) : hereF n 0 (l.take k ++ gI :: l.drop k) = (hereF n 0 l).map (idxW k) := by
  have hl : (l.take k).length = k := by simp; omega
  have e : hereF n 0 l = (hereF n 0 (l.take k)).or (hereF n k (l.drop k)) := by
    have := hereF_append n (l.take k) (l.drop k) 0
    rw [List.take_append_drop, hl, Nat.zero_add] at this
    exact this
  rw [hereF_append, hl, Nat.zero_add, e]
  simp only [hereF, hg, if_false, hereF_shift]
  cases h1 : hereF n 0 (l.take k) with
  | some j =>
    have := hereF_lt n (l.take k) 0 j h1
    have hj : j < k := by omega
    simp [idxW, hj]
  | none =>
    simp only [Option.none_or]
    cases h2 : hereF n k (l.drop k) with
    | none => rfl
    | some j =>
      have := hereF_ge n (l.drop k) k j h2
      have hj : ¬ j < k := by omega
      simp [idxW, hj]
theorem wide_get {l : List It} {k : Nat} (hk : k ≤ l.length) (gI : It) (i : Nat) : (l.take k ++ gI :: l.drop k)[idxW k i]? = l[i]? := by
  have hl : (l.take k).length = k := by simp; omega
  unfold idxW
  split
  · rename_i h
    rw [List.getElem?_append_left (by omega), List.getElem?_take, if_pos h]
  · rename_i h
    rw [List.getElem?_append_right (by omega), hl, show i + 1 - k = (i - k) + 1 by omega, List.getElem?_cons_succ, List.getElem?_drop]
    congr 1
    omega
theorem wide_mid {l : List It} {k : Nat} (hk : k ≤ l.length) (gI : It) : (l.take k ++ gI :: l.drop k)[k]? = some gI := by
  have hl : (l.take k).length = k := by simp; omega
  rw [List.getElem?_append_right (by omega), hl, Nat.sub_self]
  rfl
theorem pos_wide {l : List It} {k : Nat} (hk : k ≤ l.length) (gI : It) (hg : gI.kind = 9) (w : List Int) : ∀ i, posL (l.take k ++ gI :: l.drop k) (saidP w) (idxW k i) = posL l (fun i => saidP w (idxW k i)) i + (if k ≤ i then (gI.name.size : Int) else 0) := by
  have hm : lenAt (l.take k ++ gI :: l.drop k) (saidP w) k = (gI.name.size : Int) := by
    have h4 : ¬ (gI.kind = 4 ∨ gI.kind = 5 ∨ gI.kind = 6) := by omega
    simp only [lenAt, wide_mid hk gI, len1, h4, if_false, classesP, hg]
    rfl
  have hs : ∀ i, lenAt (l.take k ++ gI :: l.drop k) (saidP w) (idxW k i) = lenAt l (fun i => saidP w (idxW k i)) i := by
    intro i
    simp only [lenAt, wide_get hk gI i]
  intro i
  induction i with
  | zero =>
    by_cases h : 0 < k
    · have h' : ¬ k ≤ 0 := by omega
      simp [idxW, h, h', posL]
    · have h0 : k = 0 := by omega
      subst h0
      simp only [idxW, Nat.lt_irrefl, if_false, posL, Nat.le_refl, if_true, Nat.zero_add]
      rw [← hm]
  | succ i ih =>
    have hsi := hs i
    by_cases c1 : i + 1 < k
    · have e1 : idxW k (i + 1) = i + 1 := by simp [idxW, c1]
      have e2 : idxW k i = i := by simp [idxW, show i < k by omega]
      rw [e2] at ih hsi
      have g1 : ¬ k ≤ i := by omega
      have g2 : ¬ k ≤ i + 1 := by omega
      rw [e1]
      simp only [posL, g1, g2, if_false] at ih ⊢
      rw [ih, hsi]
      omega
    · by_cases c2 : i < k
      · have c3 : k = i + 1 := by omega
        have e1 : idxW k (i + 1) = i + 1 + 1 := by simp [idxW, c1]
        have e2 : idxW k i = i := by simp [idxW, c2]
        rw [e2] at ih hsi
        have g1 : ¬ k ≤ i := by omega
        have g2 : k ≤ i + 1 := by omega
        rw [e1]
        have hm' := hm
        rw [show (lenAt (l.take k ++ gI :: l.drop k) (saidP w) k) = lenAt (l.take k ++ gI :: l.drop k) (saidP w) (i + 1) by rw [← c3]] at hm'
        simp only [posL, g1, g2, if_false, if_true] at ih ⊢
        rw [ih, hsi, hm']
        omega
      · have e1 : idxW k (i + 1) = i + 1 + 1 := by simp [idxW, c1]
        have e2 : idxW k i = i + 1 := by simp [idxW, c2]
        rw [e2] at ih hsi
        have g1 : k ≤ i := by omega
        have g2 : k ≤ i + 1 := by omega
        rw [e1]
        simp only [g1, g2, if_true] at ih ⊢
        show posL _ (saidP w) (i + 1) + lenAt _ (saidP w) (i + 1) = posL l _ i + lenAt l _ i + _
        rw [ih, hsi]
        omega
/-- **With bytes more no size is less.** -/
theorem more_law {l : List It} (hpl : Plain l) {k : Nat} (hk : k ≤ l.length) {gI : It} (hg9 : gI.kind = 9) (hg2 : (gI.name.size : Int) % 2 = 0) {base : Int} {m m' : Nat} {ya yb : Lay} (ha : refP l [] base m (l.map sz1) 0 = some (.ok ya)) (hb : refP (l.take k ++ gI :: l.drop k) [] base m' ((l.take k ++ gI :: l.drop k).map sz1) 0 = some (.ok yb)) :
    ya.sz.length = l.length ∧ yb.sz.length = l.length + 1 ∧ ∀ i, i < l.length → ya.sz.getD i 0 ≤ yb.sz.getD (idxW k i) 0 := by
  have hplW : Plain (l.take k ++ gI :: l.drop k) := by
    intro x hx
    rcases List.mem_append.1 hx with hx | hx
    · exact hpl x (List.mem_of_mem_take hx)
    · rcases List.mem_cons.1 hx with rfl | hx
      · omega
      · exact hpl x (List.mem_of_mem_drop hx)
  obtain ⟨hia, _, ⟨at0, labs0, hL⟩, _⟩ := ref_rest hpl base m _ 0 ya (inv_first l) ha
  obtain ⟨hib, hpb, _, hrb⟩ := ref_rest hplW base m' _ 0 yb (inv_first _) hb
  have hlw : (l.take k ++ gI :: l.drop k).length = l.length + 1 := by simp; omega
  have hcl : ∀ i x, l[i]? = some x → x.grows = true → yb.sz.getD (idxW k i) 0 ∈ classesP x := fun i x hx hg => (hib.2 (idxW k i) x (by rw [wide_get hk]; exact hx)).1 hg
  have hpw := pos_wide hk gI hg9 yb.sz
  have hB : Bound l (fun i => saidP yb.sz (idxW k i)) (fun i => if k ≤ i then (gI.name.size : Int) else 0) base := by
    refine ⟨fun i x hx hg => ?_, fun i => ?_, fun i j hij => ?_, fun i => ?_, fun i x hx => ?_, fun i x hx hg => ?_⟩
    · have := hcl i x hx hg
      show saidP yb.sz (idxW k i) ∈ _
      rw [said_class hg this]; exact this
    · show (0 : Int) ≤ if k ≤ i then _ else _
      split <;> omega
    · show (if k ≤ i then (gI.name.size : Int) else 0) ≤ if k ≤ j then _ else _
      split
      · rw [if_pos (by omega)]; exact Int.le_refl _
      · split <;> omega
    · show (if k ≤ i then (gI.name.size : Int) else 0) % 2 = 0
      split
      · exact hg2
      · rfl
    · have h1 := hpb (idxW k i) x (by rw [wide_get hk]; exact hx)
      have e := hpw i
      have e2 : lenAt (l.take k ++ gI :: l.drop k) (saidP yb.sz) (idxW k i) = lenAt l (fun i => saidP yb.sz (idxW k i)) i := by
        simp only [lenAt, wide_get hk gI i]
      simp only [posL] at h1 ⊢
      rw [e, e2] at h1
      refine ⟨fun ⟨k1, k2, k3⟩ => h1.1 ⟨k1, k2, ?_⟩, ?_, ?_⟩
      · rw [← k3]; congr 1; simp only [Int.add_assoc]
      · have := h1.2.1; omega
      · have := h1.2.2; omega
    · obtain ⟨j', hj', hd⟩ := hrb (idxW k i) x (by rw [wide_get hk]; exact hx) hg
      rw [hereF_wide x.name hk (by omega)] at hj'
      obtain ⟨j, hj, rfl⟩ := Option.map_eq_some_iff.1 hj'
      rw [hpw j, hpw i] at hd
      refine ⟨j, hj, ?_⟩
      show reachesQ x (saidP yb.sz (idxW k i)) _ = true ∨ (nextF (saidP yb.sz (idxW k i)) _).2 = false
      rw [said_class hg (hcl i x hx hg)]
      exact hd
  have hb1 : Below l (l.map sz1) (fun i => saidP yb.sz (idxW k i)) := by
    intro i x hx hg
    have e : (l.map sz1).getD i 0 = sz1 x := by simp [List.getD_eq_getElem?_getD, hx]
    show _ ≤ saidP yb.sz (idxW k i)
    rw [e, said_class hg (hcl i x hx hg)]
    have := hcl i x hx hg
    simp only [sz1, hg, if_true]
    rcases classes_cases x hg with e | e | e | e | e <;> rw [e] at this ⊢ <;> simp at this ⊢ <;> omega
  obtain ⟨y, hy, hyb⟩ := ref_below hpl hB hL m _ 0 _ (inv_first l) hb1 ha
  cases hy
  refine ⟨hia.1, by rw [hib.1, hlw], fun i hi => ?_⟩
  have hx : l[i]? = some l[i] := List.getElem?_eq_getElem hi
  cases hg : l[i].grows with
  | true =>
    have := hyb i _ hx hg
    simp only [] at this
    rwa [said_class hg (hcl i _ hx hg)] at this
  | false =>
    rw [(hia.2 i _ hx).2 hg, (hib.2 (idxW k i) _ (by rw [wide_get hk]; exact hx)).2 hg]
    exact Int.le_refl _
end Go.Proofs.YtmekfllddifglaaDoor.AM

/- The relax seat: footprints of slice and append. Conditions: none. -/
set_option linter.unusedVariables false
set_option linter.unusedSimpArgs false
set_option maxRecDepth 10000
namespace Go.Proofs.YtmekfllddifglaaDoor.AM
open Go
section
variable (G : Gl) (P : Program) (T : Tbl) (sl : List AV) (S : Subs) (dst : Option Tmp) (ty : TypeId) (pos : String) (af : Array Edge) (gd : Option (Nat × Bool))
def isSl : AV → Bool
  | .sl _ _ => true
  | _ => false
@[simp] theorem isSl_sl (n : Bool) (l : List AV) : isSl (.sl n l) = true := rfl
theorem fpC_sliceSl (t : TypeId) (x : Operand) (lo hi mx : Option Operand) (h : isSl (opd G sl x) = true) : fpC G (carry P T) ⟨dst, .slice t x lo hi mx, ty, pos, af, gd⟩ ⟨sl, S⟩ = ([], []) := by
  unfold fpC
  simp only [carry, aop]
  cases hx : opd G sl x <;> rw [hx] at h <;> try (cases h; done)
  simp only [conc, Option.isSome_none, Bool.false_eq_true, if_false]
  unfold aSlice
  split
  · rfl
  · split
    · rfl
    · simp only []
      split
      · split <;> rfl
      · rfl
def fpApp (d : Nat) : AV → AV → Option FP
  | .own r _ _ _ _, .sl _ _ => some ([r, d], [r, d])
  | .own r _ _ _ _, .own r2 _ _ _ _ => some ([r2, r, d], [r, d])
  | _, _ => none
@[simp] theorem fpApp_sl (d r : Nat) (p : List Nat) (v lo hi : Nat) (n : Bool) (l : List AV) : fpApp d (.own r p v lo hi) (.sl n l) = some ([r, d], [r, d]) := rfl
@[simp] theorem fpApp_own (d r : Nat) (p : List Nat) (v lo hi : Nat) (r2 : Nat) (p2 : List Nat) (v2 lo2 hi2 : Nat) : fpApp d (.own r p v lo hi) (.own r2 p2 v2 lo2 hi2) = some ([r2, r, d], [r, d]) := rfl
theorem app_tail (d r : Nat) (p : List Nat) (ver lo hi : Nat) (sz by_ : Nat) (e : TypeId) (news : List AV) (S' : Subs)
    (h2 : ((RW.get r fun st => match st.live p ver with
          | some (.arr nl false sz' e' el) =>
            if lo = 0 ∧ sz' = sz ∧ e' = e ∧ (hi + news.length) * (by_ + 1) ≤ 140737488355328 then .put r (st.put p (ver, none)) (newArr d (nl && news.isEmpty) sz e (el.take hi ++ news)) else .fail
          | _ => .fail : RW AV).run S').isSome = true) :
    (RW.get r fun st => match st.live p ver with
          | some (.arr nl false sz' e' el) =>
            if lo = 0 ∧ sz' = sz ∧ e' = e ∧ (hi + news.length) * (by_ + 1) ≤ 140737488355328 then .put r (st.put p (ver, none)) (newArr d (nl && news.isEmpty) sz e (el.take hi ++ news)) else .fail
          | _ => .fail : RW AV).reach S' = ([r, d], [r, d]) := by
  simp only [RW.run] at h2
  simp only [RW.reach]
  split at h2
  · split at h2
    · rename_i hc
      rw [if_pos hc]
      rfl
    · simp [RW.run] at h2
  · simp [RW.run] at h2
theorem fpC_append (t : TypeId) (s x : Operand) {f : FP} (h : fpApp (dst.getD 0) (opd G sl s) (opd G sl x) = some f) (h2 : ((aAppend P (dst.getD 0) t (opd G sl s) (opd G sl x)).run S).isSome = true) :
    fpC G (carry P T) ⟨dst, .call ⟨.builtin .append, #[s, x], #[t, t]⟩, ty, pos, af, gd⟩ ⟨sl, S⟩ = f := by
  unfold fpC
  simp only [carry, aop, aBuiltin, if_true]
  generalize opd G sl s = u at h h2 ⊢
  generalize opd G sl x = v at h h2 ⊢
  unfold aAppend at h2 ⊢
  cases hs : sliceT P t with
  | none => simp [hs, RW.run] at h2
  | some e =>
    simp only [hs] at h2 ⊢
    cases he : elT P e with
    | none => simp [he, RW.run] at h2
    | some q =>
      obtain ⟨sz, by_, z, zel⟩ := q
      simp only [he] at h2 ⊢
      unfold fpApp at h
      split at h
      · rename_i r p ver lo hi n l
        cases h
        simp only [elemsRW] at h2 ⊢
        split at h2
        · rename_i hc
          rw [if_pos hc]
          simp only [RW.bind, nilV, Bool.false_eq_true, if_false] at h2 ⊢
          exact app_tail (dst.getD 0) r p ver lo hi sz by_ e l S h2
        · simp [RW.bind, RW.run] at h2
      · rename_i r p ver lo hi r2 p2 ver2 lo2 hi2
        cases h
        simp only [elemsRW, RW.bind, RW.run] at h2
        simp only [elemsRW, RW.bind, RW.reach]
        split at h2
        · split at h2
          · rename_i hc
            rw [if_pos hc]
            simp only [RW.bind, nilV, Bool.false_eq_true, if_false] at h2 ⊢
            have := app_tail (dst.getD 0) r p ver lo hi sz by_ e _ S h2
            exact congrArg (fun x : FP => (r2 :: x.1, x.2)) this
          · simp [RW.bind, RW.run] at h2
        · simp [RW.bind, RW.run] at h2
      · cases h
end
end Go.Proofs.YtmekfllddifglaaDoor.AM

/- The relax seat: RelaxMore, as the machine runs it. Conditions: none. -/
set_option linter.unusedVariables false
set_option linter.unusedSimpArgs false
set_option maxRecDepth 10000
namespace Go.Proofs.YtmekfllddifglaaDoor.AM
open Go
variable (G : Gl) (N : Nats) (k : Nat)
def st5 (ni : Bool) (l : List It) (a b base : Int) (i : Nat) : St :=
  ⟨[.sl ni (items l), .v (.int .u8 a), .v (.int .u8 b), .v (.int .u32 base)] ++ List.replicate 5 .dead ++ [.v (.int .i64 i)] ++ List.replicate 112 .dead, List.replicate 122 []⟩
def layB (y : Lay) : Sub := [([], (1, some (.box false [.sl false (ints y.sz), .sl false (words y.at_), .sl y.labs.isEmpty (syms y.labs), .v (.int .i64 y.n)])))]
def st5b (ni : Bool) (l : List It) (kk : Nat) (y y2 : Lay) (i : Nat) : St :=
  ⟨[.sl ni (items l)] ++ List.replicate 9 .dead ++ [.v (.int .i64 kk), .dead, .dead, .loc 13 [] 1 0, .dead, .loc 15 [] 1 0, .dead, .v (.int .i64 i)] ++ List.replicate 104 .dead,
   List.replicate 13 [] ++ layB y :: [] :: layB y2 :: List.replicate 106 []⟩
set_option maxHeartbeats 16000000 in
theorem more_law_rn (ok : N.Ok) (ok2 : N.Ok2) (ni : Bool) (l : List It) (a b base : Int) (hsm : Small l) (hok : ∀ x ∈ l, x.Ok) (ha0 : 0 ≤ a) (ha1 : a < 256) (hm0 : 0 ≤ b) (hm1 : b < 256) (hb0 : 0 ≤ base) (hb1 : base < 4294967296) :
    rn (DR G N) (k + 21) 5 [.sl ni (items l), .v (.int .u8 a), .v (.int .u8 b), .v (.int .u32 base)] [[], [], [], []] = some (.v (.bool true), [[], [], [], []]) := by
  rw [run5]
  have ha := awake_rn G N k ok ok2
  have hlt : rn (DR G N) (k + 20) 8 [.sl ni (items l), .sl true []] [[], []] = some (.v (.bool (lightP l [])), [[], []]) := light_rn G N (k + 18) ni true l [] hsm
  have hl := hsm.1
  cases hL : lightP l [] with
  | false =>
    rw [hL] at hlt
    simp -implicitDefEqProofs [Tryd.f5, endF, argsIn, subsIn, ha, hlt]
  | true =>
    rw [hL] at hlt
    obtain ⟨l60, _⟩ := lightP_len hL
    simp -implicitDefEqProofs [Tryd.f5, endF, argsIn, subsIn, ha, hlt, acode_loop]
    refine aloop_ind (Q := fun r => finF _ _ _ (thenA (blockA r 0) _) = _) (I := fun r st => ∃ p, l = p ++ r ∧ Plain p ∧ i5.hints.nm 0 st = some (st5 ni l a b base p.length)) ?_ ?_ l _ ⟨[], rfl, by simp [Plain], by simp -implicitDefEqProofs [NormD.run, norm, st5, List.lookup]⟩
    · rintro st ⟨p, hp, hpl, hst⟩ K
      rw [List.append_nil] at hp
      subst hp
      rw [hst]
      obtain ⟨an, rfl⟩ := Int.eq_ofNat_of_zero_le ha0
      obtain ⟨bn, rfl⟩ := Int.eq_ofNat_of_zero_le hm0
      have w1 := wrap64 l.length (by omega)
      have w2 : IntKind.wrap .i64 (2 * (bn : Int)) = ((2 * bn : Nat) : Int) := by rw [wrapI64 (by omega) (by omega)]; simp
      have w3 : IntKind.wrap .i64 (an : Int) = an := wrapI64 (by omega) (by omega)
      have w4 : IntKind.wrap .i64 (bn : Int) = bn := wrapI64 (by omega) (by omega)
      obtain ⟨kk, w5, hkl⟩ : ∃ kk : Nat, (an : Int).tmod ((l.length : Int) + 1) = kk ∧ kk ≤ l.length := by
        refine ⟨an % (l.length + 1), ?_, by have := Nat.mod_lt an (show 0 < l.length + 1 by omega); omega⟩
        rw [Int.tmod_eq_emod_of_nonneg (by omega)]
        simp
      have w6 : ¬ ((l.length : Int) + 1 = 0) := by omega
      have hz := zeros_rn G N (k + 19) (2 * bn) (by omega)
      rw [show ((2 * bn : Nat) : Int) = 2 * (bn : Int) by simp] at hz
      have hci : ∀ x ∈ items l, (cellsOf x).length = 15 := by
        intro x hx
        simp only [items, List.mem_map] at hx
        obtain ⟨y, _, rfl⟩ := hx
        rfl
      have hct : ∀ x ∈ List.take kk (items l), (cellsOf x).length = 15 := fun x hx => hci x (List.mem_of_mem_take hx)
      have hcd : ∀ x ∈ List.drop kk (items l), (cellsOf x).length = 15 := fun x hx => hci x (List.mem_of_mem_drop hx)
      have hmin : min kk l.length = kk := Nat.min_eq_left hkl
      have hB1 : kk * 137 ≤ 140737488355328 := by omega
      have hB2 : (kk + 1) * 137 ≤ 140737488355328 := by omega
      have hB3 : (kk + 1 + (l.length - kk)) * 137 ≤ 140737488355328 := by omega
      have hB4 : (l.length + 1) * 137 ≤ 140737488355328 := by omega
      have hTl : List.take l.length (items l) = items l := List.take_of_length_le (by simp)
      have hlen : kk + 1 + (l.length - kk) = l.length + 1 := by omega
      obtain ⟨W, hWd⟩ : ∃ W : List It, W = l.take kk ++ bI (zeroS (2 * bn)) :: l.drop kk := ⟨_, rfl⟩
      have hWl : W.length = l.length + 1 := by rw [hWd]; simp; omega
      have hW : List.take kk (items l) ++ AV.agg (bI (zeroS (2 * bn))).cells :: List.drop kk (items l) = items W := by
        rw [hWd]
        simp [items]
      simp only [bI, It.cells] at hW
      have hWT : List.take (l.length + 1) (items W) = items W := List.take_of_length_le (by simp [items, hWl])
      have hokW : ∀ x ∈ W, x.Ok := by
        intro x hx
        rw [hWd] at hx
        rcases List.mem_append.1 hx with hx | hx
        · exact hok x (List.mem_of_mem_take hx)
        · rcases List.mem_cons.1 hx with rfl | hx
          · refine ⟨by simp [bI], ?_, by simp [bI]⟩
            simp only [bI, zsz]; omega
          · exact hok x (List.mem_of_mem_drop hx)
      obtain ⟨m, res, hm, hrf, hy, hr⟩ := relax_light G N (k + 4) ok ni true l [] base hok hl (by simp) hb0 hb1
      obtain ⟨m2, res2, hm2, hrf2, hy2, hr2⟩ := relax_light G N (k + 4) ok false true W [] base hokW (by omega) (by simp) hb0 hb1
      simp only [syms, List.map_nil] at hr hr2
      cases res with
      | error f =>
        simp only [layA, errA] at hr
        cases res2 with
        | error f2 =>
          simp only [layA, errA] at hr2
          simp -implicitDefEqProofs [st5, endF, argsIn, subsIn, hTl, hW, hWT, hlen, hmin, hB1, hB2, hB3, hB4, w1, w2, w3, w4, w5, w6, hz, fpC_sliceSl, fpC_append, if_pos (And.intro hkl hci), if_pos hct, if_pos hcd, drawD_cons, drawD_nil, Susp.at, Susp.keeps, List.lookup, FP.offB, fpC_store, cellsS, fpC_buildSlice, setAll, cellAV, List.take_of_length_le, hr, hr2, hWl]
        | ok y2 =>
          simp only [layA] at hr2
          simp -implicitDefEqProofs [st5, endF, argsIn, subsIn, hTl, hW, hWT, hlen, hmin, hB1, hB2, hB3, hB4, w1, w2, w3, w4, w5, w6, hz, fpC_sliceSl, fpC_append, if_pos (And.intro hkl hci), if_pos hct, if_pos hcd, drawD_cons, drawD_nil, Susp.at, Susp.keeps, List.lookup, FP.offB, fpC_store, cellsS, fpC_buildSlice, setAll, cellAV, List.take_of_length_le, hr, hr2, hWl]
      | ok y =>
        simp only [layA] at hr
        cases res2 with
        | error f2 =>
          simp only [layA, errA] at hr2
          simp -implicitDefEqProofs [st5, endF, argsIn, subsIn, hTl, hW, hWT, hlen, hmin, hB1, hB2, hB3, hB4, w1, w2, w3, w4, w5, w6, hz, fpC_sliceSl, fpC_append, if_pos (And.intro hkl hci), if_pos hct, if_pos hcd, drawD_cons, drawD_nil, Susp.at, Susp.keeps, List.lookup, FP.offB, fpC_store, cellsS, fpC_buildSlice, setAll, cellAV, List.take_of_length_le, hr, hr2, hWl]
        | ok y2 =>
          simp only [layA] at hr2
          rw [hWd] at hrf2
          obtain ⟨z1, z2, z3⟩ := more_law hpl hkl (gI := bI (zeroS (2 * bn))) rfl (by simp only [bI, zsz]; omega) hrf hrf2
          simp -implicitDefEqProofs [st5, endF, argsIn, subsIn, hTl, hW, hWT, hlen, hmin, hB1, hB2, hB3, hB4, w1, w2, w3, w4, w5, w6, hz, fpC_sliceSl, fpC_append, if_pos (And.intro hkl hci), if_pos hct, if_pos hcd, drawD_cons, drawD_nil, Susp.at, Susp.keeps, List.lookup, FP.offB, fpC_store, cellsS, fpC_buildSlice, setAll, cellAV, List.take_of_length_le, hr, hr2, hWl, z1, z2, acode_loop]
          refine aloop_ind (Q := fun r => finF _ _ _ (thenA (blockA r 2) _) = _) (I := fun r st => ∃ p, l = p ++ r ∧ i5.hints.nm 2 st = some (st5b ni l kk y y2 p.length)) ?_ ?_ l _ ⟨[], rfl, by simp -implicitDefEqProofs [NormD.run, norm, st5b, layB, List.lookup]⟩
          · rintro st ⟨p, hp, hst⟩ K
            rw [List.append_nil] at hp
            subst hp
            rw [hst]
            simp -implicitDefEqProofs [st5b, layB, endF]
          · rintro x r st ⟨p, hp, hst⟩ K hK
            have h1 : p.length < l.length := by rw [hp]; simp
            have h3 := wrap64 p.length (by omega)
            have h4 : p.length < y.sz.length := by omega
            have h5 : p.length < y2.sz.length := by omega
            have h6 : p.length + 1 < y2.sz.length := by omega
            have g1 : (0 : Int) ≤ (p.length : Int) + 1 := by omega
            have g2 : (ints y2.sz)[p.length]?.getD .dead = .v (.int .i64 y2.sz[p.length]) := by simp [ints, h5]
            have g3 : (ints y2.sz)[p.length + 1]?.getD .dead = .v (.int .i64 y2.sz[p.length + 1]) := by simp [ints, h6]
            have g4 : (p.length : Int) < (l.length : Int) + 1 := by omega
            have g5 : (ints y.sz)[p.length]?.getD .dead = .v (.int .i64 y.sz[p.length]) := by simp [ints, h4]
            have hle := z3 p.length h1
            rw [hst]
            by_cases c : kk ≤ p.length
            · have hle' : ¬ y2.sz[p.length + 1] < y.sz[p.length] := by
                simp [idxW, show ¬ p.length < kk by omega, List.getD_eq_getElem?_getD, h4, h6] at hle
                omega
              simp -implicitDefEqProofs [st5b, layB, endF, h1, h3, h4, h5, h6, z1, z2, c, hle', g1, g2, g3, g4, g5, drawD_cons, drawD_nil, Susp.at, Susp.keeps, List.lookup, FP.offB]
              refine hK _ ⟨p ++ [x], by simp [hp], ?_⟩
              simp -implicitDefEqProofs [NormD.run, norm, st5b, layB, List.lookup]
            · have hle' : ¬ y2.sz[p.length] < y.sz[p.length] := by
                simp [idxW, show p.length < kk by omega, List.getD_eq_getElem?_getD, h4, h5] at hle
                omega
              simp -implicitDefEqProofs [st5b, layB, endF, h1, h3, h4, h5, h6, z1, z2, c, hle', g1, g2, g3, g4, g5, drawD_cons, drawD_nil, Susp.at, Susp.keeps, List.lookup, FP.offB]
              refine hK _ ⟨p ++ [x], by simp [hp], ?_⟩
              simp -implicitDefEqProofs [NormD.run, norm, st5b, layB, List.lookup]
    · rintro x r st ⟨p, hp, hpl, hst⟩ K hK
      have h1 : p.length < l.length := by rw [hp]; simp
      have h2 : l[p.length] = x := by simp [hp]
      have h3 := wrap64 p.length (by omega)
      rw [hst]
      by_cases c10 : x.kind = 10
      · simp -implicitDefEqProofs [st5, endF, argsIn, subsIn, h1, h2, h3, c10]
      by_cases c11 : x.kind = 11
      · simp -implicitDefEqProofs [st5, endF, argsIn, subsIn, h1, h2, h3, c10, c11]
      have hpl' : Plain (p ++ [x]) := by
        intro y hy
        rcases List.mem_append.1 hy with hy | hy
        · exact hpl y hy
        · cases List.mem_singleton.1 hy; exact ⟨c10, c11⟩
      simp -implicitDefEqProofs [st5, endF, argsIn, subsIn, h1, h2, h3, c10, c11]
      refine hK _ ⟨p ++ [x], by simp [hp], hpl', ?_⟩
      simp -implicitDefEqProofs [NormD.run, norm, st5, List.lookup]
end Go.Proofs.YtmekfllddifglaaDoor.AM
