/- The relax seat: Nh, Ni, Nj, Nk, Nl. Conditions: none. -/
import Derived.Test.YtmekfllddifglaaDoorP08
set_option linter.unusedVariables false
set_option linter.unusedSimpArgs false
/- The abstract machine, part Nh: all functions, level by level. Conditions: none. -/
set_option linter.unusedVariables false
set_option linter.unusedSimpArgs false
namespace Go.Proofs.YtmekfllddifglaaDoor.AM
open Go

/-- The shape at a loop's head: slots and places that are kept; slots and cells whose nil slice is grown. -/
structure NormD where
  L : List Nat
  K : List Nat
  cs : List (Nat × Nat × TypeId)
  cc : List (Nat × List Nat × Nat × Nat × TypeId)
def coSs : List (Nat × Nat × TypeId) → St → St
  | [], st => st
  | (i, sz, e) :: l, st => coSs l (coS i sz e st)
def coCs : List (Nat × List Nat × Nat × Nat × TypeId) → St → St
  | [], st => st
  | (r, p, k, sz, e) :: l, st => coCs l (coC r p k sz e st)
def NormD.run (n : NormD) (st : St) : St := norm n.L n.K (coCs n.cc (coSs n.cs st))
theorem coSs_ok {C : Ctx} {imm : Nat → Prop} {a : Act} {w : World} : ∀ (l : List (Nat × Nat × TypeId)) (γ : Gh) (st : St), Rel C γ imm st a w → ∃ γ', Rel C γ' imm (coSs l st) a w ∧ Ext st.subs γ (coSs l st).subs γ'
  | [], γ, st, h => ⟨γ, h, Ext.refl _ _⟩
  | (i, sz, e) :: l, γ, st, h => by
    obtain ⟨γ1, h1, h2⟩ := coS_ok i sz e h
    obtain ⟨γ2, h3, h4⟩ := coSs_ok l γ1 _ h1
    exact ⟨γ2, h3, h2.trans h4⟩
theorem coCs_ok {C : Ctx} {imm : Nat → Prop} {a : Act} {w : World} : ∀ (l : List (Nat × List Nat × Nat × Nat × TypeId)) (γ : Gh) (st : St), Rel C γ imm st a w → ∃ γ', Rel C γ' imm (coCs l st) a w ∧ Ext st.subs γ (coCs l st).subs γ'
  | [], γ, st, h => ⟨γ, h, Ext.refl _ _⟩
  | (r, p, k, sz, e) :: l, γ, st, h => by
    obtain ⟨γ1, h1, h2⟩ := coC_ok r p k sz e h
    obtain ⟨γ2, h3, h4⟩ := coCs_ok l γ1 _ h1
    exact ⟨γ2, h3, h2.trans h4⟩
/-- What is known of what lives on is known behind the loop's head. -/
def NormD.keeps (n : NormD) (gk : List (Nat × List Nat × Nat)) (st : St) : Bool := gk.all fun q => n.K.contains q.1 && (live (coCs n.cc (coSs n.cs st)).subs q.1 q.2.1 q.2.2).isSome && decide (q.2.2 ≤ 1)
theorem NormD.run_ok (n : NormD) {C : Ctx} {ds : Kp} {st : St} {a : Act} {w : World} (hd : n.keeps (ds.gk.map (·.1)) st = true) (h0 : ∀ r p, ctr ds.S0 r p = 0) (h : RelX C ds st a w) : RelX C ds (n.run st) a w := by
  obtain ⟨γ, imm, hr, hh, hm, hE, hN⟩ := h
  obtain ⟨γ1, h1, h2⟩ := coSs_ok n.cs γ st hr
  obtain ⟨γ2, h3, h4⟩ := coCs_ok n.cc γ1 _ h1
  obtain ⟨γ3, h5, h6, h7⟩ := norm_ok h0 n.L n.K h3 ((hE.trans h2).trans h4)
  refine ⟨γ3, imm, h5, fun q hq => ?_, hm, h6, hN⟩
  have := List.all_eq_true.1 hd q.1 (List.mem_map.2 ⟨q, hq, rfl⟩)
  simp only [Bool.and_eq_true, decide_eq_true_eq] at this
  exact h7 q this.1.1 this.1.2 this.2 (((hh q hq).mono h2).mono h4)

/-- Of a range over a function. -/
structure RgD where
  gop : Operand
  rj : Nat
  off : Nat
  g : FuncId
  sus : List (Nat × Susp)
  nm : List (Nat × NormD)
  c0 : LoopC
structure FInfo where
  md : List Bool
  ex : Nat
  sus : List (Nat × Susp)
  nm : List (Nat × NormD)
  inl : List (FuncId × Nat × List (Nat × Susp))
  rg : List (Nat × RgD)
def susL (l : List (Nat × Susp)) : Nat → Susp := fun r => (l.lookup r).getD []
def nmF (l : List (Nat × NormD)) : Nat → St → Option St := fun b st => match l.lookup b with
  | none => some st
  | some n => some (n.run st)
def FInfo.hints (i : FInfo) : Hints := ⟨fun r => (i.sus.lookup r).getD [], fun b st => match i.nm.lookup b with
  | none => some st
  | some n => some (n.run st), fun _ _ => none⟩
def plainI : FInfo := ⟨[], 0, [], [], [], []⟩
def FInfo.plain (i : FInfo) : Bool := i.inl.isEmpty && i.rg.isEmpty
/-- The heads of the loops of what is ranged over. -/
def nmY (rj : Nat) (l : List (Nat × NormD)) : Nat → St → Option St := fun b st => match l.lookup b with
  | none => some st
  | some n => if n.keeps [(rj, [], 1)] st then some (n.run st) else none
theorem nmY_ok (rj : Nat) (l : List (Nat × NormD)) : NmOk (nmY rj l) rj := by
  intro b st st' e C ds a w hg h0 hr
  unfold nmY at e
  split at e
  · simp only [Option.some.injEq] at e; subst e; exact hr
  · rename_i n _
    split at e
    · rename_i hk
      simp only [Option.some.injEq] at e; subst e
      exact n.run_ok (by rw [hg]; exact hk) h0 hr
    · cases e
noncomputable def rgI (P : Program) (d : RgD) : Option RgI := match P.funcs[d.g]? with
  | none => none
  | some fn => some ⟨d.rj, d.off, d.g, fn, bodyOf fn, susL d.sus, nmY d.rj d.nm, d.c0⟩
noncomputable def FInfo.inlT (P : Program) (i : FInfo) : InlT := fun g => match i.inl.lookup g with
  | none => none
  | some x => match P.funcs[g]? with
    | none => none
    | some fn => some (⟨x.1, susL x.2⟩, fn, bodyOf fn)
noncomputable def FInfo.hintsR (P : Program) (G : Gl) (T : Tbl) (i : FInfo) : Hints := ⟨i.hints.sus, i.hints.nm, fun b st => match i.rg.lookup b with
  | none => none
  | some d => match rgI P d with
    | none => none
    | some R => aRange P G T (i.inlT P) R (opd G st.slots d.gop) st⟩

/-- What is told of a program: of each function; what is known of the package's variables; the functions that are told outright. -/
structure Desc where
  P : Program
  G : Gl
  info : FuncId → Option FInfo
  nat : Tbl → FuncId → Option FnA
noncomputable def tbl (D : Desc) : Nat → Tbl
  | 0 => fun _ => none
  | k + 1 => fun f => match D.info f with
    | none => none
    | some i => match D.nat (tbl D k) f with
      | some F => some (i.md, F)
      | none => match D.P.funcs[f]? with
        | some fn => some (i.md, if i.plain then aFn D.P D.G (carry D.P (tbl D k)) i.hints i.ex fn (bodyOf fn) else aFn D.P D.G (carryI D.P D.G (tbl D k) (i.inlT D.P)) (i.hintsR D.P D.G (tbl D k)) i.ex fn (bodyOf fn))
        | none => none
/-- What is told of a function is so. -/
structure InfoOk (P : Program) (f : FuncId) (i : FInfo) (fn : Func) : Prop where
  ent : enters P f = true
  code : okCode i.hints.sus (bodyOf fn) = true
  inl : InlOk P (i.inlT P)
  rg : ∀ x ∈ ranges 0 (bodyOf fn), ∃ d R, i.rg.lookup x.1 = some d ∧ d.gop = x.2.1 ∧ rgI P d = some R ∧ R.Ok P ∧ x.2.2.1 = R.c0.ps ∧ x.2.2.2.1 = R.c0.asg ∧ x.2.2.2.2 = R.c0.body
theorem InfoOk.of_plain {P : Program} {f : FuncId} {i : FInfo} {fn : Func} (h1 : enters P f = true) (h2 : okCode i.hints.sus (bodyOf fn) = true) (h3 : i.inl = []) (h4 : ranges 0 (bodyOf fn) = []) : InfoOk P f i fn :=
  ⟨h1, h2, fun g i' fn' c' e => by simp [FInfo.inlT, h3] at e, fun x hx => by rw [h4] at hx; cases hx⟩
structure DescOk (D : Desc) : Prop where
  mixed : D.P.follows .mixedOrders = true
  nat : ∀ T, TblOk D.P D.G T → ∀ f F, D.nat T f = some F → enters D.P f = true ∧ FnOk D.P D.G f F
  code : ∀ f i fn, D.info f = some i → D.P.funcs[f]? = some fn → (∀ T, D.nat T f = none) → InfoOk D.P f i fn
  same : ∀ f, (∀ T, D.nat T f = none) ∨ (∀ T, ∃ F, D.nat T f = some F)
theorem carryI_none (P : Program) (G : Gl) (T : Tbl) : carryI P G T (fun _ => none) = carry P T := by
  funext d o ρ
  unfold carryI
  split
  · split
    · split
      · rfl
      · rfl
    · rfl
  · rfl
theorem nm_ok {i : FInfo} : ∀ b st st', i.hints.nm b st = some st' → ∀ (C : Ctx) (ds : Kp) a w, ds.gk = [] → (∀ r p, ctr ds.S0 r p = 0) → RelX C ds st a w → RelX C ds st' a w := by
  intro b st st' e C ds a w hd h0 hr
  simp only [FInfo.hints] at e
  split at e
  · simp only [Option.some.injEq] at e; subst e; exact hr
  · rename_i n _
    simp only [Option.some.injEq] at e; subst e; exact n.run_ok (by rw [hd]; rfl) h0 hr
theorem tbl_ok {D : Desc} (h : DescOk D) : ∀ k, TblOk D.P D.G (tbl D k)
  | 0 => fun f md F e => by simp [tbl] at e
  | k + 1 => fun f md F e => by
    simp only [tbl] at e
    split at e
    · cases e
    · rename_i i hi
      split at e
      · rename_i F' hF
        simp only [Option.some.injEq, Prod.mk.injEq] at e
        obtain ⟨_, rfl⟩ := e
        exact h.nat _ (tbl_ok h k) f _ hF
      · rename_i hF
        split at e
        · rename_i fn hfn
          simp only [Option.some.injEq, Prod.mk.injEq] at e
          obtain ⟨_, rfl⟩ := e
          have hn : ∀ T, D.nat T f = none := by
            rcases h.same f with h1 | h1
            · exact h1
            · obtain ⟨F, hF'⟩ := h1 (tbl D k); rw [hF] at hF'; cases hF'
          have hI := h.code f i fn hi hfn hn
          have hb : fn.body = some (bodyOf fn) := by
            have h1 := hI.ent
            unfold enters at h1
            rw [hfn] at h1
            simp only [Bool.and_eq_true] at h1
            obtain ⟨c, hc⟩ := Option.isSome_iff_exists.1 h1.2
            simp [bodyOf, hc]
          refine ⟨hI.ent, ?_⟩
          split
          · rename_i hp
            simp only [FInfo.plain, Bool.and_eq_true, List.isEmpty_iff] at hp
            rw [← carryI_none D.P D.G (tbl D k)]
            refine aFn_ok h.mixed (tbl_ok h k) (fun g i' fn' c' e => by cases e) hfn hb hI.code (fun x hx => ?_) nm_ok
            obtain ⟨d, R, r1, _⟩ := hI.rg x hx
            rw [hp.2] at r1; cases r1
          · refine aFn_ok h.mixed (tbl_ok h k) hI.inl hfn hb hI.code (fun x hx => ?_) nm_ok
            obtain ⟨d, R, r1, r2, r3, r4, r5⟩ := hI.rg x hx
            exact ⟨R, r4, r5.1, r5.2.1, r5.2.2, fun st => by simp only [FInfo.hintsR, r1, r3, r2]⟩
        · cases e

/-- A function's run, at a level. -/
noncomputable def rn (D : Desc) (k : Nat) (f : FuncId) : FnA := fun args S => match tbl D k f with
  | some y => y.2 args S
  | none => none
theorem rn_ok {D : Desc} (h : DescOk D) (k : Nat) (f : FuncId) : FnOk D.P D.G f (rn D k f) := by
  intro args S res S' hr
  unfold rn at hr
  split at hr
  · rename_i y hy
    obtain ⟨md, F⟩ := y
    exact (tbl_ok h k f md F hy).2 args S res S' hr
  · cases hr
theorem rn_run {D : Desc} {f : FuncId} {i : FInfo} {fn : Func} (hi : D.info f = some i) (hn : ∀ T, D.nat T f = none) (hf : D.P.funcs[f]? = some fn) (hp : i.plain = true) (k : Nat) (args : List AV) (S : Subs) :
    rn D (k + 1) f args S = finF S.length D.P fn.results.toList (acode D.G (carry D.P (tbl D k)) i.hints 0 (bodyOf fn) ⟨args ++ List.replicate (fn.ntmps - args.length) .dead, pad S (fn.ntmps + i.ex)⟩) := by
  simp only [rn, tbl, hi, hn, hf, hp, if_true]
  exact aFn_run _ _ _ _ _ _ _ _ _
theorem rn_runR {D : Desc} {f : FuncId} {i : FInfo} {fn : Func} (hi : D.info f = some i) (hn : ∀ T, D.nat T f = none) (hf : D.P.funcs[f]? = some fn) (hp : i.plain = false) (k : Nat) (args : List AV) (S : Subs) :
    rn D (k + 1) f args S = finF S.length D.P fn.results.toList (acode D.G (carryI D.P D.G (tbl D k) (i.inlT D.P)) (i.hintsR D.P D.G (tbl D k)) 0 (bodyOf fn) ⟨args ++ List.replicate (fn.ntmps - args.length) .dead, pad S (fn.ntmps + i.ex)⟩) := by
  simp only [rn, tbl, hi, hn, hf, hp, Bool.false_eq_true, if_false]
  exact aFn_run _ _ _ _ _ _ _ _ _
theorem rn_nat {D : Desc} {f : FuncId} {i : FInfo} {F : FnA} (hi : D.info f = some i) {k : Nat} (hn : D.nat (tbl D k) f = some F) (args : List AV) (S : Subs) : rn D (k + 1) f args S = F args S := by
  simp only [rn, tbl, hi, hn]

def backR (qs : List Pass) (S : Subs) (y : Option (AV × Subs)) : Option (AV × Subs) := y.bind fun y => thenR (putR qs y.2 qs 0 S) fun _ S => some (y.1, S)
@[simp] theorem backR_some (qs : List Pass) (S : Subs) (x : AV) (Sc : Subs) : backR qs S (some (x, Sc)) = thenR (putR qs Sc qs 0 S) fun _ S => some (x, S) := rfl
theorem thenR_none {α β : Type} (x : Option (α × Subs)) : (thenR x fun _ _ => (none : Option β)) = none := by cases x <;> rfl
theorem callA_rn {D : Desc} {g : FuncId} {i : FInfo} (hi : D.info g = some i) (k : Nat) (args : List AV) (S : Subs) :
    callA (tbl D k) (.clo g [] []) args S = thenR (prepR i.md args S) fun xs S => thenR (gathR xs S) fun qs S => if (roots qs).Nodup then backR qs S (rn D k g (argsIn qs) (subsIn qs)) else none := by
  simp only [callA, List.nil_append, List.append_nil]
  cases hT : tbl D k g with
  | none =>
    simp only [rn, hT, backR, Option.bind_none]
    simp only [ite_self, thenR_none]
  | some y =>
    obtain ⟨md, F⟩ := y
    have : md = i.md := by
      cases k with
      | zero => simp [tbl] at hT
      | succ k =>
        simp only [tbl, hi] at hT
        split at hT
        · simp only [Option.some.injEq, Prod.mk.injEq] at hT; exact hT.1.symm
        · split at hT
          · simp only [Option.some.injEq, Prod.mk.injEq] at hT; exact hT.1.symm
          · cases hT
    subst this
    simp only [aCall_run, rn, hT]
    rfl
end Go.Proofs.YtmekfllddifglaaDoor.AM

/- The abstract machine, part Ni: a loop, round by round; drawn regions where nothing has to be looked at. Conditions: none. -/
set_option linter.unusedVariables false
set_option linter.unusedSimpArgs false
namespace Go.Proofs.YtmekfllddifglaaDoor.AM
open Go

def roundL (x : Option (AX × St)) (k : St → Option (AX × St)) : Option (AX × St) := x.bind fun y => match y.1 with
  | .normal => k y.2
  | .exit id => some (.exit id, y.2)
  | .ret => some (.ret, y.2)
@[simp] theorem roundL_normal (s : St) (k : St → Option (AX × St)) : roundL (some (.normal, s)) k = k s := rfl
@[simp] theorem roundL_exit (id : Nat) (s : St) (k : St → Option (AX × St)) : roundL (some (.exit id, s)) k = some (.exit id, s) := rfl
@[simp] theorem roundL_ret (s : St) (k : St → Option (AX × St)) : roundL (some (.ret, s)) k = some (.ret, s) := rfl
def headL (x : Option St) (body : St → Option (AX × St)) (k : St → Option (AX × St)) : Option (AX × St) := x.bind fun s => roundL (body s) k
@[simp] theorem headL_some (s : St) (body k : St → Option (AX × St)) : headL (some s) body k = roundL (body s) k := rfl
theorem aloop_eq (nm : St → Option St) (body : St → Option (AX × St)) (st : St) : aloop nm body st = headL (nm st) body (aloop nm body) := by
  apply Option.ext
  intro y
  constructor
  · intro h
    obtain ⟨n, hn⟩ := iter_of_aloop h
    cases n with
    | zero => cases hn
    | succ n =>
      simp only [iter] at hn
      obtain ⟨s1, h1, h2⟩ := Option.bind_eq_some_iff.1 hn
      obtain ⟨⟨e, s2⟩, h3, h4⟩ := Option.bind_eq_some_iff.1 h2
      rw [h1, headL_some, h3]
      cases e with
      | normal => exact aloop_of_iter h4
      | exit id => exact h4
      | ret => exact h4
  · intro h
    obtain ⟨s1, h1, h2⟩ := Option.bind_eq_some_iff.1 h
    obtain ⟨⟨e, s2⟩, h3, h4⟩ := Option.bind_eq_some_iff.1 h2
    cases e with
    | normal => exact aloop_next h1 h3 h4
    | exit id =>
      simp only [Option.some.injEq] at h4
      subst h4
      exact aloop_exit h1 h3
    | ret =>
      simp only [Option.some.injEq] at h4
      subst h4
      exact aloop_ret h1 h3
theorem aloop_round {nm : St → Option St} {body : St → Option (AX × St)} {st s1 s2 : St} (hn : nm st = some s1) (hb : body s1 = some (.normal, s2)) : aloop nm body st = aloop nm body s2 := by
  rw [aloop_eq nm body st, hn, headL_some, hb, roundL_normal]
/-- The head's shape is put on the state at once. -/
theorem aloop_head {nm : St → Option St} {body : St → Option (AX × St)} {st s1 : St} (hn : nm st = some s1) (hs : nm s1 = some s1) : aloop nm body st = aloop nm body s1 := by
  rw [aloop_eq nm body st, aloop_eq nm body s1, hn, hs]

/-- Where nothing has to be looked at, a drawn region goes as any other. -/
theorem drawD_nil (G : Gl) (cy : Carry) (ops : Array Oper) : ∀ (l : List Oper) (j : Nat) (tr : List (Nat × FP)) (st : St), drawD G cy ops [] l j tr st = aops G cy ops l st
  | [], _, _, _ => rfl
  | o :: l, j, tr, st => by
    simp only [drawD, Susp.at, Susp.keeps, List.lookup, Option.getD_none, List.isEmpty_nil, List.any_nil, Bool.not_false, Bool.and_self, if_true, aops]
    congr 1
    funext s
    exact drawD_nil G cy ops l (j + 1) tr s

/-! ### A struct that is built -/
def placesL (P : Program) (t : TypeId) : Option (List Value × List (Nat × Nat)) := match P.info? t, P.underlying t with
  | some it, some (.struct fields) => match it.zero, fields.toList.mapM (fun f => (P.info? f.type).map fun i => (f.offset, i.size)) with
    | some z, some places => some (z.cells.toList, places)
    | _, _ => none
  | _, _ => none
theorem placesT_of {P : Program} {t : TypeId} {z : List Value} {l : List (Nat × Nat)} (h : placesL P t = some (z, l)) : placesT P t = some (z, (l[·]?)) := by
  unfold placesL at h
  unfold placesT
  split at h
  · rename_i it fields h1 h2
    rw [h1, h2]
    simp only []
    split at h
    · rename_i z' l' h3 h4
      simp only [Option.some.injEq, Prod.mk.injEq] at h
      obtain ⟨rfl, rfl⟩ := h
      rw [h3, h4]
    · cases h
  · cases h
def liveR : List (Nat × AV) → Subs → Option (List (Nat × AV) × Subs)
  | [], S => some ([], S)
  | (i, x) :: l, S => thenR ((live1 x).run S) fun y S => thenR (liveR l S) fun ys S => some ((i, y) :: ys, S)
theorem live1s_run : ∀ (l : List (Nat × AV)) (S : Subs), (live1s l).run S = liveR l S
  | [], S => rfl
  | (i, x) :: l, S => by simp only [live1s, liveR, run_thenR, live1s_run l, run_ret]
@[simp] theorem liveR_nil (S : Subs) : liveR [] S = some ([], S) := rfl
@[simp] theorem liveR_cons (i : Nat) (x : AV) (l : List (Nat × AV)) (S : Subs) : liveR ((i, x) :: l) S = thenR ((live1 x).run S) fun y S => thenR (liveR l S) fun ys S => some ((i, y) :: ys, S) := rfl
@[simp] theorem live1_v (x : Value) (S : Subs) (h : x.oneCell' = true) : (live1 (.v x)).run S = some (.v x, S) := by simp [live1, cellAV, h]
@[simp] theorem live1_agg (l : List AV) (S : Subs) : (live1 (.agg l)).run S = some (.agg l, S) := rfl
@[simp] theorem live1_sl (n : Bool) (l : List AV) (S : Subs) : (live1 (.sl n l)).run S = some (.sl n l, S) := rfl
@[simp] theorem live1_ref (l : List AV) (S : Subs) : (live1 (.ref l)).run S = some (.ref l, S) := rfl
@[simp] theorem live1_ifc (t : TypeId) (x : AV) (S : Subs) : (live1 (.ifc t x)).run S = some (.ifc t x, S) := rfl
@[simp] theorem live1_clo (f : FuncId) (a b : List AV) (S : Subs) : (live1 (.clo f a b)).run S = some (.clo f a b, S) := rfl
@[simp] theorem live1_own (r : Nat) (p : List Nat) (v lo hi : Nat) (S : Subs) : (live1 (.own r p v lo hi)).run S = withArr ((sub S r).live p v) fun _ _ _ _ _ => some (.own r p v lo hi, S) := by
  simp only [live1, run_get]
  refine withArr_eq _ _ _ (fun nl fz sz e el h => ?_) (fun h => ?_)
  · rw [h]; rfl
  · split
    · rename_i h2; exact (h _ _ _ _ _ h2).elim
    · rfl
theorem build_run {P : Program} {t : TypeId} {z : List Value} {l : List (Nat × Nat)} (h : placesL P t = some (z, l)) (ps : List (Nat × AV)) (S : Subs) : (aBuild P t ps).run S = thenR (liveR ps S) fun ps' S => (fillA (l[·]?) (z.map .v) ps').map fun r => (.agg r, S) := by
  simp only [aBuild, placesT_of h, run_thenR, live1s_run]
  congr 1
  funext ps' S
  cases fillA (l[·]?) (z.map .v) ps' <;> rfl
@[simp] theorem fillA_nil (place : Nat → Option (Nat × Nat)) (cells : List AV) : fillA place cells [] = some cells := rfl
def fillP (p : Option (Nat × Nat)) (cells : List AV) (x : AV) (k : List AV → Option (List AV)) : Option (List AV) := match p with
  | none => none
  | some (off, size) => if (cellsS x).length = size ∧ off + size ≤ cells.length then k (cells.take off ++ cellsS x ++ cells.drop (off + size)) else none
@[simp] theorem fillP_some (off size : Nat) (cells : List AV) (x : AV) (k : List AV → Option (List AV)) : fillP (some (off, size)) cells x k = if (cellsS x).length = size ∧ off + size ≤ cells.length then k (cells.take off ++ cellsS x ++ cells.drop (off + size)) else none := rfl
@[simp] theorem fillA_cons (place : Nat → Option (Nat × Nat)) (cells : List AV) (i : Nat) (x : AV) (l : List (Nat × AV)) : fillA place cells ((i, x) :: l) = fillP (place i) cells x fun c => fillA place c l := rfl
end Go.Proofs.YtmekfllddifglaaDoor.AM

/- The abstract machine, part Nj: what is not decided yet: both ways are gone. Conditions: none. -/
set_option linter.unusedVariables false
set_option linter.unusedSimpArgs false
namespace Go.Proofs.YtmekfllddifglaaDoor.AM
open Go

theorem condA_any (b : Bool) (k k' : St → Option (AX × St)) (st : St) : condA (.v (.bool b)) k k' st = if b = true then k st else k' st := rfl
theorem guardO_any (b : Bool) (k : St → Option St) (d : Option Nat) (st : St) : guardO (some b) k d st = if b = true then k st else some ⟨setD st.slots d (.v undef), st.subs⟩ := rfl
theorem pickA_any (b : Bool) (x y : AV) : pickA (.v (.bool b)) x y = some (if b = true then x else y) := rfl
theorem pickA_bools (b x y : Bool) : pickA (.v (.bool b)) (.v (.bool x)) (.v (.bool y)) = some (.v (.bool (if b = true then x else y))) := by cases b <;> rfl
section
variable {c : Prop} [Decidable c]
theorem thenA_ite (x y : Option (AX × St)) (k : St → Option (AX × St)) : thenA (if c then x else y) k = if c then thenA x k else thenA y k := by split <;> rfl
theorem blockA_ite (x y : Option (AX × St)) (id : Nat) : blockA (if c then x else y) id = if c then blockA x id else blockA y id := by split <;> rfl
theorem regA_ite (x y : Option St) : regA (if c then x else y) = if c then regA x else regA y := by split <;> rfl
theorem nextO_ite (x y : Option St) (k : St → Option St) : nextO (if c then x else y) k = if c then nextO x k else nextO y k := by split <;> rfl
theorem finO_ite (d : Option Nat) (sl : List AV) (x y : Option (AV × Subs)) : finO d sl (if c then x else y) = if c then finO d sl x else finO d sl y := by split <;> rfl
theorem finS_ite (d : Option Nat) (sl : List AV) (x y : Option (Unit × Subs)) : finS d sl (if c then x else y) = if c then finS d sl x else finS d sl y := by split <;> rfl
theorem finV_ite (d : Option Nat) (sl : List AV) (S : Subs) (x y : Option AV) : finV d sl S (if c then x else y) = if c then finV d sl S x else finV d sl S y := by split <;> rfl
theorem finF_ite (n : Nat) (P : Program) (rs : List ResultVar) (x y : Option (AX × St)) : finF n P rs (if c then x else y) = if c then finF n P rs x else finF n P rs y := by split <;> rfl
theorem thenR_ite {α β : Type} (x y : Option (α × Subs)) (k : α → Subs → Option β) : thenR (if c then x else y) k = if c then thenR x k else thenR y k := by split <;> rfl
theorem headL_ite (x y : Option St) (body k : St → Option (AX × St)) : headL (if c then x else y) body k = if c then headL x body k else headL y body k := by split <;> rfl
theorem roundL_ite (x y : Option (AX × St)) (k : St → Option (AX × St)) : roundL (if c then x else y) k = if c then roundL x k else roundL y k := by split <;> rfl
theorem backR_ite (qs : List Pass) (S : Subs) (x y : Option (AV × Subs)) : backR qs S (if c then x else y) = if c then backR qs S x else backR qs S y := by split <;> rfl
theorem bindO_ite {α β : Type} (x y : Option α) (k : α → Option β) : (if c then x else y).bind k = if c then x.bind k else y.bind k := by split <;> rfl
theorem mapO_ite {α β : Type} (x y : Option α) (k : α → β) : (if c then x else y).map k = if c then x.map k else y.map k := by split <;> rfl
theorem wantS_ite (x y : AV) (w : Bool) : wantS (if c then x else y) w = if c then wantS x w else wantS y w := by split <;> rfl
theorem guardO_ite (x y : Option Bool) (k : St → Option St) (d : Option Nat) (st : St) : guardO (if c then x else y) k d st = if c then guardO x k d st else guardO y k d st := by split <;> rfl
end

/-! ### Hints, and the bodies of loops -/
def nmL (x : Option NormD) (st : St) : Option St := match x with
  | none => some st
  | some n => some (n.run st)
@[simp] theorem nmL_none (st : St) : nmL none st = some st := rfl
@[simp] theorem nmL_some (n : NormD) (st : St) : nmL (some n) st = some (n.run st) := rfl
@[simp] theorem hints_nm (i : FInfo) (b : Nat) (st : St) : i.hints.nm b st = nmL (i.nm.lookup b) st := rfl
@[simp] theorem hints_sus (i : FInfo) (r : Nat) : i.hints.sus r = (i.sus.lookup r).getD [] := rfl
/-- The body of the loop in that block. -/
def loopIn (b : Nat) : Code → Option Code
  | .block id c => match c with
    | .loop x => if id = b then some x else loopIn b x
    | .seq x y => (loopIn b x).or (loopIn b y)
    | .block i x => loopIn b (.block i x)
    | .cond _ x y => (loopIn b x).or (loopIn b y)
    | _ => none
  | .seq x y => (loopIn b x).or (loopIn b y)
  | .cond _ x y => (loopIn b x).or (loopIn b y)
  | .loop c => loopIn b c
  | .scope c => loopIn b c
  | _ => none
noncomputable def lp (fn : Func) (b : Nat) : Code := (loopIn b (bodyOf fn)).getD .skip
noncomputable def lpU (fn : Func) (b : Nat) : Code := (loopIn b (bodyOf fn)).getD .skip
/-- The body is laid open only where it is run. -/
theorem acode_lp (G : Gl) (cy : Carry) (H : Hints) (b : Nat) (fn : Func) (b' : Nat) (st : St) : acode G cy H b (lp fn b') st = acode G cy H b (lpU fn b') st := rfl

/-! ### The greater, and the lesser -/
section
variable (G : Gl) (P : Program) (T : Tbl) (sl : List AV) (S : Subs) (dst : Option Tmp) (ty : TypeId) (pos : String) (af : Array Edge) (gd : Option (Nat × Bool))
noncomputable def mmA (mx : Bool) (u v : AV) : Option AV := match conc u, conc v with
  | some a, some b => (still P (if mx then Builtin.max_ #[] 0 #[a, b] else Builtin.min_ #[] 0 #[a, b])).map ofV
  | _, _ => none
@[simp] theorem mmA_max (k k' : IntKind) (a b : Int) : mmA P true (.v (.int k a)) (.v (.int k' b)) = some (.v (.int k (if a < b then b else a))) := by
  simp [mmA, conc, Builtin.max_, Builtin.max2, ofV]
@[simp] theorem mmA_min (k k' : IntKind) (a b : Int) : mmA P false (.v (.int k a)) (.v (.int k' b)) = some (.v (.int k (if b < a then b else a))) := by
  simp [mmA, conc, Builtin.min_, Builtin.min2, ofV]
@[simp] theorem stepO_max (x y : Operand) (ats : Array TypeId) : stepO G (carry P T) ⟨dst, .call ⟨.builtin .max, #[x, y], ats⟩, ty, pos, af, gd⟩ ⟨sl, S⟩ = finV dst sl S (mmA P true (opd G sl x) (opd G sl y)) := by
  rw [← finV_ofO]
  have : aStill P ⟨dst, .call ⟨.builtin .max, #[x, y], ats⟩, ty, pos, af, gd⟩ (opd G sl) = mmA P true (opd G sl x) (opd G sl y) := by
    simp only [aStill, mmA, Op.operands, Call.operands]
    cases hx : conc (opd G sl x) with
    | none => simp [hx]
    | some a =>
      cases hy : conc (opd G sl y) with
      | none => simp [hx, hy]
      | some b =>
        have h2 : Builtin.max_ ats ty #[a, b] = Builtin.max_ #[] 0 #[a, b] := rfl
        simp [hx, hy, execOp, resolve, invoke, builtin, still_map, h2]
        cases still P (Builtin.max_ #[] 0 #[a, b]) <;> rfl
  simp only [stepO, carry, aop, aBuiltin, this]
@[simp] theorem stepO_min (x y : Operand) (ats : Array TypeId) : stepO G (carry P T) ⟨dst, .call ⟨.builtin .min, #[x, y], ats⟩, ty, pos, af, gd⟩ ⟨sl, S⟩ = finV dst sl S (mmA P false (opd G sl x) (opd G sl y)) := by
  rw [← finV_ofO]
  have : aStill P ⟨dst, .call ⟨.builtin .min, #[x, y], ats⟩, ty, pos, af, gd⟩ (opd G sl) = mmA P false (opd G sl x) (opd G sl y) := by
    simp only [aStill, mmA, Op.operands, Call.operands]
    cases hx : conc (opd G sl x) with
    | none => simp [hx]
    | some a =>
      cases hy : conc (opd G sl y) with
      | none => simp [hx, hy]
      | some b =>
        have h2 : Builtin.min_ ats ty #[a, b] = Builtin.min_ #[] 0 #[a, b] := rfl
        simp [hx, hy, execOp, resolve, invoke, builtin, still_map, h2]
        cases still P (Builtin.min_ #[] 0 #[a, b]) <;> rfl
  simp only [stepO, carry, aop, aBuiltin, this]
end
end Go.Proofs.YtmekfllddifglaaDoor.AM

/- The abstract machine, part Nk: drawn regions where something has to be looked at. Conditions: none. -/
set_option linter.unusedVariables false
set_option linter.unusedSimpArgs false
namespace Go.Proofs.YtmekfllddifglaaDoor.AM
open Go

@[simp] theorem conc_v (x : Value) : conc (.v x) = some x := rfl
@[simp] theorem conc_sl (n : Bool) (l : List AV) : conc (.sl n l) = none := rfl
@[simp] theorem conc_ref (l : List AV) : conc (.ref l) = none := rfl
@[simp] theorem conc_loc (r : Nat) (p : List Nat) (v o : Nat) : conc (.loc r p v o) = none := rfl
@[simp] theorem conc_own (r : Nat) (p : List Nat) (v lo hi : Nat) : conc (.own r p v lo hi) = none := rfl
@[simp] theorem conc_elt (r : Nat) (p : List Nat) (v i o : Nat) : conc (.elt r p v i o) = none := rfl
@[simp] theorem conc_dead : conc .dead = none := rfl
@[simp] theorem conc_ifc (t : TypeId) (x : AV) : conc (.ifc t x) = (conc x).map (.iface t) := rfl
section
variable (G : Gl) (cy : Carry) (ops : Array Oper) (sus : Susp) (st : St)
def lookD (l : List Nat) (tr : List (Nat × FP)) (f : FP) : Bool := l.all fun i => match tr.lookup i with
  | some g => g.offB f
  | none => false
def offO (x : Option FP) (f : FP) : Bool := match x with
  | some g => g.offB f
  | none => false
@[simp] theorem offO_some (g f : FP) : offO (some g) f = g.offB f := rfl
@[simp] theorem lookD_nil (tr : List (Nat × FP)) (f : FP) : lookD [] tr f = true := rfl
@[simp] theorem lookD_cons (i : Nat) (l : List Nat) (tr : List (Nat × FP)) (f : FP) : lookD (i :: l) tr f = (offO (tr.lookup i) f && lookD l tr f) := rfl
def keepD (b : Bool) (j : Nat) (f : FP) (tr : List (Nat × FP)) (x : Option St) (k : List (Nat × FP) → St → Option St) : Option St := if b then nextO x (k ((j, f) :: tr)) else none
@[simp] theorem keepD_true (j : Nat) (f : FP) (tr : List (Nat × FP)) (x : Option St) (k : List (Nat × FP) → St → Option St) : keepD true j f tr x k = nextO x (k ((j, f) :: tr)) := rfl
@[simp] theorem drawD_done (j : Nat) (tr : List (Nat × FP)) : drawD G cy ops sus [] j tr st = some st := rfl
theorem drawD_plain (o : Oper) (l : List Oper) (j : Nat) (tr : List (Nat × FP)) (h : ((sus.at j).isEmpty && !sus.keeps j) = true) : drawD G cy ops sus (o :: l) j tr st = nextO (stepG' G cy ops o st) (drawD G cy ops sus l (j + 1) tr) := by
  simp only [drawD, h, if_true]; rfl
theorem drawD_look (o : Oper) (l : List Oper) (j : Nat) (tr : List (Nat × FP)) (h : ((sus.at j).isEmpty && !sus.keeps j) = false) : drawD G cy ops sus (o :: l) j tr st = keepD (lookD (sus.at j) tr (fpG G cy ops o st)) j (fpG G cy ops o st) tr (stepG' G cy ops o st) (fun tr => drawD G cy ops sus l (j + 1) tr) := by
  simp only [drawD, h, Bool.false_eq_true, if_false]
  rfl
theorem drawD_cons (o : Oper) (l : List Oper) (j : Nat) (tr : List (Nat × FP)) : drawD G cy ops sus (o :: l) j tr st = if ((sus.at j).isEmpty && !sus.keeps j) = true then nextO (stepG' G cy ops o st) (drawD G cy ops sus l (j + 1) tr)
    else keepD (lookD (sus.at j) tr (fpG G cy ops o st)) j (fpG G cy ops o st) tr (stepG' G cy ops o st) (fun tr => drawD G cy ops sus l (j + 1) tr) := by
  split
  · rename_i h; exact drawD_plain G cy ops sus st o l j tr h
  · rename_i h; exact drawD_look G cy ops sus st o l j tr (by simpa using h)
def fpO (w : Option Bool) (f : FP) : FP := match w with
  | some true => f
  | _ => ([], [])
@[simp] theorem fpO_true (f : FP) : fpO (some true) f = f := rfl
@[simp] theorem fpO_false (f : FP) : fpO (some false) f = ([], []) := rfl
section
variable (dst : Option Tmp) (op : Op) (ty : TypeId) (pos : String) (af : Array Edge)
def fpC (o : Oper) (st : St) : FP := (cy (o.dst.getD 0) o (opd G st.slots)).reach st.subs
@[simp] theorem fpG_none : fpG G cy ops ⟨dst, op, ty, pos, af, none⟩ st = fpC G cy ⟨dst, op, ty, pos, af, none⟩ st := by
  simp [fpG, wantA, fpC]
@[simp] theorem fpG_some (j : Nat) (want : Bool) : fpG G cy ops ⟨dst, op, ty, pos, af, some (j, want)⟩ st = fpO (wantT ((ops[j]?).bind (·.dst)) st.slots want) (fpC G cy ⟨dst, op, ty, pos, af, some (j, want)⟩ st) := by
  unfold fpG fpO fpC
  congr 1
end
end
section
variable (G : Gl) (P : Program) (T : Tbl) (sl : List AV) (S : Subs) (dst : Option Tmp) (ty : TypeId) (pos : String) (af : Array Edge) (gd : Option (Nat × Bool))
def fpLoad (x : AV) : FP := match x with
  | .loc r _ _ _ => ([r], [])
  | .elt r _ _ _ _ => ([r], [])
  | _ => ([], [])
@[simp] theorem fpLoad_loc (r : Nat) (p : List Nat) (v o : Nat) : fpLoad (.loc r p v o) = ([r], []) := rfl
@[simp] theorem fpLoad_elt (r : Nat) (p : List Nat) (v i o : Nat) : fpLoad (.elt r p v i o) = ([r], []) := rfl
@[simp] theorem fpLoad_ref (l : List AV) : fpLoad (.ref l) = ([], []) := rfl
theorem reach_ofO {α : Type} (x : Option α) (S : Subs) : (RW.ofO x).reach S = ([], []) := ofO_reach x S
/-- One look, and nothing more. -/
theorem reach_get1 {α : Type} (r : Nat) (k : Sub → RW α) (S : Subs) (h : (k (sub S r)).reach S = ([], [])) : (RW.get r k).reach S = ([r], []) := by
  simp only [RW.reach, h]
theorem load_reach (t : TypeId) (x : AV) : (aLoad P t x).reach S = fpLoad x := by
  unfold aLoad rdP
  cases x with
  | loc r p ver off =>
    refine reach_get1 _ _ _ ?_
    dsimp only
    split
    · exact reach_ofO _ _
    · rfl
  | elt r p ver i off =>
    refine reach_get1 _ _ _ ?_
    dsimp only
    split
    · exact reach_ofO _ _
    · rfl
  | ref l => exact reach_ofO _ _
  | _ => rfl
@[simp] theorem fpC_load (t : TypeId) (x : Operand) : fpC G (carry P T) ⟨dst, .load t x, ty, pos, af, gd⟩ ⟨sl, S⟩ = fpLoad (opd G sl x) := load_reach P S t _
def fpSl (x : AV) : FP := match x with
  | .own r _ _ _ _ => ([r], [])
  | .loc r _ _ _ => ([r], [])
  | .elt r _ _ _ _ => ([r], [])
  | _ => ([], [])
@[simp] theorem fpSl_own (r : Nat) (p : List Nat) (v lo hi : Nat) : fpSl (.own r p v lo hi) = ([r], []) := rfl
@[simp] theorem fpSl_loc (r : Nat) (p : List Nat) (v o : Nat) : fpSl (.loc r p v o) = ([r], []) := rfl
@[simp] theorem fpSl_elt (r : Nat) (p : List Nat) (v i o : Nat) : fpSl (.elt r p v i o) = ([r], []) := rfl
@[simp] theorem fpSl_ref (l : List AV) : fpSl (.ref l) = ([], []) := rfl
@[simp] theorem fpSl_sl (n : Bool) (l : List AV) : fpSl (.sl n l) = ([], []) := rfl
@[simp] theorem fpSl_ifc (t : TypeId) (x : AV) : fpSl (.ifc t x) = ([], []) := rfl
@[simp] theorem fpSl_clo (f : FuncId) (a b : List AV) : fpSl (.clo f a b) = ([], []) := rfl
theorem live_reach (x : AV) {α : Type} (f : Unit → RW α) (hf : (f ()).reach S = ([], [])) : ((isLive x).bind f).reach S = fpSl x := by
  unfold isLive
  cases x with
  | loc r p ver off =>
    refine reach_get1 _ _ _ ?_
    dsimp only
    split
    · exact hf
    · rfl
  | elt r p ver i off =>
    refine reach_get1 _ _ _ ?_
    dsimp only
    split
    · exact hf
    · rfl
  | own r p ver lo hi =>
    refine reach_get1 _ _ _ ?_
    dsimp only
    split
    · exact hf
    · rfl
  | ref l => exact hf
  | sl n l => exact hf
  | clo f a b => exact hf
  | ifc t x => exact hf
  | _ => rfl
@[simp] theorem fpC_nilCheck (x : Operand) : fpC G (carry P T) ⟨dst, .nilCheck x, ty, pos, af, gd⟩ ⟨sl, S⟩ = fpLoad (opd G sl x) := by
  show (aNilCheck (opd G sl x)).reach S = _
  generalize opd G sl x = u
  cases u with
  | loc r p ver off => exact live_reach S (.loc r p ver off) _ rfl
  | elt r p ver i off => exact live_reach S (.elt r p ver i off) _ rfl
  | _ => rfl
@[simp] theorem fpC_field (t : TypeId) (x : Operand) (f : Nat) : fpC G (carry P T) ⟨dst, .fieldAddr t x f, ty, pos, af, gd⟩ ⟨sl, S⟩ = fpSl (opd G sl x) :=
  live_reach S _ _ (reach_ofO _ _)
@[simp] theorem fpC_move (x : Operand) : fpC G (carry P T) ⟨dst, .move x, ty, pos, af, gd⟩ ⟨sl, S⟩ = ([], []) := rfl
@[simp] theorem fpC_alloc (t : TypeId) : fpC G (carry P T) ⟨dst, .alloc t, ty, pos, af, gd⟩ ⟨sl, S⟩ = if (zerosT P t).isSome then ([dst.getD 0], [dst.getD 0]) else ([], []) := by
  show (aAlloc P (dst.getD 0) t).reach S = _
  unfold aAlloc zerosT
  cases zcells P t with
  | none => rfl
  | some z => by_cases h : (z.all (·.oneCell')) = true <;> simp [h, newBox, RW.reach]
def fpIdx (x i : AV) : FP := match i with
  | .v (.int _ _) => (match x with
    | .own r _ _ _ _ => ([r], [])
    | _ => ([], []))
  | _ => ([], [])
@[simp] theorem fpIdx_own (k : IntKind) (n : Int) (r : Nat) (p : List Nat) (v lo hi : Nat) : fpIdx (.own r p v lo hi) (.v (.int k n)) = ([r], []) := rfl
@[simp] theorem fpIdx_sl (k : IntKind) (n : Int) (nl : Bool) (l : List AV) : fpIdx (.sl nl l) (.v (.int k n)) = ([], []) := rfl
@[simp] theorem fpC_index {t e : TypeId} {sz : Nat} (he : sliceT P t = some e) (hs : szT P e = some sz) (x i : Operand) : fpC G (carry P T) ⟨dst, .indexAddr t x i, ty, pos, af, gd⟩ ⟨sl, S⟩ = fpIdx (opd G sl x) (opd G sl i) := by
  show (aIndex P t (opd G sl x) (opd G sl i)).reach S = _
  generalize opd G sl x = u
  generalize opd G sl i = v
  cases v with
  | v y =>
    cases y with
    | int k n =>
      simp only [aIndex, he, hs, fpIdx]
      cases u with
      | own r p ver lo hi =>
        refine reach_get1 _ _ _ ?_
        split
        · split <;> rfl
        · rfl
      | sl nl l => simp only []; split <;> rfl
      | _ => rfl
    | _ => rfl
  | _ => rfl
@[simp] theorem fpC_bin (op : BinOp) (t t2 : TypeId) (x y : Operand) : fpC G (carry P T) ⟨dst, .binOp op t x y t2, ty, pos, af, gd⟩ ⟨sl, S⟩ = if (conc (opd G sl x)).isSome && (conc (opd G sl y)).isSome then ([], []) else (aBin P op t (opd G sl x) (opd G sl y)).reach S := by
  show (carry P T (dst.getD 0) ⟨dst, .binOp op t x y t2, ty, pos, af, gd⟩ (opd G sl)).reach S = _
  simp only [carry, aop]
  split
  · exact reach_ofO _ _
  · rfl
noncomputable def idxS (t : TypeId) (x i : AV) : Option AV := match conc x, conc i with
  | some a, some b => (still P (Instr.index t a b)).map ofV
  | _, _ => none
@[simp] theorem stillO_index (t : TypeId) (x i : Operand) : stillO P ⟨dst, .index t x i, ty, pos, af, gd⟩ (opd G sl) S = (idxS P t (opd G sl x) (opd G sl i)).map (·, S) := by
  unfold stillO
  congr 1
  simp only [aStill, idxS, Op.operands]
  cases hx : conc (opd G sl x) with
  | none => simp [hx]
  | some a =>
    cases hy : conc (opd G sl i) with
    | none => simp [hx, hy]
    | some b =>
      simp [hx, hy, execOp, still_map]
      cases still P (Instr.index t a b) <;> rfl
theorem bytes_get (a : Array UInt8) (n : Nat) : (ByteArray.mk a)[n]? = a[n]? := by
  by_cases h : n < a.size
  · have h' : n < (ByteArray.mk a).size := h
    rw [getElem?_pos (ByteArray.mk a) n h', getElem?_pos a n h]; rfl
  · have h' : ¬ n < (ByteArray.mk a).size := h
    rw [getElem?_neg (ByteArray.mk a) n h', getElem?_neg a n h]
@[simp] theorem idxS_str {t : TypeId} (ht : strT P t = true) (a : Array UInt8) (k : IntKind) (n : Int) (b : UInt8) (h0 : 0 ≤ n) (hb : a[n.toNat]? = some b) : idxS P t (.v (.string ⟨a⟩)) (.v (.int k n)) = some (.v (.int .u8 b.toNat)) := by
  have : P.underlying t = some .string := by
    unfold strT at ht
    split at ht
    · assumption
    · cases ht
  simp [idxS, Instr.index, asIntOf, still_under P t this, h0, bytes_get, hb, ofV]
@[simp] theorem offB_nil (f : FP) : FP.offB ([], []) f = true := by simp [FP.offB]
@[simp] theorem offB_nil' (f : FP) : FP.offB f ([], []) = true := by simp [FP.offB]
@[simp] theorem offB_ro (a b : List Nat) : FP.offB (a, []) (b, []) = true := by simp [FP.offB]
end
end Go.Proofs.YtmekfllddifglaaDoor.AM

/- The abstract machine, part Nl: how maps, functions run in their caller's store, and ranges over functions are reckoned. Conditions: none. -/
set_option linter.unusedVariables false
set_option linter.unusedSimpArgs false
namespace Go.Proofs.YtmekfllddifglaaDoor.AM
open Go

/-! ### Maps -/
section
variable (G : Gl) (P : Program) (T : Tbl) (sl : List AV) (S : Subs) (dst : Option Tmp) (ty : TypeId) (pos : String) (af : Array Edge) (gd : Option (Nat × Bool))
@[simp] theorem stepO_makeMap (t : TypeId) : stepO G (carry P T) ⟨dst, .makeMap t none, ty, pos, af, gd⟩ ⟨sl, S⟩ = finO dst sl ((newMp (dst.getD 0) t).run S) := rfl
@[simp] theorem stepO_lookup (t : TypeId) (x k : Operand) (ok : Bool) : stepO G (carry P T) ⟨dst, .lookup t x k ok, ty, pos, af, gd⟩ ⟨sl, S⟩ = finO dst sl ((aLookup P t (opd G sl x) (opd G sl k) ok).run S) := rfl
@[simp] theorem stepO_mapUpd (t : TypeId) (x k v : Operand) : stepO G (carry P T) ⟨dst, .mapUpdate t x k v, ty, pos, af, gd⟩ ⟨sl, S⟩ = finS dst sl ((aMapUpd P t (opd G sl x) (opd G sl k) (opd G sl v)).run S) := by
  simp only [stepO, carry, aop, run_thenR, finS]
  cases (aMapUpd P t (opd G sl x) (opd G sl k) (opd G sl v)).run S <;> rfl
@[simp] theorem newMp_run (d : Nat) (t : TypeId) : (newMp d t).run S = if d < S.length then some (.mp d [] (((sub S d).ent []).1 + 1), S.set d ((sub S d).put [] (((sub S d).ent []).1 + 1, some (.map t [])))) else none := rfl
def withMap {β : Type} (o : Option Ob) (k : TypeId → List (Value × AV) → Option β) : Option β := match o with
  | some (.map t en) => k t en
  | _ => none
@[simp] theorem withMap_some {β : Type} (t : TypeId) (en : List (Value × AV)) (k : TypeId → List (Value × AV) → Option β) : withMap (some (.map t en)) k = k t en := rfl
theorem withMap_eq {β : Type} (o : Option Ob) (m : Option β) (k : TypeId → List (Value × AV) → Option β) (h1 : ∀ t en, o = some (.map t en) → m = k t en) (h2 : (∀ t en, o ≠ some (.map t en)) → m = none) : m = withMap o k := by
  unfold withMap
  split
  · exact h1 _ _ rfl
  · rename_i h; exact h2 fun t en e => h t en e
def lookF (P : Program) (e : TypeId) (ok : Bool) (S : Subs) (r : Option (Option (Nat × AV))) : Option (AV × Subs) := match r with
  | some (some x) => some (lookRes ok x.2 true, S)
  | some none => (zeroA P e).map fun z => (lookRes ok z false, S)
  | none => none
@[simp] theorem lookF_some (e : TypeId) (ok : Bool) (x : Nat × AV) : lookF P e ok S (some (some x)) = some (lookRes ok x.2 true, S) := rfl
@[simp] theorem lookF_none (e : TypeId) (ok : Bool) : lookF P e ok S (some none) = (zeroA P e).map fun z => (lookRes ok z false, S) := rfl
@[simp] theorem lookRes_ok' (y : AV) (b : Bool) : lookRes true y b = .tup [y, .v (.bool b)] := rfl
@[simp] theorem lookRes_no (y : AV) (b : Bool) : lookRes false y b = y := rfl
@[simp] theorem lookup_mp {t kt e : TypeId} {d : TypeDesc} (hm : mapT P t = some (kt, e)) (hk : keyT P kt = some d) (r : Nat) (p : List Nat) (ver : Nat) (k : Value) (ok : Bool) :
    (aLookup P t (.mp r p ver) (.v k) ok).run S = withMap ((sub S r).live p ver) fun _ en => lookF P e ok S (findA d k en 0) := by
  simp only [aLookup, hm, hk, run_get]
  refine withMap_eq _ _ _ (fun t en h => ?_) (fun h => ?_)
  · rw [h]
    simp only []
    cases findA d k en 0 with
    | none => rfl
    | some x =>
      cases x with
      | none => rw [lookF_none]; simp only []; cases zeroA P e <;> rfl
      | some y => rfl
  · split
    · rename_i h2; exact (h _ _ h2).elim
    · rfl
@[simp] theorem mapUpd_mp {t kt e : TypeId} {d : TypeDesc} (hm : mapT P t = some (kt, e)) (hk : keyT P kt = some d) (r : Nat) (p : List Nat) (ver : Nat) (k : Value) (v : AV) :
    (aMapUpd P t (.mp r p ver) (.v k) v).run S = thenR ((pub 60 v).run S) fun y S => withMap ((sub S r).live p ver) fun t' en => (updA d k y en).bind fun en' => if r < S.length then some ((), S.set r ((sub S r).put p (ver, some (.map t' en')))) else none := by
  simp only [aMapUpd, hm, hk, run_thenR, run_get]
  congr 1
  funext y S1
  refine withMap_eq _ _ _ (fun t en h => ?_) (fun h => ?_)
  · rw [h]
    simp only []
    cases updA d k y en <;> rfl
  · split
    · rename_i h2; exact (h _ _ h2).elim
    · rfl
@[simp] theorem settle1_mp (d : Nat) (p q : List Nat) (r ver : Nat) : (settle1 d p (.mp r q ver)).run S = withMap ((sub S r).live q ver) fun _ _ => some (.mp r q ver, S) := by
  simp only [settle1, run_get]
  refine withMap_eq _ _ _ (fun t en h => ?_) (fun h => ?_)
  · rw [h]; rfl
  · split
    · rename_i h2; exact (h _ _ h2).elim
    · rfl
@[simp] theorem live1_mp (q : List Nat) (r ver : Nat) : (live1 (.mp r q ver)).run S = withMap ((sub S r).live q ver) fun _ _ => some (.mp r q ver, S) := by
  simp only [live1, run_get]
  refine withMap_eq _ _ _ (fun t en h => ?_) (fun h => ?_)
  · rw [h]; rfl
  · split
    · rename_i h2; exact (h _ _ h2).elim
    · rfl
@[simp] theorem live1_loc (q : List Nat) (r ver off : Nat) : (live1 (.loc r q ver off)).run S = anyLive ((sub S r).live q ver) (some (.loc r q ver off, S)) := by
  simp only [live1, run_get]
  unfold anyLive
  split
  · rename_i h; rw [h]; rfl
  · rename_i h; rw [h]; rfl
@[simp] theorem assign_mp (d r : Nat) (p : List Nat) (ver : Nat) : (aAssign d (.mp r p ver)).run S = some (.mp r p ver, S) := rfl
@[simp] theorem assign_yld (d r : Nat) (p : List Nat) (ver : Nat) : (aAssign d (.yld r p ver)).run S = some (.yld r p ver, S) := rfl
@[simp] theorem cellsS_mp (r : Nat) (p : List Nat) (v : Nat) : cellsS (.mp r p v) = [.mp r p v] := rfl
theorem bytesStr_run {a b e : TypeId} (he : sliceT P a = some e) (h8 : u8T P e = true) (hs : stringT P b = true) (x : AV) : (aBytesStr P a b x).run S = thenR (elemsR 1 x S) fun l S => (bytesA l).map fun ns => (.v (.string (strOf ns)), S) := by
  simp only [aBytesStr, he, h8, hs, Bool.and_self, if_true, run_thenR, elemsR, ofO_run, Option.map_map]
  rfl
end

/-! ### A function that runs in its caller's store -/
def finI (P : Program) (rs : List ResultVar) (n : Nat) (x : Option (AX × St)) : Option (AV × Subs) := x.bind fun y => match y.1 with
  | .exit _ => none
  | .normal => lenO n (thenR (mapR (aRes1 P y.2.slots) rs y.2.subs) fun xs S => some (tupA xs, S))
  | .ret => lenO n (thenR (mapR (aRes1 P y.2.slots) rs y.2.subs) fun xs S => some (tupA xs, S))
@[simp] theorem finI_normal (P : Program) (rs : List ResultVar) (n : Nat) (s : St) : finI P rs n (some (.normal, s)) = lenO n (thenR (mapR (aRes1 P s.slots) rs s.subs) fun xs S => some (tupA xs, S)) := rfl
@[simp] theorem finI_ret (P : Program) (rs : List ResultVar) (n : Nat) (s : St) : finI P rs n (some (.ret, s)) = lenO n (thenR (mapR (aRes1 P s.slots) rs s.subs) fun xs S => some (tupA xs, S)) := rfl
@[simp] theorem lenO_of {α : Type} (n : Nat) (x : α) (S : Subs) (h : S.length = n) : lenO n (some (x, S)) = some (x, S) := by simp [lenO, h]
theorem map_thenR {α β : Type} (x : Option (α × Subs)) (f : α → β) : (x.map fun z => (f z.1, z.2)) = thenR x fun y S => some (f y, S) := by cases x <;> rfl
theorem aInl_run (P : Program) (G : Gl) (cy : Carry) (i : Inl) (fn : Func) (c : Code) (args : List AV) (S : Subs) : (aInl P G cy i fn c args).run S = finI P fn.results.toList S.length (acode G (shiftC i.off cy) (susH i.sus) 0 c ⟨args ++ List.replicate (fn.ntmps - args.length) .dead, S⟩) := by
  simp only [aInl, RW.run, frameA]
  cases acode G (shiftC i.off cy) (susH i.sus) 0 c ⟨args ++ List.replicate (fn.ntmps - args.length) .dead, S⟩ with
  | none => rfl
  | some y =>
    obtain ⟨e, s⟩ := y
    cases e with
    | exit id => rfl
    | normal => simp only [Option.bind_some, finI_normal, mapR_run, map_thenR]
    | ret => simp only [Option.bind_some, finI_ret, mapR_run, map_thenR]
noncomputable def callI (P : Program) (G : Gl) (T : Tbl) (inl : InlT) (v : AV) (args : List AV) (S : Subs) : Option (AV × Subs) := match v with
  | .clo g first caps => (match inl g with
    | some (i, fn, cd) => (aInl P G (carry P T) i fn cd (first ++ (args ++ caps))).run S
    | none => callA T v args S)
  | _ => callA T v args S
section
variable (G G' : Gl) (P : Program) (T : Tbl) (inl : InlT) (c0 : LoopC) (off : Nat) (sl : List AV) (S : Subs) (st : St) (dst : Option Tmp) (ty : TypeId) (pos : String) (af : Array Edge) (gd : Option (Nat × Bool))
theorem callI_no {g : FuncId} (h : inl g = none) (first caps args : List AV) : callI P G T inl (.clo g first caps) args S = callA T (.clo g first caps) args S := by simp only [callI, h]
theorem callI_yes {g : FuncId} {i : Inl} {fn : Func} {cd : Code} (h : inl g = some (i, fn, cd)) (first caps args : List AV) : callI P G T inl (.clo g first caps) args S = (aInl P G (carry P T) i fn cd (first ++ (args ++ caps))).run S := by simp only [callI, h]
@[simp] theorem stepO_callI (f : Operand) (args : Array Operand) (ats : Array TypeId) : stepO G (carryI P G' T inl) ⟨dst, .call ⟨.value f, args, ats⟩, ty, pos, af, gd⟩ ⟨sl, S⟩ = finO dst sl (callI P G' T inl (opd G sl f) (args.toList.map (opd G sl)) S) := by
  have hc := stepO_call G P T sl S dst ty pos af gd f args ats
  unfold stepO at hc ⊢
  simp only [carryI, callI]
  cases hf : opd G sl f <;> simp only [hf] at hc ⊢ <;> try exact hc
  rename_i g first caps
  cases hi : inl g with
  | none => simp only []; exact hc
  | some x => obtain ⟨i, fn, cd⟩ := x; rfl
noncomputable def callY (P : Program) (G : Gl) (T : Tbl) (inl : InlT) (c0 : LoopC) (v : AV) (args : List AV) (S : Subs) : Option (AV × Subs) := match v with
  | .yld r p ver => (aYield G (carryI P G T inl) c0 r p ver args).run S
  | _ => callA T v args S
@[simp] theorem callY_yld (r : Nat) (p : List Nat) (ver : Nat) (args : List AV) : callY P G T inl c0 (.yld r p ver) args S = (aYield G (carryI P G T inl) c0 r p ver args).run S := rfl
@[simp] theorem callY_clo (g : FuncId) (first caps args : List AV) : callY P G T inl c0 (.clo g first caps) args S = callA T (.clo g first caps) args S := rfl
@[simp] theorem stepO_callY (f : Operand) (args : Array Operand) (ats : Array TypeId) : stepO G (carryY P G' T inl c0 off) ⟨dst, .call ⟨.value f, args, ats⟩, ty, pos, af, gd⟩ ⟨sl, S⟩ = finO dst sl (callY P G' T inl c0 (opd G sl f) (args.toList.map (opd G sl)) S) := by
  have hc := stepO_call G P T sl S dst ty pos af gd f args ats
  unfold stepO at hc ⊢
  simp only [carryY, callY]
  cases hf : opd G sl f <;> simp only [hf] at hc ⊢ <;> first
    | rfl
    | (have e : carry P T (dst.getD 0 + off) ⟨dst, .call ⟨.value f, args, ats⟩, ty, pos, af, gd⟩ (opd G sl) = carry P T (dst.getD 0) ⟨dst, .call ⟨.value f, args, ats⟩, ty, pos, af, gd⟩ (opd G sl) := rfl
       rw [e]; exact hc)
@[simp] theorem stepO_callS (f : Operand) (args : Array Operand) (ats : Array TypeId) : stepO G (shiftC off (carry P T)) ⟨dst, .call ⟨.value f, args, ats⟩, ty, pos, af, gd⟩ ⟨sl, S⟩ = finO dst sl (callA T (opd G sl f) (args.toList.map (opd G sl)) S) :=
  stepO_call G P T sl S dst ty pos af gd f args ats
end
end Go.Proofs.YtmekfllddifglaaDoor.AM
