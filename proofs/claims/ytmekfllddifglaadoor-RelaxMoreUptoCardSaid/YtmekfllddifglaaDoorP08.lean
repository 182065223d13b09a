/- The relax seat: Nc, Nd, Ne, Nf, Ng. Conditions: none. -/
import Derived.Test.YtmekfllddifglaaDoorP07
set_option linter.unusedVariables false
set_option linter.unusedSimpArgs false
/- The abstract machine, part Nc: how it is reckoned: the rules for simp. Conditions: none. -/
set_option linter.unusedVariables false
set_option linter.unusedSimpArgs false
namespace Go.Proofs.YtmekfllddifglaaDoor.AM
open Go

noncomputable def bodyOf (fn : Func) : Code := fn.body.getD .skip
def H0 : Hints := ⟨fun _ => [], fun _ st => some st, fun _ _ => none⟩

/-! ### Code, step by step: what comes later is not looked at ahead of its time -/
def thenA (x : Option (AX × St)) (k : St → Option (AX × St)) : Option (AX × St) := x.bind fun z => match z.1 with
  | .normal => k z.2
  | .exit id => some (.exit id, z.2)
  | .ret => some (.ret, z.2)
@[simp] theorem thenA_normal (s : St) (k : St → Option (AX × St)) : thenA (some (.normal, s)) k = k s := rfl
@[simp] theorem thenA_exit (id : Nat) (s : St) (k : St → Option (AX × St)) : thenA (some (.exit id, s)) k = some (.exit id, s) := rfl
@[simp] theorem thenA_ret (s : St) (k : St → Option (AX × St)) : thenA (some (.ret, s)) k = some (.ret, s) := rfl
def blockA (x : Option (AX × St)) (id : Nat) : Option (AX × St) := x.bind fun z => match z.1 with
  | .exit i => if i = id then some (.normal, z.2) else some (.exit i, z.2)
  | .normal => some (.normal, z.2)
  | .ret => some (.ret, z.2)
@[simp] theorem blockA_normal (s : St) (id : Nat) : blockA (some (.normal, s)) id = some (.normal, s) := rfl
@[simp] theorem blockA_ret (s : St) (id : Nat) : blockA (some (.ret, s)) id = some (.ret, s) := rfl
@[simp] theorem blockA_exit (s : St) (i id : Nat) : blockA (some (.exit i, s)) id = if i = id then some (.normal, s) else some (.exit i, s) := rfl
def condA (v : AV) (k k' : St → Option (AX × St)) (st : St) : Option (AX × St) := match v with
  | .v (.bool t) => if t then k st else k' st
  | _ => none
@[simp] theorem condA_true (k k' : St → Option (AX × St)) (st : St) : condA (.v (.bool true)) k k' st = k st := rfl
@[simp] theorem condA_false (k k' : St → Option (AX × St)) (st : St) : condA (.v (.bool false)) k k' st = k' st := rfl
def regA (x : Option St) : Option (AX × St) := x.map fun s => (.normal, s)
@[simp] theorem regA_some (s : St) : regA (some s) = some (.normal, s) := rfl
section
variable (G : Gl) (cy : Carry) (H : Hints) (b : Nat) (st : St)
@[simp] theorem acode_skip : acode G cy H b .skip st = some (.normal, st) := rfl
@[simp] theorem acode_label (l : Nat) : acode G cy H b (.label l) st = some (.normal, st) := rfl
@[simp] theorem acode_region (id : Nat) (ops : Array Oper) : acode G cy H b (.region id ops false) st = regA (aops G cy ops ops.toList st) := rfl
@[simp] theorem acode_draw (id : Nat) (ops : Array Oper) : acode G cy H b (.region id ops true) st = regA (drawD G cy ops (H.sus id) ops.toList 0 [] st) := rfl
@[simp] theorem acode_seq (x y : Code) : acode G cy H b (.seq x y) st = thenA (acode G cy H b x st) (acode G cy H b y) := rfl
@[simp] theorem acode_cond (c : Operand) (x y : Code) : acode G cy H b (.cond c x y) st = condA (opd G st.slots c) (acode G cy H b x) (acode G cy H b y) st := by
  simp only [acode]
  unfold condA
  cases opd G st.slots c <;> rfl
@[simp] theorem acode_block (id : Nat) (c : Code) : acode G cy H b (.block id c) st = blockA (acode G cy H id c st) id := rfl
theorem acode_loop (c : Code) : acode G cy H b (.loop c) st = aloop (H.nm b) (acode G cy H b c) st := rfl
@[simp] theorem acode_exit (id : Nat) : acode G cy H b (.exit id) st = some (.exit id, st) := rfl
@[simp] theorem acode_scope (c : Code) : acode G cy H b (.scope c) st = acode G cy H b c st := rfl
@[simp] theorem acode_ret : acode G cy H b .ret st = some (.ret, st) := rfl

def nextO (x : Option St) (k : St → Option St) : Option St := x.bind k
@[simp] theorem nextO_some (s : St) (k : St → Option St) : nextO (some s) k = k s := rfl
@[simp] theorem aops_nil (ops : Array Oper) : aops G cy ops [] st = some st := rfl
@[simp] theorem aops_cons (ops : Array Oper) (o : Oper) (l : List Oper) : aops G cy ops (o :: l) st = nextO (stepG' G cy ops o st) (aops G cy ops l) := rfl
def guardO (w : Option Bool) (k : St → Option St) (d : Option Nat) (st : St) : Option St := w.bind fun b => if b then k st else some ⟨setD st.slots d (.v undef), st.subs⟩
@[simp] theorem guardO_true (k : St → Option St) (d : Option Nat) : guardO (some true) k d st = k st := rfl
@[simp] theorem guardO_false (k : St → Option St) (d : Option Nat) : guardO (some false) k d st = some ⟨setD st.slots d (.v undef), st.subs⟩ := rfl
section
variable (ops : Array Oper) (dst : Option Tmp) (op : Op) (ty : TypeId) (pos : String) (af : Array Edge)
@[simp] theorem stepG_none : stepG' G cy ops ⟨dst, op, ty, pos, af, none⟩ st = stepO G cy ⟨dst, op, ty, pos, af, none⟩ st := by
  simp [stepG', wantA]
def wantS (v : AV) (want : Bool) : Option Bool := match v with
  | .v (.bool b) => some (b == want)
  | .v (.tuple _) => some false
  | _ => none
@[simp] theorem wantS_undef (want : Bool) : wantS (.v undef) want = some false := rfl
@[simp] theorem wantS_bool (b want : Bool) : wantS (.v (.bool b)) want = some (b == want) := rfl
def wantT (t : Option Tmp) (sl : List AV) (want : Bool) : Option Bool := match t with
  | some t => if t < sl.length then wantS (sl.getD t .dead) want else none
  | none => none
@[simp] theorem wantT_some (t : Tmp) (sl : List AV) (want : Bool) : wantT (some t) sl want = if t < sl.length then wantS (sl.getD t .dead) want else none := rfl
@[simp] theorem stepG_some (j : Nat) (want : Bool) : stepG' G cy ops ⟨dst, op, ty, pos, af, some (j, want)⟩ st = guardO (wantT ((ops[j]?).bind (·.dst)) st.slots want) (stepO G cy ⟨dst, op, ty, pos, af, some (j, want)⟩) dst st := by
  unfold stepG' guardO
  congr 1
end
end

/-! ### One operation -/
def finO (d : Option Nat) (sl : List AV) (y : Option (AV × Subs)) : Option St := y.map fun y => ⟨setD sl d y.1, y.2⟩
@[simp] theorem finO_some (d : Option Nat) (sl : List AV) (x : AV) (S : Subs) : finO d sl (some (x, S)) = some ⟨setD sl d x, S⟩ := rfl
section
variable (G : Gl) (P : Program) (T : Tbl) (sl : List AV) (S : Subs) (dst : Option Tmp) (ty : TypeId) (pos : String) (af : Array Edge) (gd : Option (Nat × Bool))
@[simp] theorem stepO_move (x : Operand) : stepO G (carry P T) ⟨dst, .move x, ty, pos, af, gd⟩ ⟨sl, S⟩ = some ⟨setD sl dst (opd G sl x), S⟩ := rfl
@[simp] theorem stepO_assign (x : Operand) : stepO G (carry P T) ⟨dst, .assign x, ty, pos, af, gd⟩ ⟨sl, S⟩ = finO dst sl ((aAssign (dst.getD 0) (opd G sl x)).run S) := rfl
@[simp] theorem stepO_alloc (t : TypeId) : stepO G (carry P T) ⟨dst, .alloc t, ty, pos, af, gd⟩ ⟨sl, S⟩ = finO dst sl ((aAlloc P (dst.getD 0) t).run S) := rfl
@[simp] theorem stepO_box (t : TypeId) (x : Operand) : stepO G (carry P T) ⟨dst, .box t x, ty, pos, af, gd⟩ ⟨sl, S⟩ = finO dst sl ((aBox (dst.getD 0) (opd G sl x)).run S) := rfl
@[simp] theorem stepO_build (t : TypeId) (ps : Array (Nat × Operand)) : stepO G (carry P T) ⟨dst, .build t ps, ty, pos, af, gd⟩ ⟨sl, S⟩ = finO dst sl ((aBuild P t (ps.toList.map fun q => (q.1, opd G sl q.2))).run S) := rfl
@[simp] theorem stepO_buildSlice (t : TypeId) (n : Nat) (ps : Array (Nat × Operand)) : stepO G (carry P T) ⟨dst, .buildSlice t n ps, ty, pos, af, gd⟩ ⟨sl, S⟩ = finO dst sl ((aBuildSlice P (dst.getD 0) t n (ps.toList.map (·.1)) (ps.toList.map fun q => opd G sl q.2)).run S) := rfl
@[simp] theorem stepO_load (t : TypeId) (x : Operand) : stepO G (carry P T) ⟨dst, .load t x, ty, pos, af, gd⟩ ⟨sl, S⟩ = finO dst sl ((aLoad P t (opd G sl x)).run S) := rfl
@[simp] theorem stepO_nilCheck (x : Operand) : stepO G (carry P T) ⟨dst, .nilCheck x, ty, pos, af, gd⟩ ⟨sl, S⟩ = finO dst sl ((aNilCheck (opd G sl x)).run S) := rfl
@[simp] theorem stepO_makeSlice (t : TypeId) (l c : Operand) : stepO G (carry P T) ⟨dst, .makeSlice t l c, ty, pos, af, gd⟩ ⟨sl, S⟩ = finO dst sl ((aMakeSlice P (dst.getD 0) t (opd G sl l) (opd G sl c)).run S) := rfl
@[simp] theorem stepO_fieldAddr (t : TypeId) (x : Operand) (f : Nat) : stepO G (carry P T) ⟨dst, .fieldAddr t x f, ty, pos, af, gd⟩ ⟨sl, S⟩ = finO dst sl ((aField P t f (opd G sl x)).run S) := rfl
@[simp] theorem stepO_indexAddr (t : TypeId) (x i : Operand) : stepO G (carry P T) ⟨dst, .indexAddr t x i, ty, pos, af, gd⟩ ⟨sl, S⟩ = finO dst sl ((aIndex P t (opd G sl x) (opd G sl i)).run S) := rfl
def finS (d : Option Nat) (sl : List AV) (y : Option (Unit × Subs)) : Option St := y.map fun y => ⟨setD sl d .dead, y.2⟩
@[simp] theorem finS_some (d : Option Nat) (sl : List AV) (S : Subs) : finS d sl (some ((), S)) = some ⟨setD sl d .dead, S⟩ := rfl
@[simp] theorem stepO_store (t : TypeId) (x y : Operand) : stepO G (carry P T) ⟨dst, .store t x y, ty, pos, af, gd⟩ ⟨sl, S⟩ = finS dst sl ((aStore P t (opd G sl x) (opd G sl y)).run S) := by
  simp only [stepO, carry, aop, RW.run_bind, finS, Option.map_bind, Function.comp_def]
  cases (aStore P t (opd G sl x) (opd G sl y)).run S with
  | none => rfl
  | some y => rfl
/-- A result without the store. -/
def finV (d : Option Nat) (sl : List AV) (S : Subs) (y : Option AV) : Option St := y.map fun y => ⟨setD sl d y, S⟩
@[simp] theorem finV_some (d : Option Nat) (sl : List AV) (S : Subs) (x : AV) : finV d sl S (some x) = some ⟨setD sl d x, S⟩ := rfl
theorem finV_ofO (x : Option AV) : ((RW.ofO x).run S).map (fun y => (⟨setD sl dst y.1, y.2⟩ : St)) = finV dst sl S x := by cases x <;> rfl
@[simp] theorem stepO_field (t : TypeId) (x : Operand) (f : Nat) : stepO G (carry P T) ⟨dst, .field t x f, ty, pos, af, gd⟩ ⟨sl, S⟩ = finV dst sl S (aField1 P t f (opd G sl x)) := finV_ofO _ _ _ _
def extA (x : AV) (i : Nat) : Option AV := match x with
  | .tup l => l[i]?
  | _ => none
@[simp] theorem extA_tup (l : List AV) (i : Nat) : extA (.tup l) i = l[i]? := rfl
@[simp] theorem stepO_extract (x : Operand) (i : Nat) : stepO G (carry P T) ⟨dst, .extract x i, ty, pos, af, gd⟩ ⟨sl, S⟩ = finV dst sl S (extA (opd G sl x) i) := by
  rw [← finV_ofO]
  simp only [stepO, carry, aop, extA]
  cases opd G sl x <;> rfl
def pickA (c a b : AV) : Option AV := match c with
  | .v (.bool t) => some (if t then a else b)
  | _ => none
@[simp] theorem pickA_true (a b : AV) : pickA (.v (.bool true)) a b = some a := rfl
@[simp] theorem pickA_false (a b : AV) : pickA (.v (.bool false)) a b = some b := rfl
@[simp] theorem stepO_pick (c a b : Operand) : stepO G (carry P T) ⟨dst, .pick c a b, ty, pos, af, gd⟩ ⟨sl, S⟩ = finV dst sl S (pickA (opd G sl c) (opd G sl a) (opd G sl b)) := by
  rw [← finV_ofO]
  simp only [stepO, carry, aop, pickA]
  cases opd G sl c <;> try rfl
  rename_i v
  cases v <;> rfl
@[simp] theorem stepO_makeInterface (t : TypeId) (x : Operand) : stepO G (carry P T) ⟨dst, .makeInterface t x, ty, pos, af, gd⟩ ⟨sl, S⟩ = finV dst sl S (if concreteT P t then some (.ifc t (opd G sl x)) else none) := by
  rw [← finV_ofO]
  simp only [stepO, carry, aop]
  split <;> rfl
@[simp] theorem stepO_makeFunc (f : FuncId) (a b : Array Operand) : stepO G (carry P T) ⟨dst, .makeFunc (.func f) a b, ty, pos, af, gd⟩ ⟨sl, S⟩ = some ⟨setD sl dst (.clo f (a.toList.map (opd G sl)) (b.toList.map (opd G sl))), S⟩ := rfl

/-! ### Two operands -/
theorem still_program' (P : Program) : still P program = some P := rfl
@[simp] theorem still_stuck {α : Type} (P : Program) (s : String) : still P (stuck s : Sem α) = none := rfl
@[simp] theorem still_panic {α : Type} (P : Program) (e : String) : still P (runtimePanic (.error e) : Sem α) = none := rfl
@[simp] theorem still_unsupported {α : Type} (P : Program) (e : Unsupported) : still P (unsupported e : Sem α) = none := rfl
def cmpI (op : BinOp) (k : IntKind) (a : Int) (k' : IntKind) (b : Int) : Option AV := match op with
  | .shl => if b < 0 then none else some (.v (.int k (k.wrap (a * 2 ^ (min b.toNat k.bits)))))
  | .shr => if b < 0 then none else some (.v (.int k (a.fdiv (2 ^ (min b.toNat k.bits)))))
  | .eql => if k = k' then some (.v (.bool (decide (a = b)))) else none
  | .neq => if k = k' then some (.v (.bool (!decide (a = b)))) else none
  | .lss => if k = k' then some (.v (.bool (decide (a < b)))) else none
  | .leq => if k = k' then some (.v (.bool (decide (a ≤ b)))) else none
  | .gtr => if k = k' then some (.v (.bool (decide (b < a)))) else none
  | .geq => if k = k' then some (.v (.bool (decide (b ≤ a)))) else none
  | .add => if k = k' then some (.v (.int k (k.wrap (a + b)))) else none
  | .sub => if k = k' then some (.v (.int k (k.wrap (a - b)))) else none
  | .mul => if k = k' then some (.v (.int k (k.wrap (a * b)))) else none
  | .quo => if k = k' then (if b = 0 then none else some (.v (.int k (k.wrap (a.tdiv b))))) else none
  | .rem => if k = k' then (if b = 0 then none else some (.v (.int k (a.tmod b)))) else none
  | .and => if k = k' then some (.v (.int k (k.wrap (BitVec.ofInt k.bits a &&& BitVec.ofInt k.bits b).toNat))) else none
  | .or => if k = k' then some (.v (.int k (k.wrap (BitVec.ofInt k.bits a ||| BitVec.ofInt k.bits b).toNat))) else none
  | .xor => if k = k' then some (.v (.int k (k.wrap (BitVec.ofInt k.bits a ^^^ BitVec.ofInt k.bits b).toNat))) else none
  | .andNot => if k = k' then some (.v (.int k (k.wrap (BitVec.ofInt k.bits a &&& ~~~ (BitVec.ofInt k.bits b)).toNat))) else none
noncomputable def stillB (P : Program) (op : BinOp) (t : TypeId) (x y : Operand) (u v : AV) : Option AV := match conc u, conc v with
  | some a, some b => (still P (do eqGuard op t x y a b; binOp op t a b)).map ofV
  | _, _ => none
/-- Two operands, neither of them memory; or one of them held against nil. -/
noncomputable def binA (P : Program) (op : BinOp) (t : TypeId) (x y : Operand) (S : Subs) (u v : AV) : Option (AV × Subs) :=
  if (conc u).isSome && (conc v).isSome then (stillB P op t x y u v).map (·, S) else (aBin P op t u v).run S
theorem ofO_run {α : Type} (x : Option α) : (RW.ofO x).run S = x.map (·, S) := by cases x <;> rfl
@[simp] theorem stepO_bin (op : BinOp) (t t2 : TypeId) (x y : Operand) : stepO G (carry P T) ⟨dst, .binOp op t x y t2, ty, pos, af, gd⟩ ⟨sl, S⟩ = finO dst sl (binA P op t x y S (opd G sl x) (opd G sl y)) := by
  unfold binA finO
  simp only [stepO, carry, aop]
  generalize hu : opd G sl x = u
  generalize hv : opd G sl y = v
  split
  · rename_i h
    rw [ofO_run]
    congr 2
    simp only [Bool.and_eq_true, Option.isSome_iff_exists] at h
    obtain ⟨⟨a, ha⟩, ⟨b, hb⟩⟩ := h
    simp only [aStill, stillB, ha, hb, hu, hv]
    have : (Array.all #[x, y] fun z => (conc (opd G sl z)).isSome) = true := by simp [hu, hv, ha, hb]
    simp only [Op.operands, this, if_true, execOp, hu, hv, ha, hb, Option.getD_some, still_bind]
    cases still P (eqGuard op t x y a b) with
    | none => rfl
    | some _ =>
      simp only [Option.bind_some]
      cases still P (binOp op t a b) <;> rfl
  · rfl
end
section
variable (P : Program) (t : TypeId) (x y : Operand) (S : Subs)
@[simp] theorem binA_int (op : BinOp) (k k' : IntKind) (a b : Int) : binA P op t x y S (.v (.int k a)) (.v (.int k' b)) = (cmpI op k a k' b).map (·, S) := by
  unfold binA
  simp only [conc, Option.isSome_some, Bool.and_self, if_true, stillB]
  congr 1
  by_cases hk : k = k'
  · subst hk
    cases op <;> simp [eqGuard, binOp, Op.intCmp, Op.intArith, Op.intDiv, Op.intBits, Op.shift, ofV, cmpI]
    all_goals first
      | done
      | rfl
      | (split <;> first | rfl | simp [*])
  · cases op <;> simp [eqGuard, binOp, Op.shift, ofV, cmpI, hk]
    all_goals first
      | done
      | rfl
      | (split <;> first | rfl | simp [*])
theorem equal_step (u v : Value) : ∃ n, Op.equal t u v = Op.equalIn (n + 1) t u v := ⟨9999, rfl⟩
def boolT : Bool := match P.underlying t with
  | some .bool => true
  | _ => false
def ifaceT : Bool := match P.underlying t with
  | some (.interface _) => true
  | _ => false
def strT : Bool := match P.underlying t with
  | some .string => true
  | _ => false
theorem boolT_of (h : boolT P t = true) : P.underlying t = some .bool := by
  unfold boolT at h
  split at h
  · assumption
  · cases h
theorem ifaceT_of (h : ifaceT P t = true) : ∃ ms, P.underlying t = some (.interface ms) := by
  unfold ifaceT at h
  split at h
  · exact ⟨_, by assumption⟩
  · cases h
theorem still_under {d : TypeDesc} (h : P.underlying t = some d) : still P (underlying t) = some d := by simp [underlying, still, h, program, still_program']
@[simp] theorem binA_bool_eql (h : boolT P t = true) (a b : Bool) : binA P .eql t x y S (.v (.bool a)) (.v (.bool b)) = some (.v (.bool (a == b)), S) := by
  obtain ⟨n, hn⟩ := equal_step t (.bool a) (.bool b)
  simp [binA, conc, stillB, eqGuard, binOp, hn, Op.equalIn, still_under P t (boolT_of P t h), ofV]
@[simp] theorem binA_bool_neq (h : boolT P t = true) (a b : Bool) : binA P .neq t x y S (.v (.bool a)) (.v (.bool b)) = some (.v (.bool (!(a == b))), S) := by
  obtain ⟨n, hn⟩ := equal_step t (.bool a) (.bool b)
  simp [binA, conc, stillB, eqGuard, binOp, hn, Op.equalIn, still_under P t (boolT_of P t h), ofV]
@[simp] theorem binA_str_eql (a b : ByteArray) : binA P .eql t x y S (.v (.string a)) (.v (.string b)) = some (.v (.bool (a.toList == b.toList)), S) := by
  simp [binA, conc, stillB, eqGuard, binOp, Op.stringOp, ofV]
@[simp] theorem binA_str_neq (a b : ByteArray) : binA P .neq t x y S (.v (.string a)) (.v (.string b)) = some (.v (.bool (!(a.toList == b.toList))), S) := by
  simp [binA, conc, stillB, eqGuard, binOp, Op.stringOp, ofV]
@[simp] theorem binA_nil_eql (h : ifaceT P t = true) (c : Value) : binA P .eql t x (.const c) S (.v .nilIface) (.v .nilIface) = some (.v (.bool true), S) := by
  obtain ⟨n, hn⟩ := equal_step t .nilIface .nilIface
  obtain ⟨ms, hm⟩ := ifaceT_of P t h
  simp [binA, conc, stillB, eqGuard, binOp, hn, Op.equalIn, still_under P t hm, ofV]
@[simp] theorem binA_nil_neq (h : ifaceT P t = true) (c : Value) : binA P .neq t x (.const c) S (.v .nilIface) (.v .nilIface) = some (.v (.bool false), S) := by
  obtain ⟨n, hn⟩ := equal_step t .nilIface .nilIface
  obtain ⟨ms, hm⟩ := ifaceT_of P t h
  simp [binA, conc, stillB, eqGuard, binOp, hn, Op.equalIn, still_under P t hm, ofV]
@[simp] theorem binA_ifc_eql (h : ifaceT P t = true) (c : Value) (t' : TypeId) (u : AV) : binA P .eql t x (.const c) S (.ifc t' u) (.v .nilIface) = some (.v (.bool false), S) := by
  obtain ⟨ms, hm⟩ := ifaceT_of P t h
  unfold binA
  cases hu : conc (.ifc t' u) with
  | none => simp [conc, aBin, nilKind, hm, nilEq, RW.bind, RW.run]
  | some z =>
    obtain ⟨z', h1, rfl⟩ : ∃ z', conc u = some z' ∧ z = .iface t' z' := by
      simp only [conc, Option.map_eq_some_iff] at hu
      obtain ⟨z', h1, h2⟩ := hu
      exact ⟨z', h1, h2.symm⟩
    obtain ⟨n, hn⟩ := equal_step t (.iface t' z') .nilIface
    simp [conc, stillB, h1, eqGuard, binOp, hn, Op.equalIn, still_under P t hm, ofV]
@[simp] theorem binA_ifc_neq (h : ifaceT P t = true) (c : Value) (t' : TypeId) (u : AV) : binA P .neq t x (.const c) S (.ifc t' u) (.v .nilIface) = some (.v (.bool true), S) := by
  obtain ⟨ms, hm⟩ := ifaceT_of P t h
  unfold binA
  cases hu : conc (.ifc t' u) with
  | none => simp [conc, aBin, nilKind, hm, nilEq, RW.bind, RW.run]
  | some z =>
    obtain ⟨z', h1, rfl⟩ : ∃ z', conc u = some z' ∧ z = .iface t' z' := by
      simp only [conc, Option.map_eq_some_iff] at hu
      obtain ⟨z', h1, h2⟩ := hu
      exact ⟨z', h1, h2.symm⟩
    obtain ⟨n, hn⟩ := equal_step t (.iface t' z') .nilIface
    simp [conc, stillB, h1, eqGuard, binOp, hn, Op.equalIn, still_under P t hm, ofV]
end
section
variable (G : Gl) (P : Program) (T : Tbl) (sl : List AV) (S : Subs) (dst : Option Tmp) (ty : TypeId) (pos : String) (af : Array Edge) (gd : Option (Nat × Bool))
noncomputable def unA (op : UnOp) (x : AV) : Option AV := match conc x with
  | some y => (still P (Op.unary op y)).map ofV
  | none => none
@[simp] theorem unA_bool (b : Bool) : unA P .not (.v (.bool b)) = some (.v (.bool !b)) := rfl
@[simp] theorem unA_neg (k : IntKind) (a : Int) : unA P .neg (.v (.int k a)) = some (.v (.int k (k.wrap (0 - a)))) := rfl
@[simp] theorem stepO_un (op : UnOp) (t : TypeId) (x : Operand) : stepO G (carry P T) ⟨dst, .unOp op t x, ty, pos, af, gd⟩ ⟨sl, S⟩ = finV dst sl S (unA P op (opd G sl x)) := by
  rw [← finV_ofO]
  have : aStill P ⟨dst, .unOp op t x, ty, pos, af, gd⟩ (opd G sl) = unA P op (opd G sl x) := by
    simp only [aStill, unA, Op.operands]
    cases h : conc (opd G sl x) with
    | none => simp [h]
    | some y =>
      simp only [h, Array.all_eq_true_iff_forall_mem]
      simp only [List.mem_toArray, List.mem_cons, List.not_mem_nil, or_false, forall_eq, h, Option.isSome_some, if_true, execOp, Option.getD_some, still_bind]
      cases still P (Op.unary op y) <;> rfl
  simp only [stepO, carry, aop, this]
end


section
variable (P : Program) (a b : TypeId)
noncomputable def convA (x : AV) : Option AV := match conc x with
  | some y => (still P (convert a b y)).map ofV
  | none => none
def intT (t : TypeId) : Option IntKind := match P.underlying t with
  | some (.int k) => some k
  | _ => none
@[simp] theorem convA_int {j k : IntKind} (ha : intT P a = some j) (hb : intT P b = some k) (k' : IntKind) (n : Int) : convA P a b (.v (.int k' n)) = some (.v (.int k (k.wrap n))) := by
  have h1 : ∃ j, P.underlying a = some (.int j) := by
    unfold intT at ha
    split at ha
    · exact ⟨_, by assumption⟩
    · cases ha
  have h2 : P.underlying b = some (.int k) := by
    unfold intT at hb
    split at hb
    · simp only [Option.some.injEq] at hb; subst hb; assumption
    · cases hb
  obtain ⟨j', h1⟩ := h1
  simp [convA, conc, convert, still_under P a h1, still_under P b h2, Conv.intToInt, ofV]
variable (G : Gl) (T : Tbl) (sl : List AV) (S : Subs) (dst : Option Tmp) (ty : TypeId) (pos : String) (af : Array Edge) (gd : Option (Nat × Bool))
noncomputable def convR (S : Subs) (x : AV) : Option (AV × Subs) := if (conc x).isSome then (convA P a b x).map (·, S) else (aBytesStr P a b x).run S
@[simp] theorem convR_int {j k : IntKind} (ha : intT P a = some j) (hb : intT P b = some k) (S : Subs) (k' : IntKind) (n : Int) : convR P a b S (.v (.int k' n)) = some (.v (.int k (k.wrap n)), S) := by
  simp only [convR, convA_int P a b ha hb]; rfl
@[simp] theorem convR_own (S : Subs) (r : Nat) (p : List Nat) (v lo hi : Nat) : convR P a b S (.own r p v lo hi) = (aBytesStr P a b (.own r p v lo hi)).run S := rfl
@[simp] theorem convR_sl (S : Subs) (n : Bool) (l : List AV) : convR P a b S (.sl n l) = (aBytesStr P a b (.sl n l)).run S := rfl
@[simp] theorem stepO_conv (x : Operand) : stepO G (carry P T) ⟨dst, .convert a b x, ty, pos, af, gd⟩ ⟨sl, S⟩ = finO dst sl (convR P a b S (opd G sl x)) := by
  have : aStill P ⟨dst, .convert a b x, ty, pos, af, gd⟩ (opd G sl) = convA P a b (opd G sl x) := by
    simp only [aStill, convA, Op.operands]
    cases h : conc (opd G sl x) with
    | none => simp [h]
    | some y =>
      simp only [h, Array.all_eq_true_iff_forall_mem]
      simp only [List.mem_toArray, List.mem_cons, List.not_mem_nil, or_false, forall_eq, h, Option.isSome_some, if_true, execOp, Option.getD_some, still_bind]
      cases still P (convert a b y) <;> rfl
  show Option.map _ _ = _
  simp only [carry, aop, this, finO, convR]
  congr 1
  split
  · rw [ofO_run]
  · rfl
end

/-! ### The parts of an operation, by the shape of what they are given -/
def withBox {β : Type} (o : Option Ob) (k : Bool → List AV → Option β) : Option β := match o with
  | some (.box fz cells) => k fz cells
  | _ => none
@[simp] theorem withBox_some {β : Type} (fz : Bool) (cells : List AV) (k : Bool → List AV → Option β) : withBox (some (.box fz cells)) k = k fz cells := rfl
def withArr {β : Type} (o : Option Ob) (k : Bool → Bool → Nat → TypeId → List AV → Option β) : Option β := match o with
  | some (.arr nl fz sz e el) => k nl fz sz e el
  | _ => none
@[simp] theorem withArr_some {β : Type} (nl fz : Bool) (sz : Nat) (e : TypeId) (el : List AV) (k : Bool → Bool → Nat → TypeId → List AV → Option β) : withArr (some (.arr nl fz sz e el)) k = k nl fz sz e el := rfl
section
variable (P : Program) (S : Subs) (t : TypeId) (r : Nat) (p : List Nat) (ver off i lo hi : Nat)
@[simp] theorem load_loc : (aLoad P t (.loc r p ver off)).run S = withBox ((sub S r).live p ver) fun _ cells => (pickT P t (cells.drop off)).map (·, S) := by
  simp only [aLoad, rdP, RW.bind, RW.run]
  split
  · simp only [RW.bind, withBox, ofO_run, *]
  · rename_i h
    unfold withBox
    split
    · rename_i h2; exact (h _ _ h2).elim
    · rfl
@[simp] theorem load_ref (l : List AV) : (aLoad P t (.ref l)).run S = (pickT P t l).map (·, S) := ofO_run _ _
@[simp] theorem load_elt : (aLoad P t (.elt r p ver i off)).run S = withArr ((sub S r).live p ver) fun _ _ _ _ el => (pickT P t ((cellsOf (el.getD i .dead)).drop off)).map (·, S) := by
  simp only [aLoad, rdP, RW.bind, RW.run]
  split
  · simp only [RW.bind, withArr, ofO_run, *]
  · rename_i h
    unfold withArr
    split
    · rename_i h2; exact (h _ _ _ _ _ h2).elim
    · rfl
end
end Go.Proofs.YtmekfllddifglaaDoor.AM

/- The abstract machine, part Nd: how it is reckoned, on. Conditions: none. -/
set_option linter.unusedVariables false
set_option linter.unusedSimpArgs false
namespace Go.Proofs.YtmekfllddifglaaDoor.AM
open Go

def thenR {α β : Type} (x : Option (α × Subs)) (k : α → Subs → Option β) : Option β := x.bind fun y => k y.1 y.2
@[simp] theorem thenR_some {α β : Type} (x : α) (S : Subs) (k : α → Subs → Option β) : thenR (some (x, S)) k = k x S := rfl
theorem run_thenR {α β : Type} (x : RW α) (f : α → RW β) (S : Subs) : (x.bind f).run S = thenR (x.run S) fun y S => (f y).run S := RW.run_bind f x S
@[simp] theorem run_ret {α : Type} (a : α) (S : Subs) : (RW.ret a).run S = some (a, S) := rfl
@[simp] theorem run_fail {α : Type} (S : Subs) : (RW.fail : RW α).run S = none := rfl
@[simp] theorem run_get {α : Type} (r : Nat) (k : Sub → RW α) (S : Subs) : (RW.get r k).run S = (k (sub S r)).run S := rfl
@[simp] theorem run_put {α : Type} (r : Nat) (s : Sub) (k : RW α) (S : Subs) : (RW.put r s k).run S = if r < S.length then k.run (S.set r s) else none := rfl

/-! ### What is told by its shape alone -/
def plainAV : AV → Bool
  | .v x => x.oneCell'
  | .sl _ _ | .ref _ | .ifc _ _ | .clo _ _ _ => true
  | _ => false
theorem settle1_plain (d : Nat) (p : List Nat) (x : AV) (S : Subs) (h : plainAV x = true) : (settle1 d p x).run S = some (x, S) := by
  cases x <;> simp_all [plainAV, settle1, cellAV]
theorem settle_plain (d : Nat) (p : List Nat) : ∀ (l : List AV) (off : Nat) (S : Subs), l.all plainAV = true → (settle d p off l).run S = some (l, S)
  | [], _, S, _ => rfl
  | x :: l, off, S, h => by
    simp only [List.all_cons, Bool.and_eq_true] at h
    simp only [settle, run_thenR, settle1_plain d _ x S h.1, thenR_some, settle_plain d p l (off + 1) S h.2, run_ret]
section
variable (P : Program) (S : Subs) (t : TypeId) (d r : Nat) (p : List Nat) (ver off i lo hi : Nat)
@[simp] theorem settle_nil : (settle d p off []).run S = some ([], S) := rfl
theorem settle_cons (x : AV) (l : List AV) : (settle d p off (x :: l)).run S = thenR ((settle1 d (p ++ [off]) x).run S) fun y S => thenR ((settle d p (off + 1) l).run S) fun ys S => some (y :: ys, S) := by
  simp only [settle, run_thenR, run_ret]
@[simp] theorem settle1_v (x : Value) : (settle1 d p (.v x)).run S = if x.oneCell' then some (.v x, S) else none := by
  by_cases h : x.oneCell' = true <;> simp [settle1, cellAV, h]
@[simp] theorem settle1_sl (nl : Bool) (l : List AV) : (settle1 d p (.sl nl l)).run S = some (.sl nl l, S) := rfl
@[simp] theorem settle1_ref (l : List AV) : (settle1 d p (.ref l)).run S = some (.ref l, S) := rfl
@[simp] theorem settle1_ifc (t : TypeId) (x : AV) : (settle1 d p (.ifc t x)).run S = some (.ifc t x, S) := rfl
@[simp] theorem settle1_clo (f : FuncId) (a b : List AV) : (settle1 d p (.clo f a b)).run S = some (.clo f a b, S) := rfl
def anyLive {β : Type} (o : Option Ob) (k : Option β) : Option β := match o with
  | some _ => k
  | none => none
@[simp] theorem anyLive_some {β : Type} (o : Ob) (k : Option β) : anyLive (some o) k = k := rfl
@[simp] theorem settle1_loc (q : List Nat) : (settle1 d p (.loc r q ver off)).run S = anyLive ((sub S r).live q ver) (some (.loc r q ver off, S)) := by
  simp only [settle1, run_get]
  cases (sub S r).live q ver <;> rfl
@[simp] theorem settle1_own (q : List Nat) : (settle1 d p (.own r q ver lo hi)).run S = withArr ((sub S r).live q ver) fun _ fz _ _ _ => if fz then (pub 1 (.own r q ver lo hi)).run S else if ver = 0 then some (.own r q ver lo hi, S) else if lo = 0 then (if r = d ∧ q = p then some (.own r q ver lo hi, S) else (mvOb r q ver hi d p).run S) else (pub 1 (.own r q ver lo hi)).run S := by
  simp only [settle1, run_get]
  split
  · rename_i h
    simp only [h, withArr_some, Bool.false_eq_true, if_false]
    split
    · rfl
    split
    · split <;> rfl
    · rfl
  · rename_i h
    simp only [h, withArr_some, if_true]
  · rename_i h1 h2
    unfold withArr
    split
    · rename_i nl fz sz e el h
      cases fz
      · exact (h1 _ _ _ _ h).elim
      · exact (h2 _ _ _ _ h).elim
    · rfl
@[simp] theorem mv_run (q : List Nat) (d' : Nat) (p' : List Nat) : (mvOb r q ver hi d' p').run S = withArr ((sub S r).live q ver) fun nl fz sz e el => if fz then none else
    if r < S.length then thenR (some ((), S.set r ((sub S r).put q (ver, none)))) fun _ S1 => if d' < S1.length then some (.own d' p' (((sub S1 d').ent p').1 + 1) 0 hi, S1.set d' ((sub S1 d').put p' (((sub S1 d').ent p').1 + 1, some (.arr nl false sz e (el.take hi))))) else none else none := by
  simp only [mvOb, run_get]
  split
  · rename_i h
    simp only [h, withArr_some, Bool.false_eq_true, if_false, run_put, run_get, thenR_some, run_ret]
  · rename_i h1
    unfold withArr
    split
    · rename_i nl fz sz e el h
      cases fz
      · exact (h1 _ _ _ _ h).elim
      · rfl
    · rfl
@[simp] theorem newBox_run (ys : List AV) : (newBox d ys).run S = if d < S.length then some (.loc d [] (((sub S d).ent []).1 + 1) 0, S.set d ((sub S d).put [] (((sub S d).ent []).1 + 1, some (.box false ys)))) else none := rfl
@[simp] theorem newArr_run (nl : Bool) (sz : Nat) (e : TypeId) (el : List AV) : (newArr d nl sz e el).run S = if d < S.length then some (.own d [] (((sub S d).ent []).1 + 1) 0 el.length, S.set d ((sub S d).put [] (((sub S d).ent []).1 + 1, some (.arr nl false sz e el)))) else none := rfl
@[simp] theorem box_run (x : AV) : (aBox d x).run S = thenR ((settle d [] 0 (cellsS x)).run S) fun ys S => (newBox d ys).run S := run_thenR _ _ _
def zerosT : Option (List AV) := match zcells P t with
  | some z => if z.all (·.oneCell') then some (z.map .v) else none
  | none => none
@[simp] theorem alloc_run : (aAlloc P d t).run S = (zerosT P t).bind fun ys => (newBox d ys).run S := by
  unfold aAlloc zerosT
  cases zcells P t with
  | none => rfl
  | some z => by_cases h : (z.all (·.oneCell')) = true <;> simp [h]
@[simp] theorem field_loc (s : TypeId) (f : Nat) : (aField P s f (.loc r p ver off)).run S = withBox ((sub S r).live p ver) fun _ _ => (fieldT P s f).map fun k => (.loc r p ver (off + k), S) := by
  simp only [aField, isLive, run_thenR, run_get]
  split
  · rename_i h
    simp only [h, withBox_some, run_ret, thenR_some]
    cases fieldT P s f <;> rfl
  · rename_i h
    unfold withBox
    split
    · rename_i h2; exact (h _ _ h2).elim
    · rfl
@[simp] theorem field_elt (s : TypeId) (f : Nat) : (aField P s f (.elt r p ver i off)).run S = withArr ((sub S r).live p ver) fun _ _ _ _ _ => (fieldT P s f).map fun k => (.elt r p ver i (off + k), S) := by
  simp only [aField, isLive, run_thenR, run_get]
  split
  · rename_i h
    simp only [h, withArr_some, run_ret, thenR_some]
    cases fieldT P s f <;> rfl
  · rename_i h
    unfold withArr
    split
    · rename_i h2; exact (h _ _ _ _ _ h2).elim
    · rfl
@[simp] theorem field_ref (s : TypeId) (f : Nat) (l : List AV) : (aField P s f (.ref l)).run S = (fieldT P s f).map fun k => (.ref (l.drop k), S) := by
  simp only [aField, isLive, run_thenR, run_ret, thenR_some]
  cases fieldT P s f <;> rfl
@[simp] theorem nilCheck_loc : (aNilCheck (.loc r p ver off)).run S = withBox ((sub S r).live p ver) fun _ _ => some (.loc r p ver off, S) := by
  simp only [aNilCheck, isLive, run_thenR, run_get]
  split
  · rename_i h
    simp only [h, withBox_some, run_ret, thenR_some]
  · rename_i h
    unfold withBox
    split
    · rename_i h2; exact (h _ _ h2).elim
    · rfl
@[simp] theorem nilCheck_elt : (aNilCheck (.elt r p ver i off)).run S = withArr ((sub S r).live p ver) fun _ _ _ _ _ => some (.elt r p ver i off, S) := by
  simp only [aNilCheck, isLive, run_thenR, run_get]
  split
  · rename_i h
    simp only [h, withArr_some, run_ret, thenR_some]
  · rename_i h
    unfold withArr
    split
    · rename_i h2; exact (h _ _ _ _ _ h2).elim
    · rfl
@[simp] theorem nilCheck_ref (l : List AV) : (aNilCheck (.ref l)).run S = some (.ref l, S) := rfl
@[simp] theorem nilCheck_clo (f : FuncId) (a b : List AV) : (aNilCheck (.clo f a b)).run S = some (.clo f a b, S) := rfl
@[simp] theorem nilCheck_ifc (t : TypeId) (x : AV) : (aNilCheck (.ifc t x)).run S = some (.ifc t x, S) := rfl
@[simp] theorem assign_v (x : Value) : (aAssign d (.v x)).run S = some (.v x, S) := rfl
@[simp] theorem assign_agg (l : List AV) : (aAssign d (.agg l)).run S = some (.agg l, S) := rfl
@[simp] theorem assign_sl (nl : Bool) (l : List AV) : (aAssign d (.sl nl l)).run S = some (.sl nl l, S) := rfl
@[simp] theorem assign_ref (l : List AV) : (aAssign d (.ref l)).run S = some (.ref l, S) := rfl
@[simp] theorem assign_ifc (t : TypeId) (x : AV) : (aAssign d (.ifc t x)).run S = some (.ifc t x, S) := rfl
@[simp] theorem assign_loc : (aAssign d (.loc r p ver off)).run S = some (.loc r p ver off, S) := rfl
@[simp] theorem assign_elt : (aAssign d (.elt r p ver i off)).run S = some (.elt r p ver i off, S) := rfl
@[simp] theorem assign_clo (f : FuncId) (a b : List AV) : (aAssign d (.clo f a b)).run S = some (.clo f a b, S) := rfl
@[simp] theorem assign_tup (l : List AV) : (aAssign d (.tup l)).run S = some (.tup l, S) := rfl
@[simp] theorem assign_dead : (aAssign d .dead).run S = some (.dead, S) := rfl
@[simp] theorem assign_own_keep (h : ¬ (lo = 0 ∧ ver ≠ 0 ∧ ¬ (r = d ∧ p = []))) : (aAssign d (.own r p ver lo hi)).run S = some (.own r p ver lo hi, S) := by
  simp only [aAssign, if_neg h, run_ret]
@[simp] theorem assign_own_mv (h : ver ≠ 0 ∧ ¬ (r = d ∧ p = [])) : (aAssign d (.own r p ver 0 hi)).run S = (match (sub S r).live p ver with
    | some (.arr _ false _ _ _) => (mvOb r p ver hi d []).run S
    | _ => some (.own r p ver 0 hi, S)) := by
  simp only [aAssign, true_and, if_pos h, run_get]
  split
  · rename_i h; simp only [h]
  · rename_i h1
    split
    · rename_i h; exact (h1 _ _ _ _ h).elim
    · rfl
@[simp] theorem pub_v (n : Nat) (x : Value) : (pub (n + 1) (.v x)).run S = some (canV x, S) := rfl
@[simp] theorem canV_int (k : IntKind) (n : Int) : canV (.int k n) = .v (.int k n) := rfl
@[simp] theorem canV_bool (b : Bool) : canV (.bool b) = .v (.bool b) := rfl
@[simp] theorem canV_string (s : ByteArray) : canV (.string s) = .v (.string s) := rfl
@[simp] theorem canV_nilIface : canV .nilIface = .v .nilIface := rfl
@[simp] theorem canV_nilFunc : canV .nilFunc = .v .nilFunc := rfl
@[simp] theorem canV_ptr (a : Option Addr) : canV (.pointer a) = .v (.pointer a) := rfl
@[simp] theorem canV_map (a : Option Nat) : canV (.map a) = .v (.map a) := rfl
@[simp] theorem canV_nil : canV (.slice none 0 0) = .sl true [] := rfl
@[simp] theorem canV_tup (a : Array Value) : canV (.tuple a) = .v (.tuple a) := rfl
@[simp] theorem pub_sl (n : Nat) (nl : Bool) (l : List AV) : (pub (n + 1) (.sl nl l)).run S = some (.sl nl l, S) := rfl
@[simp] theorem pub_ref (n : Nat) (l : List AV) : (pub (n + 1) (.ref l)).run S = some (.ref l, S) := rfl
def mapR {α : Type} (f : α → RW AV) : List α → Subs → Option (List AV × Subs)
  | [], S => some ([], S)
  | x :: l, S => thenR ((f x).run S) fun y S => thenR (mapR f l S) fun ys S => some (y :: ys, S)
theorem mapR_run {α : Type} (f : α → RW AV) : ∀ (l : List α) (S : Subs), (mapRW f l).run S = mapR f l S
  | [], S => rfl
  | x :: l, S => by simp only [mapRW, mapR, run_thenR, mapR_run f l, run_ret]
@[simp] theorem mapR_nil {α : Type} (f : α → RW AV) : mapR f [] S = some ([], S) := rfl
@[simp] theorem mapR_cons {α : Type} (f : α → RW AV) (x : α) (l : List α) : mapR f (x :: l) S = thenR ((f x).run S) fun y S => thenR (mapR f l S) fun ys S => some (y :: ys, S) := rfl
@[simp] theorem pub_agg (n : Nat) (l : List AV) : (pub (n + 1) (.agg l)).run S = thenR (mapR (pub n) l S) fun l' S => some (.agg l', S) := by
  simp only [pub, run_thenR, mapR_run, run_ret]
@[simp] theorem pub_tup (n : Nat) (l : List AV) : (pub (n + 1) (.tup l)).run S = thenR (mapR (pub n) l S) fun l' S => some (.tup l', S) := by
  simp only [pub, run_thenR, mapR_run, run_ret]
@[simp] theorem pub_ifc (n : Nat) (x : AV) : (pub (n + 1) (.ifc t x)).run S = thenR ((pub n x).run S) fun x' S => some (.ifc t x', S) := by
  simp only [pub, run_thenR, run_ret]
@[simp] theorem pub_clo (n : Nat) (f : FuncId) (a b : List AV) : (pub (n + 1) (.clo f a b)).run S = thenR (mapR (pub n) a S) fun a' S => thenR (mapR (pub n) b S) fun b' S => some (.clo f a' b', S) := by
  simp only [pub, run_thenR, mapR_run, run_ret]
@[simp] theorem pub_own (n : Nat) : (pub (n + 1) (.own r p ver lo hi)).run S = withArr ((sub S r).live p ver) fun nl _ sz e el => if r < S.length then some (.sl nl ((el.take hi).drop lo), S.set r ((sub S r).put p (ver, some (.arr nl true sz e el)))) else none := by
  simp only [pub, run_get]
  split
  · rename_i h; simp only [h, withArr_some, run_put, run_ret]
  · rename_i h
    unfold withArr
    split
    · rename_i h2; exact (h _ _ _ _ _ h2).elim
    · rfl
@[simp] theorem pub_elt (n : Nat) : (pub (n + 1) (.elt r p ver i off)).run S = withArr ((sub S r).live p ver) fun nl _ sz e el => if r < S.length then some (.ref ((cellsOf (el.getD i .dead)).drop off), S.set r ((sub S r).put p (ver, some (.arr nl true sz e el)))) else none := by
  simp only [pub, run_get]
  split
  · rename_i h; simp only [h, withArr_some, run_put, run_ret]
  · rename_i h
    unfold withArr
    split
    · rename_i h2; exact (h _ _ _ _ _ h2).elim
    · rfl
@[simp] theorem pub_loc (n : Nat) : (pub (n + 1) (.loc r p ver off)).run S = withBox ((sub S r).live p ver) fun _ cells => thenR (mapR (pub n) cells S) fun cells' S => withBox ((sub S r).live p ver) fun _ _ => if r < S.length then some (.ref (cells'.drop off), S.set r ((sub S r).put p (ver, some (.box true cells')))) else none := by
  simp only [pub, run_get]
  split
  · rename_i h
    simp only [h, withBox_some, run_thenR, mapR_run]
    congr 1
    funext cells' S
    simp only [run_get]
    split
    · rename_i h2; simp only [h2, withBox_some, run_put, run_ret]
    · rename_i h2
      unfold withBox
      split
      · rename_i h3; exact (h2 _ _ h3).elim
      · rfl
  · rename_i h
    unfold withBox
    split
    · rename_i h2; exact (h _ _ h2).elim
    · rfl
end
end Go.Proofs.YtmekfllddifglaaDoor.AM

/- The abstract machine, part Ne: how it is reckoned: functions, stores, slices. Conditions: none. -/
set_option linter.unusedVariables false
set_option linter.unusedSimpArgs false
namespace Go.Proofs.YtmekfllddifglaaDoor.AM
open Go

def endF (n : Nat) (P : Program) (rs : List ResultVar) (st : St) : Option (AV × Subs) := thenR (mapR (aRes1 P st.slots) rs st.subs) fun xs S => thenR (mapR (pub 60) xs S) fun ys S => some (tupA ys, S.take n)
theorem endF_eq (n : Nat) (P : Program) (rs : List ResultVar) (st : St) : ((aResults P rs st.slots).run st.subs).map (fun z => (z.1, z.2.take n)) = endF n P rs st := by
  unfold aResults endF
  simp only [run_thenR, mapR_run, run_ret]
  cases mapR (aRes1 P st.slots) rs st.subs with
  | none => rfl
  | some y =>
    simp only [thenR, Option.bind_some]
    cases mapR (pub 60) y.1 y.2 <;> rfl
def finF (n : Nat) (P : Program) (rs : List ResultVar) (x : Option (AX × St)) : Option (AV × Subs) := x.bind fun y => match y.1 with
  | .exit _ => none
  | .normal => endF n P rs y.2
  | .ret => endF n P rs y.2
@[simp] theorem finF_normal (n : Nat) (P : Program) (rs : List ResultVar) (st : St) : finF n P rs (some (.normal, st)) = endF n P rs st := rfl
@[simp] theorem finF_ret (n : Nat) (P : Program) (rs : List ResultVar) (st : St) : finF n P rs (some (.ret, st)) = endF n P rs st := rfl
theorem aFn_run (P : Program) (G : Gl) (cy : Carry) (H : Hints) (ex : Nat) (fn : Func) (c : Code) (args : List AV) (S : Subs) :
    aFn P G cy H ex fn c args S = finF S.length P fn.results.toList (acode G cy H 0 c ⟨args ++ List.replicate (fn.ntmps - args.length) .dead, pad S (fn.ntmps + ex)⟩) := by
  unfold aFn finF
  congr 1
  funext y
  obtain ⟨e, st⟩ := y
  cases e <;> simp only [endF_eq]
@[simp] theorem res1_tmp (P : Program) (sl : List AV) (t : Tmp) (S : Subs) : (aRes1 P sl (.tmp t)).run S = some (sl.getD t .dead, S) := rfl
@[simp] theorem res1_cell (P : Program) (sl : List AV) (a : Tmp) (t : TypeId) (S : Subs) : (aRes1 P sl (.cell a t)).run S = (aLoad P t (sl.getD a .dead)).run S := rfl
@[simp] theorem tupA_one (x : AV) : tupA [x] = x := rfl
@[simp] theorem tupA_nil : tupA [] = .tup [] := rfl
@[simp] theorem tupA_two (x y : AV) (l : List AV) : tupA (x :: y :: l) = .tup (x :: y :: l) := rfl

@[simp] theorem opd_tmp (G : Gl) (sl : List AV) (t : Nat) : opd G sl (.tmp t) = sl.getD t .dead := rfl
@[simp] theorem opd_const (G : Gl) (sl : List AV) (v : Value) : opd G sl (.const v) = ofV v := rfl
@[simp] theorem opd_func (G : Gl) (sl : List AV) (f : FuncId) : opd G sl (.func f) = .clo f [] [] := rfl
@[simp] theorem setD_some (sl : List AV) (d : Nat) (x : AV) : setD sl (some d) x = sl.set d x := rfl
@[simp] theorem setD_none (sl : List AV) (x : AV) : setD sl none x = sl := rfl
@[simp] theorem ofV_bool (b : Bool) : ofV (.bool b) = .v (.bool b) := rfl
@[simp] theorem ofV_int (k : IntKind) (n : Int) : ofV (.int k n) = .v (.int k n) := rfl
@[simp] theorem ofV_string (s : ByteArray) : ofV (.string s) = .v (.string s) := rfl
@[simp] theorem ofV_nilIface : ofV .nilIface = .v .nilIface := rfl
@[simp] theorem ofV_nilFunc : ofV .nilFunc = .v .nilFunc := rfl
@[simp] theorem ofV_slice (a : Option Addr) (n c : Nat) : ofV (.slice a n c) = .v (.slice a n c) := rfl
@[simp] theorem ofV_ptr (a : Option Addr) : ofV (.pointer a) = .v (.pointer a) := rfl
@[simp] theorem ofV_map (a : Option Nat) : ofV (.map a) = .v (.map a) := rfl
@[simp] theorem cellsS_agg (l : List AV) : cellsS (.agg l) = l := rfl
@[simp] theorem cellsS_v (x : Value) : cellsS (.v x) = [.v x] := rfl
@[simp] theorem cellsS_sl (nl : Bool) (l : List AV) : cellsS (.sl nl l) = [.sl nl l] := rfl
@[simp] theorem cellsS_ref (l : List AV) : cellsS (.ref l) = [.ref l] := rfl
@[simp] theorem cellsS_ifc (t : TypeId) (x : AV) : cellsS (.ifc t x) = [.ifc t x] := rfl
@[simp] theorem cellsS_clo (f : FuncId) (a b : List AV) : cellsS (.clo f a b) = [.clo f a b] := rfl
@[simp] theorem cellsS_loc (r : Nat) (p : List Nat) (v o : Nat) : cellsS (.loc r p v o) = [.loc r p v o] := rfl
@[simp] theorem cellsS_own (r : Nat) (p : List Nat) (v lo hi : Nat) : cellsS (.own r p v lo hi) = [.own r p v lo hi] := rfl
@[simp] theorem cellsS_elt (r : Nat) (p : List Nat) (v i o : Nat) : cellsS (.elt r p v i o) = [.elt r p v i o] := rfl
@[simp] theorem cellsOf_agg (l : List AV) : cellsOf (.agg l) = l := rfl
@[simp] theorem cellsOf_v (x : Value) : cellsOf (.v x) = [.v x] := rfl
@[simp] theorem cellsOf_sl (nl : Bool) (l : List AV) : cellsOf (.sl nl l) = [.sl nl l] := rfl
@[simp] theorem cellsOf_ref (l : List AV) : cellsOf (.ref l) = [.ref l] := rfl
@[simp] theorem cellsOf_ifc (t : TypeId) (x : AV) : cellsOf (.ifc t x) = [.ifc t x] := rfl
@[simp] theorem one_bool (b : Bool) : (Value.bool b).oneCell' = true := rfl
@[simp] theorem one_int (k : IntKind) (n : Int) : (Value.int k n).oneCell' = true := rfl
@[simp] theorem one_string (s : ByteArray) : (Value.string s).oneCell' = true := rfl
@[simp] theorem one_nilIface : (Value.nilIface).oneCell' = true := rfl
@[simp] theorem one_nilFunc : (Value.nilFunc).oneCell' = true := rfl
@[simp] theorem one_slice (a : Option Addr) (n c : Nat) : (Value.slice a n c).oneCell' = true := rfl
@[simp] theorem one_ptr (a : Option Addr) : (Value.pointer a).oneCell' = true := rfl
@[simp] theorem one_map (a : Option Nat) : (Value.map a).oneCell' = true := rfl
@[simp] theorem pickT_run (P : Program) (t : TypeId) (l : List AV) (h : undT P t = true) : pickT P t l = if aggT P t then (szT P t).bind fun n => if n ≤ l.length then some (.agg (l.take n)) else none else l.head? := by
  simp [pickT, h]
attribute [simp] settle_cons Sub.live Sub.ent Sub.put sub pad bodyOf cmpI
end Go.Proofs.YtmekfllddifglaaDoor.AM

/- The abstract machine, part Nf: how it is reckoned: stores, slices, calls. Conditions: none. -/
set_option linter.unusedVariables false
set_option linter.unusedSimpArgs false
namespace Go.Proofs.YtmekfllddifglaaDoor.AM
open Go

theorem withBox_eq {β : Type} (o : Option Ob) (m : Option β) (k : Bool → List AV → Option β) (h1 : ∀ fz cells, o = some (.box fz cells) → m = k fz cells) (h2 : (∀ fz cells, o ≠ some (.box fz cells)) → m = none) : m = withBox o k := by
  unfold withBox
  split
  · exact h1 _ _ rfl
  · rename_i h; exact h2 fun fz cells e => h fz cells e
theorem withArr_eq {β : Type} (o : Option Ob) (m : Option β) (k : Bool → Bool → Nat → TypeId → List AV → Option β) (h1 : ∀ nl fz sz e el, o = some (.arr nl fz sz e el) → m = k nl fz sz e el) (h2 : (∀ nl fz sz e el, o ≠ some (.arr nl fz sz e el)) → m = none) : m = withArr o k := by
  unfold withArr
  split
  · exact h1 _ _ _ _ _ rfl
  · rename_i h; exact h2 fun nl fz sz e el e' => h nl fz sz e el e'
section
variable (P : Program) (S : Subs) (t : TypeId) (d r : Nat) (p : List Nat) (ver off i lo hi : Nat)
def stBox (off n : Nat) (r : Nat) (p : List Nat) (ver : Nat) (ys : List AV) (S : Subs) : Option (Unit × Subs) := withBox ((sub S r).live p ver) fun fz cells => if fz then none else if off + n ≤ cells.length then (if r < S.length then some ((), S.set r ((sub S r).put p (ver, some (.box false (cells.take off ++ ys ++ cells.drop (off + n)))))) else none) else none
@[simp] theorem store_loc (x : AV) : (aStore P t (.loc r p ver off) x).run S = (szT P t).bind fun n => if (cellsS x).length = n then thenR ((settle r p off (cellsS x)).run S) fun ys S => stBox off n r p ver ys S else none := by
  unfold aStore
  cases szT P t with
  | none => rfl
  | some n =>
    simp only [Option.bind_some]
    split
    · simp only [run_thenR, run_get]
      congr 1
      funext ys S1
      refine withBox_eq _ _ _ (fun fz cells h => ?_) (fun h => ?_)
      · rw [h]
        cases fz
        · simp only [Bool.false_eq_true, if_false]; split <;> rfl
        · rfl
      · split
        · rename_i h2; exact (h _ _ h2).elim
        · rfl
    · rfl
def stArr (off n : Nat) (r : Nat) (p : List Nat) (ver i : Nat) (ys : List AV) (S : Subs) : Option (Unit × Subs) := withArr ((sub S r).live p ver) fun nl fz sz e el => if fz then none else if off + n ≤ sz ∧ ys.all cellAV = true ∧ 0 < n then (if r < S.length then some ((), S.set r ((sub S r).put p (ver, some (.arr nl false sz e (el.set i (setEl (el.getD i .dead) off ys)))))) else none) else none
@[simp] theorem store_elt (x : AV) : (aStore P t (.elt r p ver i off) x).run S = (szT P t).bind fun n => if (cellsS x).length = n then thenR (mapR (pub 4) (cellsS x) S) fun ys S => stArr off n r p ver i ys S else none := by
  unfold aStore
  cases szT P t with
  | none => rfl
  | some n =>
    simp only [Option.bind_some]
    split
    · simp only [run_thenR, mapR_run, run_get]
      congr 1
      funext ys S1
      refine withArr_eq _ _ _ (fun nl fz sz e el h => ?_) (fun h => ?_)
      · rw [h]
        cases fz
        · simp only [Bool.false_eq_true, if_false]; split <;> rfl
        · rfl
      · split
        · rename_i h2; exact (h _ _ _ _ _ h2).elim
        · rfl
    · rfl
@[simp] theorem index_own (k : IntKind) (n : Int) {e : TypeId} {sz : Nat} (he : sliceT P t = some e) (hs : szT P e = some sz) : (aIndex P t (.own r p ver lo hi) (.v (.int k n))).run S = withArr ((sub S r).live p ver) fun _ _ sz' _ _ => if 0 ≤ n ∧ n < ((hi - lo : Nat) : Int) ∧ sz' = sz then some (.elt r p ver (lo + n.toNat) 0, S) else none := by
  simp only [aIndex, he, hs, run_get]
  refine withArr_eq _ _ _ (fun nl fz sz e el h => ?_) (fun h => ?_)
  · rw [h]; simp only []; split <;> rfl
  · split
    · rename_i h2; exact (h _ _ _ _ _ h2).elim
    · rfl
@[simp] theorem index_sl (k : IntKind) (n : Int) {e : TypeId} {sz : Nat} (he : sliceT P t = some e) (hs : szT P e = some sz) (nl : Bool) (l : List AV) : (aIndex P t (.sl nl l) (.v (.int k n))).run S = if 0 ≤ n ∧ n < (l.length : Int) ∧ (cellsOf (l.getD n.toNat .dead)).length = sz then some (.ref (cellsOf (l.getD n.toNat .dead)), S) else none := by
  simp only [aIndex, he, hs]
  split <;> rfl
@[simp] theorem index_arr (k : IntKind) (n : Int) {e : TypeId} {len sz : Nat} (h0 : sliceT P t = none) (he : arrT P t = some (len, e)) (hs : szT P e = some sz) : (aIndex P t (.loc r p ver off) (.v (.int k n))).run S = if 0 ≤ n ∧ n < (len : Int) then withBox ((sub S r).live p ver) fun _ _ => some (.loc r p ver (off + n.toNat * sz), S) else none := by
  simp only [aIndex, h0, he, hs]
  split
  · simp only [isLive, run_thenR, run_get]
    refine withBox_eq _ _ _ (fun fz cells h => ?_) (fun h => ?_)
    · rw [h]; rfl
    · split
      · rename_i h2; exact (h _ _ h2).elim
      · rfl
  · rfl
@[simp] theorem len_own {e : TypeId} (he : sliceT P t = some e) : (aLen P t (.own r p ver lo hi)).run S = withArr ((sub S r).live p ver) fun _ _ _ _ _ => some (.v (.int .i64 ((hi - lo : Nat) : Int)), S) := by
  simp only [aLen, he, isLive, run_thenR, run_get]
  refine withArr_eq _ _ _ (fun nl fz sz e el h => ?_) (fun h => ?_)
  · rw [h]; rfl
  · split
    · rename_i h2; exact (h _ _ _ _ _ h2).elim
    · rfl
@[simp] theorem len_sl {e : TypeId} (he : sliceT P t = some e) (nl : Bool) (l : List AV) : (aLen P t (.sl nl l)).run S = some (.v (.int .i64 (l.length : Int)), S) := by
  simp only [aLen, he, run_ret]
@[simp] theorem slice_own {e : TypeId} {sz : Nat} (he : sliceT P t = some e) (hs : szT P e = some sz) (a b : Option AV) : (aSlice P t (.own r p ver lo hi) a b none).run S = withArr ((sub S r).live p ver) fun _ _ sz' _ _ => (bnd 0 a).bind fun x => (bnd (hi - lo) b).bind fun y => if x ≤ y ∧ y ≤ hi - lo ∧ sz' = sz then some (.own r p ver (lo + x) (lo + y), S) else none := by
  simp only [aSlice, he, hs, run_get]
  refine withArr_eq _ _ _ (fun nl fz sz' e el h => ?_) (fun h => ?_)
  · rw [h]
    cases bnd 0 a <;> cases bnd (hi - lo) b <;> simp only [Option.bind_none, Option.bind_some, run_fail]
    split <;> rfl
  · split
    · rename_i h2; exact (h _ _ _ _ _ h2).elim
    · rfl
@[simp] theorem slice_sl {e : TypeId} {sz : Nat} (he : sliceT P t = some e) (hs : szT P e = some sz) (a b : Option AV) (nl : Bool) (l : List AV) : (aSlice P t (.sl nl l) a b none).run S = (bnd 0 a).bind fun x => (bnd l.length b).bind fun y => if x ≤ y ∧ y ≤ l.length ∧ l.all (fun x => (cellsOf x).length == sz) then some (.sl nl ((l.take y).drop x), S) else none := by
  simp only [aSlice, he, hs, mxA, mxOk]
  cases bnd 0 a <;> cases bnd l.length b <;> simp only [Option.bind_none, Option.bind_some, run_fail, true_and]
  split <;> rfl
@[simp] theorem bnd_none (n : Nat) : bnd n none = some n := rfl
@[simp] theorem bnd_int (n : Nat) (k : IntKind) (m : Int) : bnd n (some (.v (.int k m))) = if 0 ≤ m then some m.toNat else none := rfl

/-! ### What is appended -/
def elemsR (sz : Nat) (x : AV) (S : Subs) : Option (List AV × Subs) := (elemsRW sz x).run S
@[simp] theorem elems_own (sz : Nat) : elemsR sz (.own r p ver lo hi) S = withArr ((sub S r).live p ver) fun _ _ sz' _ el => if sz' = sz then some ((el.take hi).drop lo, S) else none := by
  unfold elemsR elemsRW
  simp only [run_get]
  refine withArr_eq _ _ _ (fun nl fz sz' e el h => ?_) (fun h => ?_)
  · rw [h]; simp only []; split <;> rfl
  · split
    · rename_i h2; exact (h _ _ _ _ _ h2).elim
    · rfl
@[simp] theorem elems_sl (sz : Nat) (nl : Bool) (l : List AV) : elemsR sz (.sl nl l) S = if l.all (fun x => (cellsOf x).length == sz) then some (l, S) else none := by
  simp only [elemsR, elemsRW]
  split <;> rfl
@[simp] theorem elems_nil (sz : Nat) : elemsR sz (.v (.slice none 0 0)) S = some ([], S) := rfl
def growA (d : Nat) (sz by_ : Nat) (e : TypeId) (s : AV) (news : List AV) (S : Subs) : Option (AV × Subs) :=
  (if nilV s then
    if news.length * (by_ + 1) ≤ 140737488355328 then newArr d news.isEmpty sz e news else .fail
  else match s with
    | .own r p ver lo hi => .get r fun st => match st.live p ver with
      | some (.arr nl false sz' e' el) =>
        if lo = 0 ∧ sz' = sz ∧ e' = e ∧ (hi + news.length) * (by_ + 1) ≤ 140737488355328 then .put r (st.put p (ver, none)) (newArr d (nl && news.isEmpty) sz e (el.take hi ++ news)) else .fail
      | _ => .fail
    | _ => .fail).run S
@[simp] theorem grow_nil (sz by_ : Nat) (e : TypeId) (news : List AV) : growA d sz by_ e (.v (.slice none 0 0)) news S = if news.length * (by_ + 1) ≤ 140737488355328 then (newArr d news.isEmpty sz e news).run S else none := by
  simp only [growA, nilV, if_true]
  split <;> rfl
@[simp] theorem grow_own (sz by_ : Nat) (e : TypeId) (news : List AV) : growA d sz by_ e (.own r p ver lo hi) news S = withArr ((sub S r).live p ver) fun nl fz sz' e' el => if fz then none else if lo = 0 ∧ sz' = sz ∧ e' = e ∧ (hi + news.length) * (by_ + 1) ≤ 140737488355328 then (if r < S.length then (newArr d (nl && news.isEmpty) sz e (el.take hi ++ news)).run (S.set r ((sub S r).put p (ver, none))) else none) else none := by
  unfold growA
  simp only [nilV, Bool.false_eq_true, if_false, run_get]
  refine withArr_eq _ _ _ (fun nl fz sz' e' el h => ?_) (fun h => ?_)
  · rw [h]
    cases fz
    · simp only [Bool.false_eq_true, if_false]; split <;> rfl
    · rfl
  · split
    · rename_i h2; exact (h _ _ _ _ _ h2).elim
    · rfl
theorem append_run {e : TypeId} {sz by_ : Nat} {z : List Value} {zel : AV} (he : sliceT P t = some e) (hs : elT P e = some (sz, by_, z, zel)) (s x : AV) : (aAppend P d t s x).run S = thenR (elemsR sz x S) fun news S => growA d sz by_ e s news S := by
  simp only [aAppend, he, hs, run_thenR]
  rfl
theorem makeSlice_run {e : TypeId} {sz by_ : Nat} {z : List Value} {zel : AV} (he : sliceT P t = some e) (hs : elT P e = some (sz, by_, z, zel)) (k k' : IntKind) (n m : Int) : (aMakeSlice P d t (.v (.int k n)) (.v (.int k' m))).run S = if 0 ≤ n ∧ n ≤ m ∧ m.toNat * (by_ + 1) ≤ 140737488355328 then (newArr d false sz e (List.replicate n.toNat zel)).run S else none := by
  simp only [aMakeSlice, he, hs]
  split <;> rfl
theorem buildSlice_run {e : TypeId} {sz by_ : Nat} {z : List Value} {zel : AV} (he : sliceT P t = some e) (hs : elT P e = some (sz, by_, z, zel)) (len : Nat) (is : List Nat) (xs : List AV) : (aBuildSlice P d t len is xs).run S = if len * sz ≤ 16777216 then thenR (mapR (pub 4) xs S) fun ys S => (setAll sz (List.replicate len zel) (is.zip ys)).bind fun el => (newArr d false sz e el).run S else none := by
  simp only [aBuildSlice, he, hs]
  split
  · simp only [run_thenR, mapR_run]
    congr 1
    funext ys S
    cases setAll sz (List.replicate len zel) (is.zip ys) <;> rfl
  · rfl
end
end Go.Proofs.YtmekfllddifglaaDoor.AM

/- The abstract machine, part Ng: how it is reckoned: calls, built-ins, drawn regions. Conditions: none. -/
set_option linter.unusedVariables false
set_option linter.unusedSimpArgs false
namespace Go.Proofs.YtmekfllddifglaaDoor.AM
open Go

theorem still_map {α β : Type} (P : Program) (f : α → β) (s : Sem α) : still P (f <$> s) = (still P s).map f := by
  rw [← bind_pure_comp, still_bind]
  cases still P s <;> rfl
section
variable (G : Gl) (P : Program) (T : Tbl) (sl : List AV) (S : Subs) (dst : Option Tmp) (ty : TypeId) (pos : String) (af : Array Edge) (gd : Option (Nat × Bool))
noncomputable def stillO (o : Oper) (ρ : Operand → AV) (S : Subs) : Option (AV × Subs) := (aStill P o ρ).map (·, S)
noncomputable def lenA (t : TypeId) (u : AV) (S : Subs) : Option (AV × Subs) := match conc u with
  | some y => ((still P (Builtin.len_ #[t] 0 #[y])).map ofV).map (·, S)
  | none => (aLen P t u).run S
@[simp] theorem stepO_len (x : Operand) (t : TypeId) : stepO G (carry P T) ⟨dst, .call ⟨.builtin .len, #[x], #[t]⟩, ty, pos, af, gd⟩ ⟨sl, S⟩ = finO dst sl (lenA P t (opd G sl x) S) := by
  simp only [stepO, carry, aop, aBuiltin, finO, lenA]
  cases h : conc (opd G sl x) with
  | none => rfl
  | some y =>
    simp only [Option.isSome_some, if_true, ofO_run]
    congr 2
    simp only [aStill, Op.operands, Call.operands]
    have : (Array.all (#[] ++ #[x]) fun z => (conc (opd G sl z)).isSome) = true := by simp [h]
    simp only [this, if_true, execOp]
    simp [resolve, invoke, builtin, h, still_map]
    have : Builtin.len_ #[t] ty #[y] = Builtin.len_ #[t] 0 #[y] := rfl
    rw [this]
    cases still P (Builtin.len_ #[t] 0 #[y]) <;> rfl
@[simp] theorem lenA_sl {t e : TypeId} (he : sliceT P t = some e) (nl : Bool) (l : List AV) : lenA P t (.sl nl l) S = some (.v (.int .i64 (l.length : Int)), S) := len_sl P S t he nl l
@[simp] theorem lenA_own {t e : TypeId} (he : sliceT P t = some e) (r : Nat) (p : List Nat) (ver lo hi : Nat) : lenA P t (.own r p ver lo hi) S = withArr ((sub S r).live p ver) fun _ _ _ _ _ => some (.v (.int .i64 ((hi - lo : Nat) : Int)), S) := len_own P S t r p ver lo hi he
@[simp] theorem lenA_nil {t e : TypeId} (he : sliceT P t = some e) : lenA P t (.v (.slice none 0 0)) S = some (.v (.int .i64 0), S) := by
  have := sliceT_of he
  simp [lenA, conc, Builtin.len_, still_under P t this, ofV, goInt]
@[simp] theorem lenA_str {t : TypeId} (he : strT P t = true) (s : ByteArray) : lenA P t (.v (.string s)) S = some (.v (.int .i64 (s.size : Int)), S) := by
  have : P.underlying t = some .string := by
    unfold strT at he
    split at he
    · assumption
    · cases he
  simp [lenA, conc, Builtin.len_, still_under P t this, ofV, goInt]
@[simp] theorem stepO_append (s x : Operand) (t : TypeId) : stepO G (carry P T) ⟨dst, .call ⟨.builtin .append, #[s, x], #[t, t]⟩, ty, pos, af, gd⟩ ⟨sl, S⟩ = finO dst sl ((aAppend P (dst.getD 0) t (opd G sl s) (opd G sl x)).run S) := by
  simp only [stepO, carry, aop, aBuiltin, if_true]
  rfl
def callA (v : AV) (args : List AV) (S : Subs) : Option (AV × Subs) := match v with
  | .clo g first caps => (match T g with
    | some (md, F) => (aCall F md (first ++ (args ++ caps))).run S
    | none => none)
  | _ => none
@[simp] theorem stepO_call (f : Operand) (args : Array Operand) (ats : Array TypeId) : stepO G (carry P T) ⟨dst, .call ⟨.value f, args, ats⟩, ty, pos, af, gd⟩ ⟨sl, S⟩ = finO dst sl (callA T (opd G sl f) (args.toList.map (opd G sl)) S) := by
  simp only [stepO, carry, finO, callA]
  cases opd G sl f <;> try rfl
  rename_i g first caps
  simp only []
  cases T g <;> rfl
@[simp] theorem stepO_slice (t : TypeId) (x : Operand) (lo hi mx : Option Operand) : stepO G (carry P T) ⟨dst, .slice t x lo hi mx, ty, pos, af, gd⟩ ⟨sl, S⟩ = finO dst sl (if (conc (opd G sl x)).isSome then stillO P ⟨dst, .slice t x lo hi mx, ty, pos, af, gd⟩ (opd G sl) S else (aSlice P t (opd G sl x) (lo.map (opd G sl)) (hi.map (opd G sl)) (mx.map (opd G sl))).run S) := by
  simp only [stepO, carry, aop, finO, stillO]
  split
  · rw [ofO_run]
  · rfl
@[simp] theorem stepO_index (t : TypeId) (x i : Operand) : stepO G (carry P T) ⟨dst, .index t x i, ty, pos, af, gd⟩ ⟨sl, S⟩ = finO dst sl (if (conc (opd G sl x)).isSome then stillO P ⟨dst, .index t x i, ty, pos, af, gd⟩ (opd G sl) S else (aIndex1 P t (opd G sl x) (opd G sl i)).map (·, S)) := by
  simp only [stepO, carry, aop, finO, stillO]
  split <;> rw [ofO_run]
@[simp] theorem stepO_assert (x : Operand) (t a : TypeId) (ok : Bool) : stepO G (carry P T) ⟨dst, .typeAssert x t a ok, ty, pos, af, gd⟩ ⟨sl, S⟩ = finO dst sl (if (conc (opd G sl x)).isSome then stillO P ⟨dst, .typeAssert x t a ok, ty, pos, af, gd⟩ (opd G sl) S else (aAssert P (opd G sl x) a ok).map (·, S)) := by
  simp only [stepO, carry, aop, finO, stillO]
  split <;> rw [ofO_run]
end

/-! ### A call -/
theorem aCall_run (F : FnA) (md : List Bool) (args : List AV) (S : Subs) : (aCall F md args).run S = thenR ((prepA md args).run S) fun xs S => thenR ((gather xs).run S) fun qs S => if (roots qs).Nodup then
    (F (argsIn qs) (subsIn qs)).bind fun y => thenR ((putB qs y.2 qs 0).run S) fun _ S => some (y.1, S) else none := by
  simp only [aCall, run_thenR]
  congr 1
  funext xs S1
  congr 1
  funext qs S2
  split
  · cases F (argsIn qs) (subsIn qs) with
    | none => rfl
    | some y =>
      simp only [Option.bind_some, run_thenR, run_ret]
  · rfl
def PL := Option (List Arg × Subs)
def prepR (md : List Bool) (args : List AV) (S : Subs) : Option (List Arg × Subs) := (prepA md args).run S
@[simp] theorem prepR_nil (md : List Bool) (S : Subs) : prepR md [] S = some ([], S) := by cases md <;> rfl
@[simp] theorem prepR_imm0 (x : AV) (l : List AV) (S : Subs) : prepR [] (x :: l) S = thenR ((pub 60 x).run S) fun y S => thenR (prepR [] l S) fun l' S => some ((y, none) :: l', S) := by
  simp only [prepR, prepA, List.headD_nil, Bool.false_eq_true, if_false, run_thenR, run_ret, List.tail_nil]
@[simp] theorem prepR_imm (md : List Bool) (x : AV) (l : List AV) (S : Subs) : prepR (false :: md) (x :: l) S = thenR ((pub 60 x).run S) fun y S => thenR (prepR md l S) fun l' S => some ((y, none) :: l', S) := by
  simp only [prepR, prepA, List.headD_cons, Bool.false_eq_true, if_false, run_thenR, run_ret, List.tail_cons]
def prepM (x : AV) (t : Option (Nat × List Nat)) (md : List Bool) (l : List AV) (S : Subs) : Option (List Arg × Subs) := match t with
  | some t => thenR (prepR md l S) fun l' S => some ((x, some t) :: l', S)
  | none => thenR ((pub 60 x).run S) fun y S => thenR (prepR md l S) fun l' S => some ((y, none) :: l', S)
@[simp] theorem prepM_some (x : AV) (t : Nat × List Nat) (md : List Bool) (l : List AV) (S : Subs) : prepM x (some t) md l S = thenR (prepR md l S) fun l' S => some ((x, some t) :: l', S) := rfl
@[simp] theorem prepM_none (x : AV) (md : List Bool) (l : List AV) (S : Subs) : prepM x none md l S = thenR ((pub 60 x).run S) fun y S => thenR (prepR md l S) fun l' S => some ((y, none) :: l', S) := rfl
@[simp] theorem prepR_mut (md : List Bool) (x : AV) (l : List AV) (S : Subs) : prepR (true :: md) (x :: l) S = prepM x (tgt x) md l S := by
  simp only [prepR, prepA, List.headD_cons, if_true, List.tail_cons, prepM]
  cases tgt x with
  | none => simp only [run_thenR, run_ret]
  | some t => simp only [run_thenR, run_ret]
def gathR (xs : List Arg) (S : Subs) : Option (List Pass × Subs) := (gather xs).run S
@[simp] theorem gathR_nil (S : Subs) : gathR [] S = some ([], S) := rfl
@[simp] theorem gathR_imm (x : AV) (l : List Arg) (S : Subs) : gathR ((x, none) :: l) S = thenR (gathR l S) fun l' S => some ((x, none) :: l', S) := by
  simp only [gathR, gather, run_thenR, run_ret]
@[simp] theorem gathR_mut (x : AV) (r : Nat) (p : List Nat) (l : List Arg) (S : Subs) : gathR ((x, some (r, p)) :: l) S = thenR (gathR l S) fun l' S' => some ((x, some (r, p, sub S r)) :: l', S') := by
  simp only [gathR, gather, run_get, run_thenR, run_ret]
def putR (qs : List Pass) (Sc : Subs) (l : List Pass) (j : Nat) (S : Subs) : Option (Unit × Subs) := (putB qs Sc l j).run S
@[simp] theorem putR_nil (qs : List Pass) (Sc : Subs) (j : Nat) (S : Subs) : putR qs Sc [] j S = some ((), S) := rfl
@[simp] theorem putR_imm (qs : List Pass) (Sc : Subs) (x : AV) (l : List Pass) (j : Nat) (S : Subs) : putR qs Sc ((x, none) :: l) j S = putR qs Sc l (j + 1) S := rfl
@[simp] theorem putR_mut (qs : List Pass) (Sc : Subs) (x : AV) (r : Nat) (p : List Nat) (s : Sub) (l : List Pass) (j : Nat) (S : Subs) : putR qs Sc ((x, some (r, p, s)) :: l) j S = if r < S.length then putR qs Sc l (j + 1) (S.set r (subOut p (φout qs Sc) s (sub Sc j))) else none := rfl
@[simp] theorem roots_nil : roots [] = [] := rfl
@[simp] theorem roots_imm (x : AV) (l : List Pass) : roots ((x, none) :: l) = roots l := rfl
@[simp] theorem roots_mut (x : AV) (y : Nat × List Nat × Sub) (l : List Pass) : roots ((x, some y) :: l) = y.1 :: roots l := rfl
@[simp] theorem tgt_loc (r : Nat) (p : List Nat) (v o : Nat) : tgt (.loc r p v o) = some (r, p) := rfl
@[simp] theorem tgt_own (r : Nat) (p : List Nat) (v lo hi : Nat) : tgt (.own r p v lo hi) = some (r, p) := rfl
@[simp] theorem tgt_ifc (t : TypeId) (x : AV) : tgt (.ifc t x) = tgt x := rfl
@[simp] theorem tgt_ref (l : List AV) : tgt (.ref l) = none := rfl
@[simp] theorem tgt_sl (n : Bool) (l : List AV) : tgt (.sl n l) = none := rfl
@[simp] theorem tgt_v (x : Value) : tgt (.v x) = none := rfl
attribute [simp] strip
end Go.Proofs.YtmekfllddifglaaDoor.AM
