/- The relax seat: Ma, Mb, Mc, Md. Conditions: none. -/
import Derived.Calls
import Derived.CallsIn
import Derived.Laws.AppendOwn
import Derived.Below
import Derived.Laws.Cells
import Derived.Laws.CopyRow
set_option linter.unusedVariables false
set_option linter.unusedSimpArgs false
/- The abstract machine, part a: abstract values, objects, stores, what is worldless. Conditions: none. -/
namespace Go.Proofs.YtmekfllddifglaaDoor.AM
open Go

/-! ### What a memory-free program of the model comes to -/
def still {α : Type} (P : Program) : Sem α → Option α
  | .pure a => some a
  | .program k => still P (k P)
  | .mark _ k => still P k
  | _ => none

theorem still_run {α : Type} {P : Program} : ∀ (s : Sem α) {a : α}, still P s = some a → ∀ w, s.run P w = .ok a w
  | .pure a, b, h, w => by simp only [still, Option.some.injEq] at h; subst h; rfl
  | .program k, b, h, w => by simp only [still] at h; simpa [Sem.run] using still_run (k P) h w
  | .mark m k, b, h, w => by simp only [still] at h; simpa [Sem.run] using still_run k h w
  | .load .., b, h, w => by simp [still] at h
  | .store .., b, h, w => by simp [still] at h
  | .new .., b, h, w => by simp [still] at h
  | .shape .., b, h, w => by simp [still] at h
  | .freeze .., b, h, w => by simp [still] at h
  | .frozen .., b, h, w => by simp [still] at h
  | .getObj .., b, h, w => by simp [still] at h
  | .setObj .., b, h, w => by simp [still] at h
  | .choose .., b, h, w => by simp [still] at h
  | .sys .., b, h, w => by simp [still] at h
  | .halt _, b, h, w => by simp [still] at h

@[simp] theorem still_pure {α : Type} (P : Program) (a : α) : still P (pure a : Sem α) = some a := rfl
theorem still_bind' {α β : Type} (P : Program) (f : α → Sem β) : ∀ (s : Sem α), still P (s.bind f) = (still P s).bind fun a => still P (f a)
  | .pure a => rfl
  | .program k => by simp only [Sem.bind, still]; exact still_bind' P f (k P)
  | .mark m k => by simp only [Sem.bind, still]; exact still_bind' P f k
  | .load .. | .store .. | .new .. | .shape .. | .freeze .. | .frozen .. | .getObj .. | .setObj .. | .choose .. | .sys .. | .halt _ => by
    simp [Sem.bind, still]
@[simp] theorem still_bind {α β : Type} (P : Program) (s : Sem α) (f : α → Sem β) : still P (s >>= f) = (still P s).bind fun a => still P (f a) := still_bind' P f s

/-! ### Abstract values -/
inductive AV where
  | dead
  | v (x : Value)
  | agg (l : List AV)
  | tup (l : List AV)
  | sl (nl : Bool) (l : List AV)
  | ref (l : List AV)
  | ifc (t : TypeId) (x : AV)
  | loc (r : Nat) (p : List Nat) (ver off : Nat)
  | own (r : Nat) (p : List Nat) (ver lo hi : Nat)
  | elt (r : Nat) (p : List Nat) (ver i off : Nat)
  | clo (f : FuncId) (first caps : List AV)
  | mp (r : Nat) (p : List Nat) (ver : Nat)
  | yld (r : Nat) (p : List Nat) (ver : Nat)
  deriving Inhabited

/-- The cells of an element. -/
def cellsOf : AV → List AV
  | .agg l => l
  | x => [x]

/-- A range over a function: where a round's values go, its code, what is told of its drawn regions. -/
structure LoopC where
  ps : Array Tmp
  asg : Code
  body : Code
  sus : Nat → List (Nat × List Nat)
/-- What owns memory. -/
inductive Ob where
  | box (fz : Bool) (cells : List AV)
  | arr (nl fz : Bool) (sz : Nat) (e : TypeId) (elems : List AV)
  | map (t : TypeId) (entries : List (Value × AV))
  | loop (s : LoopState) (j : Option Code) (sl : List AV) (c : LoopC)
  deriving Inhabited

abbrev Ent := Nat × Option Ob
abbrev Sub := List (List Nat × Ent)

def Sub.ent : Sub → List Nat → Ent
  | [], _ => (0, none)
  | (q, e) :: s, p => if q = p then e else Sub.ent s p
def Sub.put : Sub → List Nat → Ent → Sub
  | [], p, e => [(p, e)]
  | (q, e') :: s, p, e => if q = p then (q, e) :: s else (q, e') :: Sub.put s p e
theorem Sub.ent_put_same (s : Sub) (p : List Nat) (e : Ent) : (s.put p e).ent p = e := by
  induction s with
  | nil => simp [Sub.put, Sub.ent]
  | cons x s ih =>
    obtain ⟨q, e'⟩ := x
    by_cases h : q = p
    · simp [Sub.put, Sub.ent, h]
    · simp [Sub.put, Sub.ent, h, ih]
theorem Sub.ent_put_ne (s : Sub) {p q : List Nat} (e : Ent) (h : q ≠ p) : (s.put p e).ent q = s.ent q := by
  induction s with
  | nil => simp [Sub.put, Sub.ent, Ne.symm h]
  | cons x s ih =>
    obtain ⟨q', e'⟩ := x
    by_cases h' : q' = p
    · subst h'; simp [Sub.put, Sub.ent, Ne.symm h]
    · by_cases h'' : q' = q
      · subst h''; simp [Sub.put, Sub.ent, h']
      · simp [Sub.put, Sub.ent, h', h'', ih]

/-- The live object of that version. -/
def Sub.live (s : Sub) (p : List Nat) (ver : Nat) : Option Ob := if (s.ent p).1 = ver then (s.ent p).2 else none
theorem Sub.live_ent {s : Sub} {p : List Nat} {ver : Nat} {o : Ob} (h : s.live p ver = some o) : s.ent p = (ver, some o) := by
  unfold Sub.live at h
  split at h
  · rename_i hv; exact Prod.ext hv h
  · cases h

abbrev Subs := List Sub
def sub (S : Subs) (r : Nat) : Sub := S.getD r []
def live (S : Subs) (r : Nat) (p : List Nat) (ver : Nat) : Option Ob := (sub S r).live p ver
def ctr (S : Subs) (r : Nat) (p : List Nat) : Nat := ((sub S r).ent p).1

/-! ### Programs over a store, whose reach is seen -/
inductive RW (α : Type) where
  | ret (a : α)
  | fail
  | get (r : Nat) (k : Sub → RW α)
  | put (r : Nat) (s : Sub) (k : RW α)
  | all (f : Subs → Option (α × Subs))

/-- A store of that many roots. -/
def lenO {α : Type} (n : Nat) (x : Option (α × Subs)) : Option (α × Subs) := x.bind fun y => if y.2.length = n then some y else none
theorem lenO_some {α : Type} {n : Nat} {x : Option (α × Subs)} {y : α × Subs} (h : lenO n x = some y) : x = some y ∧ y.2.length = n := by
  unfold lenO at h
  obtain ⟨z, h1, h2⟩ := Option.bind_eq_some_iff.1 h
  split at h2
  · rename_i e; cases h2; exact ⟨h1, e⟩
  · cases h2
def RW.run {α : Type} : RW α → Subs → Option (α × Subs)
  | .ret a, S => some (a, S)
  | .fail, _ => none
  | .get r k, S => (k (sub S r)).run S
  | .put r s k, S => if r < S.length then k.run (S.set r s) else none
  | .all f, S => lenO S.length (f S)
def RW.bind {α β : Type} : RW α → (α → RW β) → RW β
  | .ret a, f => f a
  | .fail, _ => .fail
  | .get r k, f => .get r fun s => (k s).bind f
  | .put r s k, f => .put r s (k.bind f)
  | .all g, f => .all fun S => (lenO S.length (g S)).bind fun y => (f y.1).run y.2
theorem RW.len_run {α : Type} : ∀ (m : RW α) (S : Subs) (x : α) (S' : Subs), m.run S = some (x, S') → S'.length = S.length
  | .ret a, S, x, S', h => by simp only [RW.run, Option.some.injEq, Prod.mk.injEq] at h; rw [h.2]
  | .fail, S, x, S', h => by simp [RW.run] at h
  | .get r k, S, x, S', h => RW.len_run (k (sub S r)) S x S' h
  | .put r s k, S, x, S', h => by
    simp only [RW.run] at h
    split at h
    · have := RW.len_run k _ x S' h; simpa using this
    · cases h
  | .all f, S, x, S', h => (lenO_some h).2
def RW.ofO {α : Type} : Option α → RW α
  | some a => .ret a
  | none => .fail
/-- What is read, and what is written, in this store. -/
def RW.reach {α : Type} : RW α → Subs → List Nat × List Nat
  | .ret _, _ | .fail, _ => ([], [])
  | .get r k, S => let x := (k (sub S r)).reach S; (r :: x.1, x.2)
  | .put r s k, S => let x := k.reach (S.set r s); (x.1, r :: x.2)
  | .all _, S => (List.range S.length, List.range S.length)
theorem RW.run_bind {α β : Type} (f : α → RW β) : ∀ (x : RW α) (S : Subs), (x.bind f).run S = (x.run S).bind fun y => (f y.1).run y.2
  | .ret _, _ => rfl
  | .fail, _ => rfl
  | .get r k, S => by simp only [RW.bind, RW.run]; exact RW.run_bind f (k (sub S r)) S
  | .put r s k, S => by
    simp only [RW.bind, RW.run]
    split
    · exact RW.run_bind f k (S.set r s)
    · rfl
  | .all g, S => by
    simp only [RW.bind, RW.run]
    cases hg : lenO S.length (g S) with
    | none => rfl
    | some y =>
      obtain ⟨_, hl⟩ := lenO_some hg
      simp only [Option.bind_some]
      cases hf : (f y.1).run y.2 with
      | none => rfl
      | some z =>
        obtain ⟨z, S'⟩ := z
        have := RW.len_run (f y.1) y.2 z S' hf
        simp [lenO, this, hl]

/-! ### The relations: what cannot change any more -/
section
variable (imm : Nat → Prop) (w : World)
mutual
def IRel : AV → Value → Prop
  | .v x, u => u = x
  | .agg l, u => ∃ us : List Value, u = .agg us.toArray ∧ IRels l us
  | .tup l, u => ∃ us : List Value, u = .tuple us.toArray ∧ IRels l us
  | .sl nl l, u => ∃ a n cap, u = .slice a n cap ∧ n = l.length ∧ n ≤ cap ∧ (∀ x ∈ l, ∀ y ∈ l, (cellsOf x).length = (cellsOf y).length) ∧ (nl = true → a = none ∧ n = 0 ∧ cap = 0) ∧ (nl = false → ∃ a', a = some a' ∧ (l ≠ [] → a'.spot = none) ∧ ElemsAt l a'.block a'.off)
  | .ref l, u => ∃ b o, u = .pointer (some ⟨b, o, none⟩) ∧ CellsAt l b o
  | .ifc t x, u => ∃ y, u = .iface t y ∧ IRel x y
  | .clo f fs cs, u => ∃ us vs : List Value, u = .func (.func f) us.toArray vs.toArray ∧ IRels fs us ∧ IRels cs vs
  | .dead, _ => False
  | .loc _ _ _ _, _ => False
  | .own _ _ _ _ _, _ => False
  | .elt _ _ _ _ _, _ => False
  | .mp _ _ _, _ => False
  | .yld _ _ _, _ => False
def IRels : List AV → List Value → Prop
  | [], us => us = []
  | x :: xs, us => ∃ u us', us = u :: us' ∧ IRel x u ∧ IRels xs us'
def CellsAt : List AV → Nat → Nat → Prop
  | [], _, _ => True
  | x :: xs, b, o => (imm b ∧ ∃ u, w.cell? ⟨b, o, none⟩ = some u ∧ u.oneCell' = true ∧ IRel x u) ∧ CellsAt xs b (o + 1)
def ElemsAt : List AV → Nat → Nat → Prop
  | [], _, _ => True
  | .agg l :: xs, b, o => CellsAt l b o ∧ ElemsAt xs b (o + l.length)
  | x :: xs, b, o => (imm b ∧ ∃ u, w.cell? ⟨b, o, none⟩ = some u ∧ u.oneCell' = true ∧ IRel x u) ∧ ElemsAt xs b (o + 1)
end
end

theorem CellsAt_append {imm : Nat → Prop} {w : World} {l m : List AV} {b o : Nat} : CellsAt imm w (l ++ m) b o ↔ CellsAt imm w l b o ∧ CellsAt imm w m b (o + l.length) := by
  induction l generalizing o with
  | nil => simp [CellsAt]
  | cons x l ih => simp only [List.cons_append, CellsAt, ih, List.length_cons, and_assoc, Nat.add_assoc, Nat.add_comm 1]
theorem ElemsAt_iff {imm : Nat → Prop} {w : World} {l : List AV} {b o : Nat} : ElemsAt imm w l b o ↔ CellsAt imm w (l.flatMap cellsOf) b o := by
  induction l generalizing o with
  | nil => simp [ElemsAt, CellsAt]
  | cons x l ih =>
    cases x <;> simp only [ElemsAt, List.flatMap_cons, cellsOf, CellsAt_append, ih, CellsAt, List.length_singleton, and_true]

theorem CellsAt_get {imm : Nat → Prop} {w : World} {l : List AV} {b o : Nat} (h : CellsAt imm w l b o) : ∀ i (hi : i < l.length), imm b ∧ ∃ u, w.cell? ⟨b, o + i, none⟩ = some u ∧ u.oneCell' = true ∧ IRel imm w l[i] u := by
  induction l generalizing o with
  | nil => intro i hi; simp at hi
  | cons x l ih =>
    intro i hi
    cases i with
    | zero => exact h.1
    | succ i =>
      have := ih h.2 i (by simpa using hi)
      simpa [Nat.add_assoc, Nat.add_comm 1] using this

theorem IRels_length {imm : Nat → Prop} {w : World} {l : List AV} {us : List Value} (h : IRels imm w l us) : us.length = l.length := by
  induction l generalizing us with
  | nil => simp only [IRels] at h; subst h; rfl
  | cons x l ih => obtain ⟨u, us', rfl, _, h2⟩ := h; simp [ih h2]
theorem IRels_get {imm : Nat → Prop} {w : World} {l : List AV} {us : List Value} (h : IRels imm w l us) : ∀ i (hi : i < l.length) (hu : i < us.length), IRel imm w l[i] us[i] := by
  induction l generalizing us with
  | nil => intro i hi; simp at hi
  | cons x l ih =>
    obtain ⟨u, us', rfl, h1, h2⟩ := h
    intro i hi hu
    cases i with
    | zero => exact h1
    | succ i => simpa using ih h2 i (by simpa using hi) (by simpa using hu)
theorem IRels_append {imm : Nat → Prop} {w : World} {l m : List AV} {us vs : List Value} (h : IRels imm w l us) (h' : IRels imm w m vs) : IRels imm w (l ++ m) (us ++ vs) := by
  induction l generalizing us with
  | nil => simp only [IRels] at h; subst h; exact h'
  | cons x l ih => obtain ⟨u, us', rfl, h1, h2⟩ := h; exact ⟨u, us' ++ vs, rfl, h1, ih h2⟩

/-- What cannot change has not changed. -/
structure Keeps (imm : Nat → Prop) (w w' : World) : Prop where
  same : ∀ b, imm b → w'.heap[b]? = w.heap[b]?
/-- Of the blocks that cannot change those that are rows of cells still cannot, and have not changed. -/
def KeepsC (imm : Nat → Prop) (w : World) (imm' : Nat → Prop) (w' : World) : Prop := ∀ b c e z, imm b → w.heap[b]? = some (.cells c e z) → imm' b ∧ w'.heap[b]? = w.heap[b]?
theorem Keeps.cells {imm imm' : Nat → Prop} {w w' : World} (hi : ∀ b, imm b → imm' b) (h : Keeps imm w w') : KeepsC imm w imm' w' := fun b _ _ _ hb _ => ⟨hi b hb, h.same b hb⟩
theorem cells_of_cell? {w : World} {a : Addr} {u : Value} (h : w.cell? a = some u) : ∃ c e z, w.heap[a.block]? = some (.cells c e z) := by
  unfold World.cell? at h
  split at h
  · rename_i c e z hc; exact ⟨c, e, z, hc⟩
  · cases h
theorem KeepsC.cell {imm imm' : Nat → Prop} {w w' : World} (h : KeepsC imm w imm' w') {b o : Nat} {u : Value} (hb : imm b) (hc : w.cell? ⟨b, o, none⟩ = some u) : imm' b ∧ w'.cell? ⟨b, o, none⟩ = some u := by
  obtain ⟨c, e, z, hh⟩ := cells_of_cell? hc
  obtain ⟨h1, h2⟩ := h b c e z hb hh
  exact ⟨h1, by rw [← hc]; exact World.cell?_of_block (w := w) h2⟩

section
variable {imm imm' : Nat → Prop} {w w' : World}
mutual
theorem IRel_monoC (hk : KeepsC imm w imm' w') : ∀ (x : AV) (u : Value), IRel imm w x u → IRel imm' w' x u
  | .v x, u, h => h
  | .agg l, u, h => by obtain ⟨us, rfl, h⟩ := h; exact ⟨us, rfl, IRels_monoC hk l us h⟩
  | .tup l, u, h => by obtain ⟨us, rfl, h⟩ := h; exact ⟨us, rfl, IRels_monoC hk l us h⟩
  | .sl nl l, u, h => by
    obtain ⟨a, n, cap, rfl, hn, hc, hu, h1, h2⟩ := h
    exact ⟨a, n, cap, rfl, hn, hc, hu, h1, fun e => by obtain ⟨a', ha, hs, he⟩ := h2 e; exact ⟨a', ha, hs, ElemsAt_monoC hk l _ _ he⟩⟩
  | .ref l, u, h => by obtain ⟨b, o, rfl, h⟩ := h; exact ⟨b, o, rfl, CellsAt_monoC hk l b o h⟩
  | .ifc t x, u, h => by obtain ⟨y, rfl, h⟩ := h; exact ⟨y, rfl, IRel_monoC hk x y h⟩
  | .clo f fs cs, u, h => by obtain ⟨us, vs, rfl, h1, h2⟩ := h; exact ⟨us, vs, rfl, IRels_monoC hk fs us h1, IRels_monoC hk cs vs h2⟩
  | .dead, u, h => h.elim
  | .loc _ _ _ _, u, h => h.elim
  | .own _ _ _ _ _, u, h => h.elim
  | .elt _ _ _ _ _, u, h => h.elim
  | .mp _ _ _, u, h => h.elim
  | .yld _ _ _, u, h => h.elim
theorem IRels_monoC (hk : KeepsC imm w imm' w') : ∀ (l : List AV) (us : List Value), IRels imm w l us → IRels imm' w' l us
  | [], us, h => h
  | x :: l, us, h => by obtain ⟨u, us', rfl, h1, h2⟩ := h; exact ⟨u, us', rfl, IRel_monoC hk x u h1, IRels_monoC hk l us' h2⟩
theorem CellsAt_monoC (hk : KeepsC imm w imm' w') : ∀ (l : List AV) (b o : Nat), CellsAt imm w l b o → CellsAt imm' w' l b o
  | [], b, o, h => trivial
  | x :: l, b, o, h => by
    obtain ⟨⟨hb, u, hc, h1, hx⟩, hl⟩ := h
    exact ⟨⟨(hk.cell hb hc).1, u, (hk.cell hb hc).2, h1, IRel_monoC hk x u hx⟩, CellsAt_monoC hk l b (o + 1) hl⟩
theorem ElemsAt_monoC (hk : KeepsC imm w imm' w') : ∀ (l : List AV) (b o : Nat), ElemsAt imm w l b o → ElemsAt imm' w' l b o
  | [], b, o, h => trivial
  | .agg l :: xs, b, o, h => ⟨CellsAt_monoC hk l b o h.1, ElemsAt_monoC hk xs b _ h.2⟩
  | .dead :: xs, b, o, h => by obtain ⟨⟨hb, u, hc, h1, hx⟩, hl⟩ := h; exact hx.elim
  | .v x :: xs, b, o, h => by
    obtain ⟨⟨hb, u, hc, h1, hx⟩, hl⟩ := h
    exact ⟨⟨(hk.cell hb hc).1, u, (hk.cell hb hc).2, h1, IRel_monoC hk _ u hx⟩, ElemsAt_monoC hk xs b (o + 1) hl⟩
  | .tup l :: xs, b, o, h => by
    obtain ⟨⟨hb, u, hc, h1, hx⟩, hl⟩ := h
    exact ⟨⟨(hk.cell hb hc).1, u, (hk.cell hb hc).2, h1, IRel_monoC hk _ u hx⟩, ElemsAt_monoC hk xs b (o + 1) hl⟩
  | .sl n l :: xs, b, o, h => by
    obtain ⟨⟨hb, u, hc, h1, hx⟩, hl⟩ := h
    exact ⟨⟨(hk.cell hb hc).1, u, (hk.cell hb hc).2, h1, IRel_monoC hk _ u hx⟩, ElemsAt_monoC hk xs b (o + 1) hl⟩
  | .ref l :: xs, b, o, h => by
    obtain ⟨⟨hb, u, hc, h1, hx⟩, hl⟩ := h
    exact ⟨⟨(hk.cell hb hc).1, u, (hk.cell hb hc).2, h1, IRel_monoC hk _ u hx⟩, ElemsAt_monoC hk xs b (o + 1) hl⟩
  | .ifc t x :: xs, b, o, h => by
    obtain ⟨⟨hb, u, hc, h1, hx⟩, hl⟩ := h
    exact ⟨⟨(hk.cell hb hc).1, u, (hk.cell hb hc).2, h1, IRel_monoC hk _ u hx⟩, ElemsAt_monoC hk xs b (o + 1) hl⟩
  | .clo f fs cs :: xs, b, o, h => by
    obtain ⟨⟨hb, u, hc, h1, hx⟩, hl⟩ := h
    exact ⟨⟨(hk.cell hb hc).1, u, (hk.cell hb hc).2, h1, IRel_monoC hk _ u hx⟩, ElemsAt_monoC hk xs b (o + 1) hl⟩
  | .loc _ _ _ _ :: xs, b, o, h => by obtain ⟨⟨hb, u, hc, h1, hx⟩, hl⟩ := h; exact hx.elim
  | .own _ _ _ _ _ :: xs, b, o, h => by obtain ⟨⟨hb, u, hc, h1, hx⟩, hl⟩ := h; exact hx.elim
  | .elt _ _ _ _ _ :: xs, b, o, h => by obtain ⟨⟨hb, u, hc, h1, hx⟩, hl⟩ := h; exact hx.elim
  | .mp _ _ _ :: xs, b, o, h => by obtain ⟨⟨hb, u, hc, h1, hx⟩, hl⟩ := h; exact hx.elim
  | .yld _ _ _ :: xs, b, o, h => by obtain ⟨⟨hb, u, hc, h1, hx⟩, hl⟩ := h; exact hx.elim
end
theorem IRel_mono (hi : ∀ b, imm b → imm' b) (hk : Keeps imm w w') (x : AV) (u : Value) (h : IRel imm w x u) : IRel imm' w' x u := IRel_monoC (hk.cells hi) x u h
theorem IRels_mono (hi : ∀ b, imm b → imm' b) (hk : Keeps imm w w') (l : List AV) (us : List Value) (h : IRels imm w l us) : IRels imm' w' l us := IRels_monoC (hk.cells hi) l us h
theorem CellsAt_mono (hi : ∀ b, imm b → imm' b) (hk : Keeps imm w w') (l : List AV) (b o : Nat) (h : CellsAt imm w l b o) : CellsAt imm' w' l b o := CellsAt_monoC (hk.cells hi) l b o h
theorem ElemsAt_mono (hi : ∀ b, imm b → imm' b) (hk : Keeps imm w w') (l : List AV) (b o : Nat) (h : ElemsAt imm w l b o) : ElemsAt imm' w' l b o := ElemsAt_monoC (hk.cells hi) l b o h
end
end Go.Proofs.YtmekfllddifglaaDoor.AM

/- The abstract machine, part b: what an abstract state says of a world, and how it is carried from step to step. Conditions: none. -/
namespace Go.Proofs.YtmekfllddifglaaDoor.AM
open Go

abbrev Gh := Nat → List Nat → Nat → Value

def bl : Value → Option Nat
  | .pointer (some a) => some a.block
  | .slice (some a) _ _ => some a.block
  | .map (some r) => some r
  | .func (.yield l) _ _ => some l
  | _ => none

def fzOf : Ob → Bool
  | .box fz _ => fz
  | .arr _ fz _ _ _ => fz
  | .map _ _ => false
  | .loop _ _ _ _ => false

/-- What of an object the values that lead to it know. -/
def shp : Ob → Nat × Nat × Nat
  | .box _ _ => (0, 0, 0)
  | .arr _ _ sz _ el => (1, sz, el.length)
  | .map _ _ => (2, 0, 0)
  | .loop _ _ _ _ => (3, 0, 0)

/-- The header of a slice of the elements lo up to hi of an array of n elements, of sz cells each, whose whole is g. -/
def HdrAt (sz n : Nat) (g : Value) (lo hi : Nat) (u : Value) : Prop :=
  ∃ a cap a', g = .slice a n cap ∧ lo ≤ hi ∧ hi ≤ n ∧ n ≤ cap ∧ u = .slice a' (hi - lo) (cap - lo) ∧ (lo = 0 → a' = a) ∧ (lo < hi → ∃ b, a = some ⟨b, 0, none⟩ ∧ a' = some ⟨b, lo * sz, none⟩) ∧ (∀ b, a = some ⟨b, 0, none⟩ → ∃ o, a' = some ⟨b, o, none⟩)

section
variable (S : Subs) (γ : Gh) (imm : Nat → Prop) (w : World)
mutual
def VRel : AV → Value → Prop
  | .dead, _ => True
  | .v x, u => u = x
  | .agg l, u => ∃ us : List Value, u = .agg us.toArray ∧ VRels l us
  | .tup l, u => ∃ us : List Value, u = .tuple us.toArray ∧ VRels l us
  | .ifc t x, u => ∃ y, u = .iface t y ∧ VRel x y
  | .clo f fs cs, u => ∃ us vs : List Value, u = .func (.func f) us.toArray vs.toArray ∧ VRels fs us ∧ VRels cs vs
  | .sl nl l, u => IRel imm w (.sl nl l) u
  | .ref l, u => IRel imm w (.ref l) u
  | .loc r p ver off, u => ver ≤ ctr S r p ∧ ∀ o, live S r p ver = some o → ∃ b, γ r p ver = .pointer (some ⟨b, 0, none⟩) ∧ u = .pointer (some ⟨b, off, none⟩)
  | .own r p ver lo hi, u => ver ≤ ctr S r p ∧ ∀ o, live S r p ver = some o → ∃ sz n, shp o = (1, sz, n) ∧ HdrAt sz n (γ r p ver) lo hi u
  | .elt r p ver i off, u => ver ≤ ctr S r p ∧ ∀ o, live S r p ver = some o → ∃ sz n b cap, shp o = (1, sz, n) ∧ i < n ∧ γ r p ver = .slice (some ⟨b, 0, none⟩) n cap ∧ u = .pointer (some ⟨b, i * sz + off, none⟩)
  | .mp r p ver, u => ver ≤ ctr S r p ∧ ∀ o, live S r p ver = some o → u = γ r p ver
  | .yld r p ver, u => ver ≤ ctr S r p ∧ ∀ o, live S r p ver = some o → ∃ l ts, γ r p ver = .func (.yield l) #[] ts ∧ u = .func (.yield l) #[] #[]
def VRels : List AV → List Value → Prop
  | [], us => us = []
  | x :: xs, us => ∃ u us', us = u :: us' ∧ VRel x u ∧ VRels xs us'
end

def ORel : Ob → Value → Prop
  | .box fz cells, g => ∃ (b : Nat) (cs : List Value) (e : TypeId), g = .pointer (some ⟨b, 0, none⟩) ∧ w.heap[b]? = some (.cells cs.toArray e (0, 0)) ∧ VRels S γ imm w cells cs ∧ (∀ u ∈ cs, u.oneCell' = true) ∧ (fz = true → imm b)
  | .arr nl fz sz e el, g => ∃ xs : List Value, w.ownsRow 0 e sz g el.length xs ∧ IRels imm w (el.flatMap cellsOf) xs ∧ (∀ x ∈ el, (cellsOf x).length = sz) ∧ (∀ u ∈ xs, u.oneCell' = true) ∧ (nl = true ↔ g = .slice none 0 0) ∧ (fz = true → ∀ b, bl g = some b → imm b)
  | .map _ en, g => ∃ (b : Nat) (es : Array MapEntry) (clock : Nat), g = .map (some b) ∧ w.heap[b]? = some (.map es clock) ∧ es.toList.map (·.key) = en.map (·.1) ∧ IRels imm w (en.map (·.2)) (es.toList.map (·.val))
  | .loop s j sl c, g => ∃ (l : Nat) (b : Loop), g = .func (.yield l) #[] b.tmps ∧ w.heap[l]? = some (.loop b) ∧ b.state = s ∧ b.pending = j ∧ b.params = c.ps ∧ b.assign = c.asg ∧ b.body = c.body ∧ sl.length ≤ b.tmps.size ∧ (∀ i, VRel S γ imm w (sl.getD i .dead) (b.tmps.getD i undef))
end

theorem VRels_length {S : Subs} {γ : Gh} {imm : Nat → Prop} {w : World} {l : List AV} {us : List Value} (h : VRels S γ imm w l us) : us.length = l.length := by
  induction l generalizing us with
  | nil => simp only [VRels] at h; subst h; rfl
  | cons x l ih => obtain ⟨u, us', rfl, _, h2⟩ := h; simp [ih h2]
theorem VRels_get {S : Subs} {γ : Gh} {imm : Nat → Prop} {w : World} {l : List AV} {us : List Value} (h : VRels S γ imm w l us) : ∀ i (hi : i < l.length) (hu : i < us.length), VRel S γ imm w l[i] us[i] := by
  induction l generalizing us with
  | nil => intro i hi; simp at hi
  | cons x l ih =>
    obtain ⟨u, us', rfl, h1, h2⟩ := h
    intro i hi hu
    cases i with
    | zero => exact h1
    | succ i => simpa using ih h2 i (by simpa using hi) (by simpa using hu)
theorem VRels_of_get {S : Subs} {γ : Gh} {imm : Nat → Prop} {w : World} {l : List AV} {us : List Value} (hl : us.length = l.length) (h : ∀ i (hi : i < l.length) (hu : i < us.length), VRel S γ imm w l[i] us[i]) : VRels S γ imm w l us := by
  induction l generalizing us with
  | nil => simpa [VRels] using hl
  | cons x l ih =>
    cases us with
    | nil => simp at hl
    | cons u us => exact ⟨u, us, rfl, h 0 (by simp) (by simp), ih (by simpa using hl) fun i hi hu => h (i + 1) (by simp; omega) (by simp; omega)⟩
theorem VRels_append {S : Subs} {γ : Gh} {imm : Nat → Prop} {w : World} {l m : List AV} {us vs : List Value} (h : VRels S γ imm w l us) (h' : VRels S γ imm w m vs) : VRels S γ imm w (l ++ m) (us ++ vs) := by
  induction l generalizing us with
  | nil => simp only [VRels] at h; subst h; exact h'
  | cons x l ih => obtain ⟨u, us', rfl, h1, h2⟩ := h; exact ⟨u, us' ++ vs, rfl, h1, ih h2⟩
theorem VRels_split {S : Subs} {γ : Gh} {imm : Nat → Prop} {w : World} {l m : List AV} {us : List Value} (h : VRels S γ imm w (l ++ m) us) : VRels S γ imm w l (us.take l.length) ∧ VRels S γ imm w m (us.drop l.length) := by
  induction l generalizing us with
  | nil => exact ⟨by simp [VRels], by simpa using h⟩
  | cons x l ih =>
    obtain ⟨u, us', rfl, h1, h2⟩ := h
    obtain ⟨h3, h4⟩ := ih h2
    exact ⟨⟨u, us'.take l.length, by simp, h1, h3⟩, by simpa using h4⟩

mutual
theorem VRel_of_IRel {S : Subs} {γ : Gh} {imm : Nat → Prop} {w : World} : ∀ (x : AV) (u : Value), IRel imm w x u → VRel S γ imm w x u
  | .v x, u, h => h
  | .agg l, u, h => by obtain ⟨us, rfl, h⟩ := h; exact ⟨us, rfl, VRels_of_IRels l us h⟩
  | .tup l, u, h => by obtain ⟨us, rfl, h⟩ := h; exact ⟨us, rfl, VRels_of_IRels l us h⟩
  | .sl nl l, u, h => h
  | .ref l, u, h => h
  | .ifc t x, u, h => by obtain ⟨y, rfl, h⟩ := h; exact ⟨y, rfl, VRel_of_IRel x y h⟩
  | .clo f fs cs, u, h => by obtain ⟨us, vs, rfl, h1, h2⟩ := h; exact ⟨us, vs, rfl, VRels_of_IRels fs us h1, VRels_of_IRels cs vs h2⟩
  | .dead, u, h => h.elim
  | .loc _ _ _ _, u, h => h.elim
  | .own _ _ _ _ _, u, h => h.elim
  | .elt _ _ _ _ _, u, h => h.elim
  | .mp _ _ _, u, h => h.elim
  | .yld _ _ _, u, h => h.elim
theorem VRels_of_IRels {S : Subs} {γ : Gh} {imm : Nat → Prop} {w : World} : ∀ (l : List AV) (us : List Value), IRels imm w l us → VRels S γ imm w l us
  | [], us, h => h
  | x :: l, us, h => by obtain ⟨u, us', rfl, h1, h2⟩ := h; exact ⟨u, us', rfl, VRel_of_IRel x u h1, VRels_of_IRels l us' h2⟩
end

/-- Every reference keeps its sense, or has none any more. -/
def Ext (S : Subs) (γ : Gh) (S' : Subs) (γ' : Gh) : Prop :=
  ∀ r p ver, ver ≤ ctr S r p → ver ≤ ctr S' r p ∧ ∀ o', live S' r p ver = some o' → ∃ o, live S r p ver = some o ∧ shp o = shp o' ∧ γ' r p ver = γ r p ver
theorem Ext.refl (S : Subs) (γ : Gh) : Ext S γ S γ := fun _ _ _ h => ⟨h, fun o h => ⟨o, h, rfl, rfl⟩⟩

section
variable {S S' : Subs} {γ γ' : Gh} {imm imm' : Nat → Prop} {w w' : World}
mutual
theorem VRel_monoC (he : Ext S γ S' γ') (hk : KeepsC imm w imm' w') : ∀ (x : AV) (u : Value), VRel S γ imm w x u → VRel S' γ' imm' w' x u
  | .dead, u, h => trivial
  | .v x, u, h => h
  | .agg l, u, h => by obtain ⟨us, rfl, h⟩ := h; exact ⟨us, rfl, VRels_monoC he hk l us h⟩
  | .tup l, u, h => by obtain ⟨us, rfl, h⟩ := h; exact ⟨us, rfl, VRels_monoC he hk l us h⟩
  | .sl nl l, u, h => IRel_monoC hk _ u h
  | .ref l, u, h => IRel_monoC hk _ u h
  | .ifc t x, u, h => by obtain ⟨y, rfl, h⟩ := h; exact ⟨y, rfl, VRel_monoC he hk x y h⟩
  | .clo f fs cs, u, h => by obtain ⟨us, vs, rfl, h1, h2⟩ := h; exact ⟨us, vs, rfl, VRels_monoC he hk fs us h1, VRels_monoC he hk cs vs h2⟩
  | .loc r p ver off, u, h => by
    obtain ⟨h1, h2⟩ := h
    obtain ⟨k1, k2⟩ := he r p ver h1
    refine ⟨k1, fun o' ho' => ?_⟩
    obtain ⟨o, ho, _, hg⟩ := k2 o' ho'
    rw [hg]; exact h2 o ho
  | .own r p ver lo hi', u, h => by
    obtain ⟨h1, h2⟩ := h
    obtain ⟨k1, k2⟩ := he r p ver h1
    refine ⟨k1, fun o' ho' => ?_⟩
    obtain ⟨o, ho, hs, hg⟩ := k2 o' ho'
    rw [hg, ← hs]; exact h2 o ho
  | .elt r p ver i off, u, h => by
    obtain ⟨h1, h2⟩ := h
    obtain ⟨k1, k2⟩ := he r p ver h1
    refine ⟨k1, fun o' ho' => ?_⟩
    obtain ⟨o, ho, hs, hg⟩ := k2 o' ho'
    rw [hg, ← hs]; exact h2 o ho
  | .mp r p ver, u, h => by
    obtain ⟨h1, h2⟩ := h
    obtain ⟨k1, k2⟩ := he r p ver h1
    refine ⟨k1, fun o' ho' => ?_⟩
    obtain ⟨o, ho, hs, hg⟩ := k2 o' ho'
    rw [hg]; exact h2 o ho
  | .yld r p ver, u, h => by
    obtain ⟨h1, h2⟩ := h
    obtain ⟨k1, k2⟩ := he r p ver h1
    refine ⟨k1, fun o' ho' => ?_⟩
    obtain ⟨o, ho, _, hg⟩ := k2 o' ho'
    rw [hg]; exact h2 o ho
theorem VRels_monoC (he : Ext S γ S' γ') (hk : KeepsC imm w imm' w') : ∀ (l : List AV) (us : List Value), VRels S γ imm w l us → VRels S' γ' imm' w' l us
  | [], us, h => h
  | x :: l, us, h => by obtain ⟨u, us', rfl, h1, h2⟩ := h; exact ⟨u, us', rfl, VRel_monoC he hk x u h1, VRels_monoC he hk l us' h2⟩
end
theorem VRel_mono (he : Ext S γ S' γ') (hi : ∀ b, imm b → imm' b) (hk : Keeps imm w w') (x : AV) (u : Value) (h : VRel S γ imm w x u) : VRel S' γ' imm' w' x u := VRel_monoC he (hk.cells hi) x u h
theorem VRels_mono (he : Ext S γ S' γ') (hi : ∀ b, imm b → imm' b) (hk : Keeps imm w w') (l : List AV) (us : List Value) (h : VRels S γ imm w l us) : VRels S' γ' imm' w' l us := VRels_monoC he (hk.cells hi) l us h
end

/-- The call's surroundings: the world as it began, the blocks of what was handed in to be changed, and what could not change even then. -/
structure Ctx where
  w0 : World
  E : Nat → Prop
  imm0 : Nat → Prop

structure Inv (C : Ctx) (S : Subs) (γ : Gh) (imm : Nat → Prop) (w : World) : Prop where
  tape : w.tape = C.w0.tape
  os : w.os = C.w0.os
  output : w.output = C.w0.output
  size : C.w0.heap.size ≤ w.heap.size
  keep : ∀ b, b < C.w0.heap.size → ¬ C.E b → w.heap[b]? = C.w0.heap[b]?
  keepI : ∀ b, C.imm0 b → w.heap[b]? = C.w0.heap[b]?
  imm0 : ∀ b, C.imm0 b → imm b
  immlt : ∀ b, imm b → b < w.heap.size
  immE : ∀ b, imm b → C.imm0 b ∨ C.E b ∨ C.w0.heap.size ≤ b
  obj : ∀ r p ver o, live S r p ver = some o → ORel S γ imm w o (γ r p ver)
  own : ∀ r p ver o b, live S r p ver = some o → bl (γ r p ver) = some b → b < w.heap.size ∧ (C.E b ∨ C.w0.heap.size ≤ b) ∧ (fzOf o = false → ¬ imm b)
  inj : ∀ r p ver o r' p' ver' o' b, live S r p ver = some o → live S r' p' ver' = some o' → bl (γ r p ver) = some b → bl (γ r' p' ver') = some b → r = r' ∧ p = p' ∧ ver = ver'

theorem ownsRow_block {w w' : World} {base : Nat} {e : TypeId} {sz n : Nat} {g : Value} {xs : List Value} (h : w.ownsRow base e sz g n xs) (hs : ∀ b, bl g = some b → w'.heap[b]? = w.heap[b]?) : w'.ownsRow base e sz g n xs := by
  refine ⟨h.1, ?_⟩
  rcases h.2 with h2 | ⟨b, cap, cur, rfl, hb, hh, rest⟩
  · exact .inl h2
  · exact .inr ⟨b, cap, cur, rfl, hb, by rw [hs b rfl]; exact hh, rest⟩

theorem ownsRow_cells {w : World} {base : Nat} {e : TypeId} {sz n : Nat} {g : Value} {xs : List Value} (h : w.ownsRow base e sz g n xs) : ∀ b, bl g = some b → ∃ c e z, w.heap[b]? = some (.cells c e z) := by
  intro b hb
  rcases h.2 with h2 | ⟨b', cap, cur, rfl, hb', hh, rest⟩
  · obtain ⟨rfl, _⟩ := h2; simp [bl] at hb
  · simp only [bl, Option.some.injEq] at hb; subst hb; exact ⟨_, _, _, hh⟩
theorem ORel_monoC {S S' : Subs} {γ γ' : Gh} {imm imm' : Nat → Prop} {w w' : World} (he : Ext S γ S' γ') (hk : KeepsC imm w imm' w') {o : Ob} {g : Value}
    (hs : ∀ b, bl g = some b → w'.heap[b]? = w.heap[b]?) (h : ORel S γ imm w o g) : ORel S' γ' imm' w' o g := by
  cases o with
  | box fz cells =>
    obtain ⟨b, cs, e, rfl, hh, hv, h1, hf⟩ := h
    exact ⟨b, cs, e, rfl, by rw [hs b rfl]; exact hh, VRels_monoC he hk _ _ hv, h1, fun x => (hk b _ _ _ (hf x) hh).1⟩
  | arr nl fz sz e el =>
    obtain ⟨xs, ho, hx, hl, h1, hn, hf⟩ := h
    exact ⟨xs, ownsRow_block ho hs, IRels_monoC hk _ _ hx, hl, h1, hn, fun x b hb => by obtain ⟨c, e, z, hc⟩ := ownsRow_cells ho b hb; exact (hk b c e z (hf x b hb) hc).1⟩
  | map t en =>
    obtain ⟨b, es, clock, rfl, hh, h1, h2⟩ := h
    exact ⟨b, es, clock, rfl, by rw [hs b rfl]; exact hh, h1, IRels_monoC hk _ _ h2⟩
  | loop s j sl c =>
    obtain ⟨l, b, rfl, hh, h1, h2, h3, h4, h5, h6, h7⟩ := h
    exact ⟨l, b, rfl, by rw [hs l rfl]; exact hh, h1, h2, h3, h4, h5, h6, fun i => VRel_monoC he hk _ _ (h7 i)⟩
theorem ORel_mono {S S' : Subs} {γ γ' : Gh} {imm imm' : Nat → Prop} {w w' : World} (he : Ext S γ S' γ') (hi : ∀ b, imm b → imm' b) (hk : Keeps imm w w') {o : Ob} {g : Value}
    (hs : ∀ b, bl g = some b → w'.heap[b]? = w.heap[b]?) (h : ORel S γ imm w o g) : ORel S' γ' imm' w' o g := ORel_monoC he (hk.cells hi) hs h

/-- One step: the blocks of W may be written; each object is an old one, or is told anew. -/
theorem Inv.step {C : Ctx} {S S' : Subs} {γ γ' : Gh} {imm imm' : Nat → Prop} {w w' : World} (W : Nat → Prop) (h : Inv C S γ imm w) (he : Ext S γ S' γ')
    (ht : w'.tape = w.tape) (ho : w'.os = w.os) (hout : w'.output = w.output) (hsz : w.heap.size ≤ w'.heap.size)
    (hW : ∀ b, W b → (C.E b ∨ C.w0.heap.size ≤ b) ∧ ¬ imm b)
    (hsame : ∀ b, b < w.heap.size → ¬ W b → w'.heap[b]? = w.heap[b]?)
    (hi : ∀ b, imm b → imm' b) (hi' : ∀ b, imm' b → imm b ∨ (b < w'.heap.size ∧ (C.E b ∨ C.w0.heap.size ≤ b)))
    (hobj : ∀ r p ver o, live S' r p ver = some o →
      (live S r p ver = some o ∧ γ' r p ver = γ r p ver ∧ ∀ b, bl (γ r p ver) = some b → ¬ W b ∧ (fzOf o = false → ¬ imm' b)) ∨
      (ORel S' γ' imm' w' o (γ' r p ver) ∧ ∀ b, bl (γ' r p ver) = some b → b < w'.heap.size ∧ (C.E b ∨ C.w0.heap.size ≤ b) ∧ (fzOf o = false → ¬ imm' b)))
    (hinj : ∀ r p ver o r' p' ver' o' b, live S' r p ver = some o → live S' r' p' ver' = some o' → bl (γ' r p ver) = some b → bl (γ' r' p' ver') = some b → r = r' ∧ p = p' ∧ ver = ver') :
    Inv C S' γ' imm' w' := by
  have hk : Keeps imm w w' := ⟨fun b hb => hsame b (h.immlt b hb) fun hw => (hW b hw).2 hb⟩
  refine ⟨ht.trans h.tape, ho.trans h.os, hout.trans h.output, Nat.le_trans h.size hsz, ?_, fun b hb => (hk.same b (h.imm0 b hb)).trans (h.keepI b hb), fun b hb => hi b (h.imm0 b hb), ?_, ?_, ?_, ?_, hinj⟩
  · intro b hb hE
    rw [hsame b (Nat.lt_of_lt_of_le hb h.size) (fun hw => by rcases (hW b hw).1 with h1 | h1 <;> first | exact hE h1 | omega)]
    exact h.keep b hb hE
  · intro b hb
    rcases hi' b hb with h1 | h1
    · exact Nat.lt_of_lt_of_le (h.immlt b h1) hsz
    · exact h1.1
  · intro b hb
    rcases hi' b hb with h1 | h1
    · exact h.immE b h1
    · exact .inr h1.2
  · intro r p ver o hl
    rcases hobj r p ver o hl with ⟨h1, hg, h2⟩ | h1
    · rw [hg]
      refine ORel_mono he hi hk (fun b hb => ?_) (h.obj r p ver o h1)
      exact hsame b (h.own r p ver o b h1 hb).1 (h2 b hb).1
    · exact h1.1
  · intro r p ver o b hl hb
    rcases hobj r p ver o hl with ⟨h1, hg, h2⟩ | h1
    · rw [hg] at hb
      have := h.own r p ver o b h1 hb
      exact ⟨Nat.lt_of_lt_of_le this.1 hsz, this.2.1, (h2 b hb).2⟩
    · exact h1.2 b hb
end Go.Proofs.YtmekfllddifglaaDoor.AM

/- The abstract machine, part c: a store is turned at one place. Conditions: none. -/
namespace Go.Proofs.YtmekfllddifglaaDoor.AM
open Go

def setEnt (S : Subs) (r : Nat) (p : List Nat) (e : Ent) : Subs := S.set r ((sub S r).put p e)
@[simp] theorem length_setEnt (S : Subs) (r : Nat) (p : List Nat) (e : Ent) : (setEnt S r p e).length = S.length := by simp [setEnt]
theorem sub_setEnt_same {S : Subs} {r : Nat} (p : List Nat) (e : Ent) (h : r < S.length) : sub (setEnt S r p e) r = (sub S r).put p e := by
  simp [sub, setEnt, List.getD_eq_getElem?_getD, h]
theorem sub_setEnt_ne {S : Subs} {r r' : Nat} (p : List Nat) (e : Ent) (h : r ≠ r') : sub (setEnt S r p e) r' = sub S r' := by
  simp [sub, setEnt, List.getD_eq_getElem?_getD, List.getElem?_set_ne h]
theorem ent_setEnt {S : Subs} {r r' : Nat} {p p' : List Nat} {e : Ent} (h : r < S.length) :
    (sub (setEnt S r p e) r').ent p' = if r = r' ∧ p = p' then e else (sub S r').ent p' := by
  by_cases hr : r = r'
  · subst hr
    rw [sub_setEnt_same p e h]
    by_cases hp : p = p'
    · subst hp; simp [Sub.ent_put_same]
    · rw [Sub.ent_put_ne _ _ (Ne.symm hp)]; simp [hp]
  · rw [sub_setEnt_ne p e hr]; simp [hr]
theorem live_eq (S : Subs) (r : Nat) (p : List Nat) (ver : Nat) : live S r p ver = if ((sub S r).ent p).1 = ver then ((sub S r).ent p).2 else none := rfl
theorem live_setEnt_other {S : Subs} {r r' : Nat} {p p' : List Nat} {e : Ent} {ver : Nat} (h : r < S.length) (hn : ¬ (r = r' ∧ p = p')) : live (setEnt S r p e) r' p' ver = live S r' p' ver := by
  rw [live_eq, live_eq, ent_setEnt h, if_neg hn]
theorem live_setEnt_same {S : Subs} {r : Nat} {p : List Nat} {v ver : Nat} {o : Option Ob} (h : r < S.length) : live (setEnt S r p (v, o)) r p ver = if v = ver then o else none := by
  simp only [live_eq, ent_setEnt h, and_self, if_true]
theorem ctr_setEnt_other {S : Subs} {r r' : Nat} {p p' : List Nat} {e : Ent} (h : r < S.length) (hn : ¬ (r = r' ∧ p = p')) : ctr (setEnt S r p e) r' p' = ctr S r' p' := by
  rw [ctr, ent_setEnt h, if_neg hn]; rfl
theorem ctr_setEnt_same {S : Subs} {r : Nat} {p : List Nat} {e : Ent} (h : r < S.length) : ctr (setEnt S r p e) r p = e.1 := by
  rw [ctr, ent_setEnt h, if_pos ⟨rfl, rfl⟩]
theorem ctr_of_live {S : Subs} {r : Nat} {p : List Nat} {ver : Nat} {o : Ob} (h : live S r p ver = some o) : ctr S r p = ver := by
  have := Sub.live_ent h
  rw [ctr, this]

def upd (γ : Gh) (r : Nat) (p : List Nat) (ver : Nat) (g : Value) : Gh := fun r' p' ver' => if r = r' ∧ p = p' ∧ ver = ver' then g else γ r' p' ver'
theorem upd_same (γ : Gh) (r : Nat) (p : List Nat) (ver : Nat) (g : Value) : upd γ r p ver g r p ver = g := by simp [upd]
theorem upd_other {γ : Gh} {r : Nat} {p : List Nat} {ver : Nat} {g : Value} {r' : Nat} {p' : List Nat} {ver' : Nat} (h : ¬ (r = r' ∧ p = p')) : upd γ r p ver g r' p' ver' = γ r' p' ver' := by
  simp only [upd]; rw [if_neg]; exact fun x => h ⟨x.1, x.2.1⟩

/-- What a new version, or a turned object of the same shape, leaves of the references. -/
theorem Ext.put {S : Subs} {γ : Gh} {r : Nat} {p : List Nat} {v : Nat} {o' : Ob} {g : Value} (hr : r < S.length)
    (hv : v = ctr S r p + 1 ∨ ∃ o, live S r p v = some o ∧ shp o = shp o' ∧ g = γ r p v) : Ext S γ (setEnt S r p (v, some o')) (upd γ r p v g) := by
  intro r' p' ver hle
  by_cases hn : r = r' ∧ p = p'
  · obtain ⟨rfl, rfl⟩ := hn
    rw [ctr_setEnt_same hr]
    rcases hv with hv | ⟨o, hl, hs, hg⟩
    · refine ⟨by simp; omega, fun o2 ho2 => ?_⟩
      rw [live_setEnt_same hr, if_neg (by omega)] at ho2
      cases ho2
    · have hc := ctr_of_live hl
      refine ⟨by simp; omega, fun o2 ho2 => ?_⟩
      rw [live_setEnt_same hr] at ho2
      split at ho2
      · rename_i e; subst e
        simp only [Option.some.injEq] at ho2; subst ho2
        exact ⟨o, hl, hs, by rw [upd_same, hg]⟩
      · cases ho2
  · rw [ctr_setEnt_other hr hn]
    refine ⟨hle, fun o2 ho2 => ?_⟩
    rw [live_setEnt_other hr hn] at ho2
    exact ⟨o2, ho2, rfl, upd_other hn⟩
theorem Ext.del {S : Subs} {γ : Gh} {r : Nat} {p : List Nat} {v : Nat} (hr : r < S.length) (hv : ctr S r p ≤ v) : Ext S γ (setEnt S r p (v, none)) γ := by
  intro r' p' ver hle
  by_cases hn : r = r' ∧ p = p'
  · obtain ⟨rfl, rfl⟩ := hn
    rw [ctr_setEnt_same hr]
    refine ⟨by simp; omega, fun o2 ho2 => ?_⟩
    rw [live_setEnt_same hr] at ho2
    split at ho2 <;> cases ho2
  · rw [ctr_setEnt_other hr hn]
    refine ⟨hle, fun o2 ho2 => ?_⟩
    rw [live_setEnt_other hr hn] at ho2
    exact ⟨o2, ho2, rfl, rfl⟩
theorem Ext.trans {S S' S'' : Subs} {γ γ' γ'' : Gh} (h : Ext S γ S' γ') (k : Ext S' γ' S'' γ'') : Ext S γ S'' γ'' := by
  intro r p ver hle
  obtain ⟨h1, h2⟩ := h r p ver hle
  obtain ⟨k1, k2⟩ := k r p ver h1
  refine ⟨k1, fun o ho => ?_⟩
  obtain ⟨o', ho', hs', hg'⟩ := k2 o ho
  obtain ⟨o'', ho'', hs'', hg''⟩ := h2 o' ho'
  exact ⟨o'', ho'', hs''.trans hs', hg'.trans hg''⟩

theorem Inv.del {C : Ctx} {S : Subs} {γ : Gh} {imm : Nat → Prop} {w : World} (h : Inv C S γ imm w) {r : Nat} {p : List Nat} {v : Nat} (hr : r < S.length) (hv : ctr S r p ≤ v) :
    Inv C (setEnt S r p (v, none)) γ imm w := by
  have hl : ∀ r' p' ver o, live (setEnt S r p (v, none)) r' p' ver = some o → live S r' p' ver = some o := by
    intro r' p' ver o ho
    by_cases hn : r = r' ∧ p = p'
    · obtain ⟨rfl, rfl⟩ := hn
      rw [live_setEnt_same hr] at ho
      split at ho <;> cases ho
    · rwa [live_setEnt_other hr hn] at ho
  refine Inv.step (fun _ => False) h (Ext.del hr hv) rfl rfl rfl (Nat.le_refl _) (fun _ x => x.elim) (fun _ _ _ => rfl) (fun _ x => x) (fun _ x => .inl x) ?_ ?_
  · intro r' p' ver o ho
    exact .inl ⟨hl _ _ _ _ ho, rfl, fun b hb => ⟨id, fun hf => (h.own _ _ _ _ b (hl _ _ _ _ ho) hb).2.2 hf⟩⟩
  · intro r1 p1 v1 o1 r2 p2 v2 o2 b h1 h2 b1 b2
    exact h.inj _ _ _ _ _ _ _ _ b (hl _ _ _ _ h1) (hl _ _ _ _ h2) b1 b2

/-- One object is told anew: a new version of its place, or the same one turned. -/
theorem Inv.put {C : Ctx} {S : Subs} {γ : Gh} {imm imm' : Nat → Prop} {w w' : World} (W : Nat → Prop) (h : Inv C S γ imm w) {r : Nat} {p : List Nat} {v : Nat} {o' : Ob} {g : Value} (hr : r < S.length)
    (hv : v = ctr S r p + 1 ∨ ∃ o, live S r p v = some o ∧ shp o = shp o' ∧ g = γ r p v)
    (ht : w'.tape = w.tape) (ho : w'.os = w.os) (hout : w'.output = w.output) (hsz : w.heap.size ≤ w'.heap.size)
    (hW : ∀ b, W b → (C.E b ∨ C.w0.heap.size ≤ b) ∧ ¬ imm b)
    (hsame : ∀ b, b < w.heap.size → ¬ W b → w'.heap[b]? = w.heap[b]?)
    (hi : ∀ b, imm b → imm' b) (hi' : ∀ b, imm' b → imm b ∨ (b < w'.heap.size ∧ (C.E b ∨ C.w0.heap.size ≤ b)))
    (hO : ORel (setEnt S r p (v, some o')) (upd γ r p v g) imm' w' o' g)
    (hB : ∀ b, bl g = some b → b < w'.heap.size ∧ (C.E b ∨ C.w0.heap.size ≤ b) ∧ (fzOf o' = false → ¬ imm' b))
    (hoth : ∀ r1 p1 v1 o1 b, live S r1 p1 v1 = some o1 → ¬ (r = r1 ∧ p = p1) → bl (γ r1 p1 v1) = some b → ¬ W b ∧ (fzOf o1 = false → ¬ imm' b) ∧ bl g ≠ some b) :
    Inv C (setEnt S r p (v, some o')) (upd γ r p v g) imm' w' := by
  refine Inv.step W h (Ext.put hr hv) ht ho hout hsz hW hsame hi hi' ?_ ?_
  · intro r1 p1 v1 o1 h1
    by_cases hn : r = r1 ∧ p = p1
    · obtain ⟨rfl, rfl⟩ := hn
      rw [live_setEnt_same hr] at h1
      split at h1
      · rename_i e; subst e
        simp only [Option.some.injEq] at h1; subst h1
        rw [upd_same]
        exact .inr ⟨hO, hB⟩
      · cases h1
    · rw [live_setEnt_other hr hn] at h1
      rw [upd_other hn]
      exact .inl ⟨h1, rfl, fun b hb => ⟨(hoth _ _ _ _ b h1 hn hb).1, (hoth _ _ _ _ b h1 hn hb).2.1⟩⟩
  · intro r1 p1 v1 o1 r2 p2 v2 o2 b h1 h2 b1 b2
    by_cases hn : r = r1 ∧ p = p1
    · obtain ⟨rfl, rfl⟩ := hn
      rw [live_setEnt_same hr] at h1
      split at h1
      · rename_i e; subst e
        rw [upd_same] at b1
        by_cases hm : r = r2 ∧ p = p2
        · obtain ⟨rfl, rfl⟩ := hm
          rw [live_setEnt_same hr] at h2
          split at h2
          · rename_i e2; exact ⟨rfl, rfl, e2⟩
          · cases h2
        · rw [live_setEnt_other hr hm] at h2
          rw [upd_other hm] at b2
          exact absurd b1 (hoth _ _ _ _ b h2 hm b2).2.2
      · cases h1
    · rw [live_setEnt_other hr hn] at h1
      rw [upd_other hn] at b1
      by_cases hm : r = r2 ∧ p = p2
      · obtain ⟨rfl, rfl⟩ := hm
        rw [live_setEnt_same hr] at h2
        split at h2
        · rename_i e2; subst e2
          rw [upd_same] at b2
          exact absurd b2 (hoth _ _ _ _ b h1 hn b1).2.2
        · cases h2
      · rw [live_setEnt_other hr hm] at h2
        rw [upd_other hm] at b2
        exact h.inj _ _ _ _ _ _ _ _ b h1 h2 b1 b2

/-- What a step has led to. -/
def To (C : Ctx) (S : Subs) (γ : Gh) (imm : Nat → Prop) (w : World) (S' : Subs) (w' : World) (R : Gh → (Nat → Prop) → Prop) : Prop :=
  ∃ (γ' : Gh) (imm' : Nat → Prop), Inv C S' γ' imm' w' ∧ Ext S γ S' γ' ∧ (∀ b, imm b → imm' b) ∧ Keeps imm w w' ∧ R γ' imm'

theorem To.stay {C : Ctx} {S : Subs} {γ : Gh} {imm : Nat → Prop} {w : World} {R : Gh → (Nat → Prop) → Prop} (h : Inv C S γ imm w) (hr : R γ imm) : To C S γ imm w S w R :=
  ⟨γ, imm, h, Ext.refl _ _, fun _ x => x, ⟨fun _ _ => rfl⟩, hr⟩
theorem Keeps.trans {imm imm' : Nat → Prop} {w w' w'' : World} (hi : ∀ b, imm b → imm' b) (h : Keeps imm w w') (k : Keeps imm' w' w'') : Keeps imm w w'' :=
  ⟨fun b hb => (k.same b (hi b hb)).trans (h.same b hb)⟩
theorem To.bind {C : Ctx} {S S' S'' : Subs} {γ : Gh} {imm : Nat → Prop} {w w' w'' : World} {R R' : Gh → (Nat → Prop) → Prop} (h : To C S γ imm w S' w' R)
    (k : ∀ γ' imm', Inv C S' γ' imm' w' → Ext S γ S' γ' → (∀ b, imm b → imm' b) → Keeps imm w w' → R γ' imm' → To C S' γ' imm' w' S'' w'' R') : To C S γ imm w S'' w'' R' := by
  obtain ⟨γ', imm', h1, h2, h3, h4, h5⟩ := h
  obtain ⟨γ'', imm'', k1, k2, k3, k4, k5⟩ := k γ' imm' h1 h2 h3 h4 h5
  exact ⟨γ'', imm'', k1, h2.trans k2, fun b hb => k3 b (h3 b hb), Keeps.trans h3 h4 k4, k5⟩

/-- A new block of cells is laid for a new version of a place. -/
theorem To.alloc {C : Ctx} {S : Subs} {γ : Gh} {imm : Nat → Prop} {w : World} (h : Inv C S γ imm w) {r : Nat} {p : List Nat} (hr : r < S.length) {o' : Ob} {g : Value} (x : Obj)
    (hb : bl g = some w.heap.size)
    (hO : ∀ γ', Ext S γ (setEnt S r p (ctr S r p + 1, some o')) γ' → γ' r p (ctr S r p + 1) = g → Keeps imm w (w.alloc x) → ORel (setEnt S r p (ctr S r p + 1, some o')) γ' imm (w.alloc x) o' g)
    {R : Gh → (Nat → Prop) → Prop}
    (hR : ∀ γ', Ext S γ (setEnt S r p (ctr S r p + 1, some o')) γ' → γ' r p (ctr S r p + 1) = g → R γ' imm) :
    To C S γ imm w (setEnt S r p (ctr S r p + 1, some o')) (w.alloc x) R := by
  have hext : Ext S γ (setEnt S r p (ctr S r p + 1, some o')) (upd γ r p (ctr S r p + 1) g) := Ext.put hr (.inl rfl)
  have hlt : ∀ b, b < w.heap.size → (w.alloc x).heap[b]? = w.heap[b]? := fun b hb => RowKit.Below.heap_alloc w x b hb
  have hk : Keeps imm w (w.alloc x) := ⟨fun b hb => hlt b (h.immlt b hb)⟩
  refine ⟨upd γ r p (ctr S r p + 1) g, imm, ?_, hext, fun _ x => x, hk, hR _ hext (upd_same _ _ _ _ _)⟩
  refine Inv.put (fun _ => False) h hr (.inl rfl) rfl rfl rfl (by simp) (fun _ x => x.elim) (fun b hb _ => hlt b hb) (fun _ x => x) (fun _ x => .inl x) (hO _ hext (upd_same _ _ _ _ _) hk) ?_ ?_
  · intro b hb'
    rw [hb] at hb'
    simp only [Option.some.injEq] at hb'
    subst hb'
    exact ⟨by simp, .inr h.size, fun _ hi => Nat.lt_irrefl _ (h.immlt _ hi)⟩
  · intro r1 p1 v1 o1 b h1 _ hb1
    have := h.own _ _ _ _ b h1 hb1
    refine ⟨id, this.2.2, fun e => ?_⟩
    rw [hb] at e
    simp only [Option.some.injEq] at e
    omega
end Go.Proofs.YtmekfllddifglaaDoor.AM

/- The abstract machine, part d: reading memory. Conditions: none. -/
namespace Go.Proofs.YtmekfllddifglaaDoor.AM
open Go

def undT (P : Program) (t : TypeId) : Bool := (P.underlying t).isSome
def aggT (P : Program) (t : TypeId) : Bool := match P.underlying t with | some (.struct _) | some (.array _ _) => true | _ => false
def szT (P : Program) (t : TypeId) : Option Nat := (P.info? t).map (·.size)
def zcells (P : Program) (t : TypeId) : Option (List Value) := ((P.info? t).bind (·.zero)).map fun z => z.cells.toList

/-- Two results: a value of the model's, and the abstract one. -/
def GoodV (P : Program) (C : Ctx) (S : Subs) (γ : Gh) (imm : Nat → Prop) (w : World) (m : RW AV) (s : Sem Value) : Prop :=
  ∀ x S', m.run S = some (x, S') → ∃ u w', s.run P w = .ok u w' ∧ To C S γ imm w S' w' (fun γ' imm' => VRel S' γ' imm' w' x u)
def GoodU (P : Program) (C : Ctx) (S : Subs) (γ : Gh) (imm : Nat → Prop) (w : World) (m : RW Unit) (s : Sem Unit) : Prop :=
  ∀ x S', m.run S = some (x, S') → ∃ w', s.run P w = .ok () w' ∧ To C S γ imm w S' w' (fun _ _ => True)

theorem add_plain (g o j : Nat) : (⟨g, o, none⟩ : Addr).add j = ⟨g, o + j, none⟩ := by unfold Addr.add; split <;> simp_all

theorem flatMap_get {l : List AV} {sz : Nat} (h : ∀ x ∈ l, (cellsOf x).length = sz) : ∀ (i j : Nat) (hi : i < l.length) (_ : j < sz), (l.flatMap cellsOf)[i * sz + j]? = (cellsOf l[i])[j]? := by
  induction l with
  | nil => intro i j hi; simp at hi
  | cons x l ih =>
    intro i j hi hj
    have hx := h x (by simp)
    rw [List.flatMap_cons]
    cases i with
    | zero =>
      rw [Nat.zero_mul, Nat.zero_add, List.getElem?_append_left (by omega)]
      rfl
    | succ i =>
      rw [List.getElem?_append_right (by rw [hx, Nat.add_mul]; omega), hx, show (i + 1) * sz + j - sz = i * sz + j by rw [Nat.add_mul]; omega]
      exact ih (fun y hy => h y (by simp [hy])) i j (by simpa using hi) hj
theorem flatMap_length {l : List AV} {sz : Nat} (h : ∀ x ∈ l, (cellsOf x).length = sz) : (l.flatMap cellsOf).length = l.length * sz := by
  induction l with
  | nil => simp
  | cons x l ih => rw [List.flatMap_cons, List.length_append, h x (by simp), ih (fun y hy => h y (by simp [hy])), List.length_cons, Nat.add_mul]; omega

/-- The cells from a pointer on. -/
def rdP : AV → RW (List AV)
  | .ref l => .ret l
  | .loc r p ver off => .get r fun s => match s.live p ver with
    | some (.box _ cells) => .ret (cells.drop off)
    | _ => .fail
  | .elt r p ver i off => .get r fun s => match s.live p ver with
    | some (.arr _ _ _ _ el) => .ret ((cellsOf (el.getD i .dead)).drop off)
    | _ => .fail
  | _ => .fail

theorem ownsRow_cell {w : World} {e : TypeId} {sz n cap b : Nat} {xs : List Value} (h : w.ownsRow 0 e sz (.slice (some ⟨b, 0, none⟩) n cap) n xs) {j : Nat} (hj : j < xs.length) : w.cell? ⟨b, j, none⟩ = some xs[j] := by
  have := h.cells (g := b) rfl j xs[j] (by simp [hj])
  rwa [add_plain, Nat.zero_add] at this

theorem rdP_ok {C : Ctx} {S : Subs} {γ : Gh} {imm : Nat → Prop} {w : World} (h : Inv C S γ imm w) {x : AV} {u : Value} (hx : VRel S γ imm w x u) {cells : List AV} {S' : Subs} (hr : (rdP x).run S = some (cells, S')) :
    S' = S ∧ ∃ b o, u = .pointer (some ⟨b, o, none⟩) ∧ ∀ j (hj : j < cells.length), ∃ v, w.cell? ⟨b, o + j, none⟩ = some v ∧ v.oneCell' = true ∧ VRel S γ imm w cells[j] v := by
  cases x with
  | ref l =>
    simp only [rdP, RW.run, Option.some.injEq, Prod.mk.injEq] at hr
    obtain ⟨rfl, rfl⟩ := hr
    obtain ⟨b, o, rfl, hc⟩ := hx
    refine ⟨rfl, b, o, rfl, fun j hj => ?_⟩
    obtain ⟨_, v, h1, h2, h3⟩ := CellsAt_get hc j hj
    exact ⟨v, h1, h2, VRel_of_IRel _ _ h3⟩
  | loc r p ver off =>
    simp only [rdP, RW.run] at hr
    split at hr
    · rename_i fz cs hl
      simp only [RW.run, Option.some.injEq, Prod.mk.injEq] at hr
      obtain ⟨rfl, rfl⟩ := hr
      refine ⟨rfl, ?_⟩
      obtain ⟨_, h2⟩ := hx
      obtain ⟨b, hg, rfl⟩ := h2 _ hl
      obtain ⟨b', us, e, hg', hh, hv, h1, _⟩ := h.obj r p ver _ hl
      rw [hg] at hg'
      obtain rfl : b = b' := by simpa using hg'
      refine ⟨b, off, rfl, fun j hj => ?_⟩
      have hlen := VRels_length hv
      have hj' : off + j < cs.length := by simp at hj; omega
      refine ⟨us[off + j]'(by omega), by simp [World.cell?, hh, hlen, hj'], h1 _ (List.getElem_mem _), ?_⟩
      rw [List.getElem_drop]
      exact VRels_get hv (off + j) hj' (by omega)
    · simp [RW.run] at hr
  | elt r p ver i off =>
    simp only [rdP, RW.run] at hr
    split at hr
    · rename_i nl fz sz e el hl
      simp only [RW.run, Option.some.injEq, Prod.mk.injEq] at hr
      obtain ⟨rfl, rfl⟩ := hr
      refine ⟨rfl, ?_⟩
      obtain ⟨_, h2⟩ := hx
      obtain ⟨sz', n, b, cap, hs, hi, hg, rfl⟩ := h2 _ hl
      simp only [shp, Prod.mk.injEq, true_and] at hs
      obtain ⟨rfl, rfl⟩ := hs
      obtain ⟨xs, ho, hx, hc, h1, _, _⟩ := h.obj r p ver _ hl
      rw [hg] at ho
      refine ⟨b, i * sz + off, rfl, fun j hj => ?_⟩
      have hm : el.getD i .dead = el[i] := by simp [List.getD_eq_getElem?_getD, hi]
      have hcl := hc el[i] (List.getElem_mem _)
      simp only [hm, List.length_drop, hcl] at hj
      have hlen := IRels_length hx
      have hfl := flatMap_length hc
      have hlt : i * sz + (off + j) < xs.length := by
        rw [hlen, hfl]
        have : (i + 1) * sz ≤ el.length * sz := Nat.mul_le_mul_right _ hi
        rw [Nat.add_mul] at this
        omega
      refine ⟨xs[i * sz + (off + j)], by rw [Nat.add_assoc]; exact ownsRow_cell ho hlt, h1 _ (List.getElem_mem _), VRel_of_IRel _ _ ?_⟩
      have := IRels_get hx (i * sz + (off + j)) (by omega) hlt
      have hget := flatMap_get hc i (off + j) hi (by omega)
      rw [List.getElem?_eq_getElem (by omega), List.getElem?_eq_getElem (by omega)] at hget
      simp only [Option.some.injEq] at hget
      simp only [List.getElem_drop, hm, ← hget]
      exact this
    · simp [RW.run] at hr
  | _ => simp [rdP, RW.run] at hr

/-- A variable of that type, out of cells. -/
def pickT (P : Program) (t : TypeId) (l : List AV) : Option AV :=
  if undT P t then
    if aggT P t then (szT P t).bind fun n => if n ≤ l.length then some (.agg (l.take n)) else none
    else l.head?
  else none

theorem run_isAgg {P : Program} {t : TypeId} (h : undT P t = true) (w : World) : (isAgg t).run P w = .ok (aggT P t) w := by
  simp only [undT, Option.isSome_iff_exists] at h
  obtain ⟨d, hd⟩ := h
  cases d <;> simp [isAgg, run_underlying hd, aggT, hd]
theorem run_sizeOf {P : Program} {t : TypeId} {n : Nat} (h : szT P t = some n) (w : World) : (sizeOf t).run P w = .ok n w := by
  simp only [szT, Option.map_eq_some_iff] at h
  obtain ⟨i, hi, rfl⟩ := h
  simp [sizeOf, typeInfo, hi]

def aLoad (P : Program) (t : TypeId) (x : AV) : RW AV := (rdP x).bind fun l => RW.ofO (pickT P t l)

theorem RW.run_ofO {α : Type} {x : Option α} {S : Subs} {a : α} {S' : Subs} (h : (RW.ofO x).run S = some (a, S')) : x = some a ∧ S' = S := by
  cases x with
  | none => simp [RW.ofO, RW.run] at h
  | some y => simp only [RW.ofO, RW.run, Option.some.injEq, Prod.mk.injEq] at h; exact ⟨by rw [h.1], h.2.symm⟩

theorem cells_list {S : Subs} {γ : Gh} {imm : Nat → Prop} {w : World} {b o : Nat} {l : List AV}
    (hc : ∀ j (hj : j < l.length), ∃ v, w.cell? ⟨b, o + j, none⟩ = some v ∧ v.oneCell' = true ∧ VRel S γ imm w l[j] v) (n : Nat) (hle : n ≤ l.length) :
    ∃ us : List Value, us.length = n ∧ ∀ j (hj : j < n) (hj' : j < us.length), w.cell? ⟨b, o + j, none⟩ = some us[j] ∧ us[j].oneCell' = true ∧ VRel S γ imm w (l[j]'(by omega)) us[j] := by
  induction n with
  | zero => exact ⟨[], rfl, fun j hj => by omega⟩
  | succ n ih =>
    obtain ⟨us, h1, h2⟩ := ih (by omega)
    obtain ⟨v, hv1, hv3, hv2⟩ := hc n (by omega)
    refine ⟨us ++ [v], by simp [h1], fun j hj hj' => ?_⟩
    by_cases hjn : j < n
    · have := h2 j hjn (by omega)
      rw [List.getElem_append_left (by omega)]
      exact this
    · obtain rfl : j = n := by omega
      rw [List.getElem_append_right (by omega)]
      simp only [h1, Nat.sub_self, List.getElem_singleton]
      exact ⟨hv1, hv3, hv2⟩

/-- A variable is read. -/
theorem run_loadVar {P : Program} {t : TypeId} {l : List AV} {x : AV} (hp : pickT P t l = some x) {S : Subs} {γ : Gh} {imm : Nat → Prop} {w : World} {b o : Nat}
    (hc : ∀ j (hj : j < l.length), ∃ v, w.cell? ⟨b, o + j, none⟩ = some v ∧ v.oneCell' = true ∧ VRel S γ imm w l[j] v) :
    ∃ u, (loadVar t ⟨b, o, none⟩).run P w = .ok u w ∧ VRel S γ imm w x u := by
  unfold pickT at hp
  split at hp
  · rename_i hu
    split at hp
    · rename_i ha
      obtain ⟨n, hn, hp⟩ := Option.bind_eq_some_iff.1 hp
      split at hp
      · rename_i hle
        simp only [Option.some.injEq] at hp
        subst hp
        have hex := cells_list hc n hle
        obtain ⟨us, h1, h2⟩ := hex
        have hr : (loadCells ⟨b, o, none⟩ n).run P w = .ok us.toArray w := by
          rw [← h1]
          refine run_loadCells_list w _ us fun j v hv => ?_
          obtain ⟨hj, rfl⟩ := List.getElem?_eq_some_iff.1 hv
          rw [add_plain]
          exact (h2 j (by omega) hj).1
        refine ⟨.agg us.toArray, ?_, us, rfl, VRels_of_get (by simp; omega) fun i hi hu => ?_⟩
        · simp [loadVar, run_isAgg hu, ha, run_sizeOf hn, hr]
        · simp only [List.getElem_take]
          exact (h2 i (by simp at hi; omega) hu).2.2
      · cases hp
    · rename_i ha
      cases l with
      | nil => simp at hp
      | cons y l =>
        simp only [List.head?_cons, Option.some.injEq] at hp
        subst hp
        obtain ⟨v, hv, _, hr⟩ := hc 0 (by simp)
        refine ⟨v, ?_, hr⟩
        simp only [Nat.add_zero] at hv
        simp [loadVar, run_isAgg hu, ha, hv]
  · cases hp

theorem good_load {P : Program} {C : Ctx} {S : Subs} {γ : Gh} {imm : Nat → Prop} {w : World} (h : Inv C S γ imm w) (t : TypeId) {x : AV} {u : Value} (hx : VRel S γ imm w x u) :
    GoodV P C S γ imm w (aLoad P t x) (Instr.loadAt t u) := by
  intro y S' hr
  rw [aLoad, RW.run_bind] at hr
  obtain ⟨⟨l, S1⟩, h1, h2⟩ := Option.bind_eq_some_iff.1 hr
  obtain ⟨rfl, b, o, rfl, hc⟩ := rdP_ok h hx h1
  obtain ⟨hp, rfl⟩ := RW.run_ofO h2
  obtain ⟨v, hv, hy⟩ := run_loadVar hp hc
  exact ⟨v, w, by simp [Instr.loadAt, Instr.sureAddr, hv], To.stay h hy⟩
end Go.Proofs.YtmekfllddifglaaDoor.AM
