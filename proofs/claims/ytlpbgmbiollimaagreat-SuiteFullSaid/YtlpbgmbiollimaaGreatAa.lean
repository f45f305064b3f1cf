/-
  An abstract machine for the model's code: its values and heap, what each operation says, and the machine.
  Conditions: none.
-/
import Derived.Below
import Derived.Recover
import Derived.Orders
namespace Go.Am
open Go

/-- A value of the abstract machine. A pointer is an object's number and a place in it; a slice bears the cells of one element. -/
inductive AV where
  | int (k : IntKind) (n : Int)
  | bool (b : Bool)
  | str (s : List UInt8)
  | ptr (a : Option (Nat × Nat))
  | slice (a : Option (Nat × Nat)) (len cap sz : Nat)
  | map (r : Option Nat)
  | func (fn : Fn) (first captured : List AV)
  | nilFunc
  | iface (t : TypeId) (v : AV)
  | nilIface
  | agg (cs : List AV)
  | tuple (vs : List AV)

instance : Inhabited AV := ⟨.tuple []⟩

/-- May it stand in one cell? -/
def AV.one : AV → Bool
  | .agg _ | .tuple _ => false
  | _ => true

def vone : Value → Bool
  | .agg _ | .tuple _ => false
  | _ => true

def AV.cells : AV → List AV
  | .agg cs => cs
  | v => [v]

/-- An object: a row of cells (ro: it is never written), a map, or one that is no more. -/
inductive AO where
  | cells (cs : List AV) (t : TypeId) (ro : Bool)
  | map (es : List (AV × AV × Nat)) (clock : Nat)
  | dead

def AO.wr : AO → Bool
  | .cells _ _ ro => !ro
  | .map _ _ => true
  | .dead => false

def AO.live : AO → Bool
  | .dead => false
  | _ => true

theorem AO.live_of_wr {o : AO} (h : o.wr = true) : o.live = true := by cases o <;> simp_all [AO.wr, AO.live]

/-! ### Tries -/

inductive Tr (α : Type) where
  | nil
  | node (v : Option α) (l r : Tr α)

namespace Tr
variable {α : Type}

def val : Tr α → Option α
  | .nil => none
  | .node v _ _ => v
def left : Tr α → Tr α
  | .nil => .nil
  | .node _ l _ => l
def right : Tr α → Tr α
  | .nil => .nil
  | .node _ _ r => r

def get : Tr α → Nat → Option α
  | .nil, _ => none
  | .node v _ _, 0 => v
  | .node _ l r, i + 1 => bif Nat.beq (i % 2) 0 then l.get (i / 2) else r.get (i / 2)

def upd : Nat → Tr α → Nat → Option α → Tr α
  | 0, t, _, _ => t
  | _ + 1, t, 0, x => .node x t.left t.right
  | f + 1, t, i + 1, x => bif Nat.beq (i % 2) 0 then .node t.val (upd f t.left (i / 2) x) t.right else .node t.val t.left (upd f t.right (i / 2) x)

def put (t : Tr α) (i : Nat) (x : α) : Tr α := upd (i + 1) t i (some x)
def del (t : Tr α) (i : Nat) : Tr α := upd (i + 1) t i none

theorem get_zero (t : Tr α) : t.get 0 = t.val := by cases t <;> rfl
theorem get_succ (t : Tr α) (i : Nat) : t.get (i + 1) = bif Nat.beq (i % 2) 0 then t.left.get (i / 2) else t.right.get (i / 2) := by
  cases t with
  | nil => cases Nat.beq (i % 2) 0 <;> rfl
  | node v l r => rfl

theorem get_upd_eq (x : Option α) : ∀ (f : Nat) (t : Tr α) (i : Nat), i < f → (upd f t i x).get i = x
  | 0, _, _, h => by omega
  | f + 1, t, 0, _ => by simp [upd, get]
  | f + 1, t, i + 1, h => by
    have hi : i / 2 < f := by omega
    rw [upd]
    cases hb : Nat.beq (i % 2) 0
    · simp only [hb, cond_false, get]; exact get_upd_eq x f _ _ hi
    · simp only [hb, cond_true, get]; exact get_upd_eq x f _ _ hi

theorem get_upd_ne (x : Option α) : ∀ (f : Nat) (t : Tr α) (i j : Nat), i ≠ j → (upd f t i x).get j = t.get j
  | 0, _, _, _, _ => rfl
  | f + 1, t, 0, 0, h => absurd rfl h
  | f + 1, t, 0, j + 1, _ => by rw [upd, get_succ, get_succ]; rfl
  | f + 1, t, i + 1, 0, _ => by
    rw [upd]; cases Nat.beq (i % 2) 0 <;> simp [get_zero, val]
  | f + 1, t, i + 1, j + 1, h => by
    rw [upd, get_succ t]
    cases hb : Nat.beq (i % 2) 0 <;> cases hc : Nat.beq (j % 2) 0 <;> simp only [cond_true, cond_false, get, hc]
    · refine get_upd_ne x f _ _ _ ?_
      have h1 : i % 2 ≠ 0 := fun e => by rw [e] at hb; exact absurd hb (by decide)
      have h2 : j % 2 ≠ 0 := fun e => by rw [e] at hc; exact absurd hc (by decide)
      omega
    · refine get_upd_ne x f _ _ _ ?_
      have h1 : i % 2 = 0 := Nat.eq_of_beq_eq_true hb
      have h2 : j % 2 = 0 := Nat.eq_of_beq_eq_true hc
      omega

theorem get_put_eq (t : Tr α) (i : Nat) (x : α) : (t.put i x).get i = some x := get_upd_eq _ _ _ _ (Nat.lt_succ_self _)
theorem get_put_ne (t : Tr α) {i j : Nat} (x : α) (h : i ≠ j) : (t.put i x).get j = t.get j := get_upd_ne _ _ _ _ _ h
theorem get_del_eq (t : Tr α) (i : Nat) : (t.del i).get i = none := get_upd_eq _ _ _ _ (Nat.lt_succ_self _)
theorem get_del_ne (t : Tr α) {i j : Nat} (h : i ≠ j) : (t.del i).get j = t.get j := get_upd_ne _ _ _ _ _ h
theorem get_put (t : Tr α) (i j : Nat) (x : α) : (t.put i x).get j = if i = j then some x else t.get j := by
  split
  · rename_i h; subst h; exact get_put_eq _ _ _
  · rename_i h; exact get_put_ne _ _ h
end Tr

/-! ### The heap -/

structure AH where
  next : Nat
  tr : Tr AO

namespace AH
def get (h : AH) (i : Nat) : Option AO := h.tr.get i
def set (h : AH) (i : Nat) (o : AO) : AH := ⟨h.next, h.tr.put i o⟩
/-- A new object; its number is 'h.next'. -/
def add (h : AH) (o : AO) : AH := ⟨h.next + 1, h.tr.put h.next o⟩
def empty : AH := ⟨0, .nil⟩

theorem get_set (h : AH) (i j : Nat) (o : AO) : (h.set i o).get j = if i = j then some o else h.get j := Tr.get_put _ _ _ _
theorem get_add (h : AH) (j : Nat) (o : AO) : (h.add o).get j = if h.next = j then some o else h.get j := Tr.get_put _ _ _ _
@[simp] theorem next_set (h : AH) (i : Nat) (o : AO) : (h.set i o).next = h.next := rfl
@[simp] theorem next_add (h : AH) (o : AO) : (h.add o).next = h.next + 1 := rfl
end AH

/-! ### The relation of values: 'ρ' tells where an object lies: its block, the place where it begins, the block's size -/

abbrev Ren := Nat → Option (Nat × Nat × Nat)

def Ren.le (ρ ρ' : Ren) : Prop := ∀ i x, ρ i = some x → ρ' i = some x
theorem Ren.le_refl (ρ : Ren) : ρ.le ρ := fun _ _ h => h
theorem Ren.le_trans {a b c : Ren} (h : a.le b) (k : b.le c) : a.le c := fun i x e => k i x (h i x e)

mutual
def VR (ρ : Ren) : AV → Value → Prop
  | .int k n, v => v = .int k n
  | .bool b, v => v = .bool b
  | .str s, v => v = .string ⟨s.toArray⟩
  | .ptr none, v => v = .pointer none
  | .ptr (some (i, o)), v => ∃ b s z, ρ i = some (b, s, z) ∧ v = .pointer (some ⟨b, s + o, none⟩)
  | .slice none len cap _, v => len = 0 ∧ cap = 0 ∧ v = .slice none 0 0
  | .slice (some (i, o)) len cap sz, v => ∃ b s z o' capC, ρ i = some (b, s, z) ∧ v = .slice (some ⟨b, o', none⟩) len capC ∧
      len ≤ cap ∧ cap ≤ capC ∧ o' + capC * sz ≤ z ∧ (cap = 0 ∨ o' = s + o)
  | .map none, v => v = .map none
  | .map (some r), v => ∃ b s z, ρ r = some (b, s, z) ∧ v = .map (some b)
  | .func fn first captured, v => ∃ fs cs, v = .func fn ⟨fs⟩ ⟨cs⟩ ∧ LR ρ first fs ∧ LR ρ captured cs
  | .nilFunc, v => v = .nilFunc
  | .iface t x, v => ∃ y, v = .iface t y ∧ VR ρ x y
  | .nilIface, v => v = .nilIface
  | .agg cs, v => ∃ vs, v = .agg ⟨vs⟩ ∧ LR ρ cs vs
  | .tuple cs, v => ∃ vs, v = .tuple ⟨vs⟩ ∧ LR ρ cs vs
def LR (ρ : Ren) : List AV → List Value → Prop
  | [], vs => vs = []
  | a :: as, vs => ∃ v vs', vs = v :: vs' ∧ VR ρ a v ∧ LR ρ as vs'
end

mutual
theorem VR.mono {ρ ρ' : Ren} (hρ : ρ.le ρ') : ∀ (a : AV) (v : Value), VR ρ a v → VR ρ' a v
  | .int _ _, _, h => h
  | .bool _, _, h => h
  | .str _, _, h => h
  | .ptr none, _, h => h
  | .ptr (some (i, o)), _, h => by
    simp only [VR] at h ⊢; obtain ⟨b, s, z, h1, h2⟩ := h; exact ⟨b, s, z, hρ _ _ h1, h2⟩
  | .slice none _ _ _, _, h => h
  | .slice (some (i, o)) _ _ _, _, h => by
    simp only [VR] at h ⊢; obtain ⟨b, s, z, o', c, h1, h2⟩ := h; exact ⟨b, s, z, o', c, hρ _ _ h1, h2⟩
  | .map none, _, h => h
  | .map (some r), _, h => by
    simp only [VR] at h ⊢; obtain ⟨b, s, z, h1, h2⟩ := h; exact ⟨b, s, z, hρ _ _ h1, h2⟩
  | .func _ f c, _, h => by
    simp only [VR] at h ⊢; obtain ⟨fs, cs, h1, h2, h3⟩ := h; exact ⟨fs, cs, h1, LR.mono hρ f fs h2, LR.mono hρ c cs h3⟩
  | .nilFunc, _, h => h
  | .iface _ x, _, h => by
    simp only [VR] at h ⊢; obtain ⟨y, h1, h2⟩ := h; exact ⟨y, h1, VR.mono hρ x y h2⟩
  | .nilIface, _, h => h
  | .agg cs, _, h => by
    simp only [VR] at h ⊢; obtain ⟨vs, h1, h2⟩ := h; exact ⟨vs, h1, LR.mono hρ cs vs h2⟩
  | .tuple cs, _, h => by
    simp only [VR] at h ⊢; obtain ⟨vs, h1, h2⟩ := h; exact ⟨vs, h1, LR.mono hρ cs vs h2⟩
theorem LR.mono {ρ ρ' : Ren} (hρ : ρ.le ρ') : ∀ (as : List AV) (vs : List Value), LR ρ as vs → LR ρ' as vs
  | [], _, h => h
  | a :: as, _, h => by
    simp only [LR] at h ⊢; obtain ⟨v, vs', h1, h2, h3⟩ := h; exact ⟨v, vs', h1, VR.mono hρ a v h2, LR.mono hρ as vs' h3⟩
end

section lists
variable {ρ : Ren}

theorem LR.nil : LR ρ [] [] := by simp [LR]
theorem LR.cons {a as v vs} (h : VR ρ a v) (k : LR ρ as vs) : LR ρ (a :: as) (v :: vs) := by simp only [LR]; exact ⟨v, vs, rfl, h, k⟩

theorem LR.length : ∀ {as : List AV} {vs : List Value}, LR ρ as vs → vs.length = as.length
  | [], _, h => by simp only [LR] at h; simp [h]
  | _ :: as, _, h => by simp only [LR] at h; obtain ⟨v, vs', rfl, _, h3⟩ := h; simp [LR.length h3]

theorem LR.get : ∀ {as : List AV} {vs : List Value}, LR ρ as vs → ∀ {j : Nat} {a : AV}, as[j]? = some a → ∃ v, vs[j]? = some v ∧ VR ρ a v
  | [], _, _, j, a, hj => by simp at hj
  | a :: as, _, h, j, b, hj => by
    simp only [LR] at h; obtain ⟨v, vs', rfl, h2, h3⟩ := h
    cases j with
    | zero => simp at hj; subst hj; exact ⟨v, rfl, h2⟩
    | succ j => simpa using LR.get h3 (by simpa using hj)

theorem LR.get_none {as : List AV} {vs : List Value} (h : LR ρ as vs) {j : Nat} (hj : as[j]? = none) : vs[j]? = none := by
  have := h.length
  simp at hj ⊢; omega

theorem LR.append : ∀ {as : List AV} {vs : List Value} {bs ws}, LR ρ as vs → LR ρ bs ws → LR ρ (as ++ bs) (vs ++ ws)
  | [], _, _, _, h, k => by simp only [LR] at h; subst h; simpa using k
  | a :: as, _, _, _, h, k => by
    simp only [LR] at h; obtain ⟨v, vs', rfl, h2, h3⟩ := h
    exact LR.cons h2 (LR.append h3 k)

theorem LR.drop : ∀ {as : List AV} {vs : List Value} (n : Nat), LR ρ as vs → LR ρ (as.drop n) (vs.drop n)
  | _, _, 0, h => by simpa using h
  | [], _, n + 1, h => by simp only [LR] at h; subst h; simp [LR]
  | a :: as, _, n + 1, h => by
    simp only [LR] at h; obtain ⟨v, vs', rfl, _, h3⟩ := h
    simpa using LR.drop n h3

theorem LR.take : ∀ {as : List AV} {vs : List Value} (n : Nat), LR ρ as vs → LR ρ (as.take n) (vs.take n)
  | _, _, 0, _ => by simp [LR]
  | [], _, n + 1, h => by simp only [LR] at h; subst h; simp [LR]
  | a :: as, _, n + 1, h => by
    simp only [LR] at h; obtain ⟨v, vs', rfl, h2, h3⟩ := h
    simpa using LR.cons h2 (LR.take n h3)

theorem LR.of_get : ∀ {as : List AV} {vs : List Value}, vs.length = as.length → (∀ (j : Nat) (a : AV), as[j]? = some a → ∃ v, vs[j]? = some v ∧ VR ρ a v) → LR ρ as vs
  | [], vs, h, _ => by simp [LR]; simpa using h
  | a :: as, [], h, _ => by simp at h
  | a :: as, v :: vs, h, k => by
    refine LR.cons ?_ (LR.of_get (by simpa using h) fun j b hb => ?_)
    · obtain ⟨u, hu, hv⟩ := k 0 a rfl; simp at hu; subst hu; exact hv
    · obtain ⟨u, hu, hv⟩ := k (j + 1) b (by simpa using hb); exact ⟨u, by simpa using hu, hv⟩

theorem LR.set : ∀ {as : List AV} {vs : List Value} (n : Nat) {a v}, LR ρ as vs → VR ρ a v → LR ρ (as.set n a) (vs.set n v)
  | [], _, _, _, _, h, _ => by simp only [LR] at h; subst h; simp [LR]
  | b :: as, _, 0, _, _, h, hv => by
    simp only [LR] at h; obtain ⟨v, vs', rfl, _, h3⟩ := h
    simpa using LR.cons hv h3
  | b :: as, _, n + 1, _, _, h, hv => by
    simp only [LR] at h; obtain ⟨v, vs', rfl, h2, h3⟩ := h
    simpa using LR.cons h2 (LR.set n h3 hv)

theorem LR.map {f : AV → AV} {g : Value → Value} (hf : ∀ a v, VR ρ a v → VR ρ (f a) (g v)) : ∀ {as : List AV} {vs : List Value}, LR ρ as vs → LR ρ (as.map f) (vs.map g)
  | [], _, h => by simp only [LR] at h; subst h; simp [LR]
  | a :: as, _, h => by
    simp only [LR] at h; obtain ⟨v, vs', rfl, h2, h3⟩ := h
    exact LR.cons (hf _ _ h2) (LR.map hf h3)

/-- One cell on one side, one cell on the other. -/
theorem VR.one {a : AV} {v : Value} (h : VR ρ a v) : vone v = a.one := by
  cases a with
  | ptr a => cases a with
    | none => simp only [VR] at h; subst h; rfl
    | some p => obtain ⟨i, o⟩ := p; simp only [VR] at h; obtain ⟨b, s, z, _, rfl⟩ := h; rfl
  | slice a len cap sz => cases a with
    | none => simp only [VR] at h; obtain ⟨_, _, rfl⟩ := h; rfl
    | some p => obtain ⟨i, o⟩ := p; simp only [VR] at h; obtain ⟨b, s, z, o', c, _, rfl, _⟩ := h; rfl
  | map r => cases r with
    | none => simp only [VR] at h; subst h; rfl
    | some r => simp only [VR] at h; obtain ⟨b, s, z, _, rfl⟩ := h; rfl
  | func fn f c => simp only [VR] at h; obtain ⟨fs, cs, rfl, _⟩ := h; rfl
  | iface t x => simp only [VR] at h; obtain ⟨y, rfl, _⟩ := h; rfl
  | agg cs => simp only [VR] at h; obtain ⟨vs, rfl, _⟩ := h; rfl
  | tuple cs => simp only [VR] at h; obtain ⟨vs, rfl, _⟩ := h; rfl
  | int k n => simp only [VR] at h; subst h; rfl
  | bool b => simp only [VR] at h; subst h; rfl
  | str s => simp only [VR] at h; subst h; rfl
  | nilFunc => simp only [VR] at h; subst h; rfl
  | nilIface => simp only [VR] at h; subst h; rfl

/-- The cells of a value that is no tuple. -/
theorem VR.cells {a : AV} {v : Value} (h : VR ρ a v) : LR ρ a.cells v.cells.toList := by
  cases a with
  | agg cs => simp only [VR] at h; obtain ⟨vs, rfl, hl⟩ := h; exact hl
  | tuple cs =>
    have h' := h
    simp only [VR] at h; obtain ⟨vs, rfl, hl⟩ := h
    exact LR.cons h' LR.nil
  | _ =>
    have h1 := h.one
    have hc : v.cells = #[v] := by cases v <;> simp_all [Value.cells, vone, AV.one]
    rw [hc]; exact LR.cons h LR.nil
end lists

/-! ### The relation of heaps -/

def ER (ρ : Ren) : List (AV × AV × Nat) → List MapEntry → Prop
  | [], es => es = []
  | (k, v, n) :: as, es => ∃ e es', es = e :: es' ∧ VR ρ k e.key ∧ VR ρ v e.val ∧ e.born = n ∧ ER ρ as es'

theorem ER.mono {ρ ρ' : Ren} (hρ : ρ.le ρ') : ∀ (as : List (AV × AV × Nat)) (es : List MapEntry), ER ρ as es → ER ρ' as es
  | [], _, h => h
  | (k, v, n) :: as, _, h => by
    simp only [ER] at h ⊢; obtain ⟨e, es', h1, h2, h3, h4, h5⟩ := h
    exact ⟨e, es', h1, VR.mono hρ _ _ h2, VR.mono hρ _ _ h3, h4, ER.mono hρ as es' h5⟩

/-- What an object says of the world. -/
def OR (ρ : Ren) (i : Nat) (w : World) : AO → Prop
  | .cells cs t ro => ∃ b s z C fz, ρ i = some (b, s, z) ∧ w.heap[b]? = some (.cells ⟨C⟩ t fz) ∧ C.length = z ∧ s + cs.length ≤ z ∧
      LR ρ cs ((C.drop s).take cs.length) ∧ (∀ c ∈ cs, c.one = true) ∧ (ro = false → ∀ o, o < z → ¬ (fz.1 ≤ o ∧ o < fz.2))
  | .map es clock => ∃ b s z ES, ρ i = some (b, s, z) ∧ w.heap[b]? = some (.map ⟨ES⟩ clock) ∧ ER ρ es ES
  | .dead => True

structure HR (ρ : Ren) (h : AH) (w : World) : Prop where
  dom : ∀ i x, ρ i = some x → i < h.next ∧ x.1 < w.heap.size
  new : ∀ i o, h.get i = some o → i < h.next
  obj : ∀ i o, h.get i = some o → OR ρ i w o
  inj : ∀ i j oi oj x y, h.get i = some oi → h.get j = some oj → i ≠ j → oi.wr = true → oj.live = true → ρ i = some x → ρ j = some y → x.1 ≠ y.1

/-- A block that an object may be written through. -/
def Mine (ρ : Ren) (h : AH) (b : Nat) : Prop := ∃ i o x, h.get i = some o ∧ o.wr = true ∧ ρ i = some x ∧ x.1 = b

/-- What a piece of the machine does to the world: it writes to its own blocks alone, and makes new ones. -/
structure Frm (ρ : Ren) (h : AH) (w : World) (ρ' : Ren) (h' : AH) (w' : World) : Prop where
  le : ρ.le ρ'
  old : ∀ i, i < h.next → ρ' i = ρ i
  next : h.next ≤ h'.next
  os : w'.os = w.os
  tape : w'.tape = w.tape
  output : w'.output = w.output
  size : w.heap.size ≤ w'.heap.size
  block : ∀ b, b < w.heap.size → ¬ Mine ρ h b → w'.heap[b]? = w.heap[b]?
  mine : ∀ b, Mine ρ' h' b → Mine ρ h b ∨ w.heap.size ≤ b
  ro : ∀ i o, h'.get i = some o → o.live = true → o.wr = false → h.get i = some o

theorem Frm.refl (ρ : Ren) (h : AH) (w : World) : Frm ρ h w ρ h w :=
  ⟨Ren.le_refl _, fun _ _ => rfl, Nat.le_refl _, rfl, rfl, rfl, Nat.le_refl _, fun _ _ _ => rfl, fun _ hb => .inl hb, fun _ _ h _ _ => h⟩

theorem Frm.trans {ρ ρ1 ρ2 : Ren} {h h1 h2 : AH} {w w1 w2 : World} (a : Frm ρ h w ρ1 h1 w1) (b : Frm ρ1 h1 w1 ρ2 h2 w2) : Frm ρ h w ρ2 h2 w2 where
  le := Ren.le_trans a.le b.le
  old := fun i hi => (b.old i (Nat.lt_of_lt_of_le hi a.next)).trans (a.old i hi)
  next := Nat.le_trans a.next b.next
  os := b.os.trans a.os
  tape := b.tape.trans a.tape
  output := b.output.trans a.output
  size := Nat.le_trans a.size b.size
  block := fun k hk hm => by
    rw [b.block k (Nat.lt_of_lt_of_le hk a.size) ?_, a.block k hk hm]
    intro hm'
    rcases a.mine k hm' with h | h
    · exact hm h
    · omega
  mine := fun k hk => by
    rcases b.mine k hk with h | h
    · exact a.mine k h
    · exact .inr (Nat.le_trans a.size h)
  ro := fun i o hg hl hw => a.ro i o (b.ro i o hg hl hw) hl hw

/-- Only the count of draws has moved. -/
theorem Frm.drawn {ρ : Ren} {h : AH} {w w' : World} (hh : w'.heap = w.heap) (ho : w'.os = w.os) (ht : w'.tape = w.tape) (hu : w'.output = w.output) : Frm ρ h w ρ h w' :=
  ⟨Ren.le_refl _, fun _ _ => rfl, Nat.le_refl _, ho, ht, hu, by rw [hh]; exact Nat.le_refl _, fun _ _ _ => by rw [hh], fun _ hb => .inl hb, fun _ _ h _ _ => h⟩

theorem OR.heap {ρ : Ren} {i : Nat} {w w' : World} (hh : w'.heap = w.heap) {o : AO} (h : OR ρ i w o) : OR ρ i w' o := by
  cases o <;> simp only [OR, hh] at h ⊢ <;> exact h

theorem HR.heap {ρ : Ren} {h : AH} {w w' : World} (hh : w'.heap = w.heap) (k : HR ρ h w) : HR ρ h w' :=
  ⟨fun i x e => by rw [hh]; exact k.dom i x e, k.new, fun i o e => (k.obj i o e).heap hh, k.inj⟩

end Go.Am

namespace Go.Am
open Go

/-! ### Constants, types -/

def cellA : Value → Option AV
  | .int k n => some (.int k n)
  | .bool b => some (.bool b)
  | .string s => some (.str s.data.toList)
  | .pointer none => some (.ptr none)
  | .slice none 0 0 => some (.slice none 0 0 0)
  | .map none => some (.map none)
  | .nilFunc => some .nilFunc
  | .nilIface => some .nilIface
  | _ => none

def cellsA : List Value → Option (List AV)
  | [] => some []
  | v :: vs => match cellA v, cellsA vs with
    | some a, some as => some (a :: as)
    | _, _ => none

def constA : Value → Option AV
  | .agg cs => (cellsA cs.toList).map .agg
  | v => cellA v

def tsz (P : Program) (t : TypeId) : Option Nat := (P.info? t).map (·.size)

def isAggD : TypeDesc → Bool
  | .struct _ | .array _ _ => true
  | _ => false

def zeroA (P : Program) (t : TypeId) : Option AV := match P.info? t with
  | some i => i.zero.bind constA
  | none => none

/-! ### Cells -/

/-- Cells written one behind the other. -/
def putCells : List AV → Nat → List AV → List AV
  | cs, _, [] => cs
  | cs, o, v :: vs => putCells (cs.set o v) (o + 1) vs

def ones (l : List AV) : Bool := l.all AV.one

/-- A part of an aggregate. -/
def partA (P : Program) (t : TypeId) (cs : List AV) (off : Nat) : Option AV := match P.underlying t, tsz P t with
  | some d, some n => bif isAggD d then (if off + n ≤ cs.length then some (.agg ((cs.drop off).take n)) else none) else cs[off]?
  | _, _ => none

def rowOf (h : AH) (i o n : Nat) : Option (List AV) := match h.get i with
  | some (.cells cs _ _) => if o + n ≤ cs.length then some ((cs.drop o).take n) else none
  | _ => none

def loadA (P : Program) (t : TypeId) (h : AH) (i o : Nat) : Option AV := match h.get i with
  | some (.cells cs _ _) => partA P t cs o
  | _ => none

def writeA (h : AH) (i o : Nat) (new : List AV) : Option AH := match h.get i with
  | some (.cells cs t false) => if o + new.length ≤ cs.length ∧ ones new = true then some (h.set i (.cells (putCells cs o new) t false)) else none
  | _ => none

def storeA (P : Program) (t : TypeId) (h : AH) (i o : Nat) (v : AV) : Option AH :=
  if tsz P t = some v.cells.length then writeA h i o v.cells else none

def fillA (place : Nat → Option (Nat × Nat)) (cells : List AV) : List (Nat × AV) → Option (List AV)
  | [] => some cells
  | (i, v) :: rest => match place i with
    | none => none
    | some (off, size) => if v.cells.length = size ∧ off + v.cells.length ≤ cells.length then fillA place (putCells cells off v.cells) rest else none

/-! ### Pure operations -/

def intBin (op : BinOp) (k : IntKind) (a b : Int) : Option AV :=
  match op with
  | .add => some (.int k (k.wrap (a + b)))
  | .sub => some (.int k (k.wrap (a - b)))
  | .mul => some (.int k (k.wrap (a * b)))
  | .quo => if b = 0 then none else some (.int k (k.wrap (a.tdiv b)))
  | .rem => if b = 0 then none else some (.int k (a.tmod b))
  | .and => some (.int k (k.wrap (BitVec.ofInt k.bits a &&& BitVec.ofInt k.bits b).toNat))
  | .or => some (.int k (k.wrap (BitVec.ofInt k.bits a ||| BitVec.ofInt k.bits b).toNat))
  | .xor => some (.int k (k.wrap (BitVec.ofInt k.bits a ^^^ BitVec.ofInt k.bits b).toNat))
  | .andNot => some (.int k (k.wrap (BitVec.ofInt k.bits a &&& ~~~ BitVec.ofInt k.bits b).toNat))
  | .eql => some (.bool (a == b))
  | .neq => some (.bool (a != b))
  | .lss => some (.bool (decide (a < b)))
  | .leq => some (.bool (decide (a ≤ b)))
  | .gtr => some (.bool (decide (a > b)))
  | .geq => some (.bool (decide (a ≥ b)))
  | _ => none

def shiftA (op : BinOp) (k : IntKind) (a b : Int) : Option AV :=
  if b < 0 then none else match op with
  | .shl => some (.int k (k.wrap (a * 2 ^ (min b.toNat k.bits))))
  | .shr => some (.int k (a.fdiv (2 ^ (min b.toNat k.bits))))
  | _ => none

def strBin (op : BinOp) (a b : List UInt8) : Option AV :=
  match op with
  | .add => if ((a.length + b.length : Nat) : Int) > IntKind.i64.max then none else some (.str (a ++ b))
  | .eql => some (.bool (a == b))
  | .neq => some (.bool !(a == b))
  | .lss => some (.bool (Op.bytesLess a b))
  | .leq => some (.bool (Op.bytesLess a b || a == b))
  | .gtr => some (.bool !(Op.bytesLess a b || a == b))
  | .geq => some (.bool !(Op.bytesLess a b))
  | _ => none

mutual
def eqA (P : Program) : Nat → TypeId → AV → AV → Option Bool
  | 0, _, _, _ => none
  | d + 1, t, x, y => match P.underlying t, x, y with
    | some .bool, .bool a, .bool b => some (a == b)
    | some (.int _), .int k a, .int k' b => if k = k' then some (a == b) else none
    | some .string, .str a, .str b => some (a == b)
    | some (.pointer _), .ptr none, .ptr b => some b.isNone
    | some (.pointer _), .ptr (some _), .ptr none => some false
    | some (.slice _), .slice none _ _ _, .slice b _ _ _ => some b.isNone
    | some (.slice _), .slice (some _) _ _ _, .slice none _ _ _ => some false
    | some (.map _ _), .map none, .map b => some b.isNone
    | some (.map _ _), .map (some _), .map none => some false
    | some (.func _ _ _), .nilFunc, .nilFunc => some true
    | some (.func _ _ _), .nilFunc, .func _ _ _ => some false
    | some (.func _ _ _), .func _ _ _, .nilFunc => some false
    | some (.interface _), .nilIface, .nilIface => some true
    | some (.interface _), .nilIface, .iface _ _ => some false
    | some (.interface _), .iface _ _, .nilIface => some false
    | some (.struct fs), .agg xs, .agg ys => if P.stoodInHeld t = false then eqFields P d fs.toList xs ys else none
    | _, _, _ => none
def eqFields (P : Program) : Nat → List Field → List AV → List AV → Option Bool
  | 0, _, _, _ => none
  | _ + 1, [], _, _ => some true
  | d + 1, f :: fs, xs, ys =>
    if f.name = "_" then eqFields P d fs xs ys else
    match partA P f.type xs f.offset, partA P f.type ys f.offset with
    | some a, some b => match eqA P d f.type a b with
      | some true => eqFields P d fs xs ys
      | some false => some false
      | none => none
    | _, _ => none
end

def isConstB : Operand → Bool
  | .const _ => true
  | _ => false

/-- Is '==' at these values without the model's own guard? -/
def guardOk (P : Program) (op : BinOp) (t : TypeId) (x y : Operand) (a b : AV) : Bool :=
  match op, a, b with
  | .eql, .nilIface, .nilIface | .neq, .nilIface, .nilIface => isConstB x || isConstB y
  | .eql, .agg _, .agg _ | .neq, .agg _, .agg _ => !P.eqGuardType P.depth t
  | _, _, _ => true

def eqDepth : Nat := 300

def binA (P : Program) (op : BinOp) (t : TypeId) (a b : AV) : Option AV :=
  match op, a, b with
  | .shl, .int k x, .int _ y => shiftA .shl k x y
  | .shr, .int k x, .int _ y => shiftA .shr k x y
  | op, .int k x, .int k' y => if k = k' then intBin op k x y else none
  | op, .str x, .str y => strBin op x y
  | .eql, x, y => (eqA P eqDepth t x y).map .bool
  | .neq, x, y => (eqA P eqDepth t x y).map fun b => .bool !b
  | _, _, _ => none

def unA (op : UnOp) (x : AV) : Option AV :=
  match op, x with
  | .neg, .int k n => some (.int k (k.wrap (0 - n)))
  | .xor, .int k n => some (.int k (k.wrap (BitVec.ofInt k.bits (if k.signed then -1 else k.max) ^^^ BitVec.ofInt k.bits n).toNat))
  | .not, .bool b => some (.bool !b)
  | _, _ => none

def convA (P : Program) (s d : TypeId) (x : AV) : Option AV :=
  match P.underlying s, P.underlying d, x with
  | some _, some (.int k), .int _ n => some (.int k (k.wrap n))
  | some _, some .string, .str l => some (.str l)
  | _, _, _ => none

def boundA (v : Option AV) (dflt most : Nat) : Option Nat :=
  match v with
  | none => some dflt
  | some (.int _ n) => if 0 ≤ n ∧ n ≤ (most : Int) then some n.toNat else none
  | some _ => none

/-- The bounds of a slice expression: from, to, how far its room goes. -/
def boundsA (len cap : Nat) (lo hi mx : Option AV) : Option (Nat × Nat × Nat) :=
  match boundA mx cap cap with
  | none => none
  | some m => match boundA hi len m with
    | none => none
    | some h => if h ≤ m then (match boundA lo 0 h with
      | none => none
      | some l => if l ≤ h then some (l, h, m) else none) else none

def optA (ev : Operand → Option AV) : Option Operand → Option (Option AV)
  | none => some none
  | some x => (ev x).map some

def sliceA (P : Program) (t : TypeId) (x : AV) (lo hi mx : Option AV) : Option AV :=
  match P.underlying t, x with
  | some .string, .str s => if mx.isSome then none else match boundsA s.length s.length lo hi none with
    | some (l, h, _) => some (.str ((s.drop l).take (h - l)))
    | none => none
  | some (.slice e), .slice a len cap sz => if mx.isSome ∧ hi.isNone then none else match boundsA len cap lo hi mx, tsz P e with
    | some (l, h, m), some n => match a with
      | none => some (.slice none 0 0 0)
      | some (i, o) => if n = sz then some (.slice (some (i, o + l * n)) (h - l) (m - l) sz) else none
    | _, _ => none
  | _, _ => none

def fieldAtA (P : Program) (s : TypeId) (x : AV) (f : Nat) : Option AV :=
  match P.underlying s, x with
  | some (.struct fs), .ptr (some (i, o)) => match fs.toList[f]? with
    | some fd => match tsz P fd.type with
      | some 0 => none
      | some _ => some (.ptr (some (i, o + fd.offset)))
      | none => none
    | none => none
  | _, _ => none

def indexAtA (P : Program) (t : TypeId) (x ix : AV) : Option AV :=
  match P.underlying t, x, ix with
  | some (.array n e), .ptr (some (i, o)), .int _ k => match tsz P e with
    | some s => if 0 ≤ k ∧ k < (n : Int) then some (.ptr (some (i, o + k.toNat * s))) else none
    | none => none
  | some (.slice e), .slice (some (i, o)) len _ _, .int _ k => match tsz P e with
    | some s => if 0 ≤ k ∧ k < (len : Int) then some (.ptr (some (i, o + k.toNat * s))) else none
    | none => none
  | _, _, _ => none

def indexA (P : Program) (t : TypeId) (x ix : AV) : Option AV :=
  match P.underlying t, x, ix with
  | some (.array n e), .agg cs, .int _ k => match tsz P e with
    | some s => if 0 ≤ k ∧ k < (n : Int) then partA P e cs (k.toNat * s) else none
    | none => none
  | some .string, .str l, .int _ k => if 0 ≤ k then (match l[k.toNat]? with
    | some b => some (.int .u8 b.toNat)
    | none => none) else none
  | _, _, _ => none

def fieldA (P : Program) (t : TypeId) (x : AV) (f : Nat) : Option AV :=
  match P.underlying t, x with
  | some (.struct fs), .agg cs => match fs.toList[f]? with
    | some fd => partA P fd.type cs fd.offset
    | none => none
  | _, _ => none

def assertA (P : Program) (x : AV) (t : TypeId) (commaOk : Bool) : Option AV :=
  match P.underlying t with
  | some (.interface _) => none
  | some _ => match x, commaOk with
    | .nilIface, true => (zeroA P t).map fun z => .tuple [z, .bool false]
    | .iface u v, true => if u = t then some (.tuple [v, .bool true]) else (zeroA P t).map fun z => .tuple [z, .bool false]
    | .iface u v, false => if u = t then some v else none
    | _, _ => none
  | none => none

def evs (ev : Operand → Option AV) : List Operand → Option (List AV)
  | [] => some []
  | x :: xs => match ev x, evs ev xs with
    | some a, some as => some (a :: as)
    | _, _ => none

def evParts (ev : Operand → Option AV) : List (Nat × Operand) → Option (List (Nat × AV))
  | [] => some []
  | (i, x) :: xs => match ev x, evParts ev xs with
    | some a, some as => some ((i, a) :: as)
    | _, _ => none

def fieldPlaces (P : Program) : List Field → Option (List (Nat × Nat))
  | [] => some []
  | f :: fs => match tsz P f.type, fieldPlaces P fs with
    | some n, some r => some ((f.offset, n) :: r)
    | _, _ => none

def buildA (P : Program) (t : TypeId) (parts : List (Nat × AV)) : Option AV :=
  match zeroA P t, P.underlying t with
  | some z, some (.struct fs) => match fieldPlaces P fs.toList with
    | some pl => (fillA (fun i => pl[i]?) z.cells parts).map .agg
    | none => none
  | some z, some (.array _ e) => match tsz P e with
    | some s => (fillA (fun i => some (i * s, s)) z.cells parts).map .agg
    | none => none
  | _, _ => none

def max2A : AV → AV → Option AV
  | .int k x, .int _ y => some (.int k (if y > x then y else x))
  | _, _ => none
def min2A : AV → AV → Option AV
  | .int k x, .int _ y => some (.int k (if y < x then y else x))
  | _, _ => none
def foldA (f : AV → AV → Option AV) : AV → List AV → Option AV
  | x, [] => some x
  | x, y :: ys => match f x y with
    | some z => foldA f z ys
    | none => none

def lenA (P : Program) (t : TypeId) (x : AV) : Option AV :=
  match P.underlying t, x with
  | some .string, .str s => some (.int .i64 s.length)
  | some (.array n _), _ => some (.int .i64 n)
  | some (.pointer a), _ => match P.underlying a with
    | some (.array n _) => some (.int .i64 n)
    | _ => none
  | some (.slice _), .slice _ n _ _ => some (.int .i64 n)
  | some (.map _ _), .map none => some (.int .i64 0)
  | _, _ => none

/-- 'cap' of a nil slice: 0; of any other one the abstract machine knows nothing. -/
def capA (P : Program) (t : TypeId) (x : AV) : Option AV := match P.underlying t, x with
  | some (.slice _), .slice none _ _ _ => some (.int .i64 0)
  | _, _ => none

def pureA (P : Program) (ev : Operand → Option AV) : Op → Option AV
  | .move x | .assign x => ev x
  | .pick c a b => match ev c with
    | some (.bool t) => bif t then ev a else ev b
    | _ => none
  | .build t parts => match evParts ev parts.toList with
    | some l => buildA P t l
    | none => none
  | .nilCheck x => match ev x with
    | some (.ptr none) | some .nilIface | some .nilFunc => none
    | some (.func (.func g) f c) => some (.func (.func g) f c)
    | some (.func _ _ _) => none
    | r => r
  | .binOp op t x y _ => match ev x, ev y with
    | some a, some b => bif guardOk P op t x y a b then binA P op t a b else none
    | _, _ => none
  | .unOp op _ x => (ev x).bind (unA op)
  | .convert s d x => (ev x).bind (convA P s d)
  | .sliceToArrayPointer t x => match P.underlying t, ev x with
    | some (.array n _), some (.slice (some p) len _ _) => if 0 < n ∧ n ≤ len then some (.ptr (some p)) else none
    | _, _ => none
  | .makeInterface t x => match P.underlying t with
    | some (.interface _) => none
    | some _ => (ev x).map (.iface t)
    | none => none
  | .makeFunc fn first captured => match evs ev first.toList, evs ev captured.toList with
    | some f, some c => some (.func fn f c)
    | _, _ => none
  | .slice t x lo hi mx => match ev x, optA ev lo, optA ev hi, optA ev mx with
    | some v, some l, some h, some m => sliceA P t v l h m
    | _, _, _, _ => none
  | .fieldAddr s x f => (ev x).bind fun v => fieldAtA P s v f
  | .field t x f => (ev x).bind fun v => fieldA P t v f
  | .indexAddr t x ix => match ev x, ev ix with
    | some a, some b => indexAtA P t a b
    | _, _ => none
  | .index t x ix => match ev x, ev ix with
    | some a, some b => indexA P t a b
    | _, _ => none
  | .typeAssert x _ t ok => (ev x).bind fun v => assertA P v t ok
  | .extract t i => match ev t with
    | some (.tuple vs) => vs[i]?
    | _ => none
  | .call { callee := .builtin .len, args, argTypes } => match args.toList, argTypes.toList with
    | [x], [t] => (ev x).bind (lenA P t)
    | _, _ => none
  | .call { callee := .builtin .cap, args, argTypes } => match args.toList, argTypes.toList with
    | [x], [t] => (ev x).bind (capA P t)
    | _, _ => none
  | .call { callee := .builtin .max, args, .. } => match evs ev args.toList with
    | some (x :: xs) => foldA max2A x xs
    | _ => none
  | .call { callee := .builtin .min, args, .. } => match evs ev args.toList with
    | some (x :: xs) => foldA min2A x xs
    | _ => none
  | _ => none

/-! ### Operations that read an object -/

def bytesA : List AV → Option (List UInt8)
  | [] => some []
  | .int .u8 n :: r => (bytesA r).map (UInt8.ofNat n.toNat :: ·)
  | _ => none

/-- A key that the abstract machine looks for: a whole number or a string. -/
def keyEq (P : Program) (kt : TypeId) (a b : AV) : Option Bool :=
  match P.underlying kt, a, b with
  | some (.int _), .int k x, .int k' y => if k = k' then some (x == y) else none
  | some .string, .str x, .str y => some (x == y)
  | _, _, _ => none

def findA (P : Program) (kt : TypeId) (k : AV) : List (AV × AV × Nat) → Nat → Option (Option (Nat × AV × Nat))
  | [], _ => some none
  | (x, v, n) :: es, i => match keyEq P kt k x with
    | some true => some (some (i, v, n))
    | some false => findA P kt k es (i + 1)
    | none => none

def keyOk (P : Program) (kt : TypeId) (k : AV) : Bool :=
  match P.underlying kt, k with
  | some (.int _), .int _ _ => true
  | some .string, .str _ => true
  | _, _ => false

def entriesA (h : AH) : AV → Option (List (AV × AV × Nat))
  | .map none => some []
  | .map (some r) => match h.get r with
    | some (.map es _) => some es
    | _ => none
  | _ => none

def lookupA (P : Program) (t : TypeId) (h : AH) (m k : AV) (commaOk : Bool) : Option AV :=
  match P.underlying t, entriesA h m with
  | some (.map kt et), some es => bif keyOk P kt k then (match findA P kt k es 0 with
    | some (some (_, v, _)) => some (bif commaOk then .tuple [v, .bool true] else v)
    | some none => (zeroA P et).map fun z => bif commaOk then .tuple [z, .bool false] else z
    | none => none) else none
  | _, _ => none

/-- The object that an operation reads. -/
def readId (ev : Operand → Option AV) : Op → Option Nat
  | .slice _ x _ _ _ => match ev x with
    | some (.ptr (some (i, _))) => some i
    | _ => none
  | .load _ a => match ev a with
    | some (.ptr (some (i, _))) => some i
    | _ => none
  | .lookup _ m _ _ => match ev m with
    | some (.map r) => r
    | _ => none
  | .convert _ _ x => match ev x with
    | some (.slice (some (i, _)) _ _ _) => some i
    | _ => none
  | .call { callee := .builtin .len, args, .. } => match args.toList with
    | [x] => match ev x with
      | some (.map r) => r
      | _ => none
    | _ => none
  | _ => none

def sliceArrA (P : Program) (t : TypeId) (h : AH) (x : AV) (lo hi mx : Option AV) : Option AV :=
  match P.underlying t, x with
  | some (.array n e), .ptr (some (i, o)) => if mx.isSome ∧ hi.isNone then none else match boundsA n n lo hi mx, tsz P e with
    | some (l, k, m), some s => match rowOf h i o (n * s) with
      | some _ => some (.slice (some (i, o + l * s)) (k - l) (m - l) s)
      | none => none
    | _, _ => none
  | _, _ => none

def readA (P : Program) (ev : Operand → Option AV) (h : AH) : Op → Option AV
  | .slice t x lo hi mx => match ev x, optA ev lo, optA ev hi, optA ev mx with
    | some v, some l, some k, some m => sliceArrA P t h v l k m
    | _, _, _, _ => none
  | .load t a => match ev a with
    | some (.ptr (some (i, o))) => loadA P t h i o
    | _ => none
  | .lookup t m k ok => match ev m, ev k with
    | some a, some b => lookupA P t h a b ok
    | _, _ => none
  | .convert s d x => match P.underlying s, P.underlying d, ev x with
    | some (.slice e), some .string, some (.slice a len _ sz) => match P.underlying e, a with
      | some (.int .u8), none => some (.str [])
      | some (.int .u8), some (i, o) => if sz = 1 then ((rowOf h i o len).bind bytesA).map .str else none
      | _, _ => none
    | _, _, _ => none
  | .call { callee := .builtin .len, args, argTypes } => match args.toList, argTypes.toList with
    | [x], [t] => match P.underlying t, ev x with
      | some (.map _ _), some m => (entriesA h m).map fun es => .int .i64 es.length
      | _, _ => none
    | _, _ => none
  | _ => none

/-! ### Operations that make an object: the value (of the object's number), the object -/

def replA : Nat → List AV → List AV
  | 0, _ => []
  | n + 1, z => z ++ replA n z

def u8s (l : List UInt8) : List AV := l.map fun b => .int .u8 b.toNat

def allocA (P : Program) (ev : Operand → Option AV) : Op → Option ((Nat → AV) × AO)
  | .alloc e => match zeroA P e with
    | some z => if ones z.cells then some (fun i => .ptr (some (i, 0)), .cells z.cells e false) else none
    | none => none
  | .box e x => match ev x with
    | some v => if ones v.cells then some (fun i => .ptr (some (i, 0)), .cells v.cells e false) else none
    | none => none
  | .buildSlice t len parts => match P.underlying t, evParts ev parts.toList with
    | some (.slice e), some ps => match tsz P e, zeroA P e with
      | some s, some z => if 0 < s ∧ z.cells.length = s ∧ len * s ≤ 2 ^ 24 then (match fillA (fun i => some (i * s, s)) (replA len z.cells) ps with
        | some cs => if ones cs then some (fun i => .slice (some (i, 0)) len len s, .cells cs e false) else none
        | none => none) else none
      | _, _ => none
    | _, _ => none
  | .makeSlice t l c => match P.underlying t, ev l, ev c with
    | some (.slice e), some (.int _ n), some (.int _ m) => match P.info? e, zeroA P e with
      | some inf, some z => if 0 ≤ n ∧ n ≤ m ∧ (inf.bytes : Int) * m ≤ 2 ^ 46 ∧ m < 2 ^ 63 ∧ 0 < inf.size ∧ z.cells.length = inf.size ∧ ones z.cells = true then
          some (fun i => .slice (some (i, 0)) n.toNat m.toNat inf.size, .cells (replA m.toNat z.cells) e false) else none
      | _, _ => none
    | _, _, _ => none
  | .makeMap _ none => some (fun i => .map (some i), .map [] 0)
  | .convert s d x => match P.underlying s, P.underlying d, ev x with
    | some .string, some (.slice e), some (.str l) => match P.underlying e with
      | some (.int .u8) => some (fun i => .slice (some (i, 0)) l.length l.length 1, .cells (u8s l) e false)
      | _ => none
    | _, _, _ => none
  | _ => none

/-! ### Operations that change something -/

inductive Nx where
  | val (v : AV)
  | skip
  | enter (f : FuncId) (args : List AV)
  | defer (f : FuncId) (args : List AV)
  | recover

inductive R (α : Type) where
  | ok (a : α) (h : AH)
  | pan (v : AV) (h : AH)
  | no

def R.of (r : Option (AV × AH)) : R Nx := match r with
  | some (v, h) => .ok (.val v) h
  | none => .no

def R.unit (r : Option AH) : R Nx := match r with
  | some h => .ok .skip h
  | none => .no

def lenOfA : AV → Option Nat
  | .slice _ n _ _ => some n
  | .str s => some s.length
  | _ => none

/-- The first n elements' cells. -/
def firstA (h : AH) (size n : Nat) : AV → Option (List AV)
  | .slice none _ _ _ => some []
  | .slice (some (i, o)) _ _ _ => rowOf h i o (n * size)
  | .str s => some (u8s (s.take n))
  | _ => none

def newCells (P : Program) (h : AH) (e : TypeId) (size : Nat) (zeros : Bool) (x : AV) : Option (Nat × List AV) :=
  bif zeros then (match x, zeroA P e, P.info? e with
    | .int .i64 n, some z, some inf => if 0 ≤ n ∧ n * inf.bytes ≤ 2 ^ 46 ∧ n < 2 ^ 63 ∧ z.cells.length = size then some (n.toNat, replA n.toNat z.cells) else none
    | _, _, _ => none)
  else match lenOfA x with
    | some n => (firstA h size n x).map fun l => (n, l)
    | none => none

def isIntO : Option TypeDesc → Bool
  | some (.int _) => true
  | _ => false

def zeroFits (inf : TypeInfo) : Bool := match inf.zero with
  | some z => z.cells.size == inf.size
  | none => false

def appendA (P : Program) (argTypes : List TypeId) (args : List AV) (h : AH) : Option (AV × AH) :=
  match argTypes, args with
  | st :: xt :: _, [.slice base len cap sz, x] => match P.underlying st with
    | some (.slice e) => match P.info? e with
      | some inf =>
        match newCells P h e inf.size (isIntO (P.underlying xt)) x with
        | none => none
        | some (n, new) => if 0 < inf.size ∧ 0 < inf.bytes ∧ new.length = n * inf.size ∧ ones new = true ∧ (!base.isSome || sz == inf.size) = true ∧ (P.underlying xt).isSome = true ∧ zeroFits inf = true then
            if len + n ≤ cap then (match base with
              | none => some (.slice none 0 0 0, h)
              | some (i, o) => if n = 0 then some (.slice base len cap sz, h) else (writeA h i (o + len * inf.size) new).map fun h' => (.slice base (len + n) cap sz, h'))
            else if (2 * (len + n) + 512) * inf.bytes ≤ 2 ^ 47 then (match base with
              | none => some (.slice (some (h.next, 0)) (len + n) (len + n) inf.size, h.add (.cells new e false))
              | some (i, o) => match h.get i with
                | some (.cells cs e' false) => if e' = e ∧ o + len * inf.size ≤ cs.length then
                    some (.slice (some (h.next, 0)) (len + n) (len + n) inf.size, (h.set i .dead).add (.cells ((cs.drop o).take (len * inf.size) ++ new) e false)) else none
                | _ => none)
            else none
          else none
      | none => none
    | _ => none
  | _, _ => none

def copyA (P : Program) (argTypes : List TypeId) (args : List AV) (h : AH) : Option (AV × AH) :=
  match argTypes, args with
  | st :: _, [.slice base dLen _ _, x] => match P.underlying st, lenOfA x with
    | some (.slice e), some m => match tsz P e with
      | some size => let n := Nat.min m dLen
        match firstA h size n x with
        | none => none
        | some cs => match base with
          | none => some (.int .i64 n, h)
          | some (i, o) => if cs.isEmpty then some (.int .i64 n, h) else (writeA h i o cs).map fun h' => (.int .i64 n, h')
      | none => none
    | _, _ => none
  | _, _ => none

def mapPutA (P : Program) (t : TypeId) (m k v : AV) (h : AH) : Option AH :=
  match P.underlying t, m with
  | some (.map kt _), .map (some r) => match h.get r with
    | some (.map es clock) => bif keyOk P kt k then (match findA P kt k es 0 with
      | some (some (i, _, n)) => some (h.set r (.map (es.set i (k, v, n)) clock))
      | some none => some (h.set r (.map (es ++ [(k, v, clock)]) (clock + 1)))
      | none => none) else none
    | _ => none
  | _, _ => none

def mapEntryA (P : Program) (t : TypeId) (m k : AV) (h : AH) : Option (AV × AH) :=
  match P.underlying t, m with
  | some (.map kt et), .map (some r) => match h.get r with
    | some (.map es clock) => bif keyOk P kt k then (match findA P kt k es 0 with
      | some (some (i, v, n)) => some (.tuple [v, .int .i64 n], h.set r (.map (es.set i (k, v, n)) clock))
      | some none => (zeroA P et).map fun z => (.tuple [z, .int .i64 clock], h.set r (.map (es ++ [(k, z, clock)]) (clock + 1)))
      | none => none) else none
    | _ => none
  | _, _ => none

def findBorn (n : Int) : List (AV × AV × Nat) → Nat → Option (Nat × AV × Nat)
  | [], _ => none
  | (k, _, b) :: es, i => if (b : Int) = n then some (i, k, b) else findBorn n es (i + 1)

def entryStoreA (m s v : AV) (h : AH) : Option AH :=
  match m, s with
  | .map (some r), .int _ n => match h.get r with
    | some (.map es clock) => match findBorn n es 0 with
      | some (i, k, b) => some (h.set r (.map (es.set i (k, v, b)) clock))
      | none => none
    | _ => none
  | _, _ => none

def deleteA (P : Program) (argTypes : List TypeId) (args : List AV) (h : AH) : Option AH :=
  match argTypes, args with
  | t :: _, [.map (some r), k] => match P.underlying t, h.get r with
    | some (.map kt _), some (.map es clock) => bif keyOk P kt k then (match findA P kt k es 0 with
      | some (some (i, _, _)) => some (h.set r (.map (es.eraseIdx i) clock))
      | some none => some (h.set r (.map es clock))
      | none => none) else none
    | _, _ => none
  | _, _ => none

def effA (P : Program) (ev : Operand → Option AV) (h : AH) : Op → R Nx
  | .store t a x => match ev a, ev x with
    | some (.ptr (some (i, o))), some v => R.unit (storeA P t h i o v)
    | _, _ => .no
  | .mapUpdate t m k x => match ev m, ev k, ev x with
    | some a, some b, some c => R.unit (mapPutA P t a b c h)
    | _, _, _ => .no
  | .insert t m k x => match ev m, ev k, ev x with
    | some a, some b, some c => R.unit (mapPutA P t a b c h)
    | _, _, _ => .no
  | .mapEntry t m k => match ev m, ev k with
    | some a, some b => R.of (mapEntryA P t a b h)
    | _, _ => .no
  | .entryStore _ m s x => match ev m, ev s, ev x with
    | some a, some b, some c => R.unit (entryStoreA a b c h)
    | _, _, _ => .no
  | .call { callee := .builtin .append, args, argTypes } => match evs ev args.toList with
    | some l => R.of (appendA P argTypes.toList l h)
    | none => .no
  | .call { callee := .builtin .copy, args, argTypes } => match evs ev args.toList with
    | some l => R.of (copyA P argTypes.toList l h)
    | none => .no
  | .call { callee := .builtin .delete, args, argTypes } => match evs ev args.toList with
    | some l => (match deleteA P argTypes.toList l h with
      | some h' => .ok (.val (.tuple [])) h'
      | none => .no)
    | none => .no
  | .call { callee := .builtin .recover, .. } => .ok .recover h
  | .call { callee := .value f, args, .. } => match ev f, evs ev args.toList with
    | some (.func (.func g) first captured), some l => .ok (.enter g (first ++ l ++ captured)) h
    | _, _ => .no
  | .defer { callee := .value f, args, .. } => match ev f, evs ev args.toList with
    | some (.func (.func g) first captured), some l => .ok (.defer g (first ++ l ++ captured)) h
    | _, _ => .no
  | .panic x => match ev x with
    | some (.iface t v) => .pan (.iface t v) h
    | _ => .no
  | _ => .no

/-! ### Which kind an operation is of -/

inductive K where
  | pure | read | alloc | eff
  deriving DecidableEq

def kindA (P : Program) : Op → K
  | .slice t _ _ _ _ => (match P.underlying t with | some (.array _ _) => .read | _ => .pure)
  | .move _ | .assign _ | .pick .. | .build .. | .nilCheck _ | .binOp .. | .unOp .. | .sliceToArrayPointer .. | .makeInterface .. | .makeFunc ..
  | .fieldAddr .. | .field .. | .indexAddr .. | .index .. | .typeAssert .. | .extract .. => .pure
  | .load .. | .lookup .. => .read
  | .alloc _ | .box .. | .buildSlice .. | .makeSlice .. | .makeMap .. => .alloc
  | .convert s d _ => match P.underlying s, P.underlying d with
    | some (.slice _), some .string => .read
    | some .string, some (.slice _) => .alloc
    | _, _ => .pure
  | .call { callee := .builtin .len, argTypes, .. } => match argTypes.toList with
    | [t] => (match P.underlying t with | some (.map _ _) => .read | _ => .pure)
    | _ => .pure
  | .call { callee := .builtin .max, .. } | .call { callee := .builtin .min, .. } | .call { callee := .builtin .cap, .. } => .pure
  | _ => .eff

def opA (P : Program) (ev : Operand → Option AV) (h : AH) (op : Op) : R Nx :=
  match kindA P op with
  | .pure => (match pureA P ev op with | some v => .ok (.val v) h | none => .no)
  | .read => (match readA P ev h op with | some v => .ok (.val v) h | none => .no)
  | .alloc => (match allocA P ev op with | some (mk, o) => .ok (.val (mk h.next)) (h.add o) | none => .no)
  | .eff => effA P ev h op

end Go.Am

namespace Go.Am
open Go

/-! ### Equality of values, as a test -/

mutual
def beqV : AV → AV → Bool
  | .int k a, .int k' b => decide (k = k') && a == b
  | .bool a, .bool b => a == b
  | .str a, .str b => a == b
  | .ptr a, .ptr b => decide (a = b)
  | .slice a l c s, .slice a' l' c' s' => decide (a = a') && l == l' && c == c' && s == s'
  | .map a, .map b => decide (a = b)
  | .func f x y, .func g u v => decide (f = g) && beqL x u && beqL y v
  | .nilFunc, .nilFunc => true
  | .iface t x, .iface u y => t == u && beqV x y
  | .nilIface, .nilIface => true
  | .agg x, .agg y => beqL x y
  | .tuple x, .tuple y => beqL x y
  | _, _ => false
def beqL : List AV → List AV → Bool
  | [], [] => true
  | a :: as, b :: bs => beqV a b && beqL as bs
  | _, _ => false
end

def beqE : List (AV × AV × Nat) → List (AV × AV × Nat) → Bool
  | [], [] => true
  | (a, b, n) :: as, (c, d, m) :: bs => beqV a c && beqV b d && n == m && beqE as bs
  | _, _ => false

def beqO : Option AO → Option AO → Bool
  | some (.cells a t r), some (.cells b u q) => beqL a b && t == u && r == q
  | some (.map a n), some (.map b m) => beqE a b && n == m
  | _, _ => false

/-! ### A region whose order is drawn: what its operations say -/

/-- Is i ahead of j in every order? -/
def ahead (pre : List Nat) (i j : Nat) : Bool := (pre.getD j 0).testBit i

def apartB (pre : List Nat) (i j : Nat) : Bool := !ahead pre i j && !ahead pre j i

structure DI where
  /-- the order of the abstract machine -/
  order : List Nat
  /-- a reading operation, and one of the chain, in no order -/
  conf : List (Nat × Nat)
  /-- a reading operation, and one that makes an object beside the chain -/
  made : List (Nat × Nat)
  ok : Bool

/-- The operations that change something, or make something and stand in an order with all of those. -/
def chainOf (ks : List K) (pre : List Nat) : List Nat :=
  (List.range ks.length).filter fun i => match ks[i]? with
    | some .eff => true
    | some .alloc => (List.range ks.length).all fun j => i == j || (match ks[j]? with
      | some .eff | some .alloc => !apartB pre i j
      | _ => true)
    | _ => false

def lateOrder (pre : List Nat) (n : Nat) : List Nat → List Nat → List Nat
  | [], done => done ++ (List.range n).filter fun i => !done.contains i
  | e :: es, done =>
    let more := (List.range n).filter fun i => ahead pre i e && !done.contains i
    lateOrder pre n es (done ++ more ++ [e])

/-- Whatever stands earlier in the list is none that comes later in every order; what stands before one of the chain is ahead of it. -/
def topo (pre : List Nat) (chain : List Nat) : List Nat → Bool
  | [] => true
  | i :: rest => rest.all (fun j => !ahead pre j i && !Nat.beq i j && (!chain.contains j || ahead pre i j)) && topo pre chain rest

/-- The temporaries that an operation looks at. -/
def looks (ops : Array Oper) (o : Oper) : List Tmp :=
  (o.op.operands.toList.filterMap fun | .tmp t => some t | _ => none) ++
  (match o.guard with
   | some (g, _) => ((ops[g]?).bind (·.dst)).toList
   | none => [])

def nodupB : List Nat → Bool
  | [] => true
  | i :: is => is.all (fun j => !Nat.beq i j) && nodupB is

/-- Each temporary is written once, and those that read it stand in an order with that; each edge leads to an operation of the region. -/
def tmpsOk (ops : Array Oper) (pre : List Nat) : Bool :=
  nodupB (ops.toList.filterMap (·.dst)) &&
  (List.range ops.size).all fun i => match ops[i]? with
    | none => false
    | some o => o.after.all (fun e => !Region.binds .any e || (Nat.blt e.on ops.size && !Nat.beq e.on i)) &&
      (looks ops o).all fun t => (List.range ops.size).all fun j => match (ops[j]?).bind (·.dst) with
        | some d => !Nat.beq d t || ahead pre j i || ahead pre i j || Nat.beq i j
        | none => true

def isKind (ks : List K) (k : K) (i : Nat) : Bool := match ks[i]? with
  | some j => decide (j = k)
  | none => false

def drawInfo (P : Program) (ops : Array Oper) : DI :=
  let n := ops.size
  let pre := (Region.before ops).toList
  let ks := ops.toList.map fun o => kindA P o.op
  let chain := chainOf ks pre
  let floats := (List.range n).filter fun i => isKind ks .alloc i && !chain.contains i
  let reads := (List.range n).filter fun i => isKind ks .read i
  let order := lateOrder pre n chain []
  { order,
    conf := reads.flatMap fun i => (chain.filter fun e => apartB pre i e).map fun e => (i, e),
    made := reads.flatMap fun i => floats.map fun f => (i, f),
    ok := order.length == n && order.all (fun i => Nat.blt i n) && topo pre chain order && tmpsOk ops pre && Region.noSelect ops }

/-! ### The machine -/

inductive Rc where
  | off
  | idle
  | armed (v : AV)
  | done

structure ASt where
  /-- so many temporaries there are -/
  nt : Nat
  tmps : Tr AV
  defers : List (FuncId × List AV)
  rc : Rc
  heap : AH

inductive AX where
  | normal
  | exit (id : Nat)
  | ret
  | pan (v : AV)

inductive CR where
  | ret (v : AV)
  | pan (v : AV)

abbrev Orc := FuncId → Option (List AV → AH → Option (AV × AH))

def evalA (tmps : Tr AV) : Operand → Option AV
  | .tmp t => tmps.get t
  | .const v => constA v
  | .func f => some (.func (.func f) [] [])
  | .global _ => none

def undefA : AV := .tuple []

def putT (nt : Nat) (tmps : Tr AV) (dst : Option Tmp) (v : AV) : Tr AV := match dst with
  | some d => bif Nat.blt d nt then tmps.put d v else tmps.del d
  | none => tmps

def ASt.put (st : ASt) (dst : Option Tmp) (v : AV) : ASt := { st with tmps := putT st.nt st.tmps dst v }

def wantedA (ops : Array Oper) (tmps : Tr AV) (o : Oper) : Option Bool := match o.guard with
  | none => some true
  | some (j, want) => match (ops[j]?).bind (·.dst) with
    | some d => match tmps.get d with
      | some (.bool b) => some (b == want)
      | some _ => some false
      | none => none
    | none => none

def resultA (P : Program) (tmps : Tr AV) (h : AH) : List ResultVar → Option (List AV)
  | [] => some []
  | r :: rs => match (match r with
      | .tmp t => tmps.get t
      | .cell a t => match tmps.get a with
        | some (.ptr (some (i, o))) => loadA P t h i o
        | _ => none), resultA P tmps h rs with
    | some v, some vs => some (v :: vs)
    | _, _ => none

def tupA : List AV → AV
  | [v] => v
  | vs => .tuple vs

def resultsA (P : Program) (fn : Func) (tmps : Tr AV) (h : AH) : Option AV := (resultA P tmps h fn.results.toList).map tupA

def initT : Nat → List AV → Tr AV → Tr AV
  | _, [], t => t
  | i, v :: vs, t => initT (i + 1) vs (t.put i v)

/-- A step of a region whose order is drawn. -/
structure Stp where
  i : Nat
  on : Bool
  s : ASt
  t : ASt

def stepOf (tr : List Stp) (i : Nat) : Option Stp := tr.find? fun a => Nat.beq a.i i

/-- The object that a step reads. -/
def readOf (ops : Array Oper) (a : Stp) : Option Nat := bif a.on then (match ops[a.i]? with
  | some o => readId (evalA a.s.tmps) o.op
  | none => none) else none

def confOk (ops : Array Oper) (tr : List Stp) (conf made : List (Nat × Nat)) : Bool :=
  (conf.all fun x => match stepOf tr x.1, stepOf tr x.2 with
    | some a, some b => !b.on || (match readOf ops a with
      | some r => beqO (b.s.heap.get r) (b.t.heap.get r)
      | none => true)
    | _, _ => true) &&
  (made.all fun x => match stepOf tr x.1, stepOf tr x.2 with
    | some a, some b => !b.on || (match readOf ops a with
      | some r => !Nat.beq r b.s.heap.next
      | none => true)
    | _, _ => true)

mutual
def opsA (P : Program) (orc : Orc) : Nat → Array Oper → List Oper → ASt → Option (AX × ASt)
  | 0, _, _, _ => none
  | _ + 1, _, [], st => some (.normal, st)
  | n + 1, ops, o :: os, st => match wantedA ops st.tmps o with
    | none => none
    | some false => opsA P orc n ops os (st.put o.dst undefA)
    | some true => match oneA P orc n o st with
      | some (.normal, st') => opsA P orc n ops os st'
      | r => r
def oneA (P : Program) (orc : Orc) : Nat → Oper → ASt → Option (AX × ASt)
  | 0, _, _ => none
  | n + 1, o, st => match opA P (evalA st.tmps) st.heap o.op with
    | .ok (.val v) h => some (.normal, { st with heap := h }.put o.dst v)
    | .ok .skip h => some (.normal, { st with heap := h }.put o.dst undefA)
    | .ok (.defer f args) h => some (.normal, { st with heap := h, defers := (f, args) :: st.defers }.put o.dst undefA)
    | .ok .recover h => match st.rc with
      | .off => none
      | .armed v => some (.normal, { st with heap := h, rc := .done }.put o.dst v)
      | _ => some (.normal, { st with heap := h }.put o.dst .nilIface)
    | .ok (.enter f args) h => match callA P orc n f args h with
      | some (.ret v, h') => some (.normal, { st with heap := h' }.put o.dst v)
      | some (.pan v, h') => some (.pan v, { st with heap := h' })
      | none => none
    | .pan v h => some (.pan v, { st with heap := h })
    | .no => none
/-- The steps of a region in one order, as far as a panic. -/
def drawA (P : Program) (orc : Orc) : Nat → Array Oper → List Nat → List Nat → ASt → Option (List Stp × AX × ASt)
  | 0, _, _, _, _ => none
  | _ + 1, _, _, [], st => some ([], .normal, st)
  | n + 1, ops, pre, i :: is, st => match ops[i]? with
    | none => none
    | some o => match wantedA ops st.tmps o with
      | none => none
      | some false => match drawA P orc n ops pre is (st.put o.dst undefA) with
        | some (tr, r) => some (⟨i, false, st, st.put o.dst undefA⟩ :: tr, r)
        | none => none
      | some true => match oneA P orc n o st with
        | some (.normal, st') => bif Nat.ble st.heap.next st'.heap.next then (match drawA P orc n ops pre is st' with
          | some (tr, r) => some (⟨i, true, st, st'⟩ :: tr, r)
          | none => none) else none
        | some (.pan v, st') => bif is.all (fun j => ahead pre i j) then some ([], .pan v, st') else none
        | _ => none
def codeA (P : Program) (orc : Orc) : Nat → Code → ASt → Option (AX × ASt)
  | 0, _, _ => none
  | _ + 1, .skip, st => some (.normal, st)
  | n + 1, .region _ ops draw, st => bif draw then
      (bif (drawInfo P ops).ok then (match drawA P orc n ops (Region.before ops).toList (drawInfo P ops).order st with
        | some (tr, r) => bif confOk ops tr (drawInfo P ops).conf (drawInfo P ops).made then some r else none
        | none => none) else none)
    else opsA P orc n ops ops.toList st
  | n + 1, .seq a b, st => match codeA P orc n a st with
    | some (.normal, st') => codeA P orc n b st'
    | r => r
  | n + 1, .cond c a b, st => match evalA st.tmps c with
    | some (.bool t) => codeA P orc n (bif t then a else b) st
    | _ => none
  | n + 1, .block id b, st => match codeA P orc n b st with
    | some (.exit i, st') => some (if i = id then .normal else .exit i, st')
    | r => r
  | n + 1, .loop b, st => match codeA P orc n b st with
    | some (.normal, st') => codeA P orc n (.loop b) st'
    | r => r
  | _ + 1, .exit id, st => some (.exit id, st)
  | _ + 1, .ret, st => some (.ret, st)
  | _ + 1, _, _ => none
def callA (P : Program) (orc : Orc) : Nat → FuncId → List AV → AH → Option (CR × AH)
  | 0, _, _, _ => none
  | n + 1, f, args, h => match orc f with
    | some g => (g args h).map fun (v, h') => (.ret v, h')
    | none => match P.funcs[f]? with
      | none => none
      | some fn => match fn.body with
        | none => none
        | some c => match codeA P orc n c { nt := fn.ntmps, tmps := initT 0 args .nil, defers := [], rc := .off, heap := h } with
          | some (.normal, st) | some (.ret, st) => leaveA P orc n fn st.tmps st.defers none st.heap
          | some (.pan v, st) => leaveA P orc n fn st.tmps st.defers (some v) st.heap
          | _ => none
def leaveA (P : Program) (orc : Orc) : Nat → Func → Tr AV → List (FuncId × List AV) → Option AV → AH → Option (CR × AH)
  | 0, _, _, _, _, _ => none
  | _ + 1, fn, tmps, [], none, h => (resultsA P fn tmps h).map fun v => (.ret v, h)
  | _ + 1, _, _, [], some v, h => some (.pan v, h)
  | n + 1, fn, tmps, (f, args) :: ds, mode, h => match lateA P orc n f args (match mode with | none => .idle | some v => .armed v) h with
    | some (.done, h') => leaveA P orc n fn tmps ds none h'
    | some (_, h') => leaveA P orc n fn tmps ds mode h'
    | none => none
/-- A deferred call: what has become of the panic. -/
def lateA (P : Program) (orc : Orc) : Nat → FuncId → List AV → Rc → AH → Option (Rc × AH)
  | 0, _, _, _, _ => none
  | n + 1, f, args, rc, h => match P.funcs[f]? with
    | none => none
    | some fn => match fn.body with
      | none => none
      | some c => match codeA P orc n c { nt := fn.ntmps, tmps := initT 0 args .nil, defers := [], rc, heap := h } with
        | some (.normal, st) | some (.ret, st) => match st.defers, resultsA P fn st.tmps st.heap with
          | [], some _ => some (st.rc, st.heap)
          | _, _ => none
        | _ => none
end

end Go.Am
