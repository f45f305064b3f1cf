/-
  A function's code as a function of plain Lean, and what its operations say.
  Conditions: none.
-/
import Derived.Test.YtlpbgmbiollimaaGreatAe
namespace Go.Am
open Go

section
variable (P : Program) (orc : Orc)

def MonoAt (n : Nat) : Prop :=
  (∀ ops os st r, opsA P orc n ops os st = some r → opsA P orc (n + 1) ops os st = some r) ∧
  (∀ o st r, oneA P orc n o st = some r → oneA P orc (n + 1) o st = some r) ∧
  (∀ ops pre is st r, drawA P orc n ops pre is st = some r → drawA P orc (n + 1) ops pre is st = some r) ∧
  (∀ c st r, codeA P orc n c st = some r → codeA P orc (n + 1) c st = some r) ∧
  (∀ f l h r, callA P orc n f l h = some r → callA P orc (n + 1) f l h = some r) ∧
  (∀ fn t ds m h r, leaveA P orc n fn t ds m h = some r → leaveA P orc (n + 1) fn t ds m h = some r) ∧
  (∀ f l rc h r, lateA P orc n f l rc h = some r → lateA P orc (n + 1) f l rc h = some r)

variable {P orc}

/-- Two options of which the second one says what the first one says, if that says anything. -/
def LeO {α : Type} (a b : Option α) : Prop := ∀ r, a = some r → b = some r

theorem LeO.refl {α : Type} (a : Option α) : LeO a a := fun _ h => h
theorem LeO.none {α : Type} (b : Option α) : LeO Option.none b := fun _ h => by simp at h

theorem mono_at : ∀ n, MonoAt P orc n
  | 0 => by
    refine ⟨?_, ?_, ?_, ?_, ?_, ?_, ?_⟩ <;> intros <;> simp_all [opsA, oneA, drawA, codeA, callA, leaveA, lateA]
  | n + 1 => by
    obtain ⟨h1, h2, h3, h4, h5, h6, h7⟩ := mono_at n
    refine ⟨?_, ?_, ?_, ?_, ?_, ?_, ?_⟩
    · intro ops os st r h
      cases os with
      | nil => simpa only [opsA] using h
      | cons o os =>
        rw [opsA] at h ⊢
        cases hw : wantedA ops st.tmps o with
        | none => rw [hw] at h; simp at h
        | some b =>
          rw [hw] at h
          cases b with
          | false => exact h1 _ _ _ _ h
          | true =>
            simp only [] at h ⊢
            cases ho : oneA P orc n o st with
            | none => rw [ho] at h; simp at h
            | some p =>
              rw [ho] at h; rw [h2 _ _ _ ho]
              obtain ⟨x, st'⟩ := p
              cases x <;> first | exact h1 _ _ _ _ h | exact h
    · intro o st r h
      rw [oneA] at h ⊢
      cases ho : opA P (evalA st.tmps) st.heap o.op with
      | no => rw [ho] at h; simp at h
      | pan v h' => rw [ho] at h; exact h
      | ok a h' =>
        rw [ho] at h
        cases a with
        | enter f l =>
          simp only [] at h ⊢
          cases hc : callA P orc n f l h' with
          | none => rw [hc] at h; simp at h
          | some p => rw [hc] at h; rw [h5 _ _ _ _ hc]; exact h
        | _ => exact h
    · intro ops pre is st r h
      cases is with
      | nil => simpa only [drawA] using h
      | cons i is =>
        rw [drawA] at h ⊢
        cases hi : ops[i]? with
        | none => rw [hi] at h; simp at h
        | some o =>
          rw [hi] at h
          simp only [] at h ⊢
          cases hw : wantedA ops st.tmps o with
          | none => rw [hw] at h; simp at h
          | some b =>
            rw [hw] at h
            cases b with
            | false =>
              simp only [] at h ⊢
              cases hd : drawA P orc n ops pre is (st.put o.dst undefA) with
              | none => rw [hd] at h; simp at h
              | some p => rw [hd] at h; rw [h3 _ _ _ _ _ hd]; exact h
            | true =>
              simp only [] at h ⊢
              cases ho : oneA P orc n o st with
              | none => rw [ho] at h; simp at h
              | some p =>
                rw [ho] at h; rw [h2 _ _ _ ho]
                obtain ⟨x, st'⟩ := p
                cases x with
                | normal =>
                  simp only [] at h ⊢
                  cases hb : Nat.ble st.heap.next st'.heap.next with
                  | false => rw [hb] at h; simp at h
                  | true =>
                    rw [hb] at h
                    simp only [cond_true] at h ⊢
                    cases hd : drawA P orc n ops pre is st' with
                    | none => rw [hd] at h; simp at h
                    | some p => rw [hd] at h; rw [h3 _ _ _ _ _ hd]; exact h
                | _ => exact h
    · intro c st r h
      cases c with
      | region id ops draw =>
        rw [codeA] at h ⊢
        cases draw with
        | false => exact h1 _ _ _ _ h
        | true =>
          simp only [cond_true] at h ⊢
          cases hk : (drawInfo P ops).ok with
          | false => rw [hk] at h; simp at h
          | true =>
            rw [hk] at h
            simp only [cond_true] at h ⊢
            cases hd : drawA P orc n ops (Region.before ops).toList (drawInfo P ops).order st with
            | none => rw [hd] at h; simp at h
            | some p => rw [hd] at h; rw [h3 _ _ _ _ _ hd]; exact h
      | seq a b =>
        rw [codeA] at h ⊢
        cases ha : codeA P orc n a st with
        | none => rw [ha] at h; simp at h
        | some p =>
          rw [ha] at h; rw [h4 _ _ _ ha]
          obtain ⟨x, st'⟩ := p
          cases x <;> first | exact h4 _ _ _ h | exact h
      | cond c a b =>
        rw [codeA] at h ⊢
        split
        · rename_i t ht
          rw [ht] at h
          exact h4 _ _ _ h
        · rename_i hne
          split at h
          · rename_i t ht; exact absurd ht (hne t)
          · simp at h
      | block id b =>
        rw [codeA] at h ⊢
        cases ha : codeA P orc n b st with
        | none => rw [ha] at h; simp at h
        | some p => rw [ha] at h; rw [h4 _ _ _ ha]; exact h
      | loop b =>
        rw [codeA] at h ⊢
        cases ha : codeA P orc n b st with
        | none => rw [ha] at h; simp at h
        | some p =>
          rw [ha] at h; rw [h4 _ _ _ ha]
          obtain ⟨x, st'⟩ := p
          cases x <;> first | exact h4 _ _ _ h | exact h
      | _ => simpa only [codeA] using h
    · intro f l h r hr
      rw [callA] at hr ⊢
      cases ho : orc f with
      | some g => rw [ho] at hr; exact hr
      | none =>
        rw [ho] at hr
        simp only [] at hr ⊢
        cases hf : P.funcs[f]? with
        | none => rw [hf] at hr; simp at hr
        | some fn =>
          rw [hf] at hr
          simp only [] at hr ⊢
          cases hb : fn.body with
          | none => rw [hb] at hr; simp at hr
          | some c =>
            rw [hb] at hr
            simp only [] at hr ⊢
            cases hc : codeA P orc n c { nt := fn.ntmps, tmps := initT 0 l .nil, defers := [], rc := .off, heap := h } with
            | none => rw [hc] at hr; simp at hr
            | some p =>
              rw [hc] at hr; rw [h4 _ _ _ hc]
              obtain ⟨x, st'⟩ := p
              cases x <;> first | exact h6 _ _ _ _ _ _ hr | exact hr
    · intro fn t ds m h r hr
      cases ds with
      | nil => cases m <;> simpa only [leaveA] using hr
      | cons d ds =>
        obtain ⟨f, l⟩ := d
        cases m with
        | none =>
          rw [leaveA] at hr ⊢
          cases hl : lateA P orc n f l .idle h with
          | none => simp only [hl] at hr; simp at hr
          | some p =>
            simp only [hl] at hr; simp only [h7 _ _ _ _ _ hl]
            obtain ⟨x, h'⟩ := p
            cases x <;> exact h6 _ _ _ _ _ _ hr
        | some v =>
          rw [leaveA] at hr ⊢
          cases hl : lateA P orc n f l (.armed v) h with
          | none => simp only [hl] at hr; simp at hr
          | some p =>
            simp only [hl] at hr; simp only [h7 _ _ _ _ _ hl]
            obtain ⟨x, h'⟩ := p
            cases x <;> exact h6 _ _ _ _ _ _ hr
    · intro f l rc h r hr
      rw [lateA] at hr ⊢
      cases hf : P.funcs[f]? with
      | none => rw [hf] at hr; simp at hr
      | some fn =>
        rw [hf] at hr
        simp only [] at hr ⊢
        cases hb : fn.body with
        | none => rw [hb] at hr; simp at hr
        | some c =>
          rw [hb] at hr
          simp only [] at hr ⊢
          cases hc : codeA P orc n c { nt := fn.ntmps, tmps := initT 0 l .nil, defers := [], rc, heap := h } with
          | none => rw [hc] at hr; simp at hr
          | some p => rw [hc] at hr; rw [h4 _ _ _ hc]; exact hr

theorem le_ind {p : Nat → Prop} {n m : Nat} (h : n ≤ m) (h0 : p n) (hs : ∀ k, p k → p (k + 1)) : p m := by
  induction h with
  | refl => exact h0
  | step _ ih => exact hs _ ih

theorem opsA_mono {n m : Nat} (h : n ≤ m) {ops os st r} (e : opsA P orc n ops os st = some r) : opsA P orc m ops os st = some r :=
  le_ind (p := fun k => opsA P orc k ops os st = some r) h e fun k hk => (mono_at k).1 _ _ _ _ hk
theorem oneA_mono {n m : Nat} (h : n ≤ m) {o st r} (e : oneA P orc n o st = some r) : oneA P orc m o st = some r :=
  le_ind (p := fun k => oneA P orc k o st = some r) h e fun k hk => (mono_at k).2.1 _ _ _ hk
theorem drawA_mono {n m : Nat} (h : n ≤ m) {ops pre is st r} (e : drawA P orc n ops pre is st = some r) : drawA P orc m ops pre is st = some r :=
  le_ind (p := fun k => drawA P orc k ops pre is st = some r) h e fun k hk => (mono_at k).2.2.1 _ _ _ _ _ hk
theorem codeA_mono {n m : Nat} (h : n ≤ m) {c st r} (e : codeA P orc n c st = some r) : codeA P orc m c st = some r :=
  le_ind (p := fun k => codeA P orc k c st = some r) h e fun k hk => (mono_at k).2.2.2.1 _ _ _ hk
theorem callA_mono {n m : Nat} (h : n ≤ m) {f l hp r} (e : callA P orc n f l hp = some r) : callA P orc m f l hp = some r :=
  le_ind (p := fun k => callA P orc k f l hp = some r) h e fun k hk => (mono_at k).2.2.2.2.1 _ _ _ _ hk
theorem leaveA_mono {n m : Nat} (h : n ≤ m) {fn t ds mo hp r} (e : leaveA P orc n fn t ds mo hp = some r) : leaveA P orc m fn t ds mo hp = some r :=
  le_ind (p := fun k => leaveA P orc k fn t ds mo hp = some r) h e fun k hk => (mono_at k).2.2.2.2.2.1 _ _ _ _ _ _ hk
theorem lateA_mono {n m : Nat} (h : n ≤ m) {f l rc hp r} (e : lateA P orc n f l rc hp = some r) : lateA P orc m f l rc hp = some r :=
  le_ind (p := fun k => lateA P orc k f l rc hp = some r) h e fun k hk => (mono_at k).2.2.2.2.2.2 _ _ _ _ _ hk

/-! ### Calls without fuel -/

variable (P orc) in
/-- What a call says. -/
noncomputable def callX (f : FuncId) (l : List AV) (h : AH) : Option (CR × AH) :=
  open Classical in if e : ∃ n r, callA P orc n f l h = some r then some e.choose_spec.choose else none

theorem callX_of {n : Nat} {f : FuncId} {l : List AV} {h : AH} {r : CR × AH} (e : callA P orc n f l h = some r) : callX P orc f l h = some r := by
  have ex : ∃ n r, callA P orc n f l h = some r := ⟨n, r, e⟩
  rw [callX, dif_pos ex]
  have h1 := ex.choose_spec.choose_spec
  have h2 := callA_mono (Nat.le_max_left ex.choose n) h1
  have h3 := callA_mono (Nat.le_max_right ex.choose n) e
  rw [h2] at h3
  exact h3

theorem of_callX {f : FuncId} {l : List AV} {h : AH} {r : CR × AH} (e : callX P orc f l h = some r) : ∃ n, callA P orc n f l h = some r := by
  rw [callX] at e
  split at e
  · rename_i ex
    injection e with e
    exact ⟨ex.choose, by rw [← e]; exact ex.choose_spec.choose_spec⟩
  · simp at e

end
end Go.Am

set_option linter.unusedVariables false
namespace Go.Am
open Go

/-! ### The monad -/

inductive Ex (α : Type) where
  | ok (a : α)
  | pan (v : AV)

abbrev M (α : Type) := AH → Option (Ex α × AH)

section
variable {α β : Type}

def rt (a : α) : M α := fun h => some (.ok a, h)
def no : M α := fun _ => none
def pn (v : AV) : M α := fun h => some (.pan v, h)
def bd (m : M α) (k : α → M β) : M β := fun h => match m h with
  | some (.ok a, h') => k a h'
  | some (.pan v, h') => some (.pan v, h')
  | none => none
/-- The same where no panic may be. -/
def bq (m : M α) (k : α → M β) : M β := fun h => match m h with
  | some (.ok a, h') => k a h'
  | _ => none
def lt (o : Option AV) (k : AV → M α) : M α := match o with
  | some a => k a
  | none => no
def cn (c : AV) (a b : M α) : M α := match c with
  | .bool true => a
  | .bool false => b
  | _ => no
def gh (k : AH → M α) : M α := fun h => k h h
def un (vs : List AV) (k : AV → List AV → M α) : M α := match vs with
  | v :: r => k v r
  | [] => no
def jn (k : List AV → M α) (b : (List AV → M α) → M α) : M α := b k
def chk (b : Bool) (k : M α) : M α := match b with
  | true => k
  | false => no

/-- How a loop goes on. -/
inductive Go1 where
  | again (s : List AV)
  | out (id : Nat) (s : List AV)
  | done (v : AV)

def loopN (b : List AV → M Go1) : Nat → List AV → M Go1
  | 0, _, _ => none
  | n + 1, s, h => match b s h with
    | some (.ok (.again s'), h') => loopN b n s' h'
    | r => r

theorem loopN_succ (b : List AV → M Go1) : ∀ n s h r, loopN b n s h = some r → loopN b (n + 1) s h = some r
  | 0, _, _, _, e => by simp [loopN] at e
  | n + 1, s, h, r, e => by
    rw [loopN] at e ⊢
    split at e
    · rename_i s' h' hb
      exact loopN_succ b n _ _ _ e
    · exact e

theorem loopN_mono {b : List AV → M Go1} {n m : Nat} (h : n ≤ m) {s hp r} (e : loopN b n s hp = some r) : loopN b m s hp = some r :=
  le_ind (p := fun k => loopN b k s hp = some r) h e fun k hk => loopN_succ b k _ _ _ hk

noncomputable def lp (b : List AV → M Go1) (s : List AV) : M Go1 := fun h =>
  open Classical in if e : ∃ n r, loopN b n s h = some r then some e.choose_spec.choose else none

theorem lp_of {b : List AV → M Go1} {n : Nat} {s h r} (e : loopN b n s h = some r) : lp b s h = some r := by
  have ex : ∃ n r, loopN b n s h = some r := ⟨n, r, e⟩
  rw [lp, dif_pos ex]
  have h1 := ex.choose_spec.choose_spec
  have h2 := loopN_mono (Nat.le_max_left ex.choose n) h1
  have h3 := loopN_mono (Nat.le_max_right ex.choose n) e
  rw [h2] at h3
  exact h3

theorem of_lp {b : List AV → M Go1} {s h r} (e : lp b s h = some r) : ∃ n, loopN b n s h = some r := by
  rw [lp] at e
  split at e
  · rename_i ex
    injection e with e
    exact ⟨ex.choose, by rw [← e]; exact ex.choose_spec.choose_spec⟩
  · simp at e

theorem lp_again {b : List AV → M Go1} {s s' : List AV} {h h' : AH} {r} (e : b s h = some (.ok (.again s'), h')) (er : lp b s' h' = some r) : lp b s h = some r := by
  obtain ⟨n, hn⟩ := of_lp er
  exact lp_of (n := n + 1) (by rw [loopN, e]; exact hn)
theorem lp_out {b : List AV → M Go1} {s s' : List AV} {h h' : AH} {id : Nat} (e : b s h = some (.ok (.out id s'), h')) : lp b s h = some (.ok (.out id s'), h') :=
  lp_of (n := 1) (by rw [loopN, e])
theorem lp_done {b : List AV → M Go1} {s : List AV} {h h' : AH} {v : AV} (e : b s h = some (.ok (.done v), h')) : lp b s h = some (.ok (.done v), h') :=
  lp_of (n := 1) (by rw [loopN, e])
theorem lp_pan {b : List AV → M Go1} {s : List AV} {h h' : AH} {v : AV} (e : b s h = some (.pan v, h')) : lp b s h = some (.pan v, h') :=
  lp_of (n := 1) (by rw [loopN, e])

def findK : Nat → List (Nat × (List AV → M α)) → Option (List AV → M α)
  | _, [] => none
  | i, (j, k) :: r => bif Nat.beq j i then some k else findK i r

def ou (r : Go1) (d : AV → M α) (l : List (Nat × (List AV → M α))) : M α := match r with
  | .done v => d v
  | .out id s => match findK id l with
    | some k => k s
    | none => no
  | .again _ => no
end

/-! ### The operations as functions of values -/

def binV (op : BinOp) (a b : AV) : Option AV :=
  match op, a, b with
  | .shl, .int k x, .int _ y => shiftA .shl k x y
  | .shr, .int k x, .int _ y => shiftA .shr k x y
  | op, .int k x, .int k' y => if k = k' then intBin op k x y else none
  | op, .str x, .str y => strBin op x y
  | _, _, _ => none

def eqG (P : Program) (cst : Bool) (t : TypeId) (a b : AV) : Bool := match a, b with
  | .nilIface, .nilIface => cst
  | .agg _, .agg _ => !P.eqGuardType P.depth t
  | _, _ => true

def eqV (P : Program) (neg cst : Bool) (t : TypeId) (a b : AV) : Option AV :=
  bif eqG P cst t a b then binA P (bif neg then .neq else .eql) t a b else none

/-- '==' and '!=' of whole numbers, bools, strings, of pointers and slices with nil. -/
def eqI (neg : Bool) (a b : AV) : Option AV := match a, b with
  | .int k x, .int k' y => if k = k' then some (.bool (bif neg then x != y else x == y)) else none
  | _, _ => none
def eqB (neg : Bool) (a b : AV) : Option AV := match a, b with
  | .bool x, .bool y => some (.bool (bif neg then !(x == y) else x == y))
  | _, _ => none
def eqS (neg : Bool) (a b : AV) : Option AV := match a, b with
  | .str x, .str y => some (.bool (bif neg then !(x == y) else x == y))
  | _, _ => none
def eqP (neg : Bool) (a b : AV) : Option AV := match a, b with
  | .ptr none, .ptr b => some (.bool (bif neg then !b.isNone else b.isNone))
  | .ptr (some _), .ptr none => some (.bool (bif neg then !false else false))
  | _, _ => none
def eqL (neg : Bool) (a b : AV) : Option AV := match a, b with
  | .slice none _ _ _, .slice b _ _ _ => some (.bool (bif neg then !b.isNone else b.isNone))
  | .slice (some _) _ _ _, .slice none _ _ _ => some (.bool (bif neg then !false else false))
  | _, _ => none

def eqD (P : Program) (neg cst : Bool) (t : TypeId) (a b : AV) : Option AV := match P.underlying t with
  | some (.int _) => eqI neg a b
  | some .bool => eqB neg a b
  | some .string => eqS neg a b
  | some (.pointer _) => eqP neg a b
  | some (.slice _) => eqL neg a b
  | _ => eqV P neg cst t a b

def pickV (c a b : AV) : Option AV := match c with
  | .bool t => some (bif t then a else b)
  | _ => none

def nilV (x : AV) : Option AV := match x with
  | .ptr none | .nilIface | .nilFunc => none
  | .func (.func g) f c => some (.func (.func g) f c)
  | .func _ _ _ => none
  | v => some v

def cvI (k : IntKind) (x : AV) : Option AV := match x with
  | .int _ n => some (.int k (k.wrap n))
  | _ => none
def cvS (x : AV) : Option AV := match x with
  | .str l => some (.str l)
  | _ => none

def fldA (off : Nat) (x : AV) : Option AV := match x with
  | .ptr (some (i, o)) => some (.ptr (some (i, o + off)))
  | _ => none

def partV (agg : Bool) (n off : Nat) (cs : List AV) : Option AV :=
  bif agg then (if off + n ≤ cs.length then some (.agg ((cs.drop off).take n)) else none) else cs[off]?

def fldV (agg : Bool) (n off : Nat) (x : AV) : Option AV := match x with
  | .agg cs => partV agg n off cs
  | _ => none

/-- The address of an element of an array, of a slice. -/
def ixR (n s : Nat) (x ix : AV) : Option AV := match x, ix with
  | .ptr (some (i, o)), .int _ k => if 0 ≤ k ∧ k < (n : Int) then some (.ptr (some (i, o + k.toNat * s))) else none
  | _, _ => none
def ixS (s : Nat) (x ix : AV) : Option AV := match x, ix with
  | .slice (some (i, o)) len _ _, .int _ k => if 0 ≤ k ∧ k < (len : Int) then some (.ptr (some (i, o + k.toNat * s))) else none
  | _, _ => none
def ixA (n s : Nat) (agg : Bool) (x ix : AV) : Option AV := match x, ix with
  | .agg cs, .int _ k => if 0 ≤ k ∧ k < (n : Int) then partV agg s (k.toNat * s) cs else none
  | _, _ => none
def ixT (x ix : AV) : Option AV := match x, ix with
  | .str l, .int _ k => if 0 ≤ k then (match l[k.toNat]? with
    | some b => some (.int .u8 b.toNat)
    | none => none) else none
  | _, _ => none

def slT (x : AV) (lo hi : Option AV) : Option AV := match x with
  | .str s => match boundsA s.length s.length lo hi none with
    | some (l, h, _) => some (.str ((s.drop l).take (h - l)))
    | none => none
  | _ => none
def slS (n : Nat) (x : AV) (lo hi mx : Option AV) : Option AV := match x with
  | .slice a len cap sz => match boundsA len cap lo hi mx with
    | some (l, h, m) => match a with
      | none => some (.slice none 0 0 0)
      | some (i, o) => if n = sz then some (.slice (some (i, o + l * n)) (h - l) (m - l) sz) else none
    | none => none
  | _ => none

def extV (x : AV) (i : Nat) : Option AV := match x with
  | .tuple vs => vs[i]?
  | _ => none

def lnT (x : AV) : Option AV := match x with
  | .str s => some (.int .i64 s.length)
  | _ => none
def lnS (x : AV) : Option AV := match x with
  | .slice _ n _ _ => some (.int .i64 n)
  | _ => none
def cpS (x : AV) : Option AV := match x with
  | .slice none _ _ _ => some (.int .i64 0)
  | _ => none
def s2a (n : Nat) (x : AV) : Option AV := match x with
  | .slice (some p) len _ _ => if 0 < n ∧ n ≤ len then some (.ptr (some p)) else none
  | _ => none

def asrt (t : TypeId) (z : Option AV) (ok : Bool) (x : AV) : Option AV := match x, ok with
  | .nilIface, true => z.map fun z => .tuple [z, .bool false]
  | .iface u v, true => if u = t then some (.tuple [v, .bool true]) else z.map fun z => .tuple [z, .bool false]
  | .iface u v, false => if u = t then some v else none
  | _, _ => none

def aggO (o : Option (List AV)) : Option AV := match o with
  | some cs => some (.agg cs)
  | none => none

def fillL : List AV → List (Nat × Nat × AV) → Option (List AV)
  | cells, [] => some cells
  | cells, (off, size, v) :: rest => if v.cells.length = size ∧ off + v.cells.length ≤ cells.length then fillL (putCells cells off v.cells) rest else none

def toFill (place : Nat → Option (Nat × Nat)) : List (Nat × AV) → Option (List (Nat × Nat × AV))
  | [] => some []
  | (i, v) :: rest => match place i, toFill place rest with
    | some (off, size), some r => some ((off, size, v) :: r)
    | _, _ => none

theorem toFill_ok (place : Nat → Option (Nat × Nat)) : ∀ (parts : List (Nat × AV)) (l : List (Nat × Nat × AV)) (cells : List AV), toFill place parts = some l → fillA place cells parts = fillL cells l
  | [], l, cells, h => by simp [toFill] at h; subst h; rfl
  | (i, v) :: rest, l, cells, h => by
    rw [toFill] at h
    split at h
    · rename_i off size r hp hr
      injection h with h
      subst h
      rw [fillA, hp]
      simp only [fillL]
      split
      · exact toFill_ok place rest r _ hr
      · rfl
    · simp at h

/-- One cell, the cells of an aggregate. -/
def ld (p : AV) : M AV := fun h => match p with
  | .ptr (some (i, o)) => match h.get i with
    | some (.cells cs _ _) => match cs[o]? with
      | some v => some (.ok v, h)
      | none => none
    | _ => none
  | _ => none
def ldN (n : Nat) (p : AV) : M AV := fun h => match p with
  | .ptr (some (i, o)) => match h.get i with
    | some (.cells cs _ _) => if o + n ≤ cs.length then some (.ok (.agg ((cs.drop o).take n)), h) else none
    | _ => none
  | _ => none

def st (n : Nat) (p v : AV) : M AV := fun h => match p with
  | .ptr (some (i, o)) => if n = v.cells.length then (match writeA h i o v.cells with
    | some h' => some (.ok undefA, h')
    | none => none) else none
  | _ => none

/-- A new object. -/
def nw (cs : List AV) (t : TypeId) : M AV := fun h => some (.ok (.ptr (some (h.next, 0))), h.add (.cells cs t false))
def bx (t : TypeId) (v : AV) : M AV := fun h => if ones v.cells then some (.ok (.ptr (some (h.next, 0))), h.add (.cells v.cells t false)) else none
def mkS (t : TypeId) (s len : Nat) (o : Option (List AV)) : M AV := fun h => match o with
  | some cs => if ones cs then some (.ok (.slice (some (h.next, 0)) len len s), h.add (.cells cs t false)) else none
  | none => none
def mkZ (t : TypeId) (s bytes : Nat) (z : List AV) (l c : AV) : M AV := fun h => match l, c with
  | .int _ n, .int _ m => if 0 ≤ n ∧ n ≤ m ∧ (bytes : Int) * m ≤ 2 ^ 46 ∧ m < 2 ^ 63 then
      some (.ok (.slice (some (h.next, 0)) n.toNat m.toNat s), h.add (.cells (replA m.toNat z) t false)) else none
  | _, _ => none
def mkM : M AV := fun h => some (.ok (.map (some h.next)), h.add (.map [] 0))

/-- '[]byte(s)', 'string(b)'. -/
def s2b (t : TypeId) (x : AV) : M AV := fun h => match x with
  | .str l => some (.ok (.slice (some (h.next, 0)) l.length l.length 1), h.add (.cells (u8s l) t false))
  | _ => none
def b2s (x : AV) : M AV := fun h => match x with
  | .slice none _ _ _ => some (.ok (.str []), h)
  | .slice (some (i, o)) len _ sz => if sz = 1 then (match (rowOf h i o len).bind bytesA with
    | some l => some (.ok (.str l), h)
    | none => none) else none
  | _ => none

def slR (n s : Nat) (x : AV) (lo hi mx : Option AV) : M AV := fun h => match x with
  | .ptr (some (i, o)) => match boundsA n n lo hi mx with
    | some (l, k, m) => match rowOf h i o (n * s) with
      | some _ => some (.ok (.slice (some (i, o + l * s)) (k - l) (m - l) s), h)
      | none => none
    | none => none
  | _ => none

def opt (o : Option AV) : M AV := fun h => match o with
  | some v => some (.ok v, h)
  | none => none
def lk (P : Program) (t : TypeId) (ok : Bool) (m k : AV) : M AV := fun h => match lookupA P t h m k ok with
  | some v => some (.ok v, h)
  | none => none
def lenM (m : AV) : M AV := fun h => match entriesA h m with
  | some es => some (.ok (.int .i64 es.length), h)
  | none => none

def ofO (o : Option (AV × AH)) : Option (Ex AV × AH) := match o with
  | some (v, h) => some (.ok v, h)
  | none => none
def ofU (o : Option AH) : Option (Ex AV × AH) := match o with
  | some h => some (.ok undefA, h)
  | none => none

def mput (P : Program) (t : TypeId) (m k v : AV) : M AV := fun h => ofU (mapPutA P t m k v h)
def ment (P : Program) (t : TypeId) (m k : AV) : M AV := fun h => ofO (mapEntryA P t m k h)
def mest (m s v : AV) : M AV := fun h => ofU (entryStoreA m s v h)
def mdel (P : Program) (t : TypeId) (m k : AV) : M AV := fun h => match deleteA P [t] [m, k] h with
  | some h' => some (.ok (.tuple []), h')
  | none => none

/-- 'append(x, y...)': the element's type, its cells, its bytes. -/
def ap (e : TypeId) (size bytes : Nat) (x y : AV) : M AV := fun h => match x, lenOfA y with
  | .slice base len cap sz, some n => match firstA h size n y with
    | some new => if new.length = n * size ∧ ones new = true ∧ (!base.isSome || sz == size) = true then
        (if len + n ≤ cap then (match base with
          | none => some (.ok (.slice none 0 0 0), h)
          | some (i, o) => if n = 0 then some (.ok (.slice base len cap sz), h) else (match writeA h i (o + len * size) new with
            | some h' => some (.ok (.slice base (len + n) cap sz), h')
            | none => none))
        else if (2 * (len + n) + 512) * bytes ≤ 2 ^ 47 then (match base with
          | none => some (.ok (.slice (some (h.next, 0)) (len + n) (len + n) size), h.add (.cells new e false))
          | some (i, o) => match h.get i with
            | some (.cells cs e' false) => if e' = e ∧ o + len * size ≤ cs.length then
                some (.ok (.slice (some (h.next, 0)) (len + n) (len + n) size), (h.set i .dead).add (.cells ((cs.drop o).take (len * size) ++ new) e false)) else none
            | _ => none)
        else none)
      else none
    | none => none
  | _, _ => none

def apx (P : Program) (ts : List TypeId) (l : List AV) : M AV := fun h => ofO (appendA P ts l h)

def cp (size : Nat) (x y : AV) : M AV := fun h => match x, lenOfA y with
  | .slice base dLen _ _, some m => match firstA h size (Nat.min m dLen) y with
    | some cs => match base with
      | none => some (.ok (.int .i64 (Nat.min m dLen)), h)
      | some (i, o) => if cs.isEmpty then some (.ok (.int .i64 (Nat.min m dLen)), h) else (match writeA h i o cs with
        | some h' => some (.ok (.int .i64 (Nat.min m dLen)), h')
        | none => none)
    | none => none
  | _, _ => none

noncomputable def ca (P : Program) (orc : Orc) (f : FuncId) (l : List AV) : M AV := fun h => match callX P orc f l h with
  | some (.ret v, h') => some (.ok v, h')
  | some (.pan v, h') => some (.pan v, h')
  | none => none

noncomputable def cv (P : Program) (orc : Orc) (f : AV) (l : List AV) : M AV := match f with
  | .func (.func g) first captured => ca P orc g (first ++ l ++ captured)
  | _ => no

def panV (x : AV) : M AV := match x with
  | .iface t v => pn (.iface t v)
  | _ => no

/-! ### Operations: pure ones -/

section
variable (P : Program) (orc : Orc) (ev : Operand → Option AV)

def l2 (f : AV → AV → Option AV) (x y : Option AV) : Option AV := match x, y with
  | some a, some b => f a b
  | _, _ => none

def pureD : Op → Option (Option AV)
  | .move x | .assign x => some (ev x)
  | .pick c a b => some (match ev c, ev a, ev b with
    | some c, some a, some b => pickV c a b
    | _, _, _ => none)
  | .build t parts => some (match evParts ev parts.toList, zeroA P t, P.underlying t with
    | some l, some z, some (.struct fs) => match fieldPlaces P fs.toList with
      | some pl => match toFill (fun i => pl[i]?) l with
        | some r => aggO (fillL z.cells r)
        | none => none
      | none => none
    | some l, some z, some (.array _ e) => match tsz P e with
      | some s => match toFill (fun i => some (i * s, s)) l with
        | some r => aggO (fillL z.cells r)
        | none => none
      | none => none
    | _, _, _ => none)
  | .nilCheck x => some (match ev x with
    | some v => nilV v
    | none => none)
  | .binOp op t x y _ => some (match op with
    | .eql => l2 (eqD P false (isConstB x || isConstB y) t) (ev x) (ev y)
    | .neq => l2 (eqD P true (isConstB x || isConstB y) t) (ev x) (ev y)
    | op => l2 (binV op) (ev x) (ev y))
  | .unOp op _ x => some (match ev x with
    | some v => unA op v
    | none => none)
  | .convert s d x => match P.underlying s, P.underlying d with
    | some _, some (.int k) => some (match ev x with
      | some v => cvI k v
      | none => none)
    | some .string, some .string => some (match ev x with
      | some v => cvS v
      | none => none)
    | _, _ => none
  | .sliceToArrayPointer t x => some (match P.underlying t, ev x with
    | some (.array n _), some v => s2a n v
    | _, _ => none)
  | .makeInterface t x => some (match P.underlying t, ev x with
    | some (.interface _), _ => none
    | some _, some v => some (.iface t v)
    | _, _ => none)
  | .makeFunc fn first captured => some (match evs ev first.toList, evs ev captured.toList with
    | some f, some c => some (.func fn f c)
    | _, _ => none)
  | .slice t x lo hi mx => match P.underlying t with
    | some .string => some (match ev x, optA ev lo, optA ev hi, mx with
      | some v, some l, some h, none => slT v l h
      | _, _, _, _ => none)
    | some (.slice e) => some (match ev x, optA ev lo, optA ev hi, optA ev mx with
      | some v, some l, some h, some m => (match tsz P e with
        | some n => bif m.isSome && h.isNone then none else slS n v l h m
        | none => none)
      | _, _, _, _ => none)
    | _ => none
  | .fieldAddr s x f => some (match P.underlying s, ev x with
    | some (.struct fs), some v => match fs.toList[f]? with
      | some fd => match tsz P fd.type with
        | some 0 => none
        | some _ => fldA fd.offset v
        | none => none
      | none => none
    | _, _ => none)
  | .field t x f => some (match P.underlying t, ev x with
    | some (.struct fs), some v => match fs.toList[f]? with
      | some fd => match P.underlying fd.type, tsz P fd.type with
        | some d, some n => fldV (isAggD d) n fd.offset v
        | _, _ => none
      | none => none
    | _, _ => none)
  | .indexAddr t x ix => some (match P.underlying t with
    | some (.array n e) => (match tsz P e with
      | some s => l2 (ixR n s) (ev x) (ev ix)
      | none => none)
    | some (.slice e) => (match tsz P e with
      | some s => l2 (ixS s) (ev x) (ev ix)
      | none => none)
    | _ => none)
  | .index t x ix => some (match P.underlying t with
    | some (.array n e) => (match P.underlying e, tsz P e with
      | some d, some s => l2 (ixA n s (isAggD d)) (ev x) (ev ix)
      | _, _ => none)
    | some .string => l2 ixT (ev x) (ev ix)
    | _ => none)
  | .typeAssert x _ t ok => some (match P.underlying t, ev x with
    | some (.interface _), _ => none
    | some _, some v => asrt t (zeroA P t) ok v
    | _, _ => none)
  | .extract t i => some (match ev t with
    | some v => extV v i
    | none => none)
  | .call { callee := .builtin .len, args, argTypes } => match args.toList, argTypes.toList with
    | [x], [t] => match P.underlying t with
      | some .string => some (match ev x with
        | some v => lnT v
        | none => none)
      | some (.slice _) => some (match ev x with
        | some v => lnS v
        | none => none)
      | some (.array n _) => some (match ev x with
        | some _ => some (.int .i64 n)
        | none => none)
      | some (.pointer a) => some (match P.underlying a, ev x with
        | some (.array n _), some _ => some (.int .i64 n)
        | _, _ => none)
      | _ => none
    | _, _ => none
  | .call { callee := .builtin .cap, args, argTypes } => some (match args.toList, argTypes.toList with
    | [x], [t] => (match P.underlying t, ev x with
      | some (.slice _), some v => cpS v
      | _, _ => none)
    | _, _ => none)
  | .call { callee := .builtin .max, args, .. } => some (match evs ev args.toList with
    | some (x :: xs) => foldA max2A x xs
    | _ => none)
  | .call { callee := .builtin .min, args, .. } => some (match evs ev args.toList with
    | some (x :: xs) => foldA min2A x xs
    | _ => none)
  | _ => none

end
end Go.Am

set_option linter.unusedSimpArgs false
namespace Go.Am
open Go

section
variable {P : Program} {orc : Orc} {ev : Operand → Option AV}

theorem binV_ok (op : BinOp) (t : TypeId) (a b v : AV) (h1 : op ≠ .eql) (h2 : op ≠ .neq) (h : binV op a b = some v) : binA P op t a b = some v := by
  cases op <;> cases a <;> cases b <;> simp_all [binV, binA]

theorem partA_eq {t : TypeId} {d : TypeDesc} {n : Nat} (h1 : P.underlying t = some d) (h2 : tsz P t = some n) (cs : List AV) (off : Nat) : partA P t cs off = partV (isAggD d) n off cs := by
  rw [partA, h1, h2]; rfl

theorem eqV_ok {neg cst : Bool} {t : TypeId} {a b v : AV} {x y : Operand} (hc : cst = (isConstB x || isConstB y)) (h : eqV P neg cst t a b = some v) :
    (bif guardOk P (bif neg then .neq else .eql) t x y a b then binA P (bif neg then .neq else .eql) t a b else none) = some v := by
  rw [eqV] at h
  have e : eqG P cst t a b = guardOk P (bif neg then .neq else .eql) t x y a b := by
    subst hc
    cases neg <;> cases a <;> cases b <;> rfl
  rw [e] at h; exact h

theorem eqDepth_succ : eqDepth = 299 + 1 := rfl

theorem eqD_eqV {neg cst : Bool} {t : TypeId} {a b v : AV} (h : eqD P neg cst t a b = some v) : eqV P neg cst t a b = some v := by
  unfold eqD at h
  split at h
  · unfold eqI at h
    split at h
    · rename_i k x k' y
      split at h
      · rename_i hk
        subst hk
        cases neg <;> simp_all [eqV, eqG, binA, intBin]
      · simp at h
    · simp at h
  · rename_i hu
    unfold eqB at h
    split at h
    · cases neg <;> simp_all [eqV, eqG, binA, eqA, eqDepth_succ]
    · simp at h
  · rename_i hu
    unfold eqS at h
    split at h
    · cases neg <;> simp_all [eqV, eqG, binA, strBin]
    · simp at h
  · rename_i e hu
    unfold eqP at h
    split at h
    · cases neg <;> simp_all [eqV, eqG, binA, eqA, eqDepth_succ]
    · cases neg <;> simp_all [eqV, eqG, binA, eqA, eqDepth_succ]
    · simp at h
  · rename_i e hu
    unfold eqL at h
    split at h
    · cases neg <;> simp_all [eqV, eqG, binA, eqA, eqDepth_succ]
    · cases neg <;> simp_all [eqV, eqG, binA, eqA, eqDepth_succ]
    · simp at h
  · exact h

theorem l2_some {f : AV → AV → Option AV} {x y : Option AV} {v : AV} (h : l2 f x y = some v) : ∃ a b, x = some a ∧ y = some b ∧ f a b = some v := by
  cases x <;> cases y <;> simp_all [l2]

theorem pureD_kind {op : Op} {r : Option AV} (h : pureD P ev op = some r) : kindA P op = .pure := by
  unfold pureD at h
  split at h <;> first | (simp at h; done) | skip
  all_goals first | rfl | skip
  all_goals (try (repeat' split at h)) <;> simp_all [kindA]

theorem pureD_ok {op : Op} {v : AV} (h : pureD P ev op = some (some v)) : pureA P ev op = some v := by
  unfold pureD at h
  split at h
  case h_1 => simpa [pureA] using h
  case h_2 => simpa [pureA] using h
  case h_3 c a b =>
    simp only [Option.some.injEq] at h
    split at h
    · rename_i c' a' b' hc ha hb
      cases c' <;> simp only [pickV] at h <;> try simp at h
      rename_i t
      simp only [pureA, hc, ha, hb]
      cases t <;> simp_all
    · simp at h
  case h_4 t parts =>
    simp only [Option.some.injEq] at h
    split at h
    · rename_i l z fs hl hz hu
      split at h
      · rename_i pl hp
        split at h
        · rename_i r hr
          simp only [pureA, hl, buildA, hz, hu, hp, toFill_ok _ _ _ _ hr]
          cases hf : fillL z.cells r <;> simp_all [aggO]
        · simp at h
      · simp at h
    · rename_i l z n e hl hz hu
      split at h
      · rename_i s hs
        split at h
        · rename_i r hr
          simp only [pureA, hl, buildA, hz, hu, hs, toFill_ok _ _ _ _ hr]
          cases hf : fillL z.cells r <;> simp_all [aggO]
        · simp at h
      · simp at h
    · simp at h
  case h_5 x =>
    simp only [Option.some.injEq] at h
    split at h
    · rename_i w hw
      simp only [pureA, hw]
      unfold nilV at h
      split at h <;> simp_all
    · simp at h
  case h_6 op t x y yt =>
    simp only [Option.some.injEq] at h
    cases hop : decide (op = .eql ∨ op = .neq) with
    | true =>
      rcases of_decide_eq_true hop with rfl | rfl
      · obtain ⟨a, b, ha, hb, hv⟩ := l2_some h
        simp only [pureA, ha, hb]
        exact eqV_ok (neg := false) rfl (eqD_eqV hv)
      · obtain ⟨a, b, ha, hb, hv⟩ := l2_some h
        simp only [pureA, ha, hb]
        exact eqV_ok (neg := true) rfl (eqD_eqV hv)
    | false =>
      have hne := of_decide_eq_false hop
      have h1 : op ≠ .eql := fun e => hne (.inl e)
      have h2 : op ≠ .neq := fun e => hne (.inr e)
      have h' : l2 (binV op) (ev x) (ev y) = some v := by cases op <;> first | exact h | exact absurd rfl h1 | exact absurd rfl h2
      obtain ⟨a, b, ha, hb, hv⟩ := l2_some h'
      simp only [pureA, ha, hb]
      have hg : guardOk P op t x y a b = true := by cases op <;> simp_all [guardOk]
      rw [hg]
      exact binV_ok op t a b v h1 h2 hv
  case h_7 op t x =>
    simp only [Option.some.injEq] at h
    split at h
    · rename_i w hw; simp only [pureA, hw]; exact h
    · simp at h
  case h_8 s d x =>
    split at h
    · rename_i s' k hs hd
      simp only [Option.some.injEq] at h
      split at h
      · rename_i w hw
        cases w <;> simp only [cvI] at h <;> try simp at h
        subst h
        simp [pureA, hw, convA, hs, hd]
      · simp at h
    · rename_i hs hd
      simp only [Option.some.injEq] at h
      split at h
      · rename_i w hw
        cases w <;> simp only [cvS] at h <;> try simp at h
        subst h
        simp [pureA, hw, convA, hs, hd]
      · simp at h
    · simp at h
  case h_9 t x =>
    simp only [Option.some.injEq] at h
    split at h
    · rename_i n e w hu hw
      unfold s2a at h
      split at h
      · simp only [pureA, hu, hw]; exact h
      · simp at h
    · simp at h
  case h_10 t x =>
    simp only [Option.some.injEq] at h
    split at h
    · simp at h
    · rename_i d w hne hu hw
      simp only [Option.some.injEq] at h
      subst h
      simp only [pureA]
      split
      · rename_i hx; rw [hx] at hu; exact absurd hu (by intro e; injection e with e; exact hne _ e.symm)
      · simp [hw]
      · rename_i hx; rw [hx] at hu; simp at hu
    · simp at h
  case h_11 fn first captured =>
    simp only [Option.some.injEq] at h
    split at h
    · rename_i f c hf hc; simp only [pureA, hf, hc]; exact h
    · simp at h
  case h_12 t x lo hi mx =>
    split at h
    · rename_i hu
      simp only [Option.some.injEq] at h
      split at h
      · rename_i w l k hw hl hk
        simp only [pureA, hw, hl, hk, optA]
        unfold slT at h
        split at h
        · rename_i s
          show (match some (AV.str s), optA ev lo, optA ev hi, some (none : Option AV) with | some v, some l, some h, some m => sliceA P t v l h m | _, _, _, _ => none) = _
          rw [hl, hk]
          simp only [sliceA, hu]
          cases hb : boundsA s.length s.length l k none <;> simp [hb] at h ⊢; exact h
        · simp at h
      · simp at h
    · rename_i e hu
      simp only [Option.some.injEq] at h
      split at h
      · rename_i w l k m hw hl hk hm
        split at h
        · rename_i n hn
          simp only [pureA, hw, hl, hk, hm]
          cases hb : (m.isSome && k.isNone) with
          | true => rw [hb] at h; simp at h
          | false =>
            rw [hb] at h
            simp only [cond_false] at h
            unfold slS at h
            split at h
            · rename_i a len cap sz
              simp only [sliceA, hu]
              split
              · rename_i hh; simp [hh.1, hh.2] at hb
              · split at h
                · rename_i l' h' m' hbd
                  rw [hbd, hn]
                  exact h
                · simp at h
            · simp at h
        · simp at h
      · simp at h
    · simp at h
  case h_13 s x f =>
    simp only [Option.some.injEq] at h
    split at h
    · rename_i fs w hu hw
      split at h
      · rename_i fd hfd
        split at h
        · simp at h
        · rename_i n hz hn
          unfold fldA at h
          split at h
          · rename_i i o
            simp only [pureA, hw, Option.bind_some, fieldAtA, hu, hfd, hn]
            exact h
          · simp at h
        · simp at h
      · simp at h
    · simp at h
  case h_14 t x f =>
    simp only [Option.some.injEq] at h
    split at h
    · rename_i fs w hu hw
      split at h
      · rename_i fd hfd
        split at h
        · rename_i d n hd hn
          unfold fldV at h
          split at h
          · simp only [pureA, hw, Option.bind_some, fieldA, hu, hfd, partA_eq hd hn]; exact h
          · simp at h
        · simp at h
      · simp at h
    · simp at h
  case h_15 t x ix =>
    simp only [Option.some.injEq] at h
    split at h
    · rename_i n e hu
      split at h
      · rename_i s hs
        obtain ⟨a, b, ha, hb, hv⟩ := l2_some h
        simp only [pureA, ha, hb]
        unfold ixR at hv
        split at hv
        · simp only [indexAtA, hu, hs]; exact hv
        · simp at hv
      · simp at h
    · rename_i e hu
      split at h
      · rename_i s hs
        obtain ⟨a, b, ha, hb, hv⟩ := l2_some h
        simp only [pureA, ha, hb]
        unfold ixS at hv
        split at hv
        · simp only [indexAtA, hu, hs]; exact hv
        · simp at hv
      · simp at h
    · simp at h
  case h_16 t x ix =>
    simp only [Option.some.injEq] at h
    split at h
    · rename_i n e hu
      split at h
      · rename_i d s hd hs
        obtain ⟨a, b, ha, hb, hv⟩ := l2_some h
        simp only [pureA, ha, hb]
        unfold ixA at hv
        split at hv
        · simp only [indexA, hu, hs, partA_eq hd hs]; exact hv
        · simp at hv
      · simp at h
    · rename_i hu
      obtain ⟨a, b, ha, hb, hv⟩ := l2_some h
      simp only [pureA, ha, hb]
      unfold ixT at hv
      split at hv
      · simp only [indexA, hu]; exact hv
      · simp at hv
    · simp at h
  case h_17 x xt t ok =>
    simp only [Option.some.injEq] at h
    split at h
    · simp at h
    · rename_i d w hne hu hw
      simp only [pureA, hw, Option.bind_some, assertA]
      split
      · rename_i hx; rw [hx] at hu; exact absurd hu (by intro e; injection e with e; exact hne _ e.symm)
      · unfold asrt at h
        split at h <;> first | exact h | simp at h
      · rename_i hx; rw [hx] at hu; simp at hu
    · simp at h
  case h_18 t i =>
    simp only [Option.some.injEq] at h
    split at h
    · rename_i w hw
      unfold extV at h
      split at h
      · simp only [pureA, hw]; exact h
      · simp at h
    · simp at h
  case h_19 args argTypes =>
    split at h
    · rename_i x t hx ht
      split at h
      · rename_i hu
        simp only [Option.some.injEq] at h
        split at h
        · rename_i w hw
          unfold lnT at h
          split at h
          · simp only [pureA, hx, ht, hw, Option.bind_some, lenA, hu]; exact h
          · simp at h
        · simp at h
      · rename_i e hu
        simp only [Option.some.injEq] at h
        split at h
        · rename_i w hw
          unfold lnS at h
          split at h
          · simp only [pureA, hx, ht, hw, Option.bind_some, lenA, hu]; exact h
          · simp at h
        · simp at h
      · rename_i n e hu
        simp only [Option.some.injEq] at h
        split at h
        · rename_i w hw
          simp only [pureA, hx, ht, hw, Option.bind_some, lenA, hu]; exact h
        · simp at h
      · rename_i e hu
        simp only [Option.some.injEq] at h
        split at h
        · rename_i n e' w hu' hw
          simp only [pureA, hx, ht, hw, Option.bind_some, lenA, hu, hu']; exact h
        · simp at h
      · simp at h
    · simp at h
  case h_20 args argTypes =>
    simp only [Option.some.injEq] at h
    split at h
    · rename_i x t hx ht
      split at h
      · rename_i e w hu hw
        unfold cpS at h
        split at h
        · simp only [pureA, hx, ht, hw, Option.bind_some, capA, hu]; exact h
        · simp at h
      · simp at h
    · simp at h
  case h_21 args argTypes =>
    simp only [Option.some.injEq] at h
    split at h
    · rename_i x xs hx; simp only [pureA, hx]; exact h
    · simp at h
  case h_22 args argTypes =>
    simp only [Option.some.injEq] at h
    split at h
    · rename_i x xs hx; simp only [pureA, hx]; exact h
    · simp at h
  case h_23 => simp at h

theorem pureD_op {op : Op} {v : AV} (h : pureD P ev op = some (some v)) (hp : AH) : opA P ev hp op = .ok (.val v) hp := by
  rw [opA, pureD_kind h]
  simp only [pureD_ok h]

end
end Go.Am

namespace Go.Am
open Go

section
variable (P : Program) (orc : Orc) (ev : Operand → Option AV)

noncomputable def effD : Op → M AV
  | .load t a => match P.underlying t, tsz P t, ev a with
    | some d, some n, some p => bif isAggD d then ldN n p else ld p
    | _, _, _ => no
  | .store t a x => match tsz P t, ev a, ev x with
    | some n, some p, some v => st n p v
    | _, _, _ => no
  | .lookup t m k ok => match ev m, ev k with
    | some a, some b => lk P t ok a b
    | _, _ => no
  | .convert s d x => match P.underlying s, P.underlying d, ev x with
    | some (.slice e), some .string, some v => (match P.underlying e with
      | some (.int .u8) => b2s v
      | _ => no)
    | some .string, some (.slice e), some v => (match P.underlying e with
      | some (.int .u8) => s2b e v
      | _ => no)
    | _, _, _ => no
  | .slice t x lo hi mx => match P.underlying t with
    | some (.array n e) => (match ev x, optA ev lo, optA ev hi, optA ev mx, tsz P e with
      | some v, some l, some h, some m, some s => bif m.isSome && h.isNone then no else slR n s v l h m
      | _, _, _, _, _ => no)
    | _ => no
  | .alloc e => match zeroA P e with
    | some z => bif ones z.cells then nw z.cells e else no
    | none => no
  | .box e x => match ev x with
    | some v => bx e v
    | none => no
  | .buildSlice t len parts => match P.underlying t, evParts ev parts.toList with
    | some (.slice e), some ps => (match tsz P e, zeroA P e with
      | some s, some z => bif decide (0 < s ∧ z.cells.length = s ∧ len * s ≤ 2 ^ 24) then (match toFill (fun i => some (i * s, s)) ps with
        | some r => mkS e s len (fillL (replA len z.cells) r)
        | none => no) else no
      | _, _ => no)
    | _, _ => no
  | .makeSlice t l c => match P.underlying t, ev l, ev c with
    | some (.slice e), some a, some b => (match P.info? e, zeroA P e with
      | some inf, some z => bif decide (0 < inf.size ∧ z.cells.length = inf.size ∧ ones z.cells = true) then mkZ e inf.size inf.bytes z.cells a b else no
      | _, _ => no)
    | _, _, _ => no
  | .makeMap _ none => mkM
  | .mapUpdate t m k x => match ev m, ev k, ev x with
    | some a, some b, some c => mput P t a b c
    | _, _, _ => no
  | .insert t m k x => match ev m, ev k, ev x with
    | some a, some b, some c => mput P t a b c
    | _, _, _ => no
  | .mapEntry t m k => match ev m, ev k with
    | some a, some b => ment P t a b
    | _, _ => no
  | .entryStore _ m s x => match ev m, ev s, ev x with
    | some a, some b, some c => mest a b c
    | _, _, _ => no
  | .call { callee := .builtin .len, args, argTypes } => match args.toList, argTypes.toList with
    | [x], [t] => (match P.underlying t, ev x with
      | some (.map _ _), some m => lenM m
      | _, _ => no)
    | _, _ => no
  | .call { callee := .builtin .append, args, argTypes } => match evs ev args.toList, argTypes.toList with
    | some [x, y], st :: xt :: _ => (match P.underlying st, P.underlying xt with
      | some (.slice e), some xd => (match P.info? e with
        | some inf => bif decide (isIntO (some xd) = false ∧ 0 < inf.size ∧ 0 < inf.bytes ∧ zeroFits inf = true) then ap e inf.size inf.bytes x y else apx P argTypes.toList [x, y]
        | none => no)
      | _, _ => no)
    | _, _ => no
  | .call { callee := .builtin .copy, args, argTypes } => match evs ev args.toList, argTypes.toList with
    | some [x, y], st :: _ => (match P.underlying st with
      | some (.slice e) => (match tsz P e with
        | some size => cp size x y
        | none => no)
      | _ => no)
    | _, _ => no
  | .call { callee := .builtin .delete, args, argTypes } => match evs ev args.toList, argTypes.toList with
    | some [m, k], t :: _ => mdel P t m k
    | _, _ => no
  | .call { callee := .value f, args, .. } => match evs ev args.toList with
    | some l => (match f with
      | .func g => ca P orc g l
      | f => match ev f with
        | some v => cv P orc v l
        | none => no)
    | none => no
  | .panic x => match ev x with
    | some v => panV v
    | none => no
  | _ => no

variable {P orc ev}

inductive OpRel (P : Program) (orc : Orc) (ev : Operand → Option AV) (h : AH) (op : Op) : Ex AV → AH → Prop where
  | val {v h'} : opA P ev h op = .ok (.val v) h' → OpRel P orc ev h op (.ok v) h'
  | skip {h'} : opA P ev h op = .ok .skip h' → OpRel P orc ev h op (.ok undefA) h'
  | ret {f l h1 v h'} : opA P ev h op = .ok (.enter f l) h1 → callX P orc f l h1 = some (.ret v, h') → OpRel P orc ev h op (.ok v) h'
  | pan {v h'} : opA P ev h op = .pan v h' → OpRel P orc ev h op (.pan v) h'
  | cpan {f l h1 v h'} : opA P ev h op = .ok (.enter f l) h1 → callX P orc f l h1 = some (.pan v, h') → OpRel P orc ev h op (.pan v) h'

theorem no_some {α : Type} {h : AH} {x} : (no : M α) h = some x ↔ False := by simp [no]

theorem opA_read {h : AH} {op : Op} (hk : kindA P op = .read) {v : AV} (hr : readA P ev h op = some v) : opA P ev h op = .ok (.val v) h := by
  rw [opA, hk]; simp only [hr]
theorem opA_alloc {h : AH} {op : Op} (hk : kindA P op = .alloc) {mk o} (hr : allocA P ev op = some (mk, o)) : opA P ev h op = .ok (.val (mk h.next)) (h.add o) := by
  rw [opA, hk]; simp only [hr]
theorem opA_eff {h : AH} {op : Op} (hk : kindA P op = .eff) : opA P ev h op = effA P ev h op := by
  rw [opA, hk]

theorem ca_rel {h h' : AH} {op : Op} {f : FuncId} {l : List AV} {r : Ex AV} (ho : opA P ev h op = .ok (.enter f l) h) (hc : ca P orc f l h = some (r, h')) : OpRel P orc ev h op r h' := by
  unfold ca at hc
  split at hc
  · rename_i v h1 e
    simp only [Option.some.injEq, Prod.mk.injEq] at hc
    obtain ⟨rfl, rfl⟩ := hc
    exact .ret ho e
  · rename_i v h1 e
    simp only [Option.some.injEq, Prod.mk.injEq] at hc
    obtain ⟨rfl, rfl⟩ := hc
    exact .cpan ho e
  · simp at hc

theorem ap_ok {e : TypeId} {size bytes : Nat} {x y : AV} {h h' : AH} {r : Ex AV} (ha : ap e size bytes x y h = some (r, h')) {st xt : TypeId} {ts : List TypeId} {inf : TypeInfo} {xd : TypeDesc}
    (h1 : P.underlying st = some (.slice e)) (h2 : P.info? e = some inf) (h3 : inf.size = size) (h4 : inf.bytes = bytes) (h5 : P.underlying xt = some xd) (h6 : isIntO (some xd) = false) (h7 : 0 < size) (h8 : 0 < bytes) (h9 : zeroFits inf = true) :
    ∃ v, r = .ok v ∧ appendA P (st :: xt :: ts) [x, y] h = some (v, h') := by
  subst h3 h4
  unfold ap at ha
  split at ha
  · rename_i base len cap sz n hn
    simp only [appendA, h1, h2, h5, newCells, h6, cond_false, hn]
    split at ha
    · rename_i new hnew
      rw [hnew]
      simp only [Option.map_some]
      split at ha
      · rename_i hc
        rw [if_pos ⟨h7, h8, hc.1, hc.2.1, hc.2.2, rfl, h9⟩]
        split at ha
        · rename_i hle
          rw [if_pos hle]
          split at ha
          · simp only [Option.some.injEq, Prod.mk.injEq] at ha
            obtain ⟨rfl, rfl⟩ := ha
            exact ⟨_, rfl, rfl⟩
          · rename_i i o
            simp only [] at ha ⊢
            split at ha
            · rename_i hz
              simp only [Option.some.injEq, Prod.mk.injEq] at ha
              obtain ⟨rfl, rfl⟩ := ha
              rw [if_pos hz]
              exact ⟨_, rfl, rfl⟩
            · rename_i hz
              rw [if_neg hz]
              split at ha
              · rename_i h2' hw
                simp only [Option.some.injEq, Prod.mk.injEq] at ha
                obtain ⟨rfl, rfl⟩ := ha
                rw [hw]
                exact ⟨_, rfl, rfl⟩
              · simp at ha
        · rename_i hle
          rw [if_neg hle]
          split at ha
          · rename_i hb
            rw [if_pos hb]
            split at ha
            · simp only [Option.some.injEq, Prod.mk.injEq] at ha
              obtain ⟨rfl, rfl⟩ := ha
              exact ⟨_, rfl, rfl⟩
            · rename_i i o
              simp only [] at ha ⊢
              split at ha
              · rename_i cs e' hg
                rw [hg]
                simp only [] at ha ⊢
                split at ha
                · rename_i hx
                  simp only [Option.some.injEq, Prod.mk.injEq] at ha
                  obtain ⟨rfl, rfl⟩ := ha
                  rw [if_pos hx]
                  exact ⟨_, rfl, rfl⟩
                · simp at ha
              · simp at ha
          · simp at ha
      · simp at ha
    · simp at ha
  · simp at ha

theorem ofO_ok {o : Option (AV × AH)} {r : Ex AV} {h' : AH} (h : ofO o = some (r, h')) : ∃ v, r = .ok v ∧ o = some (v, h') := by
  unfold ofO at h
  split at h
  · simp only [Option.some.injEq, Prod.mk.injEq] at h
    obtain ⟨rfl, rfl⟩ := h
    exact ⟨_, rfl, rfl⟩
  · simp at h
theorem ofU_ok {o : Option AH} {r : Ex AV} {h' : AH} (h : ofU o = some (r, h')) : r = .ok undefA ∧ o = some h' := by
  unfold ofU at h
  split at h
  · simp only [Option.some.injEq, Prod.mk.injEq] at h
    obtain ⟨rfl, rfl⟩ := h
    exact ⟨rfl, rfl⟩
  · simp at h

theorem cp_ok {size : Nat} {x y : AV} {h h' : AH} {r : Ex AV} (hc : cp size x y h = some (r, h')) {st e : TypeId} {ts : List TypeId} (h1 : P.underlying st = some (.slice e)) (h2 : tsz P e = some size) :
    ∃ v, r = .ok v ∧ copyA P (st :: ts) [x, y] h = some (v, h') := by
  unfold cp at hc
  split at hc
  · rename_i base dLen cap sz m hm
    simp only [copyA, h1, hm, h2]
    split at hc
    · rename_i cs hcs
      rw [hcs]
      split at hc
      · simp only [Option.some.injEq, Prod.mk.injEq] at hc
        obtain ⟨rfl, rfl⟩ := hc
        exact ⟨_, rfl, rfl⟩
      · rename_i i o
        simp only [] at hc ⊢
        split at hc
        · rename_i hz
          simp only [Option.some.injEq, Prod.mk.injEq] at hc
          obtain ⟨rfl, rfl⟩ := hc
          rw [if_pos hz]
          exact ⟨_, rfl, rfl⟩
        · rename_i hz
          rw [if_neg hz]
          split at hc
          · rename_i h2' hw
            simp only [Option.some.injEq, Prod.mk.injEq] at hc
            obtain ⟨rfl, rfl⟩ := hc
            rw [hw]
            exact ⟨_, rfl, rfl⟩
          · simp at hc
    · simp at hc
  · simp at hc

theorem effD_ok (hev : ∀ g, ev (.func g) = some (.func (.func g) [] [])) {op : Op} {h h' : AH} {r : Ex AV} (he : effD P orc ev op h = some (r, h')) : OpRel P orc ev h op r h' := by
  obtain ⟨m, hm, he⟩ : ∃ m, effD P orc ev op = m ∧ m h = some (r, h') := ⟨_, rfl, he⟩
  unfold effD at hm
  split at hm
  case h_1 t a =>
    split at hm
    · rename_i d n p hd hn hp
      cases hag : isAggD d with
      | true =>
        rw [hag] at hm
        simp only [cond_true] at hm
        subst hm
        unfold ldN at he
        split at he
        · rename_i i o
          split at he
          · rename_i cs t' ro hg
            split at he
            · rename_i hle
              simp only [Option.some.injEq, Prod.mk.injEq] at he
              obtain ⟨rfl, rfl⟩ := he
              refine .val (opA_read rfl ?_)
              simp only [readA, hp, loadA, hg, partA_eq hd hn, hag, partV, cond_true, if_pos hle]
            · simp at he
          · simp at he
        · simp at he
      | false =>
        rw [hag] at hm
        simp only [cond_false] at hm
        subst hm
        unfold ld at he
        split at he
        · rename_i i o
          split at he
          · rename_i cs t' ro hg
            split at he
            · rename_i v hv
              simp only [Option.some.injEq, Prod.mk.injEq] at he
              obtain ⟨rfl, rfl⟩ := he
              refine .val (opA_read rfl ?_)
              simp only [readA, hp, loadA, hg, partA_eq hd hn, hag, partV, cond_false, hv]
            · simp at he
          · simp at he
        · simp at he
    · subst hm; simp [no] at he
  case h_2 t a x =>
    split at hm
    · rename_i n p v hn hp hv
      subst hm
      unfold st at he
      split at he
      · rename_i i o
        split at he
        · rename_i hlen
          split at he
          · rename_i h1 hw
            simp only [Option.some.injEq, Prod.mk.injEq] at he
            obtain ⟨rfl, rfl⟩ := he
            refine .skip ?_
            rw [opA_eff rfl]
            simp only [effA, hp, hv, storeA, hn, hlen, if_true, hw, R.unit]
          · simp at he
        · simp at he
      · simp at he
    · subst hm; simp [no] at he
  case h_3 t m k ok =>
    split at hm
    · rename_i a b ha hb
      subst hm
      unfold lk at he
      split at he
      · rename_i v hv
        simp only [Option.some.injEq, Prod.mk.injEq] at he
        obtain ⟨rfl, rfl⟩ := he
        refine .val (opA_read rfl ?_)
        simp only [readA, ha, hb, hv]
      · simp at he
    · subst hm; simp [no] at he
  case h_4 s d x =>
    split at hm
    · rename_i e v hs hd hx
      split at hm
      · rename_i hu
        subst hm
        unfold b2s at he
        split at he
        · simp only [Option.some.injEq, Prod.mk.injEq] at he
          obtain ⟨rfl, rfl⟩ := he
          refine .val (opA_read ?_ ?_)
          · simp only [kindA, hs, hd]
          · simp only [readA, hs, hd, hx, hu]
        · rename_i i o len cap sz
          split at he
          · rename_i hz
            split at he
            · rename_i l hl
              simp only [Option.some.injEq, Prod.mk.injEq] at he
              obtain ⟨rfl, rfl⟩ := he
              refine .val (opA_read ?_ ?_)
              · simp only [kindA, hs, hd]
              · simp only [readA, hs, hd, hx, hu, if_pos hz, hl, Option.map_some]
            · simp at he
          · simp at he
        · simp at he
      · subst hm; simp [no] at he
    · rename_i e v hs hd hx
      split at hm
      · rename_i hu
        subst hm
        unfold s2b at he
        split at he
        · rename_i l
          simp only [Option.some.injEq, Prod.mk.injEq] at he
          obtain ⟨rfl, rfl⟩ := he
          refine .val (opA_alloc (mk := fun i => .slice (some (i, 0)) l.length l.length 1) ?_ ?_)
          · simp only [kindA, hs, hd]
          · simp only [allocA, hs, hd, hx, hu]
        · simp at he
      · subst hm; simp [no] at he
    · subst hm; simp [no] at he
  case h_5 t x lo hi mx =>
    split at hm
    · rename_i n e hu
      split at hm
      · rename_i v l k m s hv hl hk hm hs
        cases hb : (m.isSome && k.isNone) with
        | true => rw [hb] at hm; subst hm; simp [no] at he
        | false =>
          rw [hb] at hm
          simp only [cond_false] at hm
          subst hm
          unfold slR at he
          split at he
          · rename_i i o
            split at he
            · rename_i l' k' m' hbd
              split at he
              · rename_i row hrow
                simp only [Option.some.injEq, Prod.mk.injEq] at he
                obtain ⟨rfl, rfl⟩ := he
                refine .val (opA_read ?_ ?_)
                · simp only [kindA, hu]
                · simp only [readA, hv, hl, hk, hm, sliceArrA, hu, hs]
                  rw [if_neg (by rintro ⟨q1, q2⟩; simp [q1, q2] at hb)]
                  simp only [hbd, hrow]
              · simp at he
            · simp at he
          · simp at he
      · subst hm; simp [no] at he
    · subst hm; simp [no] at he
  case h_6 e =>
    split at hm
    · rename_i z hz
      cases ho : ones z.cells with
      | false => rw [ho] at hm; subst hm; simp [no] at he
      | true =>
        rw [ho] at hm
        subst hm
        simp only [cond_true, nw, Option.some.injEq, Prod.mk.injEq] at he
        obtain ⟨rfl, rfl⟩ := he
        refine .val (opA_alloc (mk := fun i => .ptr (some (i, 0))) rfl ?_)
        simp only [allocA, hz, ho, if_true]
    · subst hm; simp [no] at he
  case h_7 e x =>
    split at hm
    · rename_i v hv
      subst hm
      unfold bx at he
      split at he
      · rename_i ho
        simp only [Option.some.injEq, Prod.mk.injEq] at he
        obtain ⟨rfl, rfl⟩ := he
        refine .val (opA_alloc (mk := fun i => .ptr (some (i, 0))) rfl ?_)
        simp only [allocA, hv, ho, if_true]
      · simp at he
    · subst hm; simp [no] at he
  case h_8 t len parts =>
    split at hm
    · rename_i e ps hu hps
      split at hm
      · rename_i s z hs hz
        cases hd : decide (0 < s ∧ z.cells.length = s ∧ len * s ≤ 2 ^ 24) with
        | false => rw [hd] at hm; subst hm; simp [no] at he
        | true =>
          rw [hd] at hm
          have hd' := of_decide_eq_true hd
          simp only [cond_true] at hm
          split at hm
          · rename_i r' hr
            subst hm
            unfold mkS at he
            split at he
            · rename_i cs hcs
              split at he
              · rename_i ho
                simp only [Option.some.injEq, Prod.mk.injEq] at he
                obtain ⟨rfl, rfl⟩ := he
                refine .val (opA_alloc (mk := fun i => .slice (some (i, 0)) len len s) rfl ?_)
                simp only [allocA, hu, hps, hs, hz, if_pos hd', toFill_ok _ _ _ _ hr, hcs, ho, if_true]
              · simp at he
            · simp at he
          · subst hm; simp [no] at he
      · subst hm; simp [no] at he
    · subst hm; simp [no] at he
  case h_9 t l c =>
    split at hm
    · rename_i e a b hu ha hb
      split at hm
      · rename_i inf z hi hz
        cases hd : decide (0 < inf.size ∧ z.cells.length = inf.size ∧ ones z.cells = true) with
        | false => rw [hd] at hm; subst hm; simp [no] at he
        | true =>
          rw [hd] at hm
          have hd' := of_decide_eq_true hd
          simp only [cond_true] at hm
          subst hm
          unfold mkZ at he
          split at he
          · rename_i k1 n k2 m
            split at he
            · rename_i hc
              simp only [Option.some.injEq, Prod.mk.injEq] at he
              obtain ⟨rfl, rfl⟩ := he
              refine .val (opA_alloc (mk := fun i => .slice (some (i, 0)) n.toNat m.toNat inf.size) rfl ?_)
              simp only [allocA, hu, ha, hb, hi, hz]
              rw [if_pos ⟨hc.1, hc.2.1, hc.2.2.1, hc.2.2.2, hd'.1, hd'.2.1, hd'.2.2⟩]
            · simp at he
          · simp at he
      · subst hm; simp [no] at he
    · subst hm; simp [no] at he
  case h_10 t =>
    subst hm
    simp only [mkM, Option.some.injEq, Prod.mk.injEq] at he
    obtain ⟨rfl, rfl⟩ := he
    exact .val (opA_alloc (mk := fun i => .map (some i)) rfl rfl)
  case h_11 t m k x =>
    split at hm
    · rename_i a b c ha hb hc
      subst hm
      obtain ⟨rfl, hq⟩ := ofU_ok he
      refine .skip ?_
      rw [opA_eff rfl]
      simp only [effA, ha, hb, hc, hq, R.unit]
    · subst hm; simp [no] at he
  case h_12 t m k x =>
    split at hm
    · rename_i a b c ha hb hc
      subst hm
      obtain ⟨rfl, hq⟩ := ofU_ok he
      refine .skip ?_
      rw [opA_eff rfl]
      simp only [effA, ha, hb, hc, hq, R.unit]
    · subst hm; simp [no] at he
  case h_13 t m k =>
    split at hm
    · rename_i a b ha hb
      subst hm
      obtain ⟨v, rfl, hq⟩ := ofO_ok he
      refine .val ?_
      rw [opA_eff rfl]
      simp only [effA, ha, hb, hq, R.of]
    · subst hm; simp [no] at he
  case h_14 t m s x =>
    split at hm
    · rename_i a b c ha hb hc
      subst hm
      obtain ⟨rfl, hq⟩ := ofU_ok he
      refine .skip ?_
      rw [opA_eff rfl]
      simp only [effA, ha, hb, hc, hq, R.unit]
    · subst hm; simp [no] at he
  case h_15 args argTypes =>
    split at hm
    · rename_i x t hx ht
      split at hm
      · rename_i k e m hu hm
        subst hm
        unfold lenM at he
        split at he
        · rename_i es hes
          simp only [Option.some.injEq, Prod.mk.injEq] at he
          obtain ⟨rfl, rfl⟩ := he
          refine .val (opA_read ?_ ?_)
          · simp only [kindA, ht, hu]
          · simp only [readA, hx, ht, hu, hm, hes, Option.map_some]
        · simp at he
      · subst hm; simp [no] at he
    · subst hm; simp [no] at he
  case h_16 args argTypes =>
    split at hm
    · rename_i x y st xt ts hl ht
      split at hm
      · rename_i e xd hu hxd
        split at hm
        · rename_i inf hi
          cases hd : decide (isIntO (some xd) = false ∧ 0 < inf.size ∧ 0 < inf.bytes ∧ zeroFits inf = true) with
          | true =>
            rw [hd] at hm
            have hd' := of_decide_eq_true hd
            simp only [cond_true] at hm
            subst hm
            obtain ⟨v, rfl, ha⟩ := ap_ok (ts := ts) he hu hi rfl rfl hxd hd'.1 hd'.2.1 hd'.2.2.1 hd'.2.2.2
            refine .val ?_
            rw [opA_eff rfl]
            simp only [effA, hl, ht, ha, R.of]
          | false =>
            rw [hd] at hm
            simp only [cond_false] at hm
            subst hm
            obtain ⟨v, rfl, ha⟩ := ofO_ok he
            refine .val ?_
            rw [opA_eff rfl]
            simp only [effA, hl, ha, R.of]
        · subst hm; simp [no] at he
      · subst hm; simp [no] at he
    · subst hm; simp [no] at he
  case h_17 args argTypes =>
    split at hm
    · rename_i x y st ts hl ht
      split at hm
      · rename_i e hu
        split at hm
        · rename_i size hs
          subst hm
          obtain ⟨v, rfl, hc⟩ := cp_ok (ts := ts) he hu hs
          refine .val ?_
          rw [opA_eff rfl]
          simp only [effA, hl, ht, hc, R.of]
        · subst hm; simp [no] at he
      · subst hm; simp [no] at he
    · subst hm; simp [no] at he
  case h_18 args argTypes =>
    split at hm
    · rename_i m k t ts hl ht
      subst hm
      unfold mdel at he
      split at he
      · rename_i h1 hd
        simp only [Option.some.injEq, Prod.mk.injEq] at he
        obtain ⟨rfl, rfl⟩ := he
        refine .val ?_
        rw [opA_eff rfl]
        have hd2 : deleteA P (t :: ts) [m, k] h = some h1 := by
          rw [← hd]; cases m <;> try rfl
          rename_i a; cases a <;> rfl
        simp only [effA, hl, ht, hd2]
      · simp at he
    · subst hm; simp [no] at he
  case h_19 f args ats =>
    split at hm
    · rename_i l hl
      split at hm
      · rename_i g
        subst hm
        refine ca_rel ?_ he
        rw [opA_eff rfl]
        simp only [effA, hev, hl, List.nil_append, List.append_nil]
      · split at hm
        · rename_i v hv
          subst hm
          unfold cv at he
          split at he
          · rename_i g first captured
            refine ca_rel ?_ he
            rw [opA_eff rfl]
            simp only [effA, hv, hl]
          · simp [no] at he
        · subst hm; simp [no] at he
    · subst hm; simp [no] at he
  case h_20 x =>
    split at hm
    · rename_i v hv
      subst hm
      unfold panV at he
      split at he
      · rename_i t w
        simp only [pn, Option.some.injEq, Prod.mk.injEq] at he
        obtain ⟨rfl, rfl⟩ := he
        refine .pan ?_
        rw [opA_eff rfl]
        simp only [effA, hv]
      · simp [no] at he
    · subst hm; simp [no] at he
  case h_21 => subst hm; simp [no] at he

end
end Go.Am
