/-
  Laws of what a run ends in: heap, rows of cells, numbers.
  Conditions: none.
-/
import Derived.Test.YtlpbgmbiollimaaGreatAg
import Derived.Sort.Defs
set_option linter.unusedVariables false
set_option linter.unusedSimpArgs false
namespace Go.Am
open Go

section
variable {α β : Type}

/-- It ends without a panic, and what is asked of its value and of the heap behind it holds. -/
def W (m : M α) (h : AH) (Q : α → AH → Prop) : Prop := ∃ a h', m h = some (.ok a, h') ∧ Q a h'

theorem W.mono {m : M α} {h : AH} {Q Q' : α → AH → Prop} (w : W m h Q) (hq : ∀ a h', Q a h' → Q' a h') : W m h Q' := by
  obtain ⟨a, h', e, q⟩ := w; exact ⟨a, h', e, hq a h' q⟩

@[congr] theorem W_congr {m m' : M α} {h h' : AH} {Q : α → AH → Prop} (e : m = m') (eh : h = h') : W m h Q = W m' h' Q := by rw [e, eh]
@[congr] theorem bd_congr {m m' : M α} {k : α → M β} (e : m = m') : bd m k = bd m' k := by rw [e]
@[congr] theorem bq_congr {m m' : M α} {k : α → M β} (e : m = m') : bq m k = bq m' k := by rw [e]
@[congr] theorem lt_congr {o o' : Option AV} {k : AV → M α} (e : o = o') : lt o k = lt o' k := by rw [e]
@[congr] theorem cn_congr {c c' : AV} {a b : M α} (e : c = c') : cn c a b = cn c' a b := by rw [e]
@[congr] theorem un_congr {vs vs' : List AV} {k : AV → List AV → M α} (e : vs = vs') : un vs k = un vs' k := by rw [e]
@[congr] theorem chk_congr {b b' : Bool} {k : M α} (e : b = b') : chk b k = chk b' k := by rw [e]
@[congr] theorem gh_congr {k : AH → M α} : gh k = gh k := rfl
@[congr] theorem lp_congr {b : List AV → M Go1} {s s' : List AV} (e : s = s') : lp b s = lp b s' := by rw [e]
@[congr] theorem ou_congr {r r' : Go1} {d : AV → M α} {l : List (Nat × (List AV → M α))} (e : r = r') : ou r d l = ou r' d l := by rw [e]

@[simp] theorem W_rt {a : α} {h : AH} {Q : α → AH → Prop} : W (rt a) h Q ↔ Q a h := by
  constructor
  · rintro ⟨a', h', e, q⟩; simp only [rt, Option.some.injEq, Prod.mk.injEq, Ex.ok.injEq] at e; obtain ⟨rfl, rfl⟩ := e; exact q
  · intro q; exact ⟨a, h, rfl, q⟩
@[simp] theorem W_no {h : AH} {Q : α → AH → Prop} : W no h Q ↔ False := by simp [W, no]
@[simp] theorem W_lt {v : AV} {k : AV → M α} {h : AH} {Q : α → AH → Prop} : W (lt (some v) k) h Q ↔ W (k v) h Q := Iff.rfl
@[simp] theorem W_lt_none {k : AV → M α} {h : AH} {Q : α → AH → Prop} : W (lt none k) h Q ↔ False := by simp [lt]
@[simp] theorem W_bd {m : M α} {k : α → M β} {h : AH} {Q : β → AH → Prop} : W (bd m k) h Q ↔ W m h fun a h' => W (k a) h' Q := by
  constructor
  · rintro ⟨b, h2, e, q⟩
    unfold bd at e
    split at e
    · rename_i a h1 hm; exact ⟨a, h1, hm, b, h2, e, q⟩
    · simp at e
    · simp at e
  · rintro ⟨a, h1, hm, b, h2, e, q⟩
    exact ⟨b, h2, by unfold bd; rw [hm]; exact e, q⟩
@[simp] theorem W_bq {m : M α} {k : α → M β} {h : AH} {Q : β → AH → Prop} : W (bq m k) h Q ↔ W m h fun a h' => W (k a) h' Q := by
  constructor
  · rintro ⟨b, h2, e, q⟩
    unfold bq at e
    split at e
    · rename_i a h1 hm; exact ⟨a, h1, hm, b, h2, e, q⟩
    · simp at e
  · rintro ⟨a, h1, hm, b, h2, e, q⟩
    exact ⟨b, h2, by unfold bq; rw [hm]; exact e, q⟩
theorem W_cn {p : Bool} {a b : M α} {h : AH} {Q : α → AH → Prop} : W (cn (.bool p) a b) h Q ↔ if p then W a h Q else W b h Q := by
  cases p <;> rfl
@[simp] theorem W_cn_true {a b : M α} {h : AH} {Q : α → AH → Prop} : W (cn (.bool true) a b) h Q ↔ W a h Q := Iff.rfl
@[simp] theorem W_cn_false {a b : M α} {h : AH} {Q : α → AH → Prop} : W (cn (.bool false) a b) h Q ↔ W b h Q := Iff.rfl
/-- Both arms. -/
theorem W_if {p : Bool} {a b : M α} {h : AH} {Q : α → AH → Prop} (ht : p = true → W a h Q) (hf : p = false → W b h Q) : W (cn (.bool p) a b) h Q := by
  cases p
  · exact hf rfl
  · exact ht rfl
theorem W_ite {p : Prop} [Decidable p] {a b : M α} {h : AH} {Q : α → AH → Prop} (ht : p → W a h Q) (hf : ¬p → W b h Q) : W (cn (.bool (decide p)) a b) h Q := by
  by_cases hp : p
  · rw [decide_eq_true hp]; exact ht hp
  · rw [decide_eq_false hp]; exact hf hp
@[simp] theorem W_gh {k : AH → M α} {h : AH} {Q : α → AH → Prop} : W (gh k) h Q ↔ W (k h) h Q := Iff.rfl
@[simp] theorem W_chk_true {k : M α} {h : AH} {Q : α → AH → Prop} : W (chk true k) h Q ↔ W k h Q := Iff.rfl
theorem W_chk {b : Bool} {k : M α} {h : AH} {Q : α → AH → Prop} (hb : b = true) (w : W k h Q) : W (chk b k) h Q := by subst hb; exact w
@[simp] theorem W_un {v : AV} {r : List AV} {k : AV → List AV → M α} {h : AH} {Q : α → AH → Prop} : W (un (v :: r) k) h Q ↔ W (k v r) h Q := Iff.rfl
theorem W_jn {k : List AV → M α} {b : (List AV → M α) → M α} {h : AH} {Q : α → AH → Prop} : W (jn k b) h Q ↔ W (b k) h Q := Iff.rfl
/-- What is done behind a join is named. -/
theorem W_jnk {K : List AV → M α} {b : (List AV → M α) → M α} {h : AH} {Q : α → AH → Prop} (w : ∀ k, k = K → W (b k) h Q) : W (jn K b) h Q := w K rfl
@[simp] theorem ou_done {v : AV} {d : AV → M α} {l : List (Nat × (List AV → M α))} : ou (.done v) d l = d v := rfl
@[simp] theorem ou_out {i j : Nat} {s : List AV} {d : AV → M α} {k : List AV → M α} {l : List (Nat × (List AV → M α))} : ou (.out i s) d ((j, k) :: l) = if j = i then k s else ou (.out i s) d l := by
  simp only [ou, findK]
  cases hb : Nat.beq j i with
  | true => rw [if_pos (Nat.eq_of_beq_eq_true hb)]; rfl
  | false => rw [if_neg (fun e => by rw [e, beq_self] at hb; simp at hb)]; rfl

/-! ### Loops -/

def LQ (I : List AV → AH → Prop) (μ : List AV → AH → Nat) (n : Nat) (Q : Go1 → AH → Prop) : Go1 → AH → Prop
  | .again s, h => I s h ∧ μ s h < n
  | r, h => Q r h

@[simp] theorem LQ_again {I : List AV → AH → Prop} {μ : List AV → AH → Nat} {n : Nat} {Q : Go1 → AH → Prop} {s : List AV} {h : AH} : LQ I μ n Q (.again s) h ↔ I s h ∧ μ s h < n := Iff.rfl
@[simp] theorem LQ_out {I : List AV → AH → Prop} {μ : List AV → AH → Nat} {n : Nat} {Q : Go1 → AH → Prop} {i : Nat} {s : List AV} {h : AH} : LQ I μ n Q (.out i s) h ↔ Q (.out i s) h := Iff.rfl
@[simp] theorem LQ_done {I : List AV → AH → Prop} {μ : List AV → AH → Nat} {n : Nat} {Q : Go1 → AH → Prop} {v : AV} {h : AH} : LQ I μ n Q (.done v) h ↔ Q (.done v) h := Iff.rfl

theorem W_lp {b : List AV → M Go1} {Q : Go1 → AH → Prop} (I : List AV → AH → Prop) (μ : List AV → AH → Nat) (step : ∀ s h, I s h → W (b s) h (LQ I μ (μ s h) Q)) :
    ∀ {s : List AV} {h : AH}, I s h → W (lp b s) h Q := by
  have key : ∀ (n : Nat) (s : List AV) (h : AH), μ s h ≤ n → I s h → W (lp b s) h Q := by
    intro n
    induction n with
    | zero =>
      intro s h hn hi
      obtain ⟨r, h', e, q⟩ := step s h hi
      cases r with
      | again s' => simp only [LQ_again] at q; omega
      | out i s' => exact ⟨_, _, lp_out e, q⟩
      | done v => exact ⟨_, _, lp_done e, q⟩
    | succ n ih =>
      intro s h hn hi
      obtain ⟨r, h', e, q⟩ := step s h hi
      cases r with
      | again s' =>
        simp only [LQ_again] at q
        obtain ⟨r2, h2, e2, q2⟩ := ih s' h' (by omega) q.1
        exact ⟨r2, h2, lp_again e e2, q2⟩
      | out i s' => exact ⟨_, _, lp_out e, q⟩
      | done v => exact ⟨_, _, lp_done e, q⟩
  intro s h hi
  exact key _ s h (Nat.le_refl _) hi
end

/-- A loop, and what holds behind it. -/
theorem W_loop {α : Type} {b : List AV → M Go1} (I : List AV → AH → Prop) (μ : List AV → AH → Nat) (P : Go1 → AH → Prop) {k : Go1 → M α} {Q : α → AH → Prop} {s : List AV} {h : AH} (hi : I s h)
    (step : ∀ s h, I s h → W (b s) h (LQ I μ (μ s h) P)) (post : ∀ r h, P r h → W (k r) h Q) : W (bd (lp b s) k) h Q := by
  rw [W_bd]
  exact (W_lp I μ step hi).mono post

/-- The first number of a loop's state, the second one, .. -/
def i1 (s : List AV) : Nat := match s with
  | .int _ n :: _ => n.toNat
  | _ => 0
def i2 (s : List AV) : Nat := match s with
  | _ :: .int _ n :: _ => n.toNat
  | _ => 0
@[simp] theorem i1_cons {k : IntKind} {n : Int} {r : List AV} : i1 (.int k n :: r) = n.toNat := rfl
@[simp] theorem i2_cons {k : IntKind} {n : Int} {v : AV} {r : List AV} : i2 (v :: .int k n :: r) = n.toNat := rfl

/-! ### Reading, making, writing -/

theorem W_ld {i o : Nat} {h : AH} {Q : AV → AH → Prop} : W (ld (.ptr (some (i, o)))) h Q ↔ ∃ cs t ro v, h.get i = some (.cells cs t ro) ∧ cs[o]? = some v ∧ Q v h := by
  constructor
  · rintro ⟨a, h', e, q⟩
    unfold ld at e
    simp only [] at e
    split at e
    · rename_i cs t ro hg
      split at e
      · rename_i v hv
        simp only [Option.some.injEq, Prod.mk.injEq, Ex.ok.injEq] at e
        obtain ⟨rfl, rfl⟩ := e
        exact ⟨cs, t, ro, v, hg, hv, q⟩
      · simp at e
    · simp at e
  · rintro ⟨cs, t, ro, v, hg, hv, q⟩
    exact ⟨v, h, by simp only [ld, hg, hv], q⟩

theorem W_ld' {i o : Nat} {h : AH} {Q : AV → AH → Prop} {cs : List AV} {t : TypeId} {ro : Bool} {v : AV} (hg : h.get i = some (.cells cs t ro)) (hv : cs[o]? = some v) (q : Q v h) : W (ld (.ptr (some (i, o)))) h Q :=
  W_ld.2 ⟨cs, t, ro, v, hg, hv, q⟩

end Go.Am

namespace Go.Am
open Go

/-! ### Whole numbers -/

section
variable {k k2 : IntKind} {a b : Int}

@[simp] theorem binV_add : binV .add (.int k a) (.int k b) = some (.int k (k.wrap (a + b))) := by simp [binV, intBin]
@[simp] theorem binV_sub : binV .sub (.int k a) (.int k b) = some (.int k (k.wrap (a - b))) := by simp [binV, intBin]
@[simp] theorem binV_mul : binV .mul (.int k a) (.int k b) = some (.int k (k.wrap (a * b))) := by simp [binV, intBin]
theorem binV_quo (h : b ≠ 0) : binV .quo (.int k a) (.int k b) = some (.int k (k.wrap (a.tdiv b))) := by simp [binV, intBin, h]
theorem binV_rem (h : b ≠ 0) : binV .rem (.int k a) (.int k b) = some (.int k (a.tmod b)) := by simp [binV, intBin, h]
@[simp] theorem binV_lss : binV .lss (.int k a) (.int k b) = some (.bool (decide (a < b))) := by simp [binV, intBin]
@[simp] theorem binV_leq : binV .leq (.int k a) (.int k b) = some (.bool (decide (a ≤ b))) := by simp [binV, intBin]
@[simp] theorem binV_gtr : binV .gtr (.int k a) (.int k b) = some (.bool (decide (b < a))) := by simp [binV, intBin]
@[simp] theorem binV_geq : binV .geq (.int k a) (.int k b) = some (.bool (decide (b ≤ a))) := by simp [binV, intBin]
@[simp] theorem binV_and : binV .and (.int k a) (.int k b) = some (.int k (k.wrap (BitVec.ofInt k.bits a &&& BitVec.ofInt k.bits b).toNat)) := by simp [binV, intBin]
@[simp] theorem binV_or : binV .or (.int k a) (.int k b) = some (.int k (k.wrap (BitVec.ofInt k.bits a ||| BitVec.ofInt k.bits b).toNat)) := by simp [binV, intBin]
@[simp] theorem binV_xor : binV .xor (.int k a) (.int k b) = some (.int k (k.wrap (BitVec.ofInt k.bits a ^^^ BitVec.ofInt k.bits b).toNat)) := by simp [binV, intBin]
@[simp] theorem binV_andNot : binV .andNot (.int k a) (.int k b) = some (.int k (k.wrap (BitVec.ofInt k.bits a &&& ~~~ BitVec.ofInt k.bits b).toNat)) := by simp [binV, intBin]
theorem binV_shl (h : 0 ≤ b) : binV .shl (.int k a) (.int k2 b) = some (.int k (k.wrap (a * 2 ^ (min b.toNat k.bits)))) := by
  simp only [binV, shiftA]; rw [if_neg (by omega)]
theorem binV_shr (h : 0 ≤ b) : binV .shr (.int k a) (.int k2 b) = some (.int k (a.fdiv (2 ^ (min b.toNat k.bits)))) := by
  simp only [binV, shiftA]; rw [if_neg (by omega)]

@[simp] theorem eqI_false : eqI false (.int k a) (.int k b) = some (.bool (decide (a = b))) := by
  simp only [eqI, if_true, cond_false]
  by_cases h : a = b <;> simp [h]
@[simp] theorem eqI_true : eqI true (.int k a) (.int k b) = some (.bool (decide (a ≠ b))) := by
  simp only [eqI, if_true, cond_true]
  by_cases h : a = b <;> simp [h]
@[simp] theorem eqB_false {x y : Bool} : eqB false (.bool x) (.bool y) = some (.bool (x == y)) := rfl
@[simp] theorem eqB_true {x y : Bool} : eqB true (.bool x) (.bool y) = some (.bool (!(x == y))) := rfl
@[simp] theorem eqS_false {x y : List UInt8} : eqS false (.str x) (.str y) = some (.bool (x == y)) := rfl
@[simp] theorem eqS_true {x y : List UInt8} : eqS true (.str x) (.str y) = some (.bool (!(x == y))) := rfl
@[simp] theorem eqP_none {n : Bool} : eqP n (.ptr none) (.ptr none) = some (.bool (!n)) := by cases n <;> rfl
@[simp] theorem eqP_some {n : Bool} {p : Nat × Nat} : eqP n (.ptr (some p)) (.ptr none) = some (.bool n) := by cases n <;> rfl
@[simp] theorem eqP_some' {n : Bool} {p : Nat × Nat} : eqP n (.ptr none) (.ptr (some p)) = some (.bool n) := by cases n <;> rfl
@[simp] theorem eqL_none {n : Bool} {l c s l' c' s' : Nat} : eqL n (.slice none l c s) (.slice none l' c' s') = some (.bool (!n)) := by cases n <;> rfl
@[simp] theorem eqL_some {n : Bool} {p : Nat × Nat} {l c s l' c' s' : Nat} : eqL n (.slice (some p) l c s) (.slice none l' c' s') = some (.bool n) := by cases n <;> rfl
@[simp] theorem eqL_some' {n : Bool} {p : Nat × Nat} {l c s l' c' s' : Nat} : eqL n (.slice none l c s) (.slice (some p) l' c' s') = some (.bool n) := by cases n <;> rfl

@[simp] theorem unA_not {x : Bool} : unA .not (.bool x) = some (.bool (!x)) := rfl
@[simp] theorem unA_neg : unA .neg (.int k a) = some (.int k (k.wrap (0 - a))) := rfl
@[simp] theorem cvI_int : cvI k (.int k2 a) = some (.int k (k.wrap a)) := rfl
@[simp] theorem cvS_str {x : List UInt8} : cvS (.str x) = some (.str x) := rfl
end

theorem wr_i64 {n : Int} (h1 : -9223372036854775808 ≤ n) (h2 : n ≤ 9223372036854775807) : IntKind.i64.wrap n = n := by
  simp [IntKind.wrap, IntKind.signed, IntKind.bits]
  split <;> omega
theorem wr_u64 {n : Int} (h1 : 0 ≤ n) (h2 : n ≤ 18446744073709551615) : IntKind.u64.wrap n = n := by
  simp [IntKind.wrap, IntKind.signed, IntKind.bits]
  omega
theorem wr_u32 {n : Int} (h1 : 0 ≤ n) (h2 : n ≤ 4294967295) : IntKind.u32.wrap n = n := by
  simp [IntKind.wrap, IntKind.signed, IntKind.bits]
  omega
theorem wr_u16 {n : Int} (h1 : 0 ≤ n) (h2 : n ≤ 65535) : IntKind.u16.wrap n = n := by
  simp [IntKind.wrap, IntKind.signed, IntKind.bits]
  omega
theorem wr_u8 {n : Int} (h1 : 0 ≤ n) (h2 : n ≤ 255) : IntKind.u8.wrap n = n := by
  simp [IntKind.wrap, IntKind.signed, IntKind.bits]
  omega
theorem wr_i32 {n : Int} (h1 : -2147483648 ≤ n) (h2 : n ≤ 2147483647) : IntKind.i32.wrap n = n := by
  simp [IntKind.wrap, IntKind.signed, IntKind.bits]
  split <;> omega

/-! ### Choices, guards -/

@[simp] theorem pickV_true {a b : AV} : pickV (.bool true) a b = some a := rfl
@[simp] theorem pickV_false {a b : AV} : pickV (.bool false) a b = some b := rfl
theorem pickV_bool {p : Bool} {a b : AV} : pickV (.bool p) a b = some (bif p then a else b) := rfl
@[simp] theorem gv_tt {x : Option AV} : gv (.bool true) true x = x := rfl
@[simp] theorem gv_ff {x : Option AV} : gv (.bool false) false x = x := rfl
@[simp] theorem gv_tf {x : Option AV} : gv (.bool true) false x = some undefA := rfl
@[simp] theorem gv_ft {x : Option AV} : gv (.bool false) true x = some undefA := rfl
@[simp] theorem gm_tt {x : M AV} : gm (.bool true) true x = x := rfl
@[simp] theorem gm_ff {x : M AV} : gm (.bool false) false x = x := rfl
@[simp] theorem gm_tf {x : M AV} : gm (.bool true) false x = rt undefA := rfl
@[simp] theorem gm_ft {x : M AV} : gm (.bool false) true x = rt undefA := rfl
@[simp] theorem gon_tt : gon (.bool true) true = true := rfl
@[simp] theorem gon_ff : gon (.bool false) false = true := rfl
@[simp] theorem gon_tf : gon (.bool true) false = false := rfl
@[simp] theorem gon_ft : gon (.bool false) true = false := rfl
@[simp] theorem cf_off {r : Option Nat} {h0 h1 : AH} : cf false r h0 h1 = true := rfl
@[simp] theorem mf_off {r : Option Nat} {h0 : AH} : mf false r h0 = true := rfl
@[simp] theorem cf_none {on : Bool} {h0 h1 : AH} : cf on none h0 h1 = true := by cases on <;> rfl
@[simp] theorem mf_none {on : Bool} {h0 : AH} : mf on none h0 = true := by cases on <;> rfl

/-! ### Addresses, parts -/

@[simp] theorem nilV_ptr {p : Nat × Nat} : nilV (.ptr (some p)) = some (.ptr (some p)) := rfl
@[simp] theorem nilV_func {g : FuncId} {f c : List AV} : nilV (.func (.func g) f c) = some (.func (.func g) f c) := rfl
@[simp] theorem nilV_iface {t : TypeId} {v : AV} : nilV (.iface t v) = some (.iface t v) := rfl
@[simp] theorem fldA_ptr {n i o : Nat} : fldA n (.ptr (some (i, o))) = some (.ptr (some (i, o + n))) := rfl
theorem ixS_ok {s i o len cap sz : Nat} {k : IntKind} {n : Int} (h0 : 0 ≤ n) (h1 : n < len) : ixS s (.slice (some (i, o)) len cap sz) (.int k n) = some (.ptr (some (i, o + n.toNat * s))) := by
  simp only [ixS]; rw [if_pos ⟨h0, h1⟩]
theorem ixR_ok {m s i o : Nat} {k : IntKind} {n : Int} (h0 : 0 ≤ n) (h1 : n < m) : ixR m s (.ptr (some (i, o))) (.int k n) = some (.ptr (some (i, o + n.toNat * s))) := by
  simp only [ixR]; rw [if_pos ⟨h0, h1⟩]
@[simp] theorem extV_tuple {vs : List AV} {i : Nat} : extV (.tuple vs) i = vs[i]? := rfl
@[simp] theorem lnS_slice {b : Option (Nat × Nat)} {l c s : Nat} : lnS (.slice b l c s) = some (.int .i64 l) := rfl
@[simp] theorem lnT_str {s : List UInt8} : lnT (.str s) = some (.int .i64 s.length) := rfl
@[simp] theorem cpS_nil {l c s : Nat} : cpS (.slice none l c s) = some (.int .i64 0) := rfl
@[simp] theorem aggO_some {cs : List AV} : aggO (some cs) = some (.agg cs) := rfl
@[simp] theorem fillL_nil {cs : List AV} : fillL cs [] = some cs := rfl
@[simp] theorem fldV_one {n off : Nat} {cs : List AV} : fldV false n off (.agg cs) = cs[off]? := rfl
@[simp] theorem rdP_ptr {i o : Nat} : rdP (.ptr (some (i, o))) = some i := rfl
@[simp] theorem rdM_map {i : Nat} : rdM (.map (some i)) = some i := rfl
@[simp] theorem rdS_slice {i o l c s : Nat} : rdS (.slice (some (i, o)) l c s) = some i := rfl

/-- May it stand in one cell? Its cells are itself. -/
theorem cells_one {v : AV} (h : v.one = true) : v.cells = [v] := by cases v <;> first | rfl | simp [AV.one] at h
@[simp] theorem cells_agg {cs : List AV} : (AV.agg cs).cells = cs := rfl
@[simp] theorem cells_int {k : IntKind} {n : Int} : (AV.int k n).cells = [.int k n] := rfl
@[simp] theorem cells_bool {b : Bool} : (AV.bool b).cells = [.bool b] := rfl
@[simp] theorem cells_str {s : List UInt8} : (AV.str s).cells = [.str s] := rfl
@[simp] theorem cells_ptr {p : Option (Nat × Nat)} : (AV.ptr p).cells = [.ptr p] := rfl
@[simp] theorem cells_slice {p : Option (Nat × Nat)} {l c s : Nat} : (AV.slice p l c s).cells = [.slice p l c s] := rfl
@[simp] theorem cells_map {p : Option Nat} : (AV.map p).cells = [.map p] := rfl
@[simp] theorem cells_func {f : Fn} {a b : List AV} : (AV.func f a b).cells = [.func f a b] := rfl
@[simp] theorem cells_nilFunc : AV.nilFunc.cells = [.nilFunc] := rfl
@[simp] theorem cells_iface {t : TypeId} {v : AV} : (AV.iface t v).cells = [.iface t v] := rfl
@[simp] theorem cells_nilIface : AV.nilIface.cells = [.nilIface] := rfl

@[simp] theorem ones_nil : ones [] = true := rfl
@[simp] theorem ones_cons {v : AV} {l : List AV} : ones (v :: l) = (v.one && ones l) := rfl
theorem ones_replicate {n : Nat} {v : AV} (h : v.one = true) : ones (List.replicate n v) = true := by simp [ones, h]
@[simp] theorem one_int {k : IntKind} {n : Int} : (AV.int k n).one = true := rfl
@[simp] theorem one_bool {b : Bool} : (AV.bool b).one = true := rfl
@[simp] theorem one_str {s : List UInt8} : (AV.str s).one = true := rfl
@[simp] theorem one_ptr {p : Option (Nat × Nat)} : (AV.ptr p).one = true := rfl
@[simp] theorem one_slice {p : Option (Nat × Nat)} {l c s : Nat} : (AV.slice p l c s).one = true := rfl
@[simp] theorem one_map {p : Option Nat} : (AV.map p).one = true := rfl
@[simp] theorem one_func {f : Fn} {a b : List AV} : (AV.func f a b).one = true := rfl
@[simp] theorem one_nilFunc : AV.nilFunc.one = true := rfl
@[simp] theorem one_iface {t : TypeId} {v : AV} : (AV.iface t v).one = true := rfl
@[simp] theorem one_nilIface : AV.nilIface.one = true := rfl

@[simp] theorem putCells_nil {cs : List AV} {o : Nat} : putCells cs o [] = cs := rfl
@[simp] theorem putCells_cons {cs : List AV} {o : Nat} {v : AV} {vs : List AV} : putCells cs o (v :: vs) = putCells (cs.set o v) (o + 1) vs := rfl
theorem putCells_one {cs : List AV} {o : Nat} {v : AV} : putCells cs o [v] = cs.set o v := rfl

theorem putCells_get : ∀ (vs cs : List AV) (o i : Nat), o + vs.length ≤ cs.length → (putCells cs o vs)[i]? = if o ≤ i ∧ i < o + vs.length then vs[i - o]? else cs[i]?
  | [], cs, o, i, _ => by
    rw [if_neg (by simp)]; rfl
  | v :: vs, cs, o, i, h => by
    simp only [List.length_cons] at h
    rw [putCells_cons, putCells_get vs _ _ _ (by simp; omega)]
    simp only [List.length_cons]
    by_cases h1 : i = o
    · subst h1
      rw [if_neg (by omega), if_pos (by omega)]
      simp [List.getElem?_set]
      omega
    · by_cases h2 : o ≤ i ∧ i < o + (vs.length + 1)
      · rw [if_pos (by omega), if_pos h2]
        obtain ⟨q, hq⟩ : ∃ q, i - o = q + 1 := ⟨i - o - 1, by omega⟩
        rw [hq, List.getElem?_cons_succ]
        congr 1
        omega
      · rw [if_neg (by omega), if_neg h2, List.getElem?_set_ne (fun e => h1 e.symm)]

theorem putCells_all {cs vs : List AV} (h : vs.length = cs.length) : putCells cs 0 vs = vs := by
  apply List.ext_getElem?
  intro i
  rw [putCells_get vs cs 0 i (by omega)]
  split
  · rfl
  · rename_i hn
    rw [List.getElem?_eq_none (by omega), List.getElem?_eq_none (by omega)]

/-! ### The heap -/

@[simp] theorem get_set_eq {h : AH} {i : Nat} {o : AO} : (h.set i o).get i = some o := by rw [AH.get_set, if_pos rfl]
theorem get_set_ne {h : AH} {i j : Nat} {o : AO} (e : i ≠ j) : (h.set i o).get j = h.get j := by rw [AH.get_set, if_neg e]
@[simp] theorem get_add_eq {h : AH} {o : AO} : (h.add o).get h.next = some o := by rw [AH.get_add, if_pos rfl]
theorem get_add_ne {h : AH} {j : Nat} {o : AO} (e : h.next ≠ j) : (h.add o).get j = h.get j := by rw [AH.get_add, if_neg e]
theorem get_add_lt {h : AH} {j : Nat} {o : AO} (e : j < h.next) : (h.add o).get j = h.get j := get_add_ne (by omega)

/-- The numbers from 'next' on are free. -/
def Wf (h : AH) : Prop := ∀ i, h.next ≤ i → h.get i = none
theorem Wf.lt {h : AH} (w : Wf h) {i : Nat} {o : AO} (e : h.get i = some o) : i < h.next := by
  rcases Nat.lt_or_ge i h.next with q | q
  · exact q
  · rw [w i q] at e; simp at e
theorem Wf.add {h : AH} (w : Wf h) (o : AO) : Wf (h.add o) := by
  intro i hi
  simp only [AH.next_add] at hi
  rw [get_add_ne (by omega)]
  exact w i (by omega)
theorem Wf.set {h : AH} (w : Wf h) {i : Nat} {o : AO} (e : i < h.next) : Wf (h.set i o) := by
  intro j hj
  simp only [AH.next_set] at hj
  rw [get_set_ne (by omega)]
  exact w j hj

/-- What stands below 'next', but for some objects, stays. -/
structure Fr (S : List Nat) (h h' : AH) : Prop where
  next : h.next ≤ h'.next
  get : ∀ i, i < h.next → i ∉ S → h'.get i = h.get i

theorem Fr.refl (S : List Nat) (h : AH) : Fr S h h := ⟨Nat.le_refl _, fun _ _ _ => rfl⟩
theorem Fr.trans {S : List Nat} {h h1 h2 : AH} (a : Fr S h h1) (b : Fr S h1 h2) : Fr S h h2 :=
  ⟨Nat.le_trans a.next b.next, fun i hi hn => by rw [b.get i (Nat.lt_of_lt_of_le hi a.next) hn, a.get i hi hn]⟩
theorem Fr.mono {S S' : List Nat} {h h' : AH} (a : Fr S h h') (hs : ∀ i ∈ S, i < h.next → i ∈ S') : Fr S' h h' :=
  ⟨a.next, fun i hi hn => a.get i hi fun hm => hn (hs i hm hi)⟩
theorem Fr.step {S S' : List Nat} {h h1 h2 : AH} (a : Fr S h h1) (b : Fr S' h1 h2) (hs : ∀ i ∈ S', i < h.next → i ∈ S) : Fr S h h2 :=
  ⟨Nat.le_trans a.next b.next, fun i hi hn => by rw [b.get i (Nat.lt_of_lt_of_le hi a.next) (fun hm => hn (hs i hm hi)), a.get i hi hn]⟩
theorem Fr.add {S : List Nat} {h h' : AH} (a : Fr S h h') (o : AO) : Fr S h (h'.add o) :=
  ⟨Nat.le_trans a.next (Nat.le_succ _), fun i hi hn => by rw [get_add_ne (by have := a.next; omega), a.get i hi hn]⟩
theorem Fr.set {S : List Nat} {h h' : AH} (a : Fr S h h') {j : Nat} (o : AO) (hj : j < h.next → j ∈ S) : Fr S h (h'.set j o) :=
  ⟨a.next, fun i hi hn => by rw [get_set_ne (fun e => by subst e; exact hn (hj hi)), a.get i hi hn]⟩

end Go.Am

namespace Go.Am
open Go

/-- What holds of the cell. -/
def cellQ (x : Option AV) (P : AV → Prop) : Prop := ∃ v, x = some v ∧ P v
@[simp] theorem cellQ_some {v : AV} {P : AV → Prop} : cellQ (some v) P ↔ P v := by simp [cellQ]
@[congr] theorem cellQ_congr {x x' : Option AV} {P : AV → Prop} (e : x = x') : cellQ x P = cellQ x' P := by rw [e]

/-- What holds of an object's cells. -/
def objQ (x : Option AO) (P : List AV → TypeId → Bool → Prop) : Prop := ∃ cs t ro, x = some (.cells cs t ro) ∧ P cs t ro
@[simp] theorem objQ_cells {cs : List AV} {t : TypeId} {ro : Bool} {P : List AV → TypeId → Bool → Prop} : objQ (some (.cells cs t ro)) P ↔ P cs t ro := by
  constructor
  · rintro ⟨cs', t', ro', e, p⟩; simp only [Option.some.injEq, AO.cells.injEq] at e; obtain ⟨rfl, rfl, rfl⟩ := e; exact p
  · intro p; exact ⟨_, _, _, rfl, p⟩

def ldQ (x : Option AO) (o : Nat) (P : AV → Prop) : Prop := objQ x fun cs _ _ => cellQ cs[o]? P
@[simp] theorem ldQ_cells {cs : List AV} {t : TypeId} {ro : Bool} {o : Nat} {P : AV → Prop} : ldQ (some (.cells cs t ro)) o P ↔ cellQ cs[o]? P := by simp [ldQ]
@[congr] theorem ldQ_congr {x x' : Option AO} {o o' : Nat} {P : AV → Prop} (e : x = x') (e' : o = o') : ldQ x o P = ldQ x' o' P := by rw [e, e']

section
variable {α : Type}

theorem W_ld_eq {i o : Nat} {h : AH} {Q : AV → AH → Prop} : W (ld (.ptr (some (i, o)))) h Q ↔ ldQ (h.get i) o fun v => Q v h := by
  rw [W_ld]
  constructor
  · rintro ⟨cs, t, ro, v, hg, hv, q⟩; exact ⟨cs, t, ro, hg, v, hv, q⟩
  · rintro ⟨cs, t, ro, hg, v, hv, q⟩; exact ⟨cs, t, ro, v, hg, hv, q⟩

def ldNQ (n : Nat) (x : Option AO) (o : Nat) (P : AV → Prop) : Prop := objQ x fun cs _ _ => o + n ≤ cs.length ∧ P (.agg ((cs.drop o).take n))
@[simp] theorem ldNQ_cells {n : Nat} {cs : List AV} {t : TypeId} {ro : Bool} {o : Nat} {P : AV → Prop} : ldNQ n (some (.cells cs t ro)) o P ↔ (o + n ≤ cs.length ∧ P (.agg ((cs.drop o).take n))) := by simp [ldNQ]
@[congr] theorem ldNQ_congr {n : Nat} {x x' : Option AO} {o o' : Nat} {P : AV → Prop} (e : x = x') (e' : o = o') : ldNQ n x o P = ldNQ n x' o' P := by rw [e, e']

theorem W_ldN_eq {n i o : Nat} {h : AH} {Q : AV → AH → Prop} : W (ldN n (.ptr (some (i, o)))) h Q ↔ ldNQ n (h.get i) o fun v => Q v h := by
  constructor
  · rintro ⟨a, h', e, q⟩
    unfold ldN at e
    simp only [] at e
    split at e
    · rename_i cs t ro hg
      split at e
      · rename_i hle
        simp only [Option.some.injEq, Prod.mk.injEq, Ex.ok.injEq] at e
        obtain ⟨rfl, rfl⟩ := e
        exact ⟨cs, t, ro, hg, hle, q⟩
      · simp at e
    · simp at e
  · rintro ⟨cs, t, ro, hg, hle, q⟩
    exact ⟨_, h, by simp only [ldN, hg, if_pos hle], q⟩

def stQ (h : AH) (i : Nat) (x : Option AO) (n o : Nat) (v : AV) (P : AH → Prop) : Prop :=
  objQ x fun cs t ro => ro = false ∧ n = v.cells.length ∧ o + n ≤ cs.length ∧ ones v.cells = true ∧ P (h.set i (.cells (putCells cs o v.cells) t false))
@[simp] theorem stQ_cells {h : AH} {i n o : Nat} {cs : List AV} {t : TypeId} {v : AV} {P : AH → Prop} :
    stQ h i (some (.cells cs t false)) n o v P ↔ (n = v.cells.length ∧ o + n ≤ cs.length ∧ ones v.cells = true ∧ P (h.set i (.cells (putCells cs o v.cells) t false))) := by simp [stQ]
@[congr] theorem stQ_congr {h : AH} {i : Nat} {x x' : Option AO} {n o o' : Nat} {v : AV} {P : AH → Prop} (e : x = x') (e' : o = o') : stQ h i x n o v P = stQ h i x' n o' v P := by rw [e, e']

theorem W_st_eq {n i o : Nat} {v : AV} {h : AH} {Q : AV → AH → Prop} : W (st n (.ptr (some (i, o))) v) h Q ↔ stQ h i (h.get i) n o v (Q undefA) := by
  constructor
  · rintro ⟨a, h', e, q⟩
    unfold st at e
    simp only [] at e
    split at e
    · rename_i hn
      split at e
      · rename_i h1 hw
        simp only [Option.some.injEq, Prod.mk.injEq, Ex.ok.injEq] at e
        obtain ⟨rfl, rfl⟩ := e
        unfold writeA at hw
        split at hw
        · rename_i cs t hg
          split at hw
          · rename_i hc
            injection hw with hw
            subst hw
            exact ⟨cs, t, false, hg, rfl, hn, by rw [hn]; exact hc.1, hc.2, q⟩
          · simp at hw
        · simp at hw
      · simp at e
    · simp at e
  · rintro ⟨cs, t, ro, hg, rfl, hn, hle, ho, q⟩
    refine ⟨undefA, _, ?_, q⟩
    have hw : writeA h i o v.cells = some (h.set i (.cells (putCells cs o v.cells) t false)) := by
      unfold writeA
      rw [hg]
      exact if_pos ⟨by rw [← hn]; exact hle, ho⟩
    simp only [st, if_pos hn, hw]

theorem W_nw {cs : List AV} {t : TypeId} {h : AH} {Q : AV → AH → Prop} : W (nw cs t) h Q ↔ Q (.ptr (some (h.next, 0))) (h.add (.cells cs t false)) := by
  constructor
  · rintro ⟨a, h', e, q⟩; simp only [nw, Option.some.injEq, Prod.mk.injEq, Ex.ok.injEq] at e; obtain ⟨rfl, rfl⟩ := e; exact q
  · intro q; exact ⟨_, _, rfl, q⟩
theorem W_bx {v : AV} {t : TypeId} {h : AH} {Q : AV → AH → Prop} : W (bx t v) h Q ↔ ones v.cells = true ∧ Q (.ptr (some (h.next, 0))) (h.add (.cells v.cells t false)) := by
  constructor
  · rintro ⟨a, h', e, q⟩
    unfold bx at e
    split at e
    · rename_i ho
      simp only [Option.some.injEq, Prod.mk.injEq, Ex.ok.injEq] at e; obtain ⟨rfl, rfl⟩ := e; exact ⟨ho, q⟩
    · simp at e
  · rintro ⟨ho, q⟩; exact ⟨_, _, by simp only [bx, if_pos ho], q⟩
theorem W_mkM {h : AH} {Q : AV → AH → Prop} : W mkM h Q ↔ Q (.map (some h.next)) (h.add (.map [] 0)) := by
  constructor
  · rintro ⟨a, h', e, q⟩; simp only [mkM, Option.some.injEq, Prod.mk.injEq, Ex.ok.injEq] at e; obtain ⟨rfl, rfl⟩ := e; exact q
  · intro q; exact ⟨_, _, rfl, q⟩
theorem W_mkS {t : TypeId} {s len : Nat} {cs : List AV} {h : AH} {Q : AV → AH → Prop} : W (mkS t s len (some cs)) h Q ↔ ones cs = true ∧ Q (.slice (some (h.next, 0)) len len s) (h.add (.cells cs t false)) := by
  constructor
  · rintro ⟨a, h', e, q⟩
    unfold mkS at e
    simp only [] at e
    split at e
    · rename_i ho
      simp only [Option.some.injEq, Prod.mk.injEq, Ex.ok.injEq] at e; obtain ⟨rfl, rfl⟩ := e; exact ⟨ho, q⟩
    · simp at e
  · rintro ⟨ho, q⟩; exact ⟨_, _, by simp only [mkS, if_pos ho], q⟩
theorem W_mkZ {t : TypeId} {s bytes : Nat} {z : List AV} {k k' : IntKind} {n m : Int} {h : AH} {Q : AV → AH → Prop} : W (mkZ t s bytes z (.int k n) (.int k' m)) h Q ↔
    (0 ≤ n ∧ n ≤ m ∧ (bytes : Int) * m ≤ 2 ^ 46 ∧ m < 2 ^ 63) ∧ Q (.slice (some (h.next, 0)) n.toNat m.toNat s) (h.add (.cells (replA m.toNat z) t false)) := by
  constructor
  · rintro ⟨a, h', e, q⟩
    unfold mkZ at e
    simp only [] at e
    split at e
    · rename_i ho
      simp only [Option.some.injEq, Prod.mk.injEq, Ex.ok.injEq] at e; obtain ⟨rfl, rfl⟩ := e; exact ⟨ho, q⟩
    · simp at e
  · rintro ⟨ho, q⟩; exact ⟨_, _, by simp only [mkZ, if_pos ho], q⟩
theorem W_s2b {t : TypeId} {l : List UInt8} {h : AH} {Q : AV → AH → Prop} : W (s2b t (.str l)) h Q ↔ Q (.slice (some (h.next, 0)) l.length l.length 1) (h.add (.cells (u8s l) t false)) := by
  constructor
  · rintro ⟨a, h', e, q⟩; simp only [s2b, Option.some.injEq, Prod.mk.injEq, Ex.ok.injEq] at e; obtain ⟨rfl, rfl⟩ := e; exact q
  · intro q; exact ⟨_, _, rfl, q⟩

theorem replA_one {n : Nat} {z : AV} : replA n [z] = List.replicate n z := by
  induction n with
  | zero => rfl
  | succ n ih => rw [replA, ih, List.replicate_succ]; rfl

/-- An append within the capacity, beyond it, to nothing. -/
theorem W_ap_in {e : TypeId} {size bytes i o len cap sz : Nat} {y : AV} {n : Nat} {new : List AV} {h h' : AH} {Q : AV → AH → Prop} (hn : lenOfA y = some n) (hf : firstA h size n y = some new)
    (h1 : new.length = n * size) (h2 : ones new = true) (h3 : sz = size) (hle : len + n ≤ cap) (hn0 : n ≠ 0) (hw : writeA h i (o + len * size) new = some h') (q : Q (.slice (some (i, o)) (len + n) cap sz) h') :
    W (ap e size bytes (.slice (some (i, o)) len cap sz) y) h Q := by
  refine ⟨_, _, ?_, q⟩
  simp only [ap, hn, hf]
  rw [if_pos ⟨h1, h2, by simp [h3]⟩, if_pos hle]
  simp only [if_neg hn0, hw]
theorem W_ap_zero {e : TypeId} {size bytes i o len cap sz : Nat} {y : AV} {h : AH} {Q : AV → AH → Prop} (hn : lenOfA y = some 0) (hf : firstA h size 0 y = some []) (h3 : sz = size) (hle : len ≤ cap)
    (q : Q (.slice (some (i, o)) len cap sz) h) : W (ap e size bytes (.slice (some (i, o)) len cap sz) y) h Q := by
  refine ⟨_, _, ?_, q⟩
  simp only [ap, hn, hf]
  rw [if_pos ⟨by simp, rfl, by simp [h3]⟩, if_pos (by omega)]
  simp
theorem W_ap_out {e : TypeId} {size bytes i o len cap sz : Nat} {y : AV} {n : Nat} {new cs : List AV} {h : AH} {Q : AV → AH → Prop} (hn : lenOfA y = some n) (hf : firstA h size n y = some new)
    (h1 : new.length = n * size) (h2 : ones new = true) (h3 : sz = size) (hlt : cap < len + n) (hb : (2 * (len + n) + 512) * bytes ≤ 2 ^ 47) (hg : h.get i = some (.cells cs e false)) (hc : o + len * size ≤ cs.length)
    (q : Q (.slice (some (h.next, 0)) (len + n) (len + n) size) ((h.set i .dead).add (.cells ((cs.drop o).take (len * size) ++ new) e false))) : W (ap e size bytes (.slice (some (i, o)) len cap sz) y) h Q := by
  refine ⟨_, _, ?_, q⟩
  simp only [ap, hn, hf]
  rw [if_pos ⟨h1, h2, by simp [h3]⟩, if_neg (by omega), if_pos hb]
  simp only [hg]
  rw [if_pos ⟨trivial, hc⟩]
theorem W_ap_nil {e : TypeId} {size bytes cap sz : Nat} {y : AV} {n : Nat} {new : List AV} {h : AH} {Q : AV → AH → Prop} (hn : lenOfA y = some n) (hf : firstA h size n y = some new)
    (h1 : new.length = n * size) (h2 : ones new = true) (hlt : cap < n) (hb : (2 * n + 512) * bytes ≤ 2 ^ 47)
    (q : Q (.slice (some (h.next, 0)) n n size) (h.add (.cells new e false))) : W (ap e size bytes (.slice none 0 cap sz) y) h Q := by
  refine ⟨_, _, ?_, q⟩
  simp only [ap, hn, hf]
  rw [if_pos ⟨h1, h2, by simp⟩, if_neg (by omega), if_pos (by simpa using hb)]
  simp
theorem W_ap_nil0 {e : TypeId} {size bytes cap sz : Nat} {y : AV} {h : AH} {Q : AV → AH → Prop} (hn : lenOfA y = some 0) (hf : firstA h size 0 y = some []) (q : Q (.slice none 0 0 0) h) :
    W (ap e size bytes (.slice none 0 cap sz) y) h Q := by
  refine ⟨_, _, ?_, q⟩
  simp only [ap, hn, hf]
  rw [if_pos ⟨by simp, rfl, by simp⟩, if_pos (by omega)]

theorem W_lenM {m : AV} {es : List (AV × AV × Nat)} {h : AH} {Q : AV → AH → Prop} (e : entriesA h m = some es) (q : Q (.int .i64 es.length) h) : W (lenM m) h Q := ⟨_, _, by simp only [lenM, e], q⟩

theorem get_add_at {h : AH} {j : Nat} {o : AO} (e : j ≤ h.next ∧ h.next ≤ j) : (h.add o).get j = some o := by
  obtain rfl : j = h.next := by omega
  exact get_add_eq
theorem get_set_at {h : AH} {i j : Nat} {o : AO} (e : j ≤ i ∧ i ≤ j) : (h.set i o).get j = some o := by
  obtain rfl : j = i := by omega
  exact get_set_eq

/-! ### Calls -/

variable {P : Program} {orc : Orc}

theorem W_call {f : FuncId} {l : List AV} {t : M AV} (hc : ∀ {h r}, t h = some r → ca P orc f l h = some r) {h : AH} {Q : AV → AH → Prop} (w : W t h Q) : W (ca P orc f l) h Q := by
  obtain ⟨a, h', e, q⟩ := w
  exact ⟨a, h', hc e, q⟩

theorem cv_func {g : FuncId} {first captured l : List AV} : cv P orc (.func (.func g) first captured) l = ca P orc g (first ++ l ++ captured) := rfl

theorem W_gm {p w : Bool} {m : M AV} {h : AH} {Q : AV → AH → Prop} : W (gm (.bool p) w m) h Q ↔ if p = w then W m h Q else Q undefA h := by
  cases p <;> cases w <;> simp

end
end Go.Am

set_option linter.unusedSectionVars false
namespace Go.Am
open Go

section
variable {α : Type} [Inhabited α] (enc : α → AV)

/-- The cells of an array. -/
def cl (D : Array α) : List AV := D.toList.map enc

@[simp] theorem cl_length (D : Array α) : (cl enc D).length = D.size := by simp [cl]

theorem cl_get (D : Array α) {n : Nat} (h : n < D.size) : (cl enc D)[n]? = some (enc D[n]!) := by
  simp [cl, h]

theorem cl_set (D : Array α) (n : Nat) (x : α) : (cl enc D).set n (enc x) = cl enc (D.setIfInBounds n x) := by
  simp [cl, List.map_set]

/-- Object i's cells from 'pre.length' on hold the array. -/
structure Ro (i : Nat) (t : TypeId) (pre post : List AV) (D : Array α) (h : AH) : Prop where
  get : h.get i = some (.cells (pre ++ cl enc D ++ post) t false)
  wf : Wf h

variable {enc} {i : Nat} {t : TypeId} {pre post : List AV} {D : Array α} {h : AH}

theorem Ro.lt (r : Ro enc i t pre post D h) : i < h.next := r.wf.lt r.get

theorem Ro.at (r : Ro enc i t pre post D h) {n : Nat} (hn : n < D.size) : (pre ++ cl enc D ++ post)[pre.length + n]? = some (enc D[n]!) := by
  rw [List.append_assoc, List.getElem?_append_right (by omega), Nat.add_sub_cancel_left, List.getElem?_append_left (by simpa using hn), cl_get enc D hn]

theorem Ro.put_eq {n : Nat} (hn : n < D.size) (x : α) : (pre ++ cl enc D ++ post).set (pre.length + n) (enc x) = pre ++ cl enc (D.setIfInBounds n x) ++ post := by
  rw [List.append_assoc, List.set_append_right _ _ (by omega), Nat.add_sub_cancel_left, List.set_append_left _ _ (by simpa using hn), cl_set, List.append_assoc]

/-- A cell is read. -/
theorem W_ldR (r : Ro enc i t pre post D h) {n : Nat} (hn : n < D.size) {Q : AV → AH → Prop} (q : Q (enc D[n]!) h) : W (ld (.ptr (some (i, pre.length + n)))) h Q := by
  rw [W_ld_eq, r.get, ldQ_cells, r.at hn, cellQ_some]; exact q

/-- A cell is written. -/
theorem W_stR (r : Ro enc i t pre post D h) {n : Nat} (hn : n < D.size) {x : α} (h1 : (enc x).one = true) {Q : AV → AH → Prop}
    (q : ∀ h', Ro enc i t pre post (D.setIfInBounds n x) h' → Fr [i] h h' → h'.next = h.next → Q undefA h') : W (st 1 (.ptr (some (i, pre.length + n))) (enc x)) h Q := by
  rw [W_st_eq, r.get, stQ_cells, cells_one h1]
  refine ⟨rfl, ?_, by simp [h1], ?_⟩
  · simp; omega
  · rw [putCells_one, Ro.put_eq (enc := enc) (D := D) hn]
    exact q _ ⟨get_set_eq, r.wf.set r.lt⟩ ((Fr.refl _ _).set _ (fun _ => by simp)) rfl

theorem Ro.frame (r : Ro enc i t pre post D h) {h' : AH} {S : List Nat} (f : Fr S h h') (hi : i ∉ S) (w : Wf h') : Ro enc i t pre post D h' :=
  ⟨by rw [f.get i r.lt hi]; exact r.get, w⟩
end

/-! ### The numbers from 'next' on are free: every call keeps that -/

section
variable {P : Program} {orc : Orc}

theorem writeA_wf {h h' : AH} {i o : Nat} {l : List AV} (w : Wf h) (e : writeA h i o l = some h') : Wf h' := by
  unfold writeA at e
  split at e
  · rename_i hg
    split at e
    · injection e with e; subst e; exact w.set (w.lt ‹h.get _ = some _›)
    · simp at e
  · simp at e

theorem appendA_wf {ts : List TypeId} {l : List AV} {h h' : AH} {v : AV} (w : Wf h) (e : appendA P ts l h = some (v, h')) : Wf h' := by
  unfold appendA at e
  repeat' split at e
  all_goals first
    | (simp at e; done)
    | (simp only [Option.some.injEq, Prod.mk.injEq] at e; obtain ⟨-, rfl⟩ := e; first | exact w | exact w.add _ | (exact (w.set (w.lt ‹h.get _ = some _›)).add _))
    | (simp only [Option.map_eq_some_iff, Prod.mk.injEq] at e; obtain ⟨h1, hw, -, rfl⟩ := e; exact writeA_wf w hw)

theorem copyA_wf {ts : List TypeId} {l : List AV} {h h' : AH} {v : AV} (w : Wf h) (e : copyA P ts l h = some (v, h')) : Wf h' := by
  simp only [copyA] at e
  repeat' split at e
  all_goals first
    | (simp at e; done)
    | (simp only [Option.some.injEq, Prod.mk.injEq] at e; obtain ⟨-, rfl⟩ := e; exact w)
    | (simp only [Option.map_eq_some_iff, Prod.mk.injEq] at e; obtain ⟨h1, hw, -, rfl⟩ := e; exact writeA_wf w hw)

theorem deleteA_wf {ts : List TypeId} {l : List AV} {h h' : AH} (w : Wf h) (e : deleteA P ts l h = some h') : Wf h' := by
  unfold deleteA at e
  repeat' split at e
  all_goals first
    | (simp at e; done)
    | (cases hk : keyOk P _ _ <;> rw [hk] at e <;> first | (simp at e; done) | (simp only [cond_true] at e; repeat' split at e) <;> first | (simp at e; done) | (injection e with e; subst e; exact w.set (w.lt ‹h.get _ = some _›)))

theorem mapPutA_wf {t : TypeId} {m k v : AV} {h h' : AH} (w : Wf h) (e : mapPutA P t m k v h = some h') : Wf h' := by
  unfold mapPutA at e
  repeat' split at e
  all_goals first
    | (simp at e; done)
    | (cases hk : keyOk P _ _ <;> rw [hk] at e <;> first | (simp at e; done) | (simp only [cond_true] at e; repeat' split at e) <;> first | (simp at e; done) | (injection e with e; subst e; exact w.set (w.lt ‹h.get _ = some _›)))

theorem mapEntryA_wf {t : TypeId} {m k v : AV} {h h' : AH} (w : Wf h) (e : mapEntryA P t m k h = some (v, h')) : Wf h' := by
  unfold mapEntryA at e
  repeat' split at e
  all_goals first
    | (simp at e; done)
    | (cases hk : keyOk P _ _ <;> rw [hk] at e <;> first | (simp at e; done) | (simp only [cond_true] at e; repeat' split at e) <;> first | (simp at e; done) | (simp only [Option.some.injEq, Option.map_eq_some_iff, Prod.mk.injEq] at e; first | (obtain ⟨-, rfl⟩ := e; exact w.set (w.lt ‹h.get _ = some _›)) | (obtain ⟨z, -, -, rfl⟩ := e; exact w.set (w.lt ‹h.get _ = some _›))))

theorem entryStoreA_wf {m s v : AV} {h h' : AH} (w : Wf h) (e : entryStoreA m s v h = some h') : Wf h' := by
  unfold entryStoreA at e
  repeat' split at e
  all_goals first
    | (simp at e; done)
    | (injection e with e; subst e; exact w.set (w.lt ‹h.get _ = some _›))

theorem storeA_wf {t : TypeId} {h h' : AH} {i o : Nat} {v : AV} (w : Wf h) (e : storeA P t h i o v = some h') : Wf h' := by
  unfold storeA at e
  split at e
  · exact writeA_wf w e
  · simp at e

theorem effA_wf {ev : Operand → Option AV} {h h' : AH} {op : Op} {a : Nx} (w : Wf h) (e : effA P ev h op = .ok a h') : Wf h' := by
  unfold effA at e
  split at e
  all_goals (try (split at e))
  all_goals first
    | (simp at e; done)
    | (have e1 := R_unit_next e; first | exact storeA_wf w e1 | exact mapPutA_wf w e1 | exact entryStoreA_wf w e1)
    | (obtain ⟨v, e1⟩ := R_of_next e; first | exact mapEntryA_wf w e1 | exact appendA_wf w e1 | exact copyA_wf w e1)
    | (simp only [R.ok.injEq] at e; obtain ⟨-, rfl⟩ := e; exact w)
    | (split at e
       · rename_i h1 hd; simp only [R.ok.injEq] at e; obtain ⟨-, rfl⟩ := e; exact deleteA_wf w hd
       · simp at e)

theorem opA_wf {ev : Operand → Option AV} {h h' : AH} {op : Op} {a : Nx} (w : Wf h) (e : opA P ev h op = .ok a h') : Wf h' := by
  unfold opA at e
  split at e
  · split at e
    · simp only [R.ok.injEq] at e; obtain ⟨-, rfl⟩ := e; exact w
    · simp at e
  · split at e
    · simp only [R.ok.injEq] at e; obtain ⟨-, rfl⟩ := e; exact w
    · simp at e
  · split at e
    · simp only [R.ok.injEq] at e; obtain ⟨-, rfl⟩ := e; exact w.add _
    · simp at e
  · exact effA_wf w e

def OrcWf (orc : Orc) : Prop := ∀ f g, orc f = some g → ∀ l h v h', g l h = some (v, h') → Wf h → Wf h'

def WfAt (P : Program) (orc : Orc) (n : Nat) : Prop :=
  (∀ ops os st x st', opsA P orc n ops os st = some (x, st') → Wf st.heap → Wf st'.heap) ∧
  (∀ o st x st', oneA P orc n o st = some (x, st') → Wf st.heap → Wf st'.heap) ∧
  (∀ ops pre is st tr x st', drawA P orc n ops pre is st = some (tr, x, st') → Wf st.heap → Wf st'.heap) ∧
  (∀ c st x st', codeA P orc n c st = some (x, st') → Wf st.heap → Wf st'.heap) ∧
  (∀ f l h r h', callA P orc n f l h = some (r, h') → Wf h → Wf h') ∧
  (∀ fn t ds m h r h', leaveA P orc n fn t ds m h = some (r, h') → Wf h → Wf h') ∧
  (∀ f l rc h r h', lateA P orc n f l rc h = some (r, h') → Wf h → Wf h')

theorem wf_at (ho : OrcWf orc) : ∀ n, WfAt P orc n
  | 0 => by
    refine ⟨?_, ?_, ?_, ?_, ?_, ?_, ?_⟩ <;> intros <;> simp_all [opsA, oneA, drawA, codeA, callA, leaveA, lateA]
  | n + 1 => by
    obtain ⟨h1, h2, h3, h4, h5, h6, h7⟩ := wf_at ho n
    refine ⟨?_, ?_, ?_, ?_, ?_, ?_, ?_⟩
    · intro ops os st x st' h
      cases os with
      | nil => simp only [opsA, Option.some.injEq, Prod.mk.injEq] at h; obtain ⟨-, rfl⟩ := h; exact id
      | cons o os =>
        rw [opsA] at h
        split at h
        · simp at h
        · have := h1 _ _ _ _ _ h; exact this
        · split at h
          · rename_i s1 ho1
            exact fun w => h1 _ _ _ _ _ h (h2 _ _ _ _ ho1 w)
          · rename_i r' hr
            exact h2 _ _ _ _ h
    · intro o st x st' h w
      rw [oneA] at h
      split at h
      · rename_i v h' e; simp only [Option.some.injEq, Prod.mk.injEq] at h; obtain ⟨-, rfl⟩ := h; exact opA_wf w e
      · rename_i h' e; simp only [Option.some.injEq, Prod.mk.injEq] at h; obtain ⟨-, rfl⟩ := h; exact opA_wf w e
      · rename_i h' e; simp only [Option.some.injEq, Prod.mk.injEq] at h; obtain ⟨-, rfl⟩ := h; exact opA_wf w e
      · rename_i h' e
        split at h
        · simp at h
        · simp only [Option.some.injEq, Prod.mk.injEq] at h; obtain ⟨-, rfl⟩ := h; exact opA_wf w e
        · simp only [Option.some.injEq, Prod.mk.injEq] at h; obtain ⟨-, rfl⟩ := h; exact opA_wf w e
      · rename_i f l h' e
        split at h
        · rename_i v h2' hc; simp only [Option.some.injEq, Prod.mk.injEq] at h; obtain ⟨-, rfl⟩ := h; exact h5 _ _ _ _ _ hc (opA_wf w e)
        · rename_i v h2' hc; simp only [Option.some.injEq, Prod.mk.injEq] at h; obtain ⟨-, rfl⟩ := h; exact h5 _ _ _ _ _ hc (opA_wf w e)
        · simp at h
      · rename_i v h' e; simp only [Option.some.injEq, Prod.mk.injEq] at h; obtain ⟨-, rfl⟩ := h; rw [opA_pan e]; exact w
      · simp at h
    · intro ops pre is st tr x st' h
      cases is with
      | nil => simp only [drawA, Option.some.injEq, Prod.mk.injEq] at h; obtain ⟨-, -, rfl⟩ := h; exact id
      | cons i is =>
        rw [drawA] at h
        split at h
        · simp at h
        · split at h
          · simp at h
          · split at h
            · rename_i tr' r' hd
              obtain ⟨x', s'⟩ := r'
              simp only [Option.some.injEq, Prod.mk.injEq] at h; obtain ⟨-, rfl, rfl⟩ := h
              have := h3 _ _ _ _ _ _ _ hd; exact this
            · simp at h
          · split at h
            · rename_i s1 ho1
              cases hb : Nat.ble st.heap.next s1.heap.next with
              | false => rw [hb] at h; simp at h
              | true =>
                rw [hb] at h
                simp only [cond_true] at h
                split at h
                · rename_i tr' r' hd
                  obtain ⟨x', s'⟩ := r'
                  simp only [Option.some.injEq, Prod.mk.injEq] at h; obtain ⟨-, rfl, rfl⟩ := h
                  exact fun w => h3 _ _ _ _ _ _ _ hd (h2 _ _ _ _ ho1 w)
                · simp at h
            · rename_i v s1 ho1
              cases hb : is.all (fun j => ahead pre i j) with
              | false => rw [hb] at h; simp at h
              | true =>
                rw [hb] at h
                simp only [cond_true, Option.some.injEq, Prod.mk.injEq] at h
                obtain ⟨-, -, rfl⟩ := h
                exact h2 _ _ _ _ ho1
            · simp at h
    · intro c st x st' h
      cases c with
      | region id ops draw =>
        rw [codeA] at h
        cases draw with
        | false => exact h1 _ _ _ _ _ h
        | true =>
          simp only [cond_true] at h
          cases hk : (drawInfo P ops).ok with
          | false => rw [hk] at h; simp at h
          | true =>
            rw [hk] at h
            simp only [cond_true] at h
            split at h
            · rename_i tr r hd
              obtain ⟨x', s'⟩ := r
              cases hc : confOk ops tr (drawInfo P ops).conf (drawInfo P ops).made with
              | false => rw [hc] at h; simp at h
              | true => rw [hc] at h; simp only [cond_true, Option.some.injEq, Prod.mk.injEq] at h; obtain ⟨rfl, rfl⟩ := h; exact h3 _ _ _ _ _ _ _ hd
            · simp at h
      | seq a b =>
        rw [codeA] at h
        split at h
        · rename_i s1 ha; exact fun w => h4 _ _ _ _ h (h4 _ _ _ _ ha w)
        · exact h4 _ _ _ _ h
      | cond c a b =>
        rw [codeA] at h
        split at h
        · exact h4 _ _ _ _ h
        · simp at h
      | block id b =>
        rw [codeA] at h
        split at h
        · rename_i s1 ha; simp only [Option.some.injEq, Prod.mk.injEq] at h; obtain ⟨-, rfl⟩ := h; exact h4 _ _ _ _ ha
        · exact h4 _ _ _ _ h
      | loop b =>
        rw [codeA] at h
        split at h
        · rename_i s1 ha; exact fun w => h4 _ _ _ _ h (h4 _ _ _ _ ha w)
        · exact h4 _ _ _ _ h
      | skip => simp only [codeA, Option.some.injEq, Prod.mk.injEq] at h; obtain ⟨-, rfl⟩ := h; exact id
      | exit id => simp only [codeA, Option.some.injEq, Prod.mk.injEq] at h; obtain ⟨-, rfl⟩ := h; exact fun w => w
      | ret => simp only [codeA, Option.some.injEq, Prod.mk.injEq] at h; obtain ⟨-, rfl⟩ := h; exact id
      | _ => simp [codeA] at h
    · intro f l h r h' hr
      rw [callA] at hr
      split at hr
      · rename_i g hg
        simp only [Option.map_eq_some_iff, Prod.mk.injEq] at hr
        obtain ⟨⟨v, h1'⟩, hgv, -, rfl⟩ := hr
        exact ho f g hg l h v h1' hgv
      · split at hr
        · simp at hr
        · split at hr
          · simp at hr
          · split at hr
            · rename_i s1 hc; exact fun w => h6 _ _ _ _ _ _ _ hr (h4 _ _ _ _ hc w)
            · rename_i s1 hc; exact fun w => h6 _ _ _ _ _ _ _ hr (h4 _ _ _ _ hc w)
            · rename_i s1 hc; exact fun w => h6 _ _ _ _ _ _ _ hr (h4 _ _ _ _ hc w)
            · simp at hr
    · intro fn t ds m h r h' hr
      cases ds with
      | nil =>
        cases m with
        | none =>
          simp only [leaveA, Option.map_eq_some_iff, Prod.mk.injEq] at hr
          obtain ⟨v, -, -, rfl⟩ := hr
          exact id
        | some v => simp only [leaveA, Option.some.injEq, Prod.mk.injEq] at hr; obtain ⟨-, rfl⟩ := hr; exact id
      | cons d ds =>
        obtain ⟨f, l⟩ := d
        cases m with
        | none =>
          rw [leaveA] at hr
          split at hr
          · rename_i h1' hl; exact fun w => h6 _ _ _ _ _ _ _ hr (h7 _ _ _ _ _ _ hl w)
          · rename_i h1' hl; exact fun w => h6 _ _ _ _ _ _ _ hr (h7 _ _ _ _ _ _ hl w)
          · simp at hr
        | some v =>
          rw [leaveA] at hr
          split at hr
          · rename_i h1' hl; exact fun w => h6 _ _ _ _ _ _ _ hr (h7 _ _ _ _ _ _ hl w)
          · rename_i h1' hl; exact fun w => h6 _ _ _ _ _ _ _ hr (h7 _ _ _ _ _ _ hl w)
          · simp at hr
    · intro f l rc h r h' hr
      rw [lateA] at hr
      split at hr
      · simp at hr
      · split at hr
        · simp at hr
        · split at hr
          · rename_i s1 hc
            split at hr
            · simp only [Option.some.injEq, Prod.mk.injEq] at hr; obtain ⟨-, rfl⟩ := hr; exact h4 _ _ _ _ hc
            · simp at hr
          · rename_i s1 hc
            split at hr
            · simp only [Option.some.injEq, Prod.mk.injEq] at hr; obtain ⟨-, rfl⟩ := hr; exact h4 _ _ _ _ hc
            · simp at hr
          · simp at hr

theorem callX_wf (ho : OrcWf orc) {f : FuncId} {l : List AV} {h h' : AH} {r : CR} (e : callX P orc f l h = some (r, h')) (w : Wf h) : Wf h' := by
  obtain ⟨n, hn⟩ := of_callX e
  exact (wf_at ho n).2.2.2.2.1 _ _ _ _ _ hn w

/-- What every call keeps, beside what is known of this one. -/
theorem W_ca_keep (hn : OrcNext orc) (ho : OrcWf orc) {f : FuncId} {l : List AV} {h : AH} {Q : AV → AH → Prop} (hw : Wf h) (w : W (ca P orc f l) h fun v h' => h.next ≤ h'.next → Wf h' → Q v h') : W (ca P orc f l) h Q := by
  obtain ⟨a, h', e, q⟩ := w
  have hx : callX P orc f l h = some (.ret a, h') := by
    unfold ca at e
    split at e
    · rename_i v h1 hc; simp only [Option.some.injEq, Prod.mk.injEq, Ex.ok.injEq] at e; obtain ⟨rfl, rfl⟩ := e; exact hc
    · simp at e
    · simp at e
  exact ⟨a, h', e, q (callX_next hn hx) (callX_wf ho hx hw)⟩

end
end Go.Am

namespace Go.Am
open Go

theorem W_ltv {α : Type} {K : AV → M α} {h : AH} {Q : α → AH → Prop} {o : Option AV} {v : AV} (e : o = some v) : W (lt o K) h Q ↔ W (K v) h Q := by rw [e]; exact W_lt

theorem ww :
  (∀ {α : Type} {v : AV} {K : AV → M α} {h : AH} {Q : α → AH → Prop}, W (lt (some v) K) h Q ↔ W (K v) h Q) ∧
  (∀ {α : Type} {a : α} {h : AH} {Q : α → AH → Prop}, W (rt a) h Q ↔ Q a h) ∧
  (∀ {α β : Type} {m : M β} {k : β → M α} {h : AH} {Q : α → AH → Prop}, W (bd m k) h Q ↔ W m h fun a h' => W (k a) h' Q) ∧
  (∀ {α β : Type} {m : M β} {k : β → M α} {h : AH} {Q : α → AH → Prop}, W (bq m k) h Q ↔ W m h fun a h' => W (k a) h' Q) ∧
  (∀ {α : Type} {a b : M α} {h : AH} {Q : α → AH → Prop}, W (cn (.bool true) a b) h Q ↔ W a h Q) ∧
  (∀ {α : Type} {a b : M α} {h : AH} {Q : α → AH → Prop}, W (cn (.bool false) a b) h Q ↔ W b h Q) ∧
  (∀ {α : Type} {k : AH → M α} {h : AH} {Q : α → AH → Prop}, W (gh k) h Q ↔ W (k h) h Q) ∧
  (∀ {α : Type} {k : M α} {h : AH} {Q : α → AH → Prop}, W (chk true k) h Q ↔ W k h Q) ∧
  (∀ {α : Type} {v : AV} {r : List AV} {k : AV → List AV → M α} {h : AH} {Q : α → AH → Prop}, W (un (v :: r) k) h Q ↔ W (k v r) h Q) ∧
  (∀ {α : Type} {i : Nat} {s : List AV} {d : AV → M α} {k : List AV → M α} {l : List (Nat × (List AV → M α))} {h : AH} {Q : α → AH → Prop}, W (ou (.out i s) d ((i, k) :: l)) h Q ↔ W (k s) h Q) ∧
  (∀ {α : Type} {v : AV} {d : AV → M α} {l : List (Nat × (List AV → M α))} {h : AH} {Q : α → AH → Prop}, W (ou (.done v) d l) h Q ↔ W (d v) h Q) ∧
  -- whole numbers whose sum etc. fits
  (∀ {α : Type} {a b : Int} {K : AV → M α} {h : AH} {Q : α → AH → Prop}, -9223372036854775808 ≤ a + b → a + b ≤ 9223372036854775807 → (W (lt (binV .add (.int .i64 a) (.int .i64 b)) K) h Q ↔ W (K (.int .i64 (a + b))) h Q)) ∧
  (∀ {α : Type} {a b : Int} {K : AV → M α} {h : AH} {Q : α → AH → Prop}, -9223372036854775808 ≤ a - b → a - b ≤ 9223372036854775807 → (W (lt (binV .sub (.int .i64 a) (.int .i64 b)) K) h Q ↔ W (K (.int .i64 (a - b))) h Q)) ∧
  (∀ {α : Type} {a b : Int} {K : AV → M α} {h : AH} {Q : α → AH → Prop}, -9223372036854775808 ≤ a * b → a * b ≤ 9223372036854775807 → (W (lt (binV .mul (.int .i64 a) (.int .i64 b)) K) h Q ↔ W (K (.int .i64 (a * b))) h Q)) ∧
  (∀ {α : Type} {a b : Int} {K : AV → M α} {h : AH} {Q : α → AH → Prop}, 0 ≤ a + b → a + b ≤ 18446744073709551615 → (W (lt (binV .add (.int .u64 a) (.int .u64 b)) K) h Q ↔ W (K (.int .u64 (a + b))) h Q)) ∧
  (∀ {α : Type} {a b : Int} {K : AV → M α} {h : AH} {Q : α → AH → Prop}, 0 ≤ a - b → a - b ≤ 18446744073709551615 → (W (lt (binV .sub (.int .u64 a) (.int .u64 b)) K) h Q ↔ W (K (.int .u64 (a - b))) h Q)) ∧
  (∀ {α : Type} {k : IntKind} {a b : Int} {K : AV → M α} {h : AH} {Q : α → AH → Prop}, W (lt (binV .lss (.int k a) (.int k b)) K) h Q ↔ W (K (.bool (decide (a < b)))) h Q) ∧
  (∀ {α : Type} {k : IntKind} {a b : Int} {K : AV → M α} {h : AH} {Q : α → AH → Prop}, W (lt (binV .leq (.int k a) (.int k b)) K) h Q ↔ W (K (.bool (decide (a ≤ b)))) h Q) ∧
  (∀ {α : Type} {k : IntKind} {a b : Int} {K : AV → M α} {h : AH} {Q : α → AH → Prop}, W (lt (binV .gtr (.int k a) (.int k b)) K) h Q ↔ W (K (.bool (decide (b < a)))) h Q) ∧
  (∀ {α : Type} {k : IntKind} {a b : Int} {K : AV → M α} {h : AH} {Q : α → AH → Prop}, W (lt (binV .geq (.int k a) (.int k b)) K) h Q ↔ W (K (.bool (decide (b ≤ a)))) h Q) ∧
  (∀ {α : Type} {k : IntKind} {a b : Int} {K : AV → M α} {h : AH} {Q : α → AH → Prop}, W (lt (eqI false (.int k a) (.int k b)) K) h Q ↔ W (K (.bool (decide (a = b)))) h Q) ∧
  (∀ {α : Type} {k : IntKind} {a b : Int} {K : AV → M α} {h : AH} {Q : α → AH → Prop}, W (lt (eqI true (.int k a) (.int k b)) K) h Q ↔ W (K (.bool (decide (a ≠ b)))) h Q) ∧
  (∀ {α : Type} {a b : Bool} {K : AV → M α} {h : AH} {Q : α → AH → Prop}, W (lt (eqB false (.bool a) (.bool b)) K) h Q ↔ W (K (.bool (a == b))) h Q) ∧
  (∀ {α : Type} {a b : Bool} {K : AV → M α} {h : AH} {Q : α → AH → Prop}, W (lt (eqB true (.bool a) (.bool b)) K) h Q ↔ W (K (.bool (!(a == b)))) h Q) ∧
  (∀ {α : Type} {b : Bool} {K : AV → M α} {h : AH} {Q : α → AH → Prop}, W (lt (unA .not (.bool b)) K) h Q ↔ W (K (.bool (!b))) h Q) ∧
  -- whole numbers of another kind
  (∀ {α : Type} {k : IntKind} {a : Int} {K : AV → M α} {h : AH} {Q : α → AH → Prop}, -9223372036854775808 ≤ a → a ≤ 9223372036854775807 → (W (lt (cvI .i64 (.int k a)) K) h Q ↔ W (K (.int .i64 a)) h Q)) ∧
  (∀ {α : Type} {k : IntKind} {a : Int} {K : AV → M α} {h : AH} {Q : α → AH → Prop}, 0 ≤ a → a ≤ 18446744073709551615 → (W (lt (cvI .u64 (.int k a)) K) h Q ↔ W (K (.int .u64 a)) h Q)) ∧
  (∀ {α : Type} {k : IntKind} {a : Int} {K : AV → M α} {h : AH} {Q : α → AH → Prop}, 0 ≤ a → a ≤ 4294967295 → (W (lt (cvI .u32 (.int k a)) K) h Q ↔ W (K (.int .u32 a)) h Q)) ∧
  (∀ {α : Type} {k : IntKind} {a : Int} {K : AV → M α} {h : AH} {Q : α → AH → Prop}, 0 ≤ a → a ≤ 255 → (W (lt (cvI .u8 (.int k a)) K) h Q ↔ W (K (.int .u8 a)) h Q)) ∧
  -- choices, guards
  (∀ {α : Type} {a b : AV} {K : AV → M α} {h : AH} {Q : α → AH → Prop}, W (lt (pickV (.bool true) a b) K) h Q ↔ W (K a) h Q) ∧
  (∀ {α : Type} {a b : AV} {K : AV → M α} {h : AH} {Q : α → AH → Prop}, W (lt (pickV (.bool false) a b) K) h Q ↔ W (K b) h Q) ∧
  (∀ {α : Type} {x : Option AV} {K : AV → M α} {h : AH} {Q : α → AH → Prop}, W (lt (gv (.bool true) true x) K) h Q ↔ W (lt x K) h Q) ∧
  (∀ {α : Type} {x : Option AV} {K : AV → M α} {h : AH} {Q : α → AH → Prop}, W (lt (gv (.bool false) false x) K) h Q ↔ W (lt x K) h Q) ∧
  (∀ {α : Type} {x : Option AV} {K : AV → M α} {h : AH} {Q : α → AH → Prop}, W (lt (gv (.bool true) false x) K) h Q ↔ W (K undefA) h Q) ∧
  (∀ {α : Type} {x : Option AV} {K : AV → M α} {h : AH} {Q : α → AH → Prop}, W (lt (gv (.bool false) true x) K) h Q ↔ W (K undefA) h Q) ∧
  (∀ {x : M AV} {h : AH} {Q : AV → AH → Prop}, W (gm (.bool true) true x) h Q ↔ W x h Q) ∧
  (∀ {x : M AV} {h : AH} {Q : AV → AH → Prop}, W (gm (.bool false) false x) h Q ↔ W x h Q) ∧
  (∀ {x : M AV} {h : AH} {Q : AV → AH → Prop}, W (gm (.bool true) false x) h Q ↔ Q undefA h) ∧
  (∀ {x : M AV} {h : AH} {Q : AV → AH → Prop}, W (gm (.bool false) true x) h Q ↔ Q undefA h) ∧
  -- addresses, parts
  (∀ {α : Type} {p : Nat × Nat} {K : AV → M α} {h : AH} {Q : α → AH → Prop}, W (lt (nilV (.ptr (some p))) K) h Q ↔ W (K (.ptr (some p))) h Q) ∧
  (∀ {α : Type} {g : FuncId} {f c : List AV} {K : AV → M α} {h : AH} {Q : α → AH → Prop}, W (lt (nilV (.func (.func g) f c)) K) h Q ↔ W (K (.func (.func g) f c)) h Q) ∧
  (∀ {α : Type} {n i o : Nat} {K : AV → M α} {h : AH} {Q : α → AH → Prop}, W (lt (fldA n (.ptr (some (i, o)))) K) h Q ↔ W (K (.ptr (some (i, o + n)))) h Q) ∧
  (∀ {α : Type} {s i o len cap sz : Nat} {k : IntKind} {n : Int} {K : AV → M α} {h : AH} {Q : α → AH → Prop}, 0 ≤ n → n < len → (W (lt (ixS s (.slice (some (i, o)) len cap sz) (.int k n)) K) h Q ↔ W (K (.ptr (some (i, o + n.toNat * s)))) h Q)) ∧
  (∀ {α : Type} {m s i o : Nat} {k : IntKind} {n : Int} {K : AV → M α} {h : AH} {Q : α → AH → Prop}, 0 ≤ n → n < m → (W (lt (ixR m s (.ptr (some (i, o))) (.int k n)) K) h Q ↔ W (K (.ptr (some (i, o + n.toNat * s)))) h Q)) ∧
  (∀ {α : Type} {a : AV} {l : List AV} {K : AV → M α} {h : AH} {Q : α → AH → Prop}, W (lt (extV (.tuple (a :: l)) 0) K) h Q ↔ W (K a) h Q) ∧
  (∀ {α : Type} {a b : AV} {l : List AV} {K : AV → M α} {h : AH} {Q : α → AH → Prop}, W (lt (extV (.tuple (a :: b :: l)) 1) K) h Q ↔ W (K b) h Q) ∧
  (∀ {α : Type} {a b c : AV} {l : List AV} {K : AV → M α} {h : AH} {Q : α → AH → Prop}, W (lt (extV (.tuple (a :: b :: c :: l)) 2) K) h Q ↔ W (K c) h Q) ∧
  (∀ {α : Type} {b : Option (Nat × Nat)} {l c s : Nat} {K : AV → M α} {h : AH} {Q : α → AH → Prop}, W (lt (lnS (.slice b l c s)) K) h Q ↔ W (K (.int .i64 l)) h Q) ∧
  (∀ {α : Type} {s : List UInt8} {K : AV → M α} {h : AH} {Q : α → AH → Prop}, W (lt (lnT (.str s)) K) h Q ↔ W (K (.int .i64 s.length)) h Q) ∧
  (∀ {α : Type} {n : Bool} {K : AV → M α} {h : AH} {Q : α → AH → Prop}, W (lt (eqP n (.ptr none) (.ptr none)) K) h Q ↔ W (K (.bool (!n))) h Q) ∧
  (∀ {α : Type} {n : Bool} {p : Nat × Nat} {K : AV → M α} {h : AH} {Q : α → AH → Prop}, W (lt (eqP n (.ptr (some p)) (.ptr none)) K) h Q ↔ W (K (.bool n)) h Q) ∧
  (∀ {α : Type} {n : Bool} {p : Nat × Nat} {K : AV → M α} {h : AH} {Q : α → AH → Prop}, W (lt (eqP n (.ptr none) (.ptr (some p))) K) h Q ↔ W (K (.bool n)) h Q) ∧
  (∀ {α : Type} {cs : List AV} {K : AV → M α} {h : AH} {Q : α → AH → Prop}, W (lt (aggO (some cs)) K) h Q ↔ W (K (.agg cs)) h Q) ∧
  (∀ {cs : List AV} {t : TypeId} {h : AH} {Q : AV → AH → Prop}, W (nw cs t) h Q ↔ Q (.ptr (some (h.next, 0))) (h.add (.cells cs t false))) ∧
  (∀ {h : AH} {Q : AV → AH → Prop}, W mkM h Q ↔ Q (.map (some h.next)) (h.add (.map [] 0))) ∧
  (∀ {I : List AV → AH → Prop} {μ : List AV → AH → Nat} {n : Nat} {Q : Go1 → AH → Prop} {s : List AV} {h : AH}, LQ I μ n Q (.again s) h ↔ I s h ∧ μ s h < n) ∧
  (∀ {I : List AV → AH → Prop} {μ : List AV → AH → Nat} {n : Nat} {Q : Go1 → AH → Prop} {i : Nat} {s : List AV} {h : AH}, LQ I μ n Q (.out i s) h ↔ Q (.out i s) h) ∧
  (∀ {I : List AV → AH → Prop} {μ : List AV → AH → Nat} {n : Nat} {Q : Go1 → AH → Prop} {v : AV} {h : AH}, LQ I μ n Q (.done v) h ↔ Q (.done v) h) := by
  refine ⟨W_lt, W_rt, W_bd, W_bq, W_cn_true, W_cn_false, W_gh, W_chk_true, W_un, ?_, Iff.rfl, ?_, ?_, ?_, ?_, ?_, W_ltv binV_lss, W_ltv binV_leq, W_ltv binV_gtr, W_ltv binV_geq, W_ltv eqI_false, W_ltv eqI_true, W_ltv eqB_false, W_ltv eqB_true, W_ltv unA_not,
    ?_, ?_, ?_, ?_, W_ltv pickV_true, W_ltv pickV_false, Iff.rfl, Iff.rfl, W_ltv gv_tf, W_ltv gv_ft, Iff.rfl, Iff.rfl, W_rt, W_rt, W_ltv nilV_ptr, W_ltv nilV_func, W_ltv fldA_ptr, ?_, ?_, W_ltv rfl, W_ltv rfl, W_ltv rfl, W_ltv lnS_slice, W_ltv lnT_str,
    W_ltv eqP_none, W_ltv eqP_some, W_ltv eqP_some', W_ltv aggO_some, W_nw, W_mkM, Iff.rfl, Iff.rfl, Iff.rfl⟩
  · intros; rw [ou_out, if_pos rfl]
  · intro α a b K h Q h1 h2; rw [W_ltv binV_add, wr_i64 h1 h2]
  · intro α a b K h Q h1 h2; rw [W_ltv binV_sub, wr_i64 h1 h2]
  · intro α a b K h Q h1 h2; rw [W_ltv binV_mul, wr_i64 h1 h2]
  · intro α a b K h Q h1 h2; rw [W_ltv binV_add, wr_u64 h1 h2]
  · intro α a b K h Q h1 h2; rw [W_ltv binV_sub, wr_u64 h1 h2]
  · intro α k a K h Q h1 h2; rw [W_ltv cvI_int, wr_i64 h1 h2]
  · intro α k a K h Q h1 h2; rw [W_ltv cvI_int, wr_u64 h1 h2]
  · intro α k a K h Q h1 h2; rw [W_ltv cvI_int, wr_u32 h1 h2]
  · intro α k a K h Q h1 h2; rw [W_ltv cvI_int, wr_u8 h1 h2]
  · intro α s i o len cap sz k n K h Q h1 h2; exact W_ltv (ixS_ok h1 h2)
  · intro α m s i o k n K h Q h1 h2; exact W_ltv (ixR_ok h1 h2)
end Go.Am

namespace Go.Am
open Go

/-- A word as a value. -/
abbrev u64V (x : UInt64) : AV := .int .u64 (x.toNat : Int)

theorem u64_lt (x : UInt64) : x.toNat < 18446744073709551616 := x.toNat_lt

theorem bv_u64 (x : UInt64) : BitVec.ofInt 64 (x.toNat : Int) = x.toBitVec := by
  apply BitVec.eq_of_toNat_eq
  rw [BitVec.ofInt_natCast]
  simp

theorem wr_nat {n : Nat} (h : n < 18446744073709551616) : IntKind.u64.wrap (n : Int) = n := wr_u64 (by omega) (by omega)

theorem binV_xor_u64 (x y : UInt64) : binV .xor (u64V x) (u64V y) = some (u64V (x ^^^ y)) := by
  rw [binV_xor]
  show some (AV.int .u64 (IntKind.u64.wrap ((BitVec.ofInt 64 _ ^^^ BitVec.ofInt 64 _).toNat))) = _
  rw [bv_u64, bv_u64, wr_nat (by have := (x.toBitVec ^^^ y.toBitVec).isLt; exact this)]
  rfl
theorem binV_and_u64 (x y : UInt64) : binV .and (u64V x) (u64V y) = some (u64V (x &&& y)) := by
  rw [binV_and]
  show some (AV.int .u64 (IntKind.u64.wrap ((BitVec.ofInt 64 _ &&& BitVec.ofInt 64 _).toNat))) = _
  rw [bv_u64, bv_u64, wr_nat (by have := (x.toBitVec &&& y.toBitVec).isLt; exact this)]
  rfl
theorem binV_or_u64 (x y : UInt64) : binV .or (u64V x) (u64V y) = some (u64V (x ||| y)) := by
  rw [binV_or]
  show some (AV.int .u64 (IntKind.u64.wrap ((BitVec.ofInt 64 _ ||| BitVec.ofInt 64 _).toNat))) = _
  rw [bv_u64, bv_u64, wr_nat (by have := (x.toBitVec ||| y.toBitVec).isLt; exact this)]
  rfl

theorem wrap_mod (n : Nat) : IntKind.u64.wrap (n : Int) = ((n % 18446744073709551616 : Nat) : Int) := by
  simp [IntKind.wrap, IntKind.signed, IntKind.bits]

theorem binV_shl_u64 (x : UInt64) {k : IntKind} (n : Nat) (hn : n < 64) : binV .shl (u64V x) (.int k n) = some (u64V (x <<< UInt64.ofNat n)) := by
  rw [binV_shl (by omega)]
  have : min (n : Int).toNat IntKind.u64.bits = n := by simp [IntKind.bits]; omega
  rw [this, show ((x.toNat : Int) * 2 ^ n) = ((x.toNat * 2 ^ n : Nat) : Int) by simp, wrap_mod]
  congr 3
  rw [UInt64.toNat_shiftLeft]
  simp [Nat.shiftLeft_eq]
  rw [Nat.mod_eq_of_lt hn]
theorem binV_shr_u64 (x : UInt64) {k : IntKind} (n : Nat) (hn : n < 64) : binV .shr (u64V x) (.int k n) = some (u64V (x >>> UInt64.ofNat n)) := by
  rw [binV_shr (by omega)]
  have : min (n : Int).toNat IntKind.u64.bits = n := by simp [IntKind.bits]; omega
  rw [this]
  congr 2
  rw [UInt64.toNat_shiftRight]
  simp [Nat.shiftRight_eq_div_pow]
  rw [Nat.mod_eq_of_lt hn]
  rw [Int.fdiv_eq_ediv_of_nonneg _ (by exact Int.le_of_lt (Int.pow_pos (by decide)))]

/-! ### How many bits -/

theorem bitsLen_spec (n : Nat) : n < 2 ^ Sort.bitsLen n ∧ (0 < n → 2 ^ (Sort.bitsLen n - 1) ≤ n) := by
  rw [Sort.bitsLen]
  split
  · rename_i h; subst h; simp
  · rename_i h
    refine ⟨Nat.lt_log2_self, fun _ => ?_⟩
    rw [Nat.add_sub_cancel]
    exact Nat.log2_self_le h

theorem bitsLen_uniq {n m : Nat} (h1 : n < 2 ^ m) (h2 : 0 < m → 2 ^ (m - 1) ≤ n) : Sort.bitsLen n = m := by
  obtain ⟨k1, k2⟩ := bitsLen_spec n
  rcases Nat.lt_trichotomy (Sort.bitsLen n) m with h | h | h
  · have := h2 (by omega)
    have h3 : 2 ^ Sort.bitsLen n ≤ 2 ^ (m - 1) := Nat.pow_le_pow_right (by decide) (by omega)
    omega
  · exact h
  · have hn : 0 < n := by
      rcases Nat.eq_zero_or_pos n with h0 | h0
      · subst h0; simp [Sort.bitsLen] at h
      · exact h0
    have := k2 hn
    have h3 : 2 ^ m ≤ 2 ^ (Sort.bitsLen n - 1) := Nat.pow_le_pow_right (by decide) (by omega)
    omega

theorem bitsLen_shift {n k : Nat} (h : 2 ^ k ≤ n) : Sort.bitsLen n = Sort.bitsLen (n / 2 ^ k) + k := by
  obtain ⟨k1, k2⟩ := bitsLen_spec (n / 2 ^ k)
  have hp : 0 < 2 ^ k := Nat.pos_of_ne_zero (by simp)
  have hq : 0 < n / 2 ^ k := Nat.div_pos h hp
  have hb : 0 < Sort.bitsLen (n / 2 ^ k) := by
    rcases Nat.eq_zero_or_pos (Sort.bitsLen (n / 2 ^ k)) with h0 | h0
    · rw [h0] at k1; simp at k1; have := (Nat.div_lt_iff_lt_mul hp).1 (show n / 2 ^ k < 1 by omega); omega
    · exact h0
  refine bitsLen_uniq ?_ (fun _ => ?_)
  · rw [Nat.pow_add]; exact (Nat.div_lt_iff_lt_mul hp).1 k1
  · rw [show Sort.bitsLen (n / 2 ^ k) + k - 1 = (Sort.bitsLen (n / 2 ^ k) - 1) + k by omega, Nat.pow_add]
    exact (Nat.le_div_iff_mul_le hp).1 (k2 hq)

theorem bitsLen_le {n m : Nat} (h : n < 2 ^ m) : Sort.bitsLen n ≤ m := by
  obtain ⟨k1, k2⟩ := bitsLen_spec n
  rcases Nat.eq_zero_or_pos n with h0 | h0
  · subst h0; simp [Sort.bitsLen]
  · have := k2 h0
    rcases Nat.lt_or_ge m (Sort.bitsLen n) with q | q
    · have : 2 ^ m ≤ 2 ^ (Sort.bitsLen n - 1) := Nat.pow_le_pow_right (by decide) (by omega)
      omega
    · exact q

end Go.Am
