/-
  What the abstract machine's operations say is what the model's do.
  Conditions: none.
-/
import Derived.Laws.Sem
import Derived.Laws.Strings
import Derived.Laws.StructEq
import Derived.WideLaws
import Derived.Test.YtlpbgmbiollimaaGreatAa
import Derived.Laws.Cells
import Derived.Laws.Rows
import Derived.Laws.World
import Derived.Laws.BytesString
import Derived.Laws.BytesArg
import Derived.Lib.ConvBytes
set_option linter.unusedSimpArgs false
set_option linter.unusedVariables false
namespace Go.Am
open Go

/-- Run anywhere, it yields a value that stands for 'a', and leaves the world alone. -/
def Yv (ρ : Ren) (P : Program) (s : Sem Value) (a : AV) : Prop := ∃ v, VR ρ a v ∧ ∀ w, s.run P w = .ok v w

theorem Yv.pure {ρ : Ren} {P : Program} {a : AV} {v : Value} (h : VR ρ a v) : Yv ρ P (Pure.pure v) a := ⟨v, h, fun _ => rfl⟩

section
variable {P : Program} {ρ : Ren}

theorem VR.mkInt {k : IntKind} {n : Int} : VR ρ (.int k n) (.int k n) := by simp [VR]
theorem VR.mkBool {b : Bool} : VR ρ (.bool b) (.bool b) := by simp [VR]
theorem VR.mkStr {l : List UInt8} : VR ρ (.str l) (.string ⟨l.toArray⟩) := by simp [VR]
theorem VR.mkAgg {as : List AV} {vs : List Value} (h : LR ρ as vs) : VR ρ (.agg as) (.agg ⟨vs⟩) := by simp only [VR]; exact ⟨vs, rfl, h⟩
theorem VR.mkTuple {as : List AV} {vs : List Value} (h : LR ρ as vs) : VR ρ (.tuple as) (.tuple ⟨vs⟩) := by simp only [VR]; exact ⟨vs, rfl, h⟩

theorem VR.agg_inv {a : AV} {us : Array Value} (h : VR ρ a (.agg us)) : ∃ as, a = .agg as := by
  cases a with
  | agg cs => exact ⟨cs, rfl⟩
  | ptr p => cases p <;> simp [VR] at h
  | slice p => cases p <;> simp [VR] at h
  | map r => cases r <;> simp [VR] at h
  | _ => simp [VR] at h
theorem VR.nil_inv {a : AV} (h : VR ρ a .nilIface) : a = .nilIface := by
  cases a with
  | nilIface => rfl
  | ptr p => cases p <;> simp [VR] at h
  | slice p => cases p <;> simp [VR] at h
  | map r => cases r <;> simp [VR] at h
  | _ => simp [VR] at h

theorem run_und {t : TypeId} {d : TypeDesc} (h : P.underlying t = some d) (w : World) : (underlying t).run P w = .ok d w := by simp [underlying, h]
theorem run_inf {t : TypeId} {i : TypeInfo} (h : P.info? t = some i) (w : World) : (typeInfo t).run P w = .ok i w := by simp [typeInfo, h]
theorem run_sz {t : TypeId} {n : Nat} (h : tsz P t = some n) (w : World) : (sizeOf t).run P w = .ok n w := by
  unfold tsz at h
  cases hi : P.info? t with
  | none => simp [hi] at h
  | some i => simp [hi] at h; simp [sizeOf, run_inf hi, h]
theorem run_isAgg {t : TypeId} {d : TypeDesc} (h : P.underlying t = some d) (w : World) : (isAgg t).run P w = .ok (isAggD d) w := by
  simp only [isAgg, Sem.run_bind, run_und h, Result.andThen_ok]
  cases d <;> rfl

theorem cellA_ok {v : Value} {a : AV} (h : cellA v = some a) : VR ρ a v := by
  unfold cellA at h
  split at h <;> simp at h <;> subst h <;> simp [VR]

theorem cellsA_ok : ∀ {vs : List Value} {as : List AV}, cellsA vs = some as → LR ρ as vs
  | [], _, h => by simp [cellsA] at h; subst h; exact LR.nil
  | v :: vs, _, h => by
    simp only [cellsA] at h
    split at h
    · rename_i a as ha has
      simp at h; subst h
      exact LR.cons (cellA_ok ha) (cellsA_ok has)
    · simp at h

theorem constA_ok {v : Value} {a : AV} (h : constA v = some a) : VR ρ a v := by
  unfold constA at h
  split at h
  · rename_i cs
    simp only [Option.map_eq_some_iff] at h
    obtain ⟨as, h1, rfl⟩ := h
    simp only [VR]; exact ⟨cs.toList, by simp, cellsA_ok h1⟩
  · exact cellA_ok h

theorem zeroA_ok {t : TypeId} {a : AV} (h : zeroA P t = some a) : ∃ v, VR ρ a v ∧ ∀ w, (zeroValue t).run P w = .ok v w := by
  unfold zeroA at h
  split at h
  · rename_i i hi
    simp only [Option.bind_eq_some_iff] at h
    obtain ⟨z, hz, hc⟩ := h
    exact ⟨z, constA_ok hc, fun w => by simp [zeroValue, run_inf hi, hz]⟩
  · simp at h

/-! ### Parts -/

theorem LR.extract {as : List AV} {vs : List Value} (h : LR ρ as vs) (o n : Nat) : LR ρ ((as.drop o).take n) ((⟨vs⟩ : Array Value).extract o (o + n)).toList := by
  have : ((⟨vs⟩ : Array Value).extract o (o + n)).toList = (vs.drop o).take n := by simp
  rw [this]; exact LR.take n (LR.drop o h)

theorem partA_ok {t : TypeId} {cs : List AV} {vs : List Value} {off : Nat} {a : AV} (hl : LR ρ cs vs) (h : partA P t cs off = some a) : Yv ρ P (part t ⟨vs⟩ off) a := by
  unfold partA at h
  split at h
  · rename_i d n hd hn
    cases hg : isAggD d
    · simp only [hg, cond_false] at h
      obtain ⟨v, hv, hr⟩ := LR.get hl h
      refine ⟨v, hr, fun w => ?_⟩
      simp only [part, Sem.run_bind, run_isAgg hd, hg, Result.andThen_ok]
      simp [hv]
    · simp only [hg, cond_true] at h
      split at h
      · simp at h; subst h
        refine ⟨.agg ((⟨vs⟩ : Array Value).extract off (off + n)), ?_, fun w => ?_⟩
        · simp only [VR]; exact ⟨_, by simp, LR.extract hl off n⟩
        · simp only [part, Sem.run_bind, run_isAgg hd, hg, Result.andThen_ok]
          simp [run_sz hn]
      · simp at h
  · simp at h

/-! ### Whole numbers, strings -/

theorem intBin_ok {op : BinOp} {k : IntKind} {a b : Int} {r : AV} (hs : op ≠ .shl) (hs' : op ≠ .shr) (t : TypeId) (h : intBin op k a b = some r) : Yv ρ P (binOp op t (.int k a) (.int k b)) r := by
  cases op <;> first
    | exact absurd rfl hs
    | exact absurd rfl hs'
    | (simp only [intBin, Option.some.injEq] at h
       subst h
       first
        | exact ⟨_, VR.mkInt, fun w => by simp [binOp, Op.intArith, Op.intBits, Op.intCmp]⟩
        | exact ⟨_, VR.mkBool, fun w => by simp [binOp, Op.intArith, Op.intBits, Op.intCmp]⟩)
    | (simp only [intBin] at h
       split at h
       · simp at h
       · rename_i hb
         simp at h; subst h; exact ⟨_, VR.mkInt, fun w => by simp [binOp, Op.intDiv, hb]⟩)

theorem shiftA_ok {op : BinOp} {k k' : IntKind} {a b : Int} {r : AV} (hop : op = .shl ∨ op = .shr) (t : TypeId) (h : shiftA op k a b = some r) : Yv ρ P (binOp op t (.int k a) (.int k' b)) r := by
  unfold shiftA at h
  split at h
  · simp at h
  · rename_i hb
    rcases hop with rfl | rfl
    · simp at h; subst h; exact ⟨_, VR.mkInt, fun w => by simp [binOp, Op.shift, hb]⟩
    · simp at h; subst h; exact ⟨_, VR.mkInt, fun w => by simp [binOp, Op.shift, hb]⟩

theorem strBin_ok {op : BinOp} {a b : List UInt8} {r : AV} (t : TypeId) (h : strBin op a b = some r) : Yv ρ P (binOp op t (.string ⟨a.toArray⟩) (.string ⟨b.toArray⟩)) r := by
  cases op <;> simp only [strBin] at h <;> try (simp at h; done)
  · split at h
    · simp at h
    · rename_i hb
      simp at h; subst h
      refine ⟨.string (⟨a.toArray⟩ ++ ⟨b.toArray⟩), ?_, fun w => ?_⟩
      · simp only [VR]; congr 1
      · have hm : IntKind.i64.max = 9223372036854775807 := rfl
        have : (a.length : Int) + (b.length : Int) ≤ 9223372036854775807 := by omega
        simp [binOp, Op.stringOp, ByteArray.size, this]
  all_goals (simp only [Option.some.injEq] at h; subst h; exact ⟨_, VR.mkBool, fun w => by simp [binOp, Op.stringOp]⟩)

/-! ### Equality -/

theorem Op.bytes_beq (a b : List UInt8) : ((⟨a.toArray⟩ : ByteArray) == ⟨b.toArray⟩) = (a == b) := by
  rw [beq_toListBytes]; simp

mutual
theorem eqA_ok : ∀ (d D : Nat) (t : TypeId) (x y : AV) (u v : Value) (r : Bool), d ≤ D → VR ρ x u → VR ρ y v → eqA P d t x y = some r → ∀ w, (Op.equalIn D t u v).run P w = .ok r w
  | 0, _, _, _, _, _, _, _, _, _, _, h => by simp [eqA] at h
  | d + 1, 0, _, _, _, _, _, _, hd, _, _, _ => by omega
  | d + 1, D + 1, t, x, y, u, v, r, hd, hx, hy, h => by
    intro w
    unfold eqA at h
    split at h
    · rename_i ht; simp only [VR] at hx hy; subst hx hy; simp at h; subst h; simp [Op.equalIn, run_und ht]
    · rename_i ht; simp only [VR] at hx hy; subst hx hy
      split at h
      · rename_i hk; subst hk; simp at h; subst h; simp [Op.equalIn, run_und ht]
      · simp at h
    · rename_i ht; simp only [VR] at hx hy; subst hx hy; simp at h; subst h
      simp only [Op.equalIn, Sem.run_bind, run_und ht, Result.andThen_ok, Sem.run_pure, Op.bytes_beq]
    · rename_i b ht; simp only [VR] at hx; subst hx; simp at h; subst h
      cases b with
      | none => simp only [VR] at hy; subst hy; simp [Op.equalIn, run_und ht]
      | some p => obtain ⟨i, o⟩ := p; simp only [VR] at hy; obtain ⟨b, s, z, _, rfl⟩ := hy; simp [Op.equalIn, run_und ht]
    · rename_i p ht; simp only [VR] at hy; subst hy; simp at h; subst h
      obtain ⟨i, o⟩ := p; simp only [VR] at hx; obtain ⟨b, s, z, _, rfl⟩ := hx; simp [Op.equalIn, run_und ht]
    · rename_i b _ _ _ ht; simp only [VR] at hx; obtain ⟨_, _, rfl⟩ := hx; simp at h; subst h
      cases b with
      | none => simp only [VR] at hy; obtain ⟨_, _, rfl⟩ := hy; simp [Op.equalIn, run_und ht]
      | some p => obtain ⟨i, o⟩ := p; simp only [VR] at hy; obtain ⟨b, s, z, o', c, _, rfl, _⟩ := hy; simp [Op.equalIn, run_und ht]
    · rename_i p _ _ _ _ _ _ ht; simp only [VR] at hy; obtain ⟨_, _, rfl⟩ := hy; simp at h; subst h
      obtain ⟨i, o⟩ := p; simp only [VR] at hx; obtain ⟨b, s, z, o', c, _, rfl, _⟩ := hx; simp [Op.equalIn, run_und ht]
    · rename_i b ht; simp only [VR] at hx; subst hx; simp at h; subst h
      cases b with
      | none => simp only [VR] at hy; subst hy; simp [Op.equalIn, run_und ht]
      | some p => simp only [VR] at hy; obtain ⟨b, s, z, _, rfl⟩ := hy; simp [Op.equalIn, run_und ht]
    · rename_i p ht; simp only [VR] at hy; subst hy; simp at h; subst h
      simp only [VR] at hx; obtain ⟨b, s, z, _, rfl⟩ := hx; simp [Op.equalIn, run_und ht]
    · rename_i ht; simp only [VR] at hx hy; subst hx hy; simp at h; subst h; simp [Op.equalIn, run_und ht]
    · rename_i ht; simp only [VR] at hx hy; subst hx; obtain ⟨_, _, rfl, _⟩ := hy; simp at h; subst h; simp [Op.equalIn, run_und ht]
    · rename_i ht; simp only [VR] at hx hy; subst hy; obtain ⟨_, _, rfl, _⟩ := hx; simp at h; subst h; simp [Op.equalIn, run_und ht]
    · rename_i ht; simp only [VR] at hx hy; subst hx hy; simp at h; subst h; simp [Op.equalIn, run_und ht]
    · rename_i ht; simp only [VR] at hx hy; subst hx; obtain ⟨_, rfl, _⟩ := hy; simp at h; subst h; simp [Op.equalIn, run_und ht]
    · rename_i ht; simp only [VR] at hx hy; subst hy; obtain ⟨_, rfl, _⟩ := hx; simp at h; subst h; simp [Op.equalIn, run_und ht]
    · rename_i fs xs ys ht
      simp only [VR] at hx hy
      obtain ⟨us, rfl, hus⟩ := hx
      obtain ⟨vs, rfl, hvs⟩ := hy
      split at h
      · rename_i hs
        have hf : P.fieldsOf t = fs := by simp [Program.fieldsOf, ht]
        rw [run_equalIn_struct w D t ⟨us⟩ ⟨vs⟩ (by rw [hf]; exact ht) hs, hf]
        exact eqFields_ok d D fs.toList xs ys us vs r (by omega) hus hvs h w
      · simp at h
    · simp at h
theorem eqFields_ok : ∀ (d D : Nat) (fs : List Field) (xs ys : List AV) (us vs : List Value) (r : Bool), d ≤ D → LR ρ xs us → LR ρ ys vs → eqFields P d fs xs ys = some r → ∀ w, (Op.eqFields D ⟨us⟩ ⟨vs⟩ fs).run P w = .ok r w
  | 0, _, _, _, _, _, _, _, _, _, _, h => by simp [eqFields] at h
  | d + 1, D, [], _, _, _, _, _, _, _, _, h => by simp [eqFields] at h; subst h; intro w; simp [Op.eqFields]
  | d + 1, D, f :: fs, xs, ys, us, vs, r, hd, hx, hy, h => by
    intro w
    unfold eqFields at h
    split at h
    · rename_i hn
      simp only [Op.eqFields, hn, ne_eq, not_true_eq_false, if_false]
      exact eqFields_ok d D fs xs ys us vs r (by omega) hx hy h w
    · rename_i hn
      simp only [Op.eqFields, ne_eq, hn, not_false_eq_true, if_true]
      split at h
      · rename_i a b ha hb
        obtain ⟨p, hp, hpr⟩ := partA_ok hx ha
        obtain ⟨q, hq, hqr⟩ := partA_ok hy hb
        simp only [Sem.run_bind, hpr, hqr, Result.andThen_ok]
        split at h
        · rename_i he
          rw [eqA_ok d D f.type a b p q true (by omega) hp hq he w]
          simp only [Result.andThen_ok, Bool.not_true, Bool.false_eq_true, if_false]
          exact eqFields_ok d D fs xs ys us vs r (by omega) hx hy h w
        · rename_i he
          simp at h; subst h
          rw [eqA_ok d D f.type a b p q false (by omega) hp hq he w]
          simp
        · simp at h
      · simp at h
end

theorem eqGuard_ok {op : BinOp} {t : TypeId} {x y : Operand} {a b : AV} {u v : Value} (hx : VR ρ a u) (hy : VR ρ b v) (h : guardOk P op t x y a b = true) (w : World) : (eqGuard op t x y u v).run P w = .ok () w := by
  by_cases hop : op = .eql ∨ op = .neq
  · have hagg : ∀ us vs, u = .agg us → v = .agg vs → P.eqGuardType P.depth t = false := by
      rintro us vs rfl rfl
      obtain ⟨as, rfl⟩ := hx.agg_inv
      obtain ⟨bs, rfl⟩ := hy.agg_inv
      rcases hop with rfl | rfl <;> simpa [guardOk] using h
    have hnil : u = .nilIface → v = .nilIface → isConstB x = true ∨ isConstB y = true := by
      rintro rfl rfl
      obtain rfl := hx.nil_inv
      obtain rfl := hy.nil_inv
      rcases hop with rfl | rfl <;> simpa [guardOk] using h
    by_cases ha : ∃ us vs, u = .agg us ∧ v = .agg vs
    · obtain ⟨us, vs, rfl, rfl⟩ := ha
      exact run_eqGuard_agg w op t x y us vs (hagg us vs rfl rfl)
    by_cases hn : u = .nilIface ∧ v = .nilIface
    · obtain ⟨rfl, rfl⟩ := hn
      have hc := hnil rfl rfl
      clear hagg hnil h hx hy ha
      rcases hc with hc | hc
      · cases x with
        | const v => rcases hop with rfl | rfl <;> simp [eqGuard]
        | _ => simp [isConstB] at hc
      · cases y with
        | const v => rcases hop with rfl | rfl <;> (cases x <;> simp [eqGuard])
        | _ => simp [isConstB] at hc
    · rcases hop with rfl | rfl
      · simp only [eqGuard]
        split
        · simp
        · split
          · rename_i hu hv; exact absurd ⟨rfl, rfl⟩ hn
          · rename_i us vs; exact absurd ⟨us, vs, rfl, rfl⟩ ha
          · rfl
      · simp only [eqGuard]
        split
        · simp
        · split
          · rename_i hu hv; exact absurd ⟨rfl, rfl⟩ hn
          · rename_i us vs; exact absurd ⟨us, vs, rfl, rfl⟩ ha
          · rfl
  · clear h
    cases op with
    | eql => exact absurd (.inl rfl) hop
    | neq => exact absurd (.inr rfl) hop
    | _ => simp [eqGuard]

end
end Go.Am

namespace Go.Am
open Go

theorem addr_add (b o n : Nat) : (⟨b, o, none⟩ : Addr).add n = ⟨b, o + n, none⟩ := by
  unfold Addr.add; split
  · rename_i h; subst h; rfl
  · rfl

section
variable {P : Program} {ρ : Ren}

theorem VR.int_inv {a : AV} {k : IntKind} {n : Int} (h : VR ρ a (.int k n)) : a = .int k n := by
  cases a with
  | int k' n' => simp only [VR, Value.int.injEq] at h; obtain ⟨rfl, rfl⟩ := h; rfl
  | ptr p => cases p <;> simp [VR] at h
  | slice p => cases p <;> simp [VR] at h
  | map r => cases r <;> simp [VR] at h
  | _ => simp [VR] at h
theorem VR.str_inv {a : AV} {s : ByteArray} (h : VR ρ a (.string s)) : a = .str s.data.toList := by
  cases a with
  | str l => simp only [VR, Value.string.injEq] at h; subst h; simp
  | ptr p => cases p <;> simp [VR] at h
  | slice p => cases p <;> simp [VR] at h
  | map r => cases r <;> simp [VR] at h
  | _ => simp [VR] at h
theorem VR.not_float {a : AV} {k : FloatKind} {n : Nat} (h : VR ρ a (.float k n)) : False := by
  cases a with
  | ptr p => cases p <;> simp [VR] at h
  | slice p => cases p <;> simp [VR] at h
  | map r => cases r <;> simp [VR] at h
  | _ => simp [VR] at h
theorem VR.not_complex {a : AV} {k : FloatKind} {n m : Nat} (h : VR ρ a (.complex k n m)) : False := by
  cases a with
  | ptr p => cases p <;> simp [VR] at h
  | slice p => cases p <;> simp [VR] at h
  | map r => cases r <;> simp [VR] at h
  | _ => simp [VR] at h

theorem binOp_eql_gen (t : TypeId) {u v : Value} (h1 : ∀ k a k' b, u = .int k a → v = .int k' b → False) (h2 : ∀ a b, u = .string a → v = .string b → False)
    (h3 : ∀ k a, u = .float k a → False) (h4 : ∀ k a b, u = .complex k a b → False) : binOp .eql t u v = (do pure (.bool (← Op.equal t u v))) := by
  cases u with
  | int k a => cases v with
    | int k' b => exact (h1 _ _ _ _ rfl rfl).elim
    | _ => rfl
  | string a => cases v with
    | string b => exact (h2 _ _ rfl rfl).elim
    | _ => rfl
  | float k a => exact (h3 _ _ rfl).elim
  | complex k a b => exact (h4 _ _ _ rfl).elim
  | _ => cases v <;> rfl
theorem binOp_neq_gen (t : TypeId) {u v : Value} (h1 : ∀ k a k' b, u = .int k a → v = .int k' b → False) (h2 : ∀ a b, u = .string a → v = .string b → False)
    (h3 : ∀ k a, u = .float k a → False) (h4 : ∀ k a b, u = .complex k a b → False) : binOp .neq t u v = (do pure (.bool (!(← Op.equal t u v)))) := by
  cases u with
  | int k a => cases v with
    | int k' b => exact (h1 _ _ _ _ rfl rfl).elim
    | _ => rfl
  | string a => cases v with
    | string b => exact (h2 _ _ rfl rfl).elim
    | _ => rfl
  | float k a => exact (h3 _ _ rfl).elim
  | complex k a b => exact (h4 _ _ _ rfl).elim
  | _ => cases v <;> rfl

theorem binA_ok {op : BinOp} {t : TypeId} {a b r : AV} {u v : Value} (hx : VR ρ a u) (hy : VR ρ b v) (h : binA P op t a b = some r) : Yv ρ P (binOp op t u v) r := by
  unfold binA at h
  split at h
  · simp only [VR] at hx hy; subst hx hy; exact shiftA_ok (.inl rfl) t h
  · simp only [VR] at hx hy; subst hx hy; exact shiftA_ok (.inr rfl) t h
  · rename_i hs hs'
    simp only [VR] at hx hy; subst hx hy
    split at h
    · rename_i hk; subst hk
      refine intBin_ok (fun e => ?_) (fun e => ?_) t h
      · subst e; simp [intBin] at h
      · subst e; simp [intBin] at h
    · simp at h
  · simp only [VR] at hx hy; subst hx hy; exact strBin_ok t h
  · rename_i n1 n2
    simp only [Option.map_eq_some_iff] at h
    obtain ⟨q, hq, rfl⟩ := h
    refine ⟨.bool q, VR.mkBool, fun w => ?_⟩
    rw [binOp_eql_gen t (fun k a' k' b' e1 e2 => ?_) (fun a' b' e1 e2 => ?_) (fun k a' e => ?_) (fun k a' b' e => ?_)]
    · simp only [Sem.run_bind, Op.equal]
      rw [eqA_ok eqDepth Op.maxDepth t a b u v q (by decide) hx hy hq w]; simp
    · subst e1 e2; exact n1 _ _ _ _ hx.int_inv hy.int_inv
    · subst e1 e2; exact n2 _ _ hx.str_inv hy.str_inv
    · subst e; exact hx.not_float
    · subst e; exact hx.not_complex
  · rename_i n1 n2
    simp only [Option.map_eq_some_iff] at h
    obtain ⟨q, hq, rfl⟩ := h
    refine ⟨.bool (!q), VR.mkBool, fun w => ?_⟩
    rw [binOp_neq_gen t (fun k a' k' b' e1 e2 => ?_) (fun a' b' e1 e2 => ?_) (fun k a' e => ?_) (fun k a' b' e => ?_)]
    · simp only [Sem.run_bind, Op.equal]
      rw [eqA_ok eqDepth Op.maxDepth t a b u v q (by decide) hx hy hq w]; simp
    · subst e1 e2; exact n1 _ _ _ _ hx.int_inv hy.int_inv
    · subst e1 e2; exact n2 _ _ hx.str_inv hy.str_inv
    · subst e; exact hx.not_float
    · subst e; exact hx.not_complex
  · simp at h

theorem unA_ok {op : UnOp} {a r : AV} {u : Value} (hx : VR ρ a u) (h : unA op a = some r) : Yv ρ P (Op.unary op u) r := by
  unfold unA at h
  split at h
  · simp only [VR] at hx; subst hx; simp only [Option.some.injEq] at h; subst h; exact ⟨_, VR.mkInt, fun w => by simp [Op.unary, Op.intArith]⟩
  · simp only [VR] at hx; subst hx; simp only [Option.some.injEq] at h; subst h; exact ⟨_, VR.mkInt, fun w => by simp [Op.unary, Op.intBits]⟩
  · simp only [VR] at hx; subst hx; simp only [Option.some.injEq] at h; subst h; exact ⟨_, VR.mkBool, fun w => by simp [Op.unary]⟩
  · simp at h

theorem convA_ok {s d : TypeId} {a r : AV} {u : Value} (hx : VR ρ a u) (h : convA P s d a = some r) : Yv ρ P (convert s d u) r := by
  unfold convA at h
  split at h
  · rename_i e1 e2
    simp only [VR] at hx; subst hx; simp only [Option.some.injEq] at h; subst h
    exact ⟨_, VR.mkInt, fun w => by simp [convert, run_und e1, run_und e2, Conv.intToInt]⟩
  · rename_i e1 e2
    simp only [VR] at hx; subst hx; simp only [Option.some.injEq] at h; subst h
    exact ⟨_, VR.mkStr, fun w => by simp [convert, run_und e1, run_und e2]⟩
  · simp at h

/-! ### Bounds -/

def OVR (ρ : Ren) : Option AV → Option Value → Prop
  | none, v => v = none
  | some a, v => ∃ u, v = some u ∧ VR ρ a u

theorem boundA_some {a : AV} {d y n : Nat} {u : Value} (hx : VR ρ a u) (h : boundA (some a) d y = some n) : n ≤ y ∧ ∀ y', y ≤ y' → ∀ c w, (Instr.sliceBound u y' c).run P w = .ok n w := by
  unfold boundA at h
  split at h
  · simp at *
  · rename_i k m e
    simp only [Option.some.injEq] at e; subst e
    simp only [VR] at hx; subst hx
    split at h
    · rename_i hb
      simp only [Option.some.injEq] at h; subst h
      refine ⟨by omega, fun y' hy c w => ?_⟩
      have hb' : 0 ≤ m ∧ m ≤ (y' : Int) := by omega
      simp [Instr.sliceBound, asIntOf, hb']
    · simp at h
  · simp at h

theorem boundA_le {o : Option AV} {y z n : Nat} (h : boundA o y z = some n) : o = none ∧ n = y ∨ o.isSome = true ∧ n ≤ z := by
  unfold boundA at h
  split at h
  · simp at h; exact .inl ⟨rfl, h.symm⟩
  · split at h
    · simp at h; exact .inr ⟨rfl, by omega⟩
    · simp at h
  · simp at h

theorem boundsA_ok {len cap capC : Nat} {lo hi mx : Option AV} {lo' hi' mx' : Option Value} {l h m : Nat} (b : Bool) (hlo : OVR ρ lo lo') (hhi : OVR ρ hi hi') (hmx : OVR ρ mx mx')
    (hc : cap ≤ capC) (hm : ¬ (mx.isSome = true ∧ hi.isNone = true)) (e : boundsA len cap lo hi mx = some (l, h, m)) :
    ∃ mC, l ≤ h ∧ h ≤ m ∧ m ≤ cap ∧ m ≤ mC ∧ mC ≤ capC ∧ (mC = m ∨ mC = capC ∧ m = cap) ∧ ∀ w, (Instr.sliceBounds b len capC lo' hi' mx').run P w = .ok (l, h, mC) w := by
  unfold boundsA at e
  split at e
  · simp at e
  rename_i m' em
  split at e
  · simp at e
  rename_i h' eh
  split at e
  rotate_left
  · simp at e
  rename_i hle
  split at e
  · simp at e
  rename_i l' el
  split at e
  rotate_left
  · simp at e
  rename_i hl
  simp only [Option.some.injEq, Prod.mk.injEq] at e
  obtain ⟨rfl, rfl, rfl⟩ := e
  have low : lo' = none ∧ l' = 0 ∨ ∃ u, lo' = some u ∧ ∀ c w, (Instr.sliceBound u h' c).run P w = .ok l' w := by
    cases lo with
    | none => simp only [OVR] at hlo; subst hlo; simp [boundA] at el; exact .inl ⟨rfl, el.symm⟩
    | some a => simp only [OVR] at hlo; obtain ⟨u, rfl, hu⟩ := hlo; exact .inr ⟨u, rfl, (boundA_some hu el).2 _ (Nat.le_refl _)⟩
  cases mx with
  | none =>
    simp only [OVR] at hmx; subst hmx
    simp [boundA] at em; subst em
    refine ⟨capC, hl, hle, Nat.le_refl _, hc, Nat.le_refl _, .inr ⟨rfl, rfl⟩, fun w => ?_⟩
    cases hi with
    | none =>
      simp only [OVR] at hhi; subst hhi
      simp [boundA] at eh; subst eh
      rcases low with ⟨rfl, rfl⟩ | ⟨u, rfl, hu⟩
      · simp [Instr.sliceBounds]
      · simp [Instr.sliceBounds, hu]
    | some a =>
      simp only [OVR] at hhi; obtain ⟨u, rfl, hu⟩ := hhi
      have hr := (boundA_some (P := P) hu eh).2 capC hc
      rcases low with ⟨rfl, rfl⟩ | ⟨u', rfl, hu'⟩
      · simp [Instr.sliceBounds, hr]
      · simp [Instr.sliceBounds, hr, hu']
  | some x =>
    simp only [OVR] at hmx; obtain ⟨ux, rfl, hux⟩ := hmx
    have hb := boundA_some (P := P) hux em
    refine ⟨m', hl, hle, hb.1, Nat.le_refl _, Nat.le_trans hb.1 hc, .inl rfl, fun w => ?_⟩
    have hb2 := hb.2 capC hc
    cases hi with
    | none => exact absurd ⟨rfl, rfl⟩ hm
    | some a =>
      simp only [OVR] at hhi; obtain ⟨u, rfl, hu⟩ := hhi
      have hr := (boundA_some (P := P) hu eh).2 m' (Nat.le_refl _)
      rcases low with ⟨rfl, rfl⟩ | ⟨u', rfl, hu'⟩
      · simp [Instr.sliceBounds, hr, hb2]
      · simp [Instr.sliceBounds, hr, hb2, hu']

theorem extract_data (l : List UInt8) (a b : Nat) : (⟨l.toArray⟩ : ByteArray).extract a b = ⟨((l.drop a).take (b - a)).toArray⟩ := by
  apply ByteArray.ext; simp

theorem sliceA_ok {t : TypeId} {a r : AV} {u : Value} {lo hi mx : Option AV} {lo' hi' mx' : Option Value} (hx : VR ρ a u) (hlo : OVR ρ lo lo') (hhi : OVR ρ hi hi') (hmx : OVR ρ mx mx')
    (h : sliceA P t a lo hi mx = some r) : Yv ρ P (Instr.sliceAt t u lo' hi' mx') r := by
  unfold sliceA at h
  split at h
  · rename_i s ht
    simp only [VR] at hx; subst hx
    split at h
    · simp at h
    · rename_i hm
      split at h
      · rename_i l k m e
        simp only [Option.some.injEq] at h; subst h
        cases mx with
        | some x => simp at hm
        | none =>
          simp only [OVR] at hmx; subst hmx
          obtain ⟨mC, h1, h2, h3, h4, h5, h6, hr⟩ := boundsA_ok (P := P) false hlo hhi (by simp [OVR] : OVR ρ none none) (Nat.le_refl s.length) (by simp) e
          refine ⟨_, VR.mkStr, fun w => ?_⟩
          simp only [Instr.sliceAt, Sem.run_bind, run_und ht, Result.andThen_ok, Instr.slice, Option.isSome_none, Bool.false_eq_true, if_false, pure_bind]
          have hsz : (⟨s.toArray⟩ : ByteArray).size = s.length := by simp [ByteArray.size]
          rw [hsz, hr w]
          simp [extract_data]
      · simp at h
  · rename_i e a' len cap sz ht
    split at h
    · simp at h
    · rename_i hm
      split at h
      · rename_i l k m n eb en
        cases a' with
        | none =>
          simp only [Option.some.injEq] at h; subst h
          simp only [VR] at hx; obtain ⟨rfl, rfl, rfl⟩ := hx
          obtain ⟨mC, h1, h2, h3, h4, h5, h6, hr⟩ := boundsA_ok (P := P) true hlo hhi hmx (Nat.le_refl 0) hm eb
          refine ⟨.slice none 0 0, by simp [VR], fun w => ?_⟩
          simp only [Instr.sliceAt, Sem.run_bind, run_und ht, Result.andThen_ok, Instr.slice, hr w, run_sz en]
          have e1 : k - l = 0 := by omega
          have e2 : mC - l = 0 := by omega
          simp [e1, e2]
        | some p =>
          obtain ⟨i, o⟩ := p
          simp only [] at h
          split at h
          · rename_i hn; subst hn
            simp only [Option.some.injEq] at h; subst h
            simp only [VR] at hx; obtain ⟨b, s, z, o', capC, hρ, rfl, hl1, hl2, hl3, hl4⟩ := hx
            obtain ⟨mC, h1, h2, h3, h4, h5, h6, hr⟩ := boundsA_ok (P := P) true hlo hhi hmx hl2 hm eb
            by_cases hml : mC = l
            · refine ⟨.slice (some ⟨b, o', none⟩) (k - l) (mC - l), ?_, fun w => ?_⟩
              · simp only [VR]
                refine ⟨b, s, z, o', mC - l, hρ, rfl, by omega, by omega, ?_, .inl (by omega)⟩
                have : mC - l = 0 := by omega
                rw [this, Nat.zero_mul]
                have := Nat.zero_le (capC * n); omega
              · simp only [Instr.sliceAt, Sem.run_bind, run_und ht, Result.andThen_ok, Instr.slice, hr w, run_sz en]
                simp [hml]
            · refine ⟨.slice (some ⟨b, o' + l * n, none⟩) (k - l) (mC - l), ?_, fun w => ?_⟩
              · simp only [VR]
                refine ⟨b, s, z, o' + l * n, mC - l, hρ, rfl, by omega, by omega, ?_, ?_⟩
                · have e1 : l * n + (mC - l) * n = mC * n := by rw [← Nat.add_mul]; congr 1; omega
                  have e2 : mC * n ≤ capC * n := Nat.mul_le_mul_right _ h5
                  omega
                · rcases hl4 with h0 | h0
                  · exact .inl (by omega)
                  · exact .inr (by omega)
              · simp only [Instr.sliceAt, Sem.run_bind, run_und ht, Result.andThen_ok, Instr.slice, hr w, run_sz en]
                simp [hml, addr_add]
          · simp at h
      · simp at h
  · simp at h

theorem toList_get {α : Type} (xs : Array α) (i : Nat) : xs.toList[i]? = xs[i]? := by simp

theorem fieldAtA_ok {s : TypeId} {a r : AV} {u : Value} {f : Nat} (hx : VR ρ a u) (h : fieldAtA P s a f = some r) : Yv ρ P (Instr.fieldAt s u f) r := by
  unfold fieldAtA at h
  split at h
  · rename_i fs i o ht
    split at h
    · rename_i fd hf
      split at h
      · simp at h
      · rename_i n hz hn
        simp only [Option.some.injEq] at h; subst h
        simp only [VR] at hx; obtain ⟨b, s', z, hρ, rfl⟩ := hx
        refine ⟨.pointer (some ⟨b, s' + o + fd.offset, none⟩), ?_, fun w => ?_⟩
        · simp only [VR]; exact ⟨b, s', z, hρ, by rw [Nat.add_assoc]⟩
        · rw [toList_get] at hf
          have hn0 : n ≠ 0 := hz
          simp only [Instr.fieldAt, Sem.run_bind, run_und ht, Result.andThen_ok, hf, Instr.sureAddr, pure_bind, fieldPlace, run_sz hn, hn0, if_false, Sem.run_pure, addr_add]
      · simp at h
    · simp at h
  · simp at h

theorem indexAtA_ok {t : TypeId} {a ix r : AV} {u ux : Value} (hx : VR ρ a u) (hi : VR ρ ix ux) (h : indexAtA P t a ix = some r) : Yv ρ P (Instr.indexAt t u ux) r := by
  unfold indexAtA at h
  split at h
  · rename_i n e i o k m ht
    split at h
    · rename_i s hs
      split at h
      · rename_i hb
        simp only [Option.some.injEq] at h; subst h
        simp only [VR] at hx hi; obtain ⟨b, s', z, hρ, rfl⟩ := hx; subst hi
        refine ⟨.pointer (some ⟨b, s' + o + m.toNat * s, none⟩), ?_, fun w => ?_⟩
        · simp only [VR]; exact ⟨b, s', z, hρ, by rw [Nat.add_assoc]⟩
        · simp [Instr.indexAt, asIntOf, run_und ht, Instr.sureAddr, hb, run_sz hs, addr_add]
      · simp at h
    · simp at h
  · rename_i e i o len cap sz k m ht
    split at h
    · rename_i s hs
      split at h
      · rename_i hb
        simp only [Option.some.injEq] at h; subst h
        simp only [VR] at hx hi; obtain ⟨b, s', z, o', capC, hρ, rfl, h1, h2, h3, h4⟩ := hx; subst hi
        have ho : o' = s' + o := by rcases h4 with h4 | h4 <;> omega
        subst ho
        refine ⟨.pointer (some ⟨b, s' + o + m.toNat * s, none⟩), ?_, fun w => ?_⟩
        · simp only [VR]; exact ⟨b, s', z, hρ, by rw [Nat.add_assoc]⟩
        · simp [Instr.indexAt, asIntOf, run_und ht, hb, run_sz hs, addr_add]
      · simp at h
    · simp at h
  · simp at h

theorem indexA_ok {t : TypeId} {a ix r : AV} {u ux : Value} (hx : VR ρ a u) (hi : VR ρ ix ux) (h : indexA P t a ix = some r) : Yv ρ P (Instr.index t u ux) r := by
  unfold indexA at h
  split at h
  · rename_i n e cs k m ht
    split at h
    · rename_i s hs
      split at h
      · rename_i hb
        simp only [VR] at hx hi; obtain ⟨vs, rfl, hl⟩ := hx; subst hi
        obtain ⟨v, hv, hr⟩ := partA_ok hl h
        exact ⟨v, hv, fun w => by simp [Instr.index, asIntOf, run_und ht, hb, run_sz hs, hr]⟩
      · simp at h
    · simp at h
  · rename_i l k m ht
    split at h
    · rename_i hb
      split at h
      · rename_i c hc
        simp only [Option.some.injEq] at h; subst h
        simp only [VR] at hx hi; subst hx hi
        refine ⟨_, VR.mkInt, fun w => ?_⟩
        have : (⟨l.toArray⟩ : ByteArray)[m.toNat]? = some c := by
          have hlt : m.toNat < l.length := by
            rcases Nat.lt_or_ge m.toNat l.length with h' | h'
            · exact h'
            · simp [List.getElem?_eq_none h'] at hc
          have hlt' : m.toNat < (⟨l.toArray⟩ : ByteArray).size := by simpa [ByteArray.size] using hlt
          rw [getElem?_pos (⟨l.toArray⟩ : ByteArray) m.toNat hlt']
          rw [List.getElem?_eq_getElem hlt] at hc
          simp only [Option.some.injEq] at hc ⊢
          rw [← hc]; rfl
        simp [Instr.index, asIntOf, run_und ht, hb, this]
      · simp at h
    · simp at h
  · simp at h

theorem fieldA_ok {t : TypeId} {a r : AV} {u : Value} {f : Nat} (hx : VR ρ a u) (h : fieldA P t a f = some r) : Yv ρ P (Instr.field t u f) r := by
  unfold fieldA at h
  split at h
  · rename_i fs cs ht
    split at h
    · rename_i fd hf
      simp only [VR] at hx; obtain ⟨vs, rfl, hl⟩ := hx
      obtain ⟨v, hv, hr⟩ := partA_ok hl h
      rw [toList_get] at hf
      exact ⟨v, hv, fun w => by simp only [Instr.field, Sem.run_bind, run_und ht, Result.andThen_ok, hf, asAgg, Sem.run_pure, hr]⟩
    · simp at h
  · simp at h

theorem assertA_ok {x t : TypeId} {a r : AV} {u : Value} {ok : Bool} (hx : VR ρ a u) (h : assertA P a t ok = some r) : Yv ρ P (Instr.typeAssert u x t ok) r := by
  unfold assertA at h
  split at h
  · simp at h
  · rename_i d hni ht
    have hd : ∀ ms, d ≠ .interface ms := fun ms e => hni ms e
    split at h
    · simp only [Option.map_eq_some_iff] at h
      obtain ⟨z, hz, rfl⟩ := h
      obtain ⟨v, hv, hr⟩ := zeroA_ok (ρ := ρ) hz
      simp only [VR] at hx; subst hx
      refine ⟨.tuple ⟨[v, .bool false]⟩, VR.mkTuple (LR.cons hv (LR.cons VR.mkBool LR.nil)), fun w => ?_⟩
      simp only [Instr.typeAssert, Sem.run_bind, run_und ht, Result.andThen_ok]
      cases d <;> first | (exact absurd rfl (hd _)) | simp [hr]
    · rename_i t' y
      simp only [VR] at hx; obtain ⟨v, rfl, hv⟩ := hx
      split at h
      · rename_i e; subst e
        simp only [Option.some.injEq] at h; subst h
        refine ⟨.tuple ⟨[v, .bool true]⟩, VR.mkTuple (LR.cons hv (LR.cons VR.mkBool LR.nil)), fun w => ?_⟩
        simp only [Instr.typeAssert, Sem.run_bind, run_und ht, Result.andThen_ok]
        cases d <;> first | (exact absurd rfl (hd _)) | simp
      · rename_i hne
        simp only [Option.map_eq_some_iff] at h
        obtain ⟨z, hz, rfl⟩ := h
        obtain ⟨v', hv', hr⟩ := zeroA_ok (ρ := ρ) hz
        refine ⟨.tuple ⟨[v', .bool false]⟩, VR.mkTuple (LR.cons hv' (LR.cons VR.mkBool LR.nil)), fun w => ?_⟩
        simp only [Instr.typeAssert, Sem.run_bind, run_und ht, Result.andThen_ok]
        cases d <;> first | (exact absurd rfl (hd _)) | simp [hr, hne]
    · rename_i t' y
      simp only [VR] at hx; obtain ⟨v, rfl, hv⟩ := hx
      split at h
      · rename_i e; subst e
        simp only [Option.some.injEq] at h; subst h
        refine ⟨v, hv, fun w => ?_⟩
        simp only [Instr.typeAssert, Sem.run_bind, run_und ht, Result.andThen_ok]
        cases d <;> first | (exact absurd rfl (hd _)) | simp
      · simp at h
    · simp at h
  · simp at h

end
end Go.Am

namespace Go.Am
open Go

section
variable {P : Program} {ρ : Ren}

def putV : List Value → Nat → List Value → List Value
  | C, _, [] => C
  | C, o, v :: vs => putV (C.set o v) (o + 1) vs

theorem foldl_put (off : Nat) : ∀ (l : List Value) (k : Nat) (C : List Value),
    (l.zipIdx k).foldl (fun (cs : Array Value) (x : Value × Nat) => cs.setIfInBounds (off + x.2) x.1) ⟨C⟩ = (⟨putV C (off + k) l⟩ : Array Value)
  | [], _, _ => rfl
  | v :: l, k, C => by
    simp only [List.zipIdx_cons, List.foldl_cons, putV]
    have : (⟨C⟩ : Array Value).setIfInBounds (off + k) v = ⟨C.set (off + k) v⟩ := by simp
    rw [this, foldl_put off l (k + 1) _, Nat.add_assoc]

theorem putCells_LR : ∀ {new : List AV} {newV : List Value} {cs : List AV} {C : List Value} (o : Nat), LR ρ cs C → LR ρ new newV → LR ρ (putCells cs o new) (putV C o newV)
  | [], _, _, _, _, h, k => by simp only [LR] at k; subst k; exact h
  | a :: as, _, _, _, o, h, k => by
    simp only [LR] at k; obtain ⟨v, vs, rfl, hv, hvs⟩ := k
    exact putCells_LR (o + 1) (LR.set o h hv) hvs

theorem putCells_length : ∀ (new cs : List AV) (o : Nat), (putCells cs o new).length = cs.length
  | [], _, _ => rfl
  | a :: as, cs, o => by rw [putCells, putCells_length as]; simp

inductive PR (ρ : Ren) : List (Nat × AV) → List (Nat × Value) → Prop
  | nil : PR ρ [] []
  | cons {i a v as vs} : VR ρ a v → PR ρ as vs → PR ρ ((i, a) :: as) ((i, v) :: vs)

theorem fillA_ok (place : Nat → Option (Nat × Nat)) : ∀ {parts : List (Nat × AV)} {partsV : List (Nat × Value)} {cs r : List AV} {C : List Value}, PR ρ parts partsV → LR ρ cs C →
    fillA place cs parts = some r → ∃ R, Instr.fill place ⟨C⟩ partsV = some ⟨R⟩ ∧ LR ρ r R
  | [], _, _, _, _, hp, hc, h => by cases hp; simp [fillA] at h; subst h; exact ⟨_, rfl, hc⟩
  | (i, a) :: parts, _, cs, r, C, hp, hc, h => by
    cases hp with
    | cons hv hps =>
      rename_i v vs
      simp only [fillA] at h
      split at h
      · simp at h
      · rename_i off size hpl
        split at h
        · rename_i hb
          have hl := (VR.cells hv)
          have hlen : v.cells.size = a.cells.length := by simpa using hl.length
          have hC := hc.length
          have := putCells_LR off hc hl
          obtain ⟨R, hR, hRr⟩ := fillA_ok place (C := putV C off v.cells.toList) hps this h
          refine ⟨R, ?_, hRr⟩
          have e : v.cells.zipIdx.foldl (fun (cs : Array Value) (x : Value × Nat) => cs.setIfInBounds (off + x.2) x.1) ⟨C⟩ = (⟨putV C off v.cells.toList⟩ : Array Value) := by
            have := foldl_put off v.cells.toList 0 C
            rw [Nat.add_zero] at this
            rw [← this, ← Array.foldl_toList]; congr 1; simp
          have c1 : (v.cells.size != size || decide (off + v.cells.size > (⟨C⟩ : Array Value).size)) = false := by
            simp; omega
          simp only [Instr.fill, hpl]
          rw [if_neg (by simp; omega)]
          rw [← hR, ← e]
        · simp at h

theorem fillA_length {place : Nat → Option (Nat × Nat)} : ∀ {parts : List (Nat × AV)} {cs r : List AV}, fillA place cs parts = some r → r.length = cs.length
  | [], _, _, h => by simp [fillA] at h; subst h; rfl
  | (i, a) :: parts, cs, r, h => by
    simp only [fillA] at h
    split at h
    · simp at h
    · split at h
      · rw [fillA_length h, putCells_length]
      · simp at h

theorem fieldPlaces_ok : ∀ {fs : List Field} {pl : List (Nat × Nat)}, fieldPlaces P fs = some pl → ∀ w, (fs.mapM (fun f => do pure (f.offset, ← sizeOf f.type)) : Sem (List (Nat × Nat))).run P w = .ok pl w
  | [], _, h, w => by simp [fieldPlaces] at h; subst h; rfl
  | f :: fs, _, h, w => by
    simp only [fieldPlaces] at h
    split at h
    · rename_i n r hn hr
      simp only [Option.some.injEq] at h; subst h
      have := fieldPlaces_ok hr w
      simp only [List.mapM_cons, Sem.run_bind, run_sz hn, Result.andThen_ok, Sem.run_pure, this]
    · simp at h

theorem buildA_ok {t : TypeId} {parts : List (Nat × AV)} {partsV : List (Nat × Value)} {r : AV} (hp : PR ρ parts partsV) (h : buildA P t parts = some r) : Yv ρ P (Instr.build t partsV.toArray) r := by
  unfold buildA at h
  split at h
  · rename_i z fs hz ht
    obtain ⟨zv, hzv, hzr⟩ := zeroA_ok (ρ := ρ) hz
    split at h
    · rename_i pl hpl
      simp only [Option.map_eq_some_iff] at h
      obtain ⟨cs, hcs, rfl⟩ := h
      obtain ⟨R, hR, hRr⟩ := fillA_ok (fun i => pl[i]?) hp (VR.cells hzv) hcs
      refine ⟨.agg ⟨R⟩, VR.mkAgg hRr, fun w => ?_⟩
      simp only [Instr.build, Sem.run_bind, hzr, run_und ht, Result.andThen_ok]
      have hm : (fs.mapM (fun f => do pure (f.offset, ← sizeOf f.type)) : Sem (Array (Nat × Nat))).run P w = .ok pl.toArray w := by
        rw [Array.mapM_eq_mapM_toList]
        simp only [Sem.run_map, fieldPlaces_ok hpl w, Result.andThen_ok]
      rw [hm]
      simp only [Result.andThen_ok]
      have : Instr.fill (fun i => pl[i]?) zv.cells partsV = some ⟨R⟩ := by
        simpa using hR
      simp [this]
    · simp at h
  · rename_i z n e hz ht
    obtain ⟨zv, hzv, hzr⟩ := zeroA_ok (ρ := ρ) hz
    split at h
    · rename_i s hs
      simp only [Option.map_eq_some_iff] at h
      obtain ⟨cs, hcs, rfl⟩ := h
      obtain ⟨R, hR, hRr⟩ := fillA_ok (fun i => some (i * s, s)) hp (VR.cells hzv) hcs
      refine ⟨.agg ⟨R⟩, VR.mkAgg hRr, fun w => ?_⟩
      simp only [Instr.build, Sem.run_bind, hzr, run_und ht, Result.andThen_ok, run_sz hs]
      have : Instr.fill (fun i => some (i * s, s)) zv.cells partsV.toArray.toList = some ⟨R⟩ := by
        simpa using hR
      simp [this]
    · simp at h
  · simp at h

/-! ### Operands -/

def EvR (ρ : Ren) (ev : Operand → Option AV) (ev' : Operand → Value) : Prop := ∀ x a, ev x = some a → VR ρ a (ev' x)

variable {ev : Operand → Option AV} {ev' : Operand → Value}

theorem evs_ok (he : EvR ρ ev ev') : ∀ {xs : List Operand} {as : List AV}, evs ev xs = some as → LR ρ as (xs.map ev')
  | [], _, h => by simp [evs] at h; subst h; exact LR.nil
  | x :: xs, _, h => by
    simp only [evs] at h
    split at h
    · rename_i a as ha has
      simp only [Option.some.injEq] at h; subst h
      exact LR.cons (he x a ha) (evs_ok he has)
    · simp at h

theorem evParts_ok (he : EvR ρ ev ev') : ∀ {xs : List (Nat × Operand)} {as : List (Nat × AV)}, evParts ev xs = some as → PR ρ as (xs.map fun (i, x) => (i, ev' x))
  | [], _, h => by simp [evParts] at h; subst h; exact .nil
  | (i, x) :: xs, _, h => by
    simp only [evParts] at h
    split at h
    · rename_i a as ha has
      simp only [Option.some.injEq] at h; subst h
      exact .cons (he x a ha) (evParts_ok he has)
    · simp at h

theorem optA_ok (he : EvR ρ ev ev') {x : Option Operand} {a : Option AV} (h : optA ev x = some a) : OVR ρ a (x.map ev') := by
  cases x with
  | none => simp [optA] at h; subst h; simp [OVR]
  | some x =>
    simp only [optA, Option.map_eq_some_iff] at h
    obtain ⟨b, hb, rfl⟩ := h
    simp only [OVR, Option.map_some]
    exact ⟨_, rfl, he x b hb⟩

theorem max2A_ok {a b r : AV} {u v : Value} (hx : VR ρ a u) (hy : VR ρ b v) (h : max2A a b = some r) : ∃ z, VR ρ r z ∧ ∀ w, (Builtin.max2 u v).run P w = .ok z w := by
  unfold max2A at h
  split at h
  · simp only [VR] at hx hy; subst hx hy; simp only [Option.some.injEq] at h; subst h
    exact ⟨_, VR.mkInt, fun w => by simp [Builtin.max2]⟩
  · simp at h
theorem min2A_ok {a b r : AV} {u v : Value} (hx : VR ρ a u) (hy : VR ρ b v) (h : min2A a b = some r) : ∃ z, VR ρ r z ∧ ∀ w, (Builtin.min2 u v).run P w = .ok z w := by
  unfold min2A at h
  split at h
  · simp only [VR] at hx hy; subst hx hy; simp only [Option.some.injEq] at h; subst h
    exact ⟨_, VR.mkInt, fun w => by simp [Builtin.min2]⟩
  · simp at h

theorem foldA_ok {f : AV → AV → Option AV} {g : Value → Value → Sem Value} (hf : ∀ a b r u v, VR ρ a u → VR ρ b v → f a b = some r → ∃ z, VR ρ r z ∧ ∀ w, (g u v).run P w = .ok z w) :
    ∀ {ys : List AV} {vs : List Value} {x r : AV} {u : Value}, VR ρ x u → LR ρ ys vs → foldA f x ys = some r → Yv ρ P (vs.foldlM g u) r
  | [], _, x, r, u, hx, hl, h => by simp only [LR] at hl; subst hl; simp [foldA] at h; subst h; exact ⟨u, hx, fun w => rfl⟩
  | y :: ys, _, x, r, u, hx, hl, h => by
    simp only [LR] at hl; obtain ⟨v, vs', rfl, hv, hvs⟩ := hl
    simp only [foldA] at h
    split at h
    · rename_i z hz
      obtain ⟨zv, hzv, hzr⟩ := hf _ _ _ _ _ hx hv hz
      obtain ⟨q, hq, hqr⟩ := foldA_ok hf hzv hvs h
      exact ⟨q, hq, fun w => by simp only [List.foldlM_cons, Sem.run_bind, hzr, Result.andThen_ok, hqr]⟩
    · simp at h

theorem lenA_ok {t ty : TypeId} {a r : AV} {u : Value} (hx : VR ρ a u) (h : lenA P t a = some r) : Yv ρ P (Builtin.len_ #[t] ty #[u]) r := by
  unfold lenA at h
  split at h
  · rename_i s ht
    simp only [VR] at hx; subst hx; simp only [Option.some.injEq] at h; subst h
    exact ⟨_, VR.mkInt, fun w => by simp only [Builtin.len_, List.getElem?_toArray, List.getElem?_cons_zero, Sem.run_bind, run_und ht, Result.andThen_ok, goInt, ByteArray.size, List.size_toArray, Sem.run_pure]⟩
  · rename_i n e ht
    simp only [Option.some.injEq] at h; subst h
    exact ⟨_, VR.mkInt, fun w => by simp [Builtin.len_, run_und ht, goInt]⟩
  · rename_i p ht
    split at h
    · rename_i n e hp
      simp only [Option.some.injEq] at h; subst h
      exact ⟨_, VR.mkInt, fun w => by simp [Builtin.len_, run_und ht, run_und hp, goInt]⟩
    · simp at h
  · rename_i e p n cap sz ht
    simp only [Option.some.injEq] at h; subst h
    cases p with
    | none =>
      simp only [VR] at hx; obtain ⟨rfl, rfl, rfl⟩ := hx
      exact ⟨_, VR.mkInt, fun w => by simp [Builtin.len_, run_und ht, goInt]⟩
    | some p =>
      obtain ⟨i, o⟩ := p
      simp only [VR] at hx; obtain ⟨b, s, z, o', c, _, rfl, _⟩ := hx
      exact ⟨_, VR.mkInt, fun w => by simp [Builtin.len_, run_und ht, goInt]⟩
  · rename_i ht
    simp only [VR] at hx; subst hx; simp only [Option.some.injEq] at h; subst h
    exact ⟨_, VR.mkInt, fun w => by simp [Builtin.len_, run_und ht, goInt]⟩
  · simp at h

theorem pure_of_Yv {s : Sem Value} {r : AV} (h : Yv ρ P s r) : ∃ v, VR ρ r v ∧ ∀ w, (do pure (.value (← s)) : Sem Next).run P w = .ok (.value v) w := by
  obtain ⟨v, hv, hr⟩ := h
  exact ⟨v, hv, fun w => by simp only [Sem.run_bind, hr, Result.andThen_ok, Sem.run_pure]⟩

theorem map_parts (parts : Array (Nat × Operand)) : parts.map (fun (i, x) => (i, ev' x)) = (parts.toList.map fun (i, x) => (i, ev' x)).toArray := by
  apply Array.ext'; simp

theorem capA_ok {t ty : TypeId} {a r : AV} {u : Value} (hx : VR ρ a u) (h : capA P t a = some r) : Yv ρ P (Builtin.cap_ #[t] ty #[u]) r := by
  unfold capA at h
  split at h
  · rename_i e l c s ht
    simp only [Option.some.injEq] at h; subst h
    simp only [VR] at hx; obtain ⟨_, _, rfl⟩ := hx
    refine ⟨_, VR.mkInt, fun w => ?_⟩
    simp [Builtin.cap_, run_und ht, goInt]
  · simp at h

theorem nilCheck_ok {a r : AV} {u : Value} (hx : VR ρ a u) (h : (match some a with
    | some (.ptr none) | some .nilIface | some .nilFunc => none
    | some (.func (.func g) f c) => some (.func (.func g) f c)
    | some (.func _ _ _) => none
    | r => r) = some r) (K : Value → Sem Next) (hK : ∀ w, (K u).run P w = .ok (.value u) w) :
    r = a ∧ ∀ w, (match u with
    | .pointer none | .nilIface | .nilFunc => runtimePanic .nilDeref
    | .func (.method name) first captured =>
      match (first[0]? : Option Value) with
      | some .nilIface => runtimePanic .nilDeref
      | some (.iface t w) => do
        if (← nilAhead ((← program).types.size + Made.depth) t w name) != some false then
          unsupported (.noEntry "op/nilCheck.the method's receiver behind this interface value is a nil pointer, or cannot be seen to be none, and the arguments act or may panic (ledger 612)")
        pure (.value (.func (.method name) first captured))
      | _ => pure (.value (.func (.method name) first captured))
    | x => K x : Sem Next).run P w = .ok (.value u) w := by
  cases a with
  | ptr p => cases p with
    | none => simp at h
    | some p =>
      obtain ⟨i, o⟩ := p
      simp only [VR] at hx; obtain ⟨b, s, z, _, rfl⟩ := hx
      simp at h; exact ⟨h.symm, hK⟩
  | slice p l c s => cases p with
    | none => simp only [VR] at hx; obtain ⟨_, _, rfl⟩ := hx; simp at h; exact ⟨h.symm, hK⟩
    | some p => obtain ⟨i, o⟩ := p; simp only [VR] at hx; obtain ⟨b, s, z, o', c, _, rfl, _⟩ := hx; simp at h; exact ⟨h.symm, hK⟩
  | map p => cases p with
    | none => simp only [VR] at hx; subst hx; simp at h; exact ⟨h.symm, hK⟩
    | some p => simp only [VR] at hx; obtain ⟨b, s, z, _, rfl⟩ := hx; simp at h; exact ⟨h.symm, hK⟩
  | func fn f c =>
    simp only [VR] at hx; obtain ⟨fs, cs, rfl, _⟩ := hx
    cases fn with
    | func g => simp at h; exact ⟨h.symm, hK⟩
    | _ => simp at h
  | nilFunc => simp at h
  | nilIface => simp at h
  | iface t x => simp only [VR] at hx; obtain ⟨y, rfl, _⟩ := hx; simp at h; exact ⟨h.symm, hK⟩
  | agg cs => simp only [VR] at hx; obtain ⟨y, rfl, _⟩ := hx; simp at h; exact ⟨h.symm, hK⟩
  | tuple cs => simp only [VR] at hx; obtain ⟨y, rfl, _⟩ := hx; simp at h; exact ⟨h.symm, hK⟩
  | int k n => simp only [VR] at hx; subst hx; simp at h; exact ⟨h.symm, hK⟩
  | bool k => simp only [VR] at hx; subst hx; simp at h; exact ⟨h.symm, hK⟩
  | str k => simp only [VR] at hx; subst hx; simp at h; exact ⟨h.symm, hK⟩

/-- AN OPERATION THAT LOOKS AT NO MEMORY: wherever it runs, it yields what the abstract machine says, and leaves the world alone. -/
theorem pureA_ok (he : EvR ρ ev ev') (o : Oper) {r : AV} (h : pureA P ev o.op = some r) : ∃ v, VR ρ r v ∧ ∀ w, (execOp ev' o).run P w = .ok (.value v) w := by
  obtain ⟨dst, op, type, pos, after, guard⟩ := o
  simp only at h
  cases op with
  | move x => simp only [pureA] at h; exact ⟨ev' x, he x r h, fun w => rfl⟩
  | assign x => simp only [pureA] at h; exact ⟨ev' x, he x r h, fun w => rfl⟩
  | pick c a b =>
    simp only [pureA] at h
    split at h
    · rename_i t hc
      have hcv := he c _ hc
      simp only [VR] at hcv
      cases t
      · exact ⟨ev' b, he b r h, fun w => by simp [execOp, hcv, asBool]⟩
      · exact ⟨ev' a, he a r h, fun w => by simp [execOp, hcv, asBool]⟩
    · simp at h
  | build t parts =>
    simp only [pureA] at h
    split at h
    · rename_i l hl
      simp only [execOp]
      rw [map_parts]
      exact pure_of_Yv (buildA_ok (evParts_ok he hl) h)
    · simp at h
  | nilCheck x =>
    simp only [pureA] at h
    cases hx : ev x with
    | none => rw [hx] at h; simp at h
    | some a =>
      rw [hx] at h
      have hv := he x a hx
      obtain ⟨rfl, hr⟩ := nilCheck_ok (P := P) hv h (fun x => pure (.value x)) (fun w => rfl)
      exact ⟨ev' x, hv, hr⟩
  | binOp op t x y yt =>
    simp only [pureA] at h
    split at h
    · rename_i a b ha hb
      cases hg : guardOk P op t x y a b
      · rw [hg] at h; simp at h
      · rw [hg] at h
        simp only [cond_true] at h
        obtain ⟨v, hv, hr⟩ := binA_ok (he x a ha) (he y b hb) h
        exact ⟨v, hv, fun w => by simp only [execOp, Sem.run_bind, eqGuard_ok (he x a ha) (he y b hb) hg w, Result.andThen_ok, hr, Sem.run_pure]⟩
    · simp at h
  | unOp op t x =>
    simp only [pureA, Option.bind_eq_some_iff] at h
    obtain ⟨a, ha, h⟩ := h
    exact pure_of_Yv (unA_ok (he x a ha) h)
  | convert s d x =>
    simp only [pureA, Option.bind_eq_some_iff] at h
    obtain ⟨a, ha, h⟩ := h
    exact pure_of_Yv (convA_ok (he x a ha) h)
  | sliceToArrayPointer t x =>
    simp only [pureA] at h
    split at h
    · rename_i n e p len cap sz ht hx
      split at h
      · rename_i hn
        simp only [Option.some.injEq] at h; subst h
        have hv := he x _ hx
        obtain ⟨i, o⟩ := p
        simp only [VR] at hv; obtain ⟨b, s, z, o', c, hρ, hxv, h1, h2, h3, h4⟩ := hv
        simp only [execOp]
        refine pure_of_Yv ⟨.pointer (some ⟨b, s + o, none⟩), by simp only [VR]; exact ⟨b, s, z, hρ, rfl⟩, fun w => ?_⟩
        have : o' = s + o := by rcases h4 with h4 | h4 <;> omega
        subst this
        rw [hxv]
        simp only [Instr.arrayAt, Sem.run_bind, run_und ht, Result.andThen_ok]
        rw [Sem.run_ite, if_neg (by omega)]; rfl
      · simp at h
    · simp at h
  | makeInterface t x =>
    simp only [pureA] at h
    split at h
    · simp at h
    · rename_i d hd ht
      simp only [Option.map_eq_some_iff] at h
      obtain ⟨a, ha, rfl⟩ := h
      have hv := he x a ha
      refine pure_of_Yv ⟨.iface t (ev' x), by simp only [VR]; exact ⟨_, rfl, hv⟩, fun w => ?_⟩
      simp only [Instr.makeInterface, Sem.run_bind, run_und ht, Result.andThen_ok]
      cases d <;> first | exact absurd rfl (hd _) | rfl
    · simp at h
  | makeFunc fn first captured =>
    simp only [pureA] at h
    split at h
    · rename_i f c hf hc
      simp only [Option.some.injEq] at h; subst h
      refine pure_of_Yv ⟨.func fn ⟨first.toList.map ev'⟩ ⟨captured.toList.map ev'⟩, ?_, fun w => ?_⟩
      · simp only [VR]; exact ⟨_, _, rfl, evs_ok he hf, evs_ok he hc⟩
      · have e1 : first.map ev' = ⟨first.toList.map ev'⟩ := by apply Array.ext'; simp
        have e2 : captured.map ev' = ⟨captured.toList.map ev'⟩ := by apply Array.ext'; simp
        simp only [Instr.makeFunc, e1, e2]; rfl
    · simp at h
  | slice t x lo hi mx =>
    simp only [pureA] at h
    split at h
    · rename_i v l k m hv hl hk hm
      exact pure_of_Yv (sliceA_ok (he x v hv) (optA_ok he hl) (optA_ok he hk) (optA_ok he hm) h)
    · simp at h
  | fieldAddr s x f =>
    simp only [pureA, Option.bind_eq_some_iff] at h
    obtain ⟨a, ha, h⟩ := h
    exact pure_of_Yv (fieldAtA_ok (he x a ha) h)
  | field t x f =>
    simp only [pureA, Option.bind_eq_some_iff] at h
    obtain ⟨a, ha, h⟩ := h
    exact pure_of_Yv (fieldA_ok (he x a ha) h)
  | indexAddr t x ix =>
    simp only [pureA] at h
    split at h
    · rename_i a b ha hb
      exact pure_of_Yv (indexAtA_ok (he x a ha) (he ix b hb) h)
    · simp at h
  | index t x ix =>
    simp only [pureA] at h
    split at h
    · rename_i a b ha hb
      exact pure_of_Yv (indexA_ok (he x a ha) (he ix b hb) h)
    · simp at h
  | typeAssert x xt t ok =>
    simp only [pureA, Option.bind_eq_some_iff] at h
    obtain ⟨a, ha, h⟩ := h
    exact pure_of_Yv (assertA_ok (he x a ha) h)
  | extract t i =>
    simp only [pureA] at h
    split at h
    · rename_i vs ht
      have hv := he t _ ht
      simp only [VR] at hv; obtain ⟨us, hu, hl⟩ := hv
      obtain ⟨v, hv, hr⟩ := LR.get hl h
      refine pure_of_Yv ⟨v, hr, fun w => ?_⟩
      simp [Instr.extract, hu, hv]
    · simp at h
  | call c =>
    obtain ⟨callee, args, argTypes⟩ := c
    cases callee with
    | builtin b =>
      cases b with
      | len =>
        simp only [pureA] at h
        split at h
        · rename_i x t hx ht
          simp only [Option.bind_eq_some_iff] at h
          obtain ⟨a, ha, h⟩ := h
          obtain ⟨v, hv, hr⟩ := lenA_ok (ty := type) (he x a ha) h
          refine ⟨v, hv, fun w => ?_⟩
          have e1 : args.map ev' = #[ev' x] := by apply Array.ext'; simp [hx]
          have e2 : argTypes = #[t] := by apply Array.ext'; simp [ht]
          simp only [execOp, resolve, pure_bind, invoke, builtin, e1, e2, Sem.run_bind, hr, Result.andThen_ok, Sem.run_pure]
        · simp at h
      | cap =>
        simp only [pureA] at h
        split at h
        · rename_i x t hx ht
          simp only [Option.bind_eq_some_iff] at h
          obtain ⟨a, ha, h⟩ := h
          obtain ⟨v, hv, hr⟩ := capA_ok (ty := type) (he x a ha) h
          refine ⟨v, hv, fun w => ?_⟩
          have e1 : args.map ev' = #[ev' x] := by apply Array.ext'; simp [hx]
          have e2 : argTypes = #[t] := by apply Array.ext'; simp [ht]
          simp only [execOp, resolve, pure_bind, invoke, builtin, e1, e2, Sem.run_bind, hr, Result.andThen_ok, Sem.run_pure]
        · simp at h
      | max =>
        simp only [pureA] at h
        split at h
        · rename_i x xs hx
          have hl := evs_ok he hx
          simp only [LR] at hl; obtain ⟨u, us, e, hu, hus⟩ := hl
          obtain ⟨v, hv, hr⟩ := foldA_ok (P := P) (g := Builtin.max2) (fun a b r u v h1 h2 h3 => max2A_ok h1 h2 h3) hu hus h
          refine ⟨v, hv, fun w => ?_⟩
          have e1 : (args.map ev').toList = u :: us := by simpa using e
          simp only [execOp, resolve, pure_bind, invoke, builtin, Builtin.max_, e1, Sem.run_bind, hr, Result.andThen_ok, Sem.run_pure]
        · simp at h
      | min =>
        simp only [pureA] at h
        split at h
        · rename_i x xs hx
          have hl := evs_ok he hx
          simp only [LR] at hl; obtain ⟨u, us, e, hu, hus⟩ := hl
          obtain ⟨v, hv, hr⟩ := foldA_ok (P := P) (g := Builtin.min2) (fun a b r u v h1 h2 h3 => min2A_ok h1 h2 h3) hu hus h
          refine ⟨v, hv, fun w => ?_⟩
          have e1 : (args.map ev').toList = u :: us := by simpa using e
          simp only [execOp, resolve, pure_bind, invoke, builtin, Builtin.min_, e1, Sem.run_bind, hr, Result.andThen_ok, Sem.run_pure]
        · simp at h
      | _ => simp [pureA] at h
    | _ => simp [pureA] at h
  | _ => simp [pureA] at h

end
end Go.Am

namespace Go.Am
open Go

section
variable {P : Program} {ρ : Ren} {h : AH} {w : World}

theorem getElem?_drop_take {α : Type} (C : List α) (s n j : Nat) (hj : j < n) : ((C.drop s).take n)[j]? = C[s + j]? := by
  rw [List.getElem?_take, if_pos hj, List.getElem?_drop]

/-- A row of an object's cells, as it lies in the world. -/
theorem row_ok (hh : HR ρ h w) {i o n b s z : Nat} {l : List AV} (hρ : ρ i = some (b, s, z)) (hr : rowOf h i o n = some l) :
    ∃ vs, LR ρ l vs ∧ vs.length = n ∧ (∀ j v, vs[j]? = some v → w.cell? ⟨b, s + o + j, none⟩ = some v) ∧ s + o + n ≤ z ∧ ones l = true := by
  unfold rowOf at hr
  split at hr
  · rename_i cs t ro hg
    split at hr
    · rename_i hb
      simp only [Option.some.injEq] at hr; subst hr
      have ho := hh.obj i _ hg
      simp only [OR] at ho
      obtain ⟨b', s', z', C, fz, hρ', hw, hC, hle, hl, h1, hf⟩ := ho
      rw [hρ] at hρ'; simp only [Option.some.injEq, Prod.mk.injEq] at hρ'; obtain ⟨rfl, rfl, rfl⟩ := hρ'
      refine ⟨(((C.drop s).take cs.length).drop o).take n, LR.take n (LR.drop o hl), by simp; omega, fun j v hv => ?_, by omega, ?_⟩
      · have hj : j < n := by
          rcases Nat.lt_or_ge j n with hj | hj
          · exact hj
          · rw [List.getElem?_eq_none (by simp; omega)] at hv; simp at hv
        rw [getElem?_drop_take _ _ _ _ hj, getElem?_drop_take _ _ _ _ (by omega)] at hv
        rw [cell_of_row w b (s + o + j) ⟨C⟩ t fz hw]
        simpa [Nat.add_assoc] using hv
      · unfold ones; rw [List.all_eq_true]; intro x hx; exact h1 x (List.mem_of_mem_drop (List.mem_of_mem_take hx))
    · simp at hr
  · simp at hr

theorem run_cells {b o : Nat} {vs : List Value} (hv : ∀ j v, vs[j]? = some v → w.cell? ⟨b, o + j, none⟩ = some v) : (loadCells ⟨b, o, none⟩ vs.length).run P w = .ok vs.toArray w :=
  run_loadCells_list w ⟨b, o, none⟩ vs fun j v hj => by rw [addr_add]; exact hv j v hj

theorem rowOf_of_part {t : TypeId} {d : TypeDesc} {i o n : Nat} {r : AV} (hd : P.underlying t = some d) (hn : tsz P t = some n) (hl : loadA P t h i o = some r) :
    (isAggD d = true ∧ ∃ l, rowOf h i o n = some l ∧ r = .agg l) ∨ (isAggD d = false ∧ rowOf h i o 1 = some [r]) := by
  unfold loadA at hl
  split at hl
  · rename_i cs t' ro hg
    unfold partA at hl
    rw [hd, hn] at hl
    simp only at hl
    cases ha : isAggD d
    · rw [ha] at hl; simp only [cond_false] at hl
      refine .inr ⟨rfl, ?_⟩
      have hlt : o < cs.length := by
        rcases Nat.lt_or_ge o cs.length with hj | hj
        · exact hj
        · rw [List.getElem?_eq_none hj] at hl; simp at hl
      unfold rowOf; rw [hg]; simp only; rw [if_pos (by omega)]
      rw [List.getElem?_eq_getElem hlt] at hl
      simp only [Option.some.injEq] at hl
      rw [List.drop_eq_getElem_cons hlt, hl]; rfl
    · rw [ha] at hl; simp only [cond_true] at hl
      split at hl
      · rename_i hb
        simp only [Option.some.injEq] at hl; subst hl
        exact .inl ⟨rfl, _, by unfold rowOf; rw [hg]; simp only; rw [if_pos hb], rfl⟩
      · simp at hl
  · simp at hl

theorem loadA_parts {t : TypeId} {i o : Nat} {r : AV} (hl : loadA P t h i o = some r) : ∃ d n, P.underlying t = some d ∧ tsz P t = some n := by
  unfold loadA at hl
  split at hl
  · unfold partA at hl
    split at hl
    · rename_i d n hd hn; exact ⟨d, n, hd, hn⟩
    · simp at hl
  · simp at hl

theorem loadVar_ok (hh : HR ρ h w) {t : TypeId} {i o b s z : Nat} {r : AV} (hρ : ρ i = some (b, s, z)) (hl : loadA P t h i o = some r) :
    ∃ v, VR ρ r v ∧ (loadVar t ⟨b, s + o, none⟩).run P w = .ok v w := by
  obtain ⟨d, n, hd, hn⟩ := loadA_parts hl
  rcases rowOf_of_part hd hn hl with ⟨ha, l, hr, rfl⟩ | ⟨ha, hr⟩
  · obtain ⟨vs, hvs, hlen, hc, _⟩ := row_ok hh hρ hr
    refine ⟨.agg ⟨vs⟩, VR.mkAgg hvs, ?_⟩
    simp only [loadVar, Sem.run_bind, run_isAgg hd, ha, Result.andThen_ok, if_true, run_sz hn]
    rw [← hlen, run_cells hc]
    simp
  · obtain ⟨vs, hvs, hlen, hc, _⟩ := row_ok hh hρ hr
    simp only [LR] at hvs
    obtain ⟨v, vs', rfl, hv, hvs'⟩ := hvs
    refine ⟨v, hv, ?_⟩
    simp only [loadVar, Sem.run_bind, run_isAgg hd, ha, Result.andThen_ok, Bool.false_eq_true, if_false]
    have := hc 0 v rfl
    rw [Nat.add_zero] at this
    simp [this]

/-! ### Maps -/

theorem run_getMap {b : Nat} {ES : List MapEntry} {clock : Nat} (hb : w.heap[b]? = some (.map ⟨ES⟩ clock)) : (getObj b).run P w = .ok (.map ⟨ES⟩ clock) w := by
  simp [getObj, Sem.run, hb]

theorem map_ok (hh : HR ρ h w) {r b s z : Nat} {es : List (AV × AV × Nat)} {clock : Nat} (hρ : ρ r = some (b, s, z)) (hg : h.get r = some (.map es clock)) :
    ∃ ES, w.heap[b]? = some (.map ⟨ES⟩ clock) ∧ ER ρ es ES := by
  have ho := hh.obj r _ hg
  simp only [OR] at ho
  obtain ⟨b', s', z', ES, hρ', hw, hE⟩ := ho
  rw [hρ] at hρ'; simp only [Option.some.injEq, Prod.mk.injEq] at hρ'; obtain ⟨rfl, rfl, rfl⟩ := hρ'
  exact ⟨ES, hw, hE⟩

theorem ER.length : ∀ {es : List (AV × AV × Nat)} {ES : List MapEntry}, ER ρ es ES → ES.length = es.length
  | [], _, h => by simp only [ER] at h; simp [h]
  | (k, v, n) :: es, _, h => by simp only [ER] at h; obtain ⟨e, es', rfl, _, _, _, h⟩ := h; simp [ER.length h]

theorem sameNow_ok {kt : TypeId} {d : TypeDesc} {a b : AV} {u v : Value} {r : Bool} (hd : P.underlying kt = some d) (hx : VR ρ a u) (hy : VR ρ b v) (hk : keyEq P kt a b = some r) : Instr.sameNow d u v = some r := by
  unfold keyEq at hk
  rw [hd] at hk
  split at hk
  · rename_i e; simp only [Option.some.injEq] at e; subst e
    simp only [VR] at hx hy; subst hx hy
    split at hk
    · rename_i hkk; subst hkk; simp only [Option.some.injEq] at hk; subst hk; simp [Instr.sameNow]
    · simp at hk
  · rename_i e; simp only [Option.some.injEq] at e; subst e
    simp only [VR] at hx hy; subst hx hy
    simp only [Option.some.injEq] at hk; subst hk; simp [Instr.sameNow, Op.bytes_beq]
  · simp at hk

theorem findA_ok {kt : TypeId} {d : TypeDesc} {k : AV} {u : Value} (hd : P.underlying kt = some d) (hx : VR ρ k u) : ∀ {es : List (AV × AV × Nat)} {ES : List MapEntry} {i : Nat} {r : Option (Nat × AV × Nat)},
    ER ρ es ES → findA P kt k es i = some r →
    (r = none ∧ Instr.findNow d u ES i = some none) ∨ ∃ j v n e, r = some (i + j, v, n) ∧ Instr.findNow d u ES i = some (some (i + j, e.val)) ∧ ES[j]? = some e ∧ VR ρ v e.val ∧ e.born = n ∧ (∃ x, es[j]? = some (x, v, n) ∧ VR ρ x e.key ∧ keyEq P kt k x = some true)
  | [], ES, i, r, hE, h => by simp only [ER] at hE; subst hE; simp [findA] at h; exact .inl ⟨h.symm, rfl⟩
  | (x, v, n) :: es, _, i, r, hE, h => by
    simp only [ER] at hE; obtain ⟨e, ES', rfl, hk, hv, hn, hE⟩ := hE
    simp only [findA] at h
    split at h
    · rename_i hq
      simp only [Option.some.injEq] at h; subst h
      refine .inr ⟨0, v, n, e, rfl, ?_, rfl, hv, hn, x, rfl, hk, hq⟩
      simp only [Instr.findNow, sameNow_ok hd hx hk hq]; rfl
    · rename_i hq
      rcases findA_ok hd hx hE h with ⟨rfl, hr⟩ | ⟨j, v', n', e', rfl, hr, he, hv', hn', x', hx', hkx, hkq⟩
      · refine .inl ⟨rfl, ?_⟩
        simp only [Instr.findNow, sameNow_ok hd hx hk hq]; exact hr
      · refine .inr ⟨j + 1, v', n', e', by rw [Nat.add_assoc, Nat.add_comm 1 j], ?_, by simpa using he, hv', hn', x', by simpa using hx', hkx, hkq⟩
        simp only [Instr.findNow, sameNow_ok hd hx hk hq]; rw [hr]; congr 3; omega
    · simp at h

theorem checkKey_ok {kt : TypeId} {k : AV} {u : Value} (b : Bool) (hx : VR ρ k u) (hk : keyOk P kt k = true) (w : World) : (Instr.checkKey b 10000 kt u).run P w = .ok () w := by
  unfold keyOk at hk
  split at hk
  · rename_i e; simp only [VR] at hx; subst hx
    show (Instr.checkKey b (9999 + 1) kt _).run P w = _
    rw [Instr.checkKey, Sem.run_bind, run_und e]; rfl
  · rename_i e; simp only [VR] at hx; subst hx
    show (Instr.checkKey b (9999 + 1) kt _).run P w = _
    rw [Instr.checkKey, Sem.run_bind, run_und e]; rfl
  · simp at hk

theorem keyOk_und {kt : TypeId} {k : AV} (hk : keyOk P kt k = true) : ∃ d, P.underlying kt = some d := by
  unfold keyOk at hk
  split at hk
  · rename_i e; exact ⟨_, e⟩
  · rename_i e; exact ⟨_, e⟩
  · simp at hk

theorem run_findKey {kt : TypeId} {d : TypeDesc} {u : Value} {ES : List MapEntry} {r : Option (Nat × Value)} (hd : P.underlying kt = some d) (hf : Instr.findNow d u ES 0 = some r) (w : World) :
    (Instr.findKey kt u ES).run P w = .ok r w := by
  simp only [Instr.findKey, Sem.run_bind, run_und hd, Result.andThen_ok, hf]; rfl

theorem entriesA_ok (hh : HR ρ h w) {m : AV} {u : Value} {es : List (AV × AV × Nat)} (hx : VR ρ m u) (he : entriesA h m = some es) :
    (u = .map none ∧ es = []) ∨ ∃ b ES clock, u = .map (some b) ∧ w.heap[b]? = some (.map ⟨ES⟩ clock) ∧ ER ρ es ES := by
  unfold entriesA at he
  split at he
  · simp only [VR] at hx; subst hx; simp at he; exact .inl ⟨rfl, he⟩
  · rename_i r
    simp only [VR] at hx; obtain ⟨b, s, z, hρ, rfl⟩ := hx
    split at he
    · rename_i es' clock hg
      simp only [Option.some.injEq] at he; subst he
      obtain ⟨ES, hb, hE⟩ := map_ok hh hρ hg
      exact .inr ⟨b, ES, clock, rfl, hb, hE⟩
    · simp at he
  · simp at he

theorem lookupA_ok (hh : HR ρ h w) {t : TypeId} {m k r : AV} {u uk : Value} {ok : Bool} (hx : VR ρ m u) (hk : VR ρ k uk) (hl : lookupA P t h m k ok = some r) :
    ∃ v, VR ρ r v ∧ (Instr.lookup t u uk ok).run P w = .ok v w := by
  unfold lookupA at hl
  split at hl
  · rename_i kt et es ht hes
    cases hok : keyOk P kt k
    · rw [hok] at hl; simp at hl
    rw [hok] at hl; simp only [cond_true] at hl
    obtain ⟨d, hd⟩ := keyOk_und hok
    have key : ∀ (ES : List MapEntry), ER ρ es ES → ∃ v, VR ρ r v ∧ (do
        Instr.checkKey (⟨ES⟩ : Array MapEntry).isEmpty 10000 kt uk
        let (v, ok') ← match ← Instr.findKey kt uk ES with
          | some (_, v) => pure (v, true)
          | none => pure (← zeroValue et, false)
        pure (if ok then .tuple #[v, .bool ok'] else v) : Sem Value).run P w = .ok v w := by
      intro ES hE
      split at hl
      · rename_i i v n hf
        rcases findA_ok hd hk hE hf with ⟨e, _⟩ | ⟨j, v', n', e, e1, hr, he, hv', hn', _⟩
        · simp at e
        · simp only [Option.some.injEq, Prod.mk.injEq] at e1; obtain ⟨rfl, rfl, rfl⟩ := e1
          simp only [Option.some.injEq] at hl; subst hl
          simp only [Sem.run_bind, checkKey_ok _ hk hok, Result.andThen_ok, run_findKey hd hr]
          cases ok
          · exact ⟨e.val, hv', by simp⟩
          · exact ⟨.tuple ⟨[e.val, .bool true]⟩, VR.mkTuple (LR.cons hv' (LR.cons VR.mkBool LR.nil)), by simp⟩
      · rename_i hf
        rcases findA_ok hd hk hE hf with ⟨_, hr⟩ | ⟨j, v', n', e, e1, _⟩
        rotate_left
        · simp at e1
        · simp only [Option.map_eq_some_iff] at hl
          obtain ⟨z, hz, rfl⟩ := hl
          obtain ⟨zv, hzv, hzr⟩ := zeroA_ok (ρ := ρ) hz
          simp only [Sem.run_bind, checkKey_ok _ hk hok, Result.andThen_ok, run_findKey hd hr, hzr]
          cases ok
          · exact ⟨zv, hzv, by simp [hzr]⟩
          · exact ⟨.tuple ⟨[zv, .bool false]⟩, VR.mkTuple (LR.cons hzv (LR.cons VR.mkBool LR.nil)), by simp [hzr]⟩
      · simp at hl
    rcases entriesA_ok hh hx hes with ⟨rfl, rfl⟩ | ⟨b, ES, clock, rfl, hb, hE⟩
    · obtain ⟨v, hv, hr⟩ := key [] (by simp [ER])
      refine ⟨v, hv, ?_⟩
      rw [← hr]
      simp only [Instr.lookup, Sem.run_bind, run_und ht, Result.andThen_ok, pure_bind, Sem.run_pure]
      rfl
    · obtain ⟨v, hv, hr⟩ := key ES hE
      refine ⟨v, hv, ?_⟩
      rw [← hr]
      simp only [Instr.lookup, Sem.run_bind, run_und ht, Result.andThen_ok, run_getMap hb]
      rfl
  · simp at hl

theorem bytesA_ok : ∀ {l : List AV} {bs : List UInt8} {vs : List Value}, LR ρ l vs → bytesA l = some bs → ∃ ns : List Int, vs = ns.map (Value.int .u8) ∧ bs = ns.map fun n => UInt8.ofNat n.toNat
  | [], bs, vs, hl, h => by simp only [LR] at hl; subst hl; simp [bytesA] at h; subst h; exact ⟨[], rfl, rfl⟩
  | a :: l, bs, _, hl, h => by
    simp only [LR] at hl; obtain ⟨v, vs', rfl, hv, hl⟩ := hl
    unfold bytesA at h
    split at h
    · simp at *
    · rename_i n r e
      simp only [List.cons.injEq] at e; obtain ⟨rfl, rfl⟩ := e
      simp only [Option.map_eq_some_iff] at h
      obtain ⟨bs', hb, rfl⟩ := h
      obtain ⟨ns, rfl, rfl⟩ := bytesA_ok hl hb
      simp only [VR] at hv; subst hv
      exact ⟨n :: ns, rfl, rfl⟩
    · simp at h

variable {ev : Operand → Option AV} {ev' : Operand → Value}

theorem sliceArrA_ok (hh : HR ρ h w) {t : TypeId} {a r : AV} {u : Value} {lo hi mx : Option AV} {lo' hi' mx' : Option Value} (hx : VR ρ a u) (hlo : OVR ρ lo lo') (hhi : OVR ρ hi hi') (hmx : OVR ρ mx mx')
    (hl : sliceArrA P t h a lo hi mx = some r) : ∃ v, VR ρ r v ∧ (Instr.sliceAt t u lo' hi' mx').run P w = .ok v w := by
  unfold sliceArrA at hl
  split at hl
  · rename_i n e i o ht
    split at hl
    · simp at hl
    · rename_i hm
      split at hl
      · rename_i l k m s eb es
        split at hl
        · rename_i row hrow
          simp only [Option.some.injEq] at hl; subst hl
          simp only [VR] at hx; obtain ⟨b, s', z, hρ, rfl⟩ := hx
          obtain ⟨vs, _, _, _, hz, _⟩ := row_ok hh hρ hrow
          obtain ⟨mC, h1, h2, h3, h4, h5, h6, hr⟩ := boundsA_ok (P := P) false hlo hhi hmx (Nat.le_refl n) hm eb
          have hmm : mC = m := by rcases h6 with h6 | ⟨h6, h7⟩ <;> omega
          subst hmm
          have e1 : l * s + (mC - l) * s = mC * s := by rw [← Nat.add_mul]; congr 1; omega
          have e2 : mC * s ≤ n * s := Nat.mul_le_mul_right _ h3
          by_cases hml : mC = l
          · refine ⟨.slice (some ⟨b, s' + o, none⟩) (k - l) (mC - l), ?_, ?_⟩
            · simp only [VR]
              refine ⟨b, s', z, s' + o, mC - l, hρ, rfl, by omega, by omega, ?_, .inl (by omega)⟩
              have : mC - l = 0 := by omega
              rw [this, Nat.zero_mul]; omega
            · simp only [Instr.sliceAt, Sem.run_bind, run_und ht, Result.andThen_ok, Instr.sureAddr, Sem.run_pure, hr w, run_sz es]
              simp [hml]
          · refine ⟨.slice (some ⟨b, s' + o + l * s, none⟩) (k - l) (mC - l), ?_, ?_⟩
            · simp only [VR]
              exact ⟨b, s', z, s' + o + l * s, mC - l, hρ, rfl, by omega, by omega, by omega, .inr (by omega)⟩
            · simp only [Instr.sliceAt, Sem.run_bind, run_und ht, Result.andThen_ok, Instr.sureAddr, Sem.run_pure, hr w, run_sz es]
              simp [hml, addr_add]
        · simp at hl
      · simp at hl
  · simp at hl

end
end Go.Am

namespace Go.Am
open Go

section
variable {P : Program} {ρ : Ren} {h : AH} {w : World} {ev : Operand → Option AV} {ev' : Operand → Value}

/-- AN OPERATION THAT READS AN OBJECT. -/
theorem readA_ok (hh : HR ρ h w) (he : EvR ρ ev ev') (o : Oper) {r : AV} (hr : readA P ev h o.op = some r) : ∃ v, VR ρ r v ∧ (execOp ev' o).run P w = .ok (.value v) w := by
  obtain ⟨dst, op, type, pos, after, guard⟩ := o
  simp only at hr
  cases op with
  | slice t x lo hi mx =>
    simp only [readA] at hr
    split at hr
    · rename_i v l k m hv hl hk hm
      obtain ⟨u, hu, hrun⟩ := sliceArrA_ok hh (he x v hv) (optA_ok he hl) (optA_ok he hk) (optA_ok he hm) hr
      exact ⟨u, hu, by simp only [execOp, Sem.run_bind, hrun, Result.andThen_ok, Sem.run_pure]⟩
    · simp at hr
  | load t a =>
    simp only [readA] at hr
    split at hr
    · rename_i i o ha
      have hv := he a _ ha
      simp only [VR] at hv; obtain ⟨b, s, z, hρ, hav⟩ := hv
      obtain ⟨v, hv, hrun⟩ := loadVar_ok hh hρ hr
      exact ⟨v, hv, by simp only [execOp, Instr.loadAt, Sem.run_bind, hav, Instr.sureAddr, Sem.run_pure, Result.andThen_ok, hrun]⟩
    · simp at hr
  | lookup t m k ok =>
    simp only [readA] at hr
    split at hr
    · rename_i a b ha hb
      obtain ⟨v, hv, hrun⟩ := lookupA_ok hh (he m a ha) (he k b hb) hr
      exact ⟨v, hv, by simp only [execOp, Sem.run_bind, hrun, Result.andThen_ok, Sem.run_pure]⟩
    · simp at hr
  | convert s d x =>
    simp only [readA] at hr
    split at hr
    · rename_i e a len cap sz hs hd hx
      have hv := he x _ hx
      split at hr
      · rename_i hu
        simp only [Option.some.injEq] at hr; subst hr
        simp only [VR] at hv; obtain ⟨rfl, rfl, hxv⟩ := hv
        refine ⟨.string ⟨[].toArray⟩, VR.mkStr, ?_⟩
        simp only [execOp, Sem.run_bind, hxv, run_convert_bytes_string w s d e none 0 0 hs hu hd]
        rfl
      · rename_i i o hu
        split at hr
        · rename_i hsz; subst hsz
          simp only [Option.map_eq_some_iff, Option.bind_eq_some_iff] at hr
          obtain ⟨bs, ⟨l, hl, hb⟩, rfl⟩ := hr
          simp only [VR] at hv; obtain ⟨b, s', z, o', c, hρ, hxv, h1, h2, h3, h4⟩ := hv
          obtain ⟨vs, hvs, hlen, hc, _⟩ := row_ok hh hρ hl
          obtain ⟨ns, rfl, rfl⟩ := bytesA_ok hvs hb
          refine ⟨_, VR.mkStr, ?_⟩
          simp only [execOp, Sem.run_bind, hxv, run_convert_bytes_string w s d e (some ⟨b, o', none⟩) len c hs hu hd]
          by_cases h0 : len = 0
          · subst h0
            have : ns = [] := by cases ns with | nil => rfl | cons n ns => simp at hlen
            subst this
            rw [run_bytesToString w _ 0 c [] (by simp [loadCells, loadCellsFrom])]
            rfl
          · have ho : o' = s' + o := by rcases h4 with h4 | h4 <;> omega
            subst ho
            have hrun := run_cells (P := P) hc
            rw [hlen] at hrun
            rw [run_bytesToString w _ len c ns hrun, foldl_push_bytes]
            simp
        · simp at hr
      · simp at hr
    · simp at hr
  | call c =>
    obtain ⟨callee, args, argTypes⟩ := c
    cases callee with
    | builtin b =>
      cases b with
      | len =>
        simp only [readA] at hr
        split at hr
        · rename_i x t hx ht
          split at hr
          · rename_i kt et m hm hx'
            simp only [Option.map_eq_some_iff] at hr
            obtain ⟨es, hes, rfl⟩ := hr
            have e1 : args.map ev' = #[ev' x] := by apply Array.ext'; simp [hx]
            have e2 : argTypes = #[t] := by apply Array.ext'; simp [ht]
            refine ⟨_, VR.mkInt, ?_⟩
            simp only [execOp, resolve, pure_bind, invoke, builtin, e1, e2, Sem.run_bind, Builtin.len_, List.getElem?_toArray, List.getElem?_cons_zero, run_und hm, Result.andThen_ok]
            rcases entriesA_ok hh (he x m hx') hes with ⟨e, rfl⟩ | ⟨b, ES, clock, e, hb, hE⟩
            · rw [e]; rfl
            · rw [e]; simp [run_getMap hb, goInt, ER.length hE]
          · simp at hr
        · simp at hr
      | _ => simp [readA] at hr
    | _ => simp [readA] at hr
  | _ => simp [readA] at hr

/-! ### New objects -/

/-- One block more; nothing else. -/
structure New (w w' : World) : Prop where
  size : w'.heap.size = w.heap.size + 1
  old : ∀ k, k < w.heap.size → w'.heap[k]? = w.heap[k]?
  os : w'.os = w.os
  tape : w'.tape = w.tape
  output : w'.output = w.output

theorem New.alloc (w : World) (o : Obj) : New w (w.alloc o) := ⟨by simp, fun k hk => heap_alloc_old w o k hk, rfl, rfl, rfl⟩
theorem New.of_drawn {w w1 w' : World} (hh : w1.heap = w.heap) (ho : w1.os = w.os) (ht : w1.tape = w.tape) (hu : w1.output = w.output) (k : New w1 w') : New w w' :=
  ⟨by rw [k.size, hh], fun i hi => by rw [k.old i (by rw [hh]; exact hi), hh], k.os.trans ho, k.tape.trans ht, k.output.trans hu⟩

def Ren.ext (ρ : Ren) (n : Nat) (x : Nat × Nat × Nat) : Ren := fun i => if i = n then some x else ρ i

theorem Ren.ext_self (ρ : Ren) (n : Nat) (x : Nat × Nat × Nat) : ρ.ext n x n = some x := by simp [Ren.ext]
theorem Ren.ext_ne (ρ : Ren) {n i : Nat} (x : Nat × Nat × Nat) (hi : i ≠ n) : ρ.ext n x i = ρ i := by simp [Ren.ext, hi]
theorem Ren.le_ext {ρ : Ren} {n : Nat} {x : Nat × Nat × Nat} (hn : ρ n = none) : ρ.le (ρ.ext n x) := by
  intro i y hi
  by_cases e : i = n
  · subst e; rw [hn] at hi; simp at hi
  · rw [Ren.ext_ne ρ x e]; exact hi

theorem OR.mono {ρ' : Ren} {w' : World} {i : Nat} {o : AO} (hρ : ρ.le ρ') (hw : o.live = true → ∀ x, ρ i = some x → w'.heap[x.1]? = w.heap[x.1]?) (k : OR ρ i w o) : OR ρ' i w' o := by
  cases o with
  | dead => trivial
  | cells cs t ro =>
    simp only [OR] at k ⊢
    obtain ⟨b, s, z, C, fz, h1, h2, h3, h4, h5, h6, h7⟩ := k
    exact ⟨b, s, z, C, fz, hρ _ _ h1, by rw [hw rfl _ h1]; exact h2, h3, h4, LR.mono hρ _ _ h5, h6, h7⟩
  | map es clock =>
    simp only [OR] at k ⊢
    obtain ⟨b, s, z, ES, h1, h2, h3⟩ := k
    exact ⟨b, s, z, ES, hρ _ _ h1, by rw [hw rfl _ h1]; exact h2, ER.mono hρ _ _ h3⟩

theorem OR.some {i : Nat} {o : AO} (k : OR ρ i w o) (hl : o.live = true) : ∃ x, ρ i = some x := by
  cases o with
  | dead => simp [AO.live] at hl
  | cells cs t ro => simp only [OR] at k; obtain ⟨b, s, z, C, fz, h1, _⟩ := k; exact ⟨_, h1⟩
  | map es clock => simp only [OR] at k; obtain ⟨b, s, z, ES, h1, _⟩ := k; exact ⟨_, h1⟩

theorem HR.none (hh : HR ρ h w) {i : Nat} (hi : h.next ≤ i) : ρ i = none := by
  cases e : ρ i with
  | none => rfl
  | some x => have := (hh.dom i x e).1; omega

theorem HR.addO (hh : HR ρ h w) {w' : World} (hn : New w w') {z : Nat} {o : AO} (hwo : o.wr = true) (ho : OR (ρ.ext h.next (w.heap.size, 0, z)) h.next w' o) :
    HR (ρ.ext h.next (w.heap.size, 0, z)) (h.add o) w' ∧ Frm ρ h w (ρ.ext h.next (w.heap.size, 0, z)) (h.add o) w' := by
  have hle : ρ.le (ρ.ext h.next (w.heap.size, 0, z)) := Ren.le_ext (hh.none (Nat.le_refl _))
  have hsame : ∀ i, i < h.next → (ρ.ext h.next (w.heap.size, 0, z)) i = ρ i := fun i hi => Ren.ext_ne _ _ (by omega)
  refine ⟨⟨fun i x hx => ?_, fun i o' hg => ?_, fun i o' hg => ?_, fun i j oi oj x y hi hj hij hwi hlj hx hy => ?_⟩, ⟨hle, hsame, by simp, hn.os, hn.tape, hn.output, by rw [hn.size]; omega, fun b hb _ => hn.old b hb, fun b hb => ?_, fun i o' hg hl hw => ?_⟩⟩
  · by_cases e : i = h.next
    · subst e; rw [Ren.ext_self] at hx; simp only [Option.some.injEq] at hx; subst hx
      simp [hn.size]
    · rw [Ren.ext_ne _ _ e] at hx
      have := hh.dom i x hx
      simp [hn.size]; omega
  · rw [AH.get_add] at hg
    split at hg
    · rename_i e; subst e; simp
    · have := hh.new i o' hg; simp; omega
  · rw [AH.get_add] at hg
    split at hg
    · rename_i e; subst e; simp only [Option.some.injEq] at hg; subst hg; exact ho
    · rename_i e
      exact (hh.obj i o' hg).mono hle fun _ x hx => hn.old _ (hh.dom i x hx).2
  · rw [AH.get_add] at hi hj
    split at hi
    · rename_i e; subst e
      rw [if_neg hij] at hj
      rw [Ren.ext_self] at hx; simp only [Option.some.injEq] at hx; subst hx
      rw [hsame j (hh.new j oj hj)] at hy
      have := (hh.dom j y hy).2
      simp only; omega
    · rename_i e
      split at hj
      · rename_i e2; subst e2
        rw [Ren.ext_self] at hy; simp only [Option.some.injEq] at hy; subst hy
        rw [hsame i (hh.new i oi hi)] at hx
        have := (hh.dom i x hx).2
        simp only; omega
      · rw [hsame i (hh.new i oi hi)] at hx
        rw [hsame j (hh.new j oj hj)] at hy
        exact hh.inj i j oi oj x y hi hj hij hwi hlj hx hy
  · obtain ⟨i, o', x, hg, hw, hx, rfl⟩ := hb
    rw [AH.get_add] at hg
    split at hg
    · rename_i e; subst e; rw [Ren.ext_self] at hx; simp only [Option.some.injEq] at hx; subst hx; exact .inr (Nat.le_refl _)
    · rw [hsame i (hh.new i o' hg)] at hx; exact .inl ⟨i, o', x, hg, hw, hx, rfl⟩
  · rw [AH.get_add] at hg
    split at hg
    · simp only [Option.some.injEq] at hg; subst hg; rw [hwo] at hw; simp at hw
    · exact hg

/-! ### Zero cells -/

def replV : Nat → List Value → List Value
  | 0, _ => []
  | n + 1, z => z ++ replV n z

theorem replA_LR {z : List AV} {Z : List Value} (hz : LR ρ z Z) : ∀ n, LR ρ (replA n z) (replV n Z)
  | 0 => LR.nil
  | n + 1 => LR.append hz (replA_LR hz n)

theorem replA_length (z : List AV) : ∀ n, (replA n z).length = n * z.length
  | 0 => by simp [replA]
  | n + 1 => by rw [replA, List.length_append, replA_length z n, Nat.succ_mul]; omega
theorem replV_length (z : List Value) : ∀ n, (replV n z).length = n * z.length
  | 0 => by simp [replV]
  | n + 1 => by rw [replV, List.length_append, replV_length z n, Nat.succ_mul]; omega

theorem range_map_mod (Z : List Value) (hs : 0 < Z.length) : ∀ n, (List.range (n * Z.length)).map (fun i => (⟨Z⟩ : Array Value)[i % (⟨Z⟩ : Array Value).size]!) = replV n Z
  | 0 => by simp [replV]
  | n + 1 => by
    rw [Nat.succ_mul, Nat.add_comm, List.range_add, List.map_append, List.map_map, replV, ← range_map_mod Z hs n]
    congr 1
    · apply List.ext_getElem
      · simp
      · intro i h1 h2
        simp at h1 h2
        simp [Nat.mod_eq_of_lt h2, List.getElem?_eq_getElem h2]
    · apply List.map_congr_left
      intro i _
      simp

theorem zeros_eq (zv : Value) (hs : 0 < zv.cells.size) (n : Nat) : (Array.range (n * zv.cells.size)).map (fun i => zv.cells[i % zv.cells.size]!) = ⟨replV n zv.cells.toList⟩ := by
  have := range_map_mod zv.cells.toList (by simpa using hs) n
  apply Array.ext'
  simpa using this

theorem wrap_i64 {n : Int} (h0 : 0 ≤ n) (h1 : n < 2 ^ 63) : IntKind.i64.wrap n = n := by
  have e : n % 2 ^ IntKind.i64.bits = n := Int.emod_eq_of_lt h0 (by show n < 2 ^ 64; omega)
  have e2 : ¬ (n ≥ 2 ^ (IntKind.i64.bits - 1)) := by show ¬ (n ≥ 2 ^ 63); omega
  simp only [IntKind.wrap, e]
  rw [if_neg (by simpa using fun _ => by omega)]

theorem ones_replA {z : List AV} (hz : ones z = true) : ∀ n, ones (replA n z) = true
  | 0 => rfl
  | n + 1 => by have := ones_replA hz n; simp only [ones, replA, List.all_append, Bool.and_eq_true] at *; exact ⟨hz, this⟩

theorem OR.mk_cells {ρ' : Ren} {w' : World} {i b z : Nat} {cs : List AV} {t : TypeId} {V X : List Value} {fz : Nat × Nat} (hρ : ρ' i = Option.some (b, 0, z)) (hw : w'.heap[b]? = Option.some (.cells ⟨V ++ X⟩ t fz))
    (hl : LR ρ' cs V) (hz : z = (V ++ X).length) (h1 : ones cs = true) (hf : ∀ o, o < z → ¬ (fz.1 ≤ o ∧ o < fz.2)) : OR ρ' i w' (.cells cs t false) := by
  have hlen := hl.length
  simp only [OR]
  refine ⟨b, 0, z, V ++ X, fz, hρ, hw, hz.symm, ?_, ?_, fun c hc => ?_, fun _ => hf⟩
  · subst hz; simp; omega
  · have : ((V ++ X).drop 0).take cs.length = V := by
      rw [← hlen]; simp
    rw [this]; exact hl
  · unfold ones at h1; rw [List.all_eq_true] at h1; exact h1 c hc

/-- AN OPERATION THAT MAKES AN OBJECT: one block more, with what the abstract machine says in it. -/
theorem allocA_ok (he : EvR ρ ev ev') (o : Oper) {mk : Nat → AV} {obj : AO} (ha : allocA P ev o.op = some (mk, obj)) (w : World) :
    ∃ v w' z, (execOp ev' o).run P w = .ok (.value v) w' ∧ New w w' ∧ ∀ (ρ' : Ren) i, ρ.le ρ' → ρ' i = some (w.heap.size, 0, z) → VR ρ' (mk i) v ∧ OR ρ' i w' obj := by
  obtain ⟨dst, op, type, pos, after, guard⟩ := o
  simp only at ha
  cases op with
  | alloc e =>
    simp only [allocA] at ha
    split at ha
    · rename_i z hz
      split at ha
      · rename_i h1
        simp only [Option.some.injEq, Prod.mk.injEq] at ha; obtain ⟨rfl, rfl⟩ := ha
        obtain ⟨zv, hzv, hzr⟩ := zeroA_ok (ρ := ρ) hz
        refine ⟨.pointer (some ⟨w.heap.size, 0, none⟩), w.alloc (.cells zv.cells e), zv.cells.size, ?_, New.alloc _ _, fun ρ' i hle hi => ⟨?_, ?_⟩⟩
        · simp [execOp, Instr.alloc, hzr, newVar, newRow]
        · simp only [VR]; exact ⟨_, _, _, hi, rfl⟩
        · refine OR.mk_cells (V := zv.cells.toList) (X := []) (fz := (0, 0)) hi ?_ (LR.mono hle _ _ (VR.cells hzv)) (by simp) h1 (by simp)
          rw [heap_alloc_new]; simp
      · simp at ha
    · simp at ha
  | box e x =>
    simp only [allocA] at ha
    split at ha
    · rename_i a hx
      split at ha
      · rename_i h1
        simp only [Option.some.injEq, Prod.mk.injEq] at ha; obtain ⟨rfl, rfl⟩ := ha
        have hv := he x a hx
        refine ⟨.pointer (some ⟨w.heap.size, 0, none⟩), w.alloc (.cells (ev' x).cells e), (ev' x).cells.size, ?_, New.alloc _ _, fun ρ' i hle hi => ⟨?_, ?_⟩⟩
        · simp [execOp, Instr.box, newVar, newRow]
        · simp only [VR]; exact ⟨_, _, _, hi, rfl⟩
        · refine OR.mk_cells (V := (ev' x).cells.toList) (X := []) (fz := (0, 0)) hi ?_ (LR.mono hle _ _ (VR.cells hv)) (by simp) h1 (by simp)
          rw [heap_alloc_new]; simp
      · simp at ha
    · simp at ha
  | buildSlice t len parts =>
    simp only [allocA] at ha
    split at ha
    · rename_i e ps ht hps
      split at ha
      · rename_i s z hs hz
        split at ha
        · rename_i hc
          obtain ⟨hs0, hzl, hbig⟩ := hc
          split at ha
          · rename_i cs hcs
            split at ha
            · rename_i h1
              simp only [Option.some.injEq, Prod.mk.injEq] at ha; obtain ⟨rfl, rfl⟩ := ha
              obtain ⟨zv, hzv, hzr⟩ := zeroA_ok (ρ := ρ) hz
              have hzc := VR.cells hzv
              have hzs : zv.cells.size = s := by have := hzc.length; simp at this; omega
              obtain ⟨R, hR, hRr⟩ := fillA_ok (fun i => some (i * s, s)) (evParts_ok he hps) (replA_LR hzc len) hcs
              have hRl : R.length = len * s := by
                have e1 := hRr.length
                have e2 : cs.length = (replA len z.cells).length := fillA_length hcs
                rw [replA_length, hzl] at e2; omega
              refine ⟨.slice (some ⟨w.heap.size, 0, none⟩) len len, w.alloc (.cells ⟨R⟩ e), R.length, ?_, New.alloc _ _, fun ρ' i hle hi => ⟨?_, ?_⟩⟩
              · have hfill : Instr.fill (fun i => some (i * s, s)) ((Array.range (len * s)).map (zv.cells[· % zv.cells.size]!)) (parts.map fun (i, x) => (i, ev' x)).toList = some ⟨R⟩ := by
                  rw [map_parts]
                  rw [← hR]
                  congr 1
                  have := zeros_eq zv (by omega) len
                  rw [hzs] at this ⊢
                  exact this
                simp only [execOp, Instr.buildSlice, Sem.run_bind, run_und ht, Result.andThen_ok, run_sz hs]
                rw [if_neg (by omega)]
                by_cases h0 : len * s = 0
                · rw [if_pos h0]
                  have hl0 : len = 0 := by rcases Nat.mul_eq_zero.1 h0 with h | h <;> omega
                  subst hl0
                  have : ((Array.range (0 * s)).map (fun x => (#[] : Array Value)[x % (#[] : Array Value).size]!)) = (Array.range (0 * s)).map (zv.cells[· % zv.cells.size]!) := by simp
                  simp only [pure_bind]
                  rw [this, hfill]
                  simp [newRow]
                · rw [if_neg h0]
                  simp only [Sem.run_bind, hzr, Result.andThen_ok, Sem.run_pure]
                  rw [hfill]
                  simp [newRow]
              · simp only [VR]; exact ⟨_, _, _, _, _, hi, rfl, Nat.le_refl _, Nat.le_refl _, by omega, .inr rfl⟩
              · refine OR.mk_cells (V := R) (X := []) (fz := (0, 0)) hi ?_ (LR.mono hle _ _ hRr) (by simp) h1 (by simp)
                rw [heap_alloc_new]; simp
            · simp at ha
          · simp at ha
        · simp at ha
      · simp at ha
    · simp at ha
  | makeSlice t l c =>
    simp only [allocA] at ha
    split at ha
    · rename_i e kn n km m ht hl hc
      split at ha
      · rename_i inf z hinf hz
        split at ha
        · rename_i hb
          obtain ⟨h0, hnm, hbytes, hm, hs0, hzl, h1⟩ := hb
          simp only [Option.some.injEq, Prod.mk.injEq] at ha; obtain ⟨rfl, rfl⟩ := ha
          obtain ⟨zv, hzv, hzr⟩ := zeroA_ok (ρ := ρ) hz
          have hzc := VR.cells hzv
          have hzs : zv.cells.size = inf.size := by have := hzc.length; simp at this; omega
          have hlv := he l _ hl
          have hcv := he c _ hc
          simp only [VR] at hlv hcv
          refine ⟨.slice (some ⟨w.heap.size, 0, none⟩) n.toNat m.toNat, w.alloc (.cells ⟨replV m.toNat zv.cells.toList⟩ e), m.toNat * inf.size, ?_, New.alloc _ _, fun ρ' i hle hi => ⟨?_, ?_⟩⟩
          · have hm0 : 0 ≤ m := by omega
            have wl : IntKind.i64.wrap n = n := wrap_i64 h0 (by omega)
            have wc : IntKind.i64.wrap m = m := wrap_i64 hm0 hm
            have hsz : tsz P e = some inf.size := by simp [tsz, hinf]
            have big : ¬ ((inf.bytes : Int) * m > 2 ^ 48) := by
              have : (2 : Int) ^ 46 ≤ 2 ^ 48 := by decide
              omega
            have big' : ¬ (((inf.bytes : Nat) : Int) * m > 281474976710656) := by simpa using big
            simp only [execOp, Instr.makeSlice, Sem.run_bind, run_und ht, Result.andThen_ok, hlv, hcv, asInt, asIntOf, pure_bind, run_inf hinf, Sem.run_pure, wl, wc]
            have c1 : ((decide (m < 0) || decide ((inf.bytes : Int) * m > 2 ^ 48)) || decide (n < 0) || decide (n > m)) = false := by
              simp only [Bool.or_eq_false_iff, decide_eq_false_iff_not]
              exact ⟨⟨⟨by omega, big⟩, by omega⟩, by omega⟩
            rw [if_neg (by rw [c1]; simp)]
            simp only [pure_bind, Sem.run_bind, run_askRoom, Result.andThen_ok, run_sz hsz]
            have harr := zeros_eq zv (by omega) m.toNat
            rw [hzs] at harr
            by_cases h0' : m.toNat * inf.size = 0
            · rw [if_pos h0']
              have hl0 : m.toNat = 0 := by rcases Nat.mul_eq_zero.1 h0' with h | h <;> omega
              have hr0 : ∀ f : Nat → Value, (Array.range 0).map f = ⟨[]⟩ := fun f => by apply Array.ext'; simp
              rw [hl0]; simp [replV, newRow, hr0]
            · rw [if_neg h0']
              simp only [Sem.run_bind, hzr, Result.andThen_ok, Sem.run_pure, hzs]
              rw [harr]
              simp [newRow]
          · simp only [VR]; exact ⟨_, _, _, _, _, hi, rfl, by omega, Nat.le_refl _, by omega, .inr rfl⟩
          · refine OR.mk_cells (V := replV m.toNat zv.cells.toList) (X := []) (fz := (0, 0)) hi ?_ (LR.mono hle _ _ (replA_LR hzc _)) (by simp [replV_length, hzs]) (ones_replA h1 _) (by simp)
            rw [heap_alloc_new]; simp
        · simp at ha
      · simp at ha
    · simp at ha
  | makeMap t r =>
    cases r with
    | some r => simp [allocA] at ha
    | none =>
      simp only [allocA, Option.some.injEq, Prod.mk.injEq] at ha; obtain ⟨rfl, rfl⟩ := ha
      refine ⟨.map (some w.heap.size), w.alloc (.map #[] 0), 0, ?_, New.alloc _ _, fun ρ' i hle hi => ⟨?_, ?_⟩⟩
      · simp [execOp, Instr.makeMap]
      · simp only [VR]; exact ⟨_, _, _, hi, rfl⟩
      · simp only [OR]; exact ⟨_, _, _, [], hi, by rw [heap_alloc_new], by simp [ER]⟩
  | convert s d x =>
    simp only [allocA] at ha
    split at ha
    · rename_i e l hs hd hx
      split at ha
      · rename_i hu
        simp only [Option.some.injEq, Prod.mk.injEq] at ha; obtain ⟨rfl, rfl⟩ := ha
        have hv := he x _ hx
        simp only [VR] at hv
        have hrun := Lib.run_convert_string_bytes w s d e ⟨l.toArray⟩ hs hd hu
        have hsz : (⟨l.toArray⟩ : ByteArray).size = l.length := by simp [ByteArray.size]
        rw [hsz] at hrun
        have hge : l.length ≤ grownCap w l.length 0 e := by
          simp only [grownCap, Question.cut]; omega
        refine ⟨.slice (some ⟨w.heap.size, 0, none⟩) l.length (grownCap w l.length 0 e), Lib.bytesWorld w e ⟨l.toArray⟩, (Lib.bytesCells w e ⟨l.toArray⟩).size, ?_, ⟨Lib.bytesWorld_size .., fun k hk => Lib.bytesWorld_at_old w e _ k hk, ?_, ?_, ?_⟩, fun ρ' i hle hi => ⟨?_, ?_⟩⟩
        · simp only [execOp, Sem.run_bind, hv, hrun, Result.andThen_ok, Sem.run_pure]
        · simp only [Lib.bytesWorld, World.freeze]; split <;> rfl
        · simp only [Lib.bytesWorld, World.freeze]; split <;> rfl
        · simp only [Lib.bytesWorld, World.freeze]; split <;> rfl
        · simp only [VR]; refine ⟨_, _, _, _, _, hi, rfl, Nat.le_refl _, hge, ?_, .inr rfl⟩
          simp [Lib.bytesCells, ByteArray.size]; omega
        · refine OR.mk_cells (V := l.map fun b => Value.int .u8 b.toNat) (X := List.replicate (grownCap w l.length 0 e - l.length) (.int .u8 0)) (fz := ((Lib.bytesCells w e ⟨l.toArray⟩).size, (Lib.bytesCells w e ⟨l.toArray⟩).size + 1)) hi ?_ ?_ ?_ ?_ ?_
          · rw [Lib.bytesWorld_at_new]
            congr 2
            apply Array.ext'
            simp [Lib.bytesCells, ByteArray.size]
          · refine LR.of_get (by simp [u8s]) fun j a hj => ?_
            simp only [u8s, List.getElem?_map, Option.map_eq_some_iff] at hj ⊢
            obtain ⟨b, hb, rfl⟩ := hj
            exact ⟨_, ⟨b, hb, rfl⟩, VR.mkInt⟩
          · simp [Lib.bytesCells, ByteArray.size]
          · simp [ones, u8s, AV.one]
          · intro o ho; simp only; omega
      · simp at ha
    · simp at ha
  | _ => simp [allocA] at ha

end
end Go.Am
