/-
  What the suite's functions do, in the abstract machine.
  Conditions: none.
-/
import Derived.Test.YtlpbgmbiollimaaGreatRows
import Derived.Test.YtlpbgmbiollimaaGreatAh
import Derived.KernelRfl
set_option linter.unusedVariables false
namespace Go.Proofs.YtlpbgmbiollimaaGreat
open Go Go.Am _root_.Go.Proofs.Tryz

/-- Handles: its keys, in order. -/
def isU32 : AV → Bool
  | .int .u32 _ => true
  | _ => false
def u32of : AV → Int
  | .int _ n => n
  | _ => 0
def bornOk (clk : Nat) : List (AV × AV × Nat) → Bool
  | [] => true
  | (_, _, n) :: es => Nat.blt n clk && es.all (fun e => !Nat.beq e.2.2 n) && bornOk clk es
def sortedU (zs : List Int) : List Int := zs.mergeSort fun x y => decide (x ≤ y)
def orcHandles (l : List AV) (h : AH) : Option (AV × AH) := match l with
  | [.ptr (some (p, 0))] => match h.get p with
    | some (.cells (.map (some m) :: _) _ _) => match h.get m with
      | some (.map es clk) => bif es.all (fun e => isU32 e.1) && bornOk clk es && Nat.ble es.length 1000000 then
          (match es with
           | [] => some (.slice none 0 0 0, h)
           | _ => some (.slice (some (h.next, 0)) es.length es.length 1, h.add (.cells ((sortedU (es.map fun e => u32of e.1)).map (AV.int .u32)) 38 false))) else none
      | _ => none
    | _ => none
  | _ => none

def orc : Orc := fun f => bif Nat.beq f 7 then some orcHandles else none

theorem orcN : OrcNext orc := by
  intro f g e l h v h' hg
  unfold orc at e
  cases hb : Nat.beq f 7 with
  | false => rw [hb] at e; simp at e
  | true =>
    rw [hb] at e
    simp only [cond_true, Option.some.injEq] at e
    subst e
    unfold orcHandles at hg
    split at hg
    · split at hg
      · split at hg
        · rename_i es clk _
          cases hc : (es.all (fun e => isU32 e.1) && bornOk clk es && Nat.ble es.length 1000000) with
          | false => rw [hc] at hg; simp at hg
          | true =>
            rw [hc] at hg
            simp only [cond_true] at hg
            split at hg
            · simp only [Option.some.injEq, Prod.mk.injEq] at hg; obtain ⟨-, rfl⟩ := hg; exact Nat.le_refl _
            · simp only [Option.some.injEq, Prod.mk.injEq] at hg; obtain ⟨-, rfl⟩ := hg; exact Nat.le_succ _
        · simp at hg
      · simp at hg
    · simp at hg

noncomputable def C (f : FuncId) (l : List AV) : M AV := ca prog orc f l
noncomputable def V (f : AV) (l : List AV) : M AV := cv prog orc f l

theorem W_den {f : FuncId} {fn : Func} {x : An} (ho : orc f = none) (hf : prog.funcs[f]? = some fn) (hx : anB prog fn x = true) {l : List AV} {t : M AV}
    (ht : denB prog orc fn x l = t) {h : AH} {Q : AV → AH → Prop} (w : W t h Q) : W (C f l) h Q := W_call (fun e => denB_ok orcN ho hf hx ht e) w

@[simp] theorem V_func {g : FuncId} {first captured l : List AV} : V (.func (.func g) first captured) l = C g (first ++ l ++ captured) := rfl

end Go.Proofs.YtlpbgmbiollimaaGreat

namespace Go.Proofs.YtlpbgmbiollimaaGreat
open Go Go.Am _root_.Go.Proofs.Tryz

/-- theodolite/theodolitelaw28.SuiteFull -/
noncomputable def s3 (a0 a1 a2 : AV) : M AV :=
  bd (C 4 []) fun t16 =>
  lt (unA .not t16) fun t17 =>
  cn t17 (rt (.bool false)) (
  bd (C 5 []) fun t18 =>
  lt (binV .rem a1 (.int .u16 100)) fun t20 =>
  lt (cvI .i64 t20) fun t21 =>
  lt (binV .add (.int .i64 8) t21) fun t22 =>
  lt (aggO (fillL [(.int .u8 0), (.int .i64 0), (.int .i64 0), (.int .i64 0), (.bool false), (.int .i64 0), (.int .i64 0)] [(0, 1, (.int .u8 4)), (6, 1, t22)])) fun t23 =>
  bd (nw [(.int .u8 0), (.int .i64 0), (.int .i64 0), (.int .i64 0), (.bool false), (.int .i64 0), (.int .i64 0)] 29) fun t8 =>
  bd (st 7 t8 t23) fun u_0 =>
  bd (lp (fun u_1 => un u_1 fun t9 u_2 => lt (cvI .i64 a0) fun t26 =>
  lt (binV .lss t9 t26) fun t27 =>
  cn t27 (lt (cvI .u32 t9) fun t32 =>
  lt (binV .mul t32 (.int .u32 7)) fun t33 =>
  bd (ldN 7 t8) fun t34 =>
  lt (aggO (fillL [(.int .u8 0), (.int .u32 0), (.int .u32 0), (.int .u8 0), (.int .i64 0), (.int .i64 0), (.int .i64 0), (.bool false), (.int .i64 0), (.int .i64 0), (.int .i64 0), (.int .u64 0), (.int .u64 0), (.int .u64 0), (.slice none 0 0 0), (.slice none 0 0 0), (.int .i64 0), (.int .i64 0), (.slice none 0 0 0)] [(0, 1, (.int .u8 1)), (1, 1, t33), (3, 7, t34)])) fun t35 =>
  bd (C 6 [t18, t35]) fun t36 =>
  bd (nw [(.int .i64 0), (.int .i64 0), (.bool false), (.int .u64 0), (.int .u64 0), (.int .u64 0), (.int .u64 0), (.slice none 0 0 0)] 36) fun t10 =>
  bd (st 8 t10 t36) fun u_3 =>
  lt (fldA 0 t10) fun t37 =>
  bd (ld t37) fun t38 =>
  lt (eqI false t38 (.int .i64 0)) fun t39 =>
  lt (binV .lss t9 (.int .i64 64)) fun t41 =>
  lt (eqB true t39 t41) fun t42 =>
  lt (gv t42 false (some t9)) fun t44 =>
  lt (gv t42 false (binV .geq t44 (.int .i64 64))) fun t45 =>
  lt (gv t42 false (some t45)) fun t46 =>
  lt (gv t46 true (fldA 0 t10)) fun t47 =>
  bd (gm t46 true (ld t47)) fun t48 =>
  lt (gv t46 true (eqI true t48 (.int .i64 2))) fun t49 =>
  lt (gv t42 false (pickV t46 t49 (.bool false))) fun t50 =>
  lt (pickV t42 (.bool true) t50) fun t51 =>
  cn t51 (rt (.done (.bool false))) (
  lt (binV .add t9 (.int .i64 1)) fun t29 =>
  rt (.again [t29]))) (
  rt (.out 0 []))) [(.int .i64 0)]) fun u_4 =>
  ou u_4 rt [(0, fun u_5 => lt (cvI .i64 a0) fun t53 =>
  lt (foldA min2A t53 [(.int .i64 64)]) fun t54 =>
  bd (C 7 [t18]) fun t56 =>
  lt (lnS t56) fun t57 =>
  lt (eqI true t57 t54) fun t59 =>
  cn t59 (rt (.bool false)) (
  lt (cvI .i64 a2) fun t61 =>
  lt (binV .rem t61 (.int .i64 64)) fun t62 =>
  lt (cvI .u32 t62) fun t63 =>
  lt (binV .mul t63 (.int .u32 7)) fun t64 =>
  lt (aggO (fillL [(.int .u8 0), (.int .u32 0), (.int .u32 0), (.int .u8 0), (.int .i64 0), (.int .i64 0), (.int .i64 0), (.bool false), (.int .i64 0), (.int .i64 0), (.int .i64 0), (.int .u64 0), (.int .u64 0), (.int .u64 0), (.slice none 0 0 0), (.slice none 0 0 0), (.int .i64 0), (.int .i64 0), (.slice none 0 0 0)] [(0, 1, (.int .u8 11)), (1, 1, t64)])) fun t67 =>
  bd (C 6 [t18, t67]) fun t68 =>
  bd (nw [(.int .i64 0), (.int .i64 0), (.bool false), (.int .u64 0), (.int .u64 0), (.int .u64 0), (.int .u64 0), (.slice none 0 0 0)] 36) fun t13 =>
  bd (st 8 t13 t68) fun u_6 =>
  lt (fldA 0 t13) fun t69 =>
  bd (ld t69) fun t70 =>
  lt (eqI false t70 (.int .i64 0)) fun t71 =>
  lt (cvI .i64 a2) fun t73 =>
  lt (binV .rem t73 (.int .i64 64)) fun t74 =>
  lt (binV .lss t74 t54) fun t76 =>
  lt (eqB true t71 t76) fun t77 =>
  cn t77 (rt (.bool false)) (
  lt (fldA 0 t13) fun t78 =>
  bd (ld t78) fun t79 =>
  lt (eqI true t79 (.int .i64 0)) fun t80 =>
  cn t80 (lt (fldA 0 t13) fun t81 =>
  bd (ld t81) fun t82 =>
  lt (eqI false t82 (.int .i64 2)) fun t83 =>
  rt t83) (
  lt (binV .add t64 (.int .u32 1)) fun t86 =>
  bd (ldN 7 t8) fun t87 =>
  lt (aggO (fillL [(.int .u8 0), (.int .u32 0), (.int .u32 0), (.int .u8 0), (.int .i64 0), (.int .i64 0), (.int .i64 0), (.bool false), (.int .i64 0), (.int .i64 0), (.int .i64 0), (.int .u64 0), (.int .u64 0), (.int .u64 0), (.slice none 0 0 0), (.slice none 0 0 0), (.int .i64 0), (.int .i64 0), (.slice none 0 0 0)] [(0, 1, (.int .u8 1)), (1, 1, t86), (3, 7, t87)])) fun t88 =>
  bd (C 6 [t18, t88]) fun t89 =>
  bd (nw [(.int .i64 0), (.int .i64 0), (.bool false), (.int .u64 0), (.int .u64 0), (.int .u64 0), (.int .u64 0), (.slice none 0 0 0)] 36) fun t14 =>
  bd (st 8 t14 t89) fun u_7 =>
  bd (C 7 [t18]) fun t91 =>
  lt (fldA 0 t14) fun t92 =>
  bd (ld t92) fun t93 =>
  lt (eqI false t93 (.int .i64 0)) fun t94 =>
  lt (gv t94 true (some t91)) fun t96 =>
  lt (gv t94 true (lnS t96)) fun t97 =>
  lt (gv t94 true (some t54)) fun t98 =>
  lt (gv t94 true (eqI false t97 t98)) fun t99 =>
  lt (pickV t94 t99 (.bool false)) fun t100 =>
  rt t100))))])
def n3 : An := (.two .nil (.two (.two .nil (.two (.two .nil .nil) .nil)) (.two .nil (.two .nil (.two (.two .nil (.one (.loop [9] [(0, [])] (.two (.two .nil (.two .nil .nil)) (.two (.one (.two .nil (.two .nil (.two (.two .nil .nil) .nil)))) .nil))))) (.two .nil (.two (.two .nil (.two (.two .nil .nil) .nil)) (.two .nil (.two .nil (.two (.two .nil (.two (.two .nil .nil) .nil)) (.two (.two .nil (.two (.two .nil .nil) .nil)) (.two .nil (.two .nil (.two .nil .nil))))))))))))))
theorem w3 {a0 a1 a2 : AV} {h : AH} {Q : AV → AH → Prop} (w : W (s3 a0 a1 a2) h Q) : W (C 3 [a0, a1, a2]) h Q :=
  W_den rfl func3 (by kernel_rfl : anB prog f3 n3 = true) (by kernel_rfl : denB prog orc f3 n3 [a0, a1, a2] = s3 a0 a1 a2) w

/-- theodolite/suite.New -/
noncomputable def s5 : M AV :=
  bd (mkM) fun t1 =>
  lt (aggO (fillL [(.map none), (.slice none 0 0 0)] [(0, 1, t1)])) fun t2 =>
  bd (bx 47 t2) fun t3 =>
  rt t3
def n5 : An := (.two .nil (.two .nil .nil))
theorem w5 {h : AH} {Q : AV → AH → Prop} (w : W (s5) h Q) : W (C 5 []) h Q :=
  W_den rfl func5 (by kernel_rfl : anB prog f5 n5 = true) (by kernel_rfl : denB prog orc f5 n5 [] = s5) w

/-- (*theodolite/suite.Suite).Do -/
noncomputable def s6 (a0 a1 : AV) : M AV :=
  bd (bx 40 a1) fun t3 =>
  bd (nw [(.int .i64 0), (.int .i64 0), (.bool false), (.int .u64 0), (.int .u64 0), (.int .u64 0), (.int .u64 0), (.slice none 0 0 0)] 36) fun t4 =>
  lt (fldA 0 t3) fun t10 =>
  bd (ld t10) fun t11 =>
  lt (binV .lss t11 (.int .u8 1)) fun t12 =>
  lt (gv t12 false (fldA 0 t3)) fun t14 =>
  bd (gm t12 false (ld t14)) fun t15 =>
  lt (gv t12 false (binV .gtr t15 (.int .u8 11))) fun t16 =>
  lt (pickV t12 (.bool true) t16) fun t17 =>
  cn t17 (bd (C 8 [(.int .i64 1)]) fun t18 =>
  bd (st 8 t4 t18) fun u_0 =>
  bd (ldN 8 t4) fun u_1 => rt u_1) (
  bd (C 9 []) fun t20 =>
  lt (extV t20 0) fun t21 =>
  lt (extV t20 1) fun t22 =>
  bd (nw (List.replicate 12 .nilFunc) 51) fun t5 =>
  bd (nw (List.replicate 12 (.bool false)) 52) fun t6 =>
  bd (st 12 t5 t21) fun u_2 =>
  bd (st 12 t6 t22) fun u_3 =>
  lt (fldA 1 t3) fun t25 =>
  bd (ld t25) fun t26 =>
  bd (C 10 [a0, t26]) fun t27 =>
  lt (extV t27 0) fun t28 =>
  lt (extV t27 1) fun t29 =>
  lt (unA .not t29) fun t31 =>
  lt (gv t31 true (fldA 0 t3)) fun t33 =>
  bd (gm t31 true (ld t33)) fun t34 =>
  lt (gv t31 true (ixR 12 1 t6 t34)) fun t35 =>
  bd (gm t31 true (ld t35)) fun t36 =>
  lt (gv t31 true (unA .not t36)) fun t37 =>
  lt (pickV t31 t37 (.bool false)) fun t38 =>
  cn t38 (bd (C 8 [(.int .i64 2)]) fun t39 =>
  bd (st 8 t4 t39) fun u_4 =>
  bd (ldN 8 t4) fun u_5 => rt u_5) (
  lt (fldA 0 t3) fun t40 =>
  bq (ld t40) fun t41 =>
  lt (ixR 12 1 t5 t41) fun t42 =>
  bq (ld t42) fun t43 =>
  bq (ldN 19 t3) fun t46 =>
  bq (V t43 [a0, t28, t46]) fun t47 =>
  gh fun u_6 => bq (nw [(.int .i64 0), (.int .i64 0), (.bool false), (.int .u64 0), (.int .u64 0), (.int .u64 0), (.int .u64 0), (.slice none 0 0 0)] 36) fun t9 =>
  gh fun u_7 =>
  bq (st 8 t9 t47) fun u_8 =>
  chk (mf true (rdP t40) u_6) (chk (mf true (rdP t42) u_6) (chk (mf true (rdP t3) u_6) (lt (fldA 0 t9) fun t48 =>
  bd (ld t48) fun t49 =>
  lt (eqI true t49 (.int .i64 0)) fun t50 =>
  cn t50 (lt (fldA 0 t9) fun t51 =>
  bd (ld t51) fun t52 =>
  bd (C 8 [t52]) fun t53 =>
  bd (st 8 t4 t53) fun u_9 =>
  bd (ldN 8 t4) fun u_10 => rt u_10) (
  bd (ldN 8 t9) fun t54 =>
  bd (st 8 t4 t54) fun u_11 =>
  bd (ldN 8 t4) fun u_12 => rt u_12))))))
def n6 : An := (.two .nil (.two (.two .nil (.two (.two .nil .nil) .nil)) (.two .nil (.two .nil (.two (.two .nil (.two (.two .nil .nil) .nil)) (.two (.draw ⟨[0, 1, 2, 3, 4, 5, 6, 7, 8, 9], [], [(1, 8), (3, 8), (6, 8)], []⟩) (.two (.two .nil (.two (.two .nil .nil) .nil)) (.two .nil .nil))))))))
theorem w6 {a0 a1 : AV} {h : AH} {Q : AV → AH → Prop} (w : W (s6 a0 a1) h Q) : W (C 6 [a0, a1]) h Q :=
  W_den rfl func6 (by kernel_rfl : anB prog f6 n6 = true) (by kernel_rfl : denB prog orc f6 n6 [a0, a1] = s6 a0 a1) w

/-- theodolite/suite.fail -/
noncomputable def s8 (a0 : AV) : M AV :=
  bd (nw [(.int .i64 0), (.int .i64 0), (.bool false), (.int .u64 0), (.int .u64 0), (.int .u64 0), (.int .u64 0), (.slice none 0 0 0)] 36) fun t2 =>
  lt (aggO (fillL [(.int .i64 0), (.int .i64 0), (.bool false), (.int .u64 0), (.int .u64 0), (.int .u64 0), (.int .u64 0), (.slice none 0 0 0)] [(0, 1, a0)])) fun t4 =>
  bd (st 8 t2 t4) fun u_0 =>
  bd (ldN 8 t2) fun u_1 => rt u_1
def n8 : An := (.two .nil (.two .nil .nil))
theorem w8 {a0 : AV} {h : AH} {Q : AV → AH → Prop} (w : W (s8 a0) h Q) : W (C 8 [a0]) h Q :=
  W_den rfl func8 (by kernel_rfl : anB prog f8 n8 = true) (by kernel_rfl : denB prog orc f8 n8 [a0] = s8 a0) w

/-- theodolite/suite.acts -/
noncomputable def s9 : M AV :=
  bd (nw (List.replicate 12 .nilFunc) 51) fun t0 =>
  bd (nw (List.replicate 12 (.bool false)) 52) fun t1 =>
  lt (aggO (fillL (List.replicate 12 .nilFunc) [(1, 1, (.func (.func 12) [] [])), (2, 1, (.func (.func 13) [] [])), (3, 1, (.func (.func 14) [] [])), (4, 1, (.func (.func 15) [] [])), (5, 1, (.func (.func 16) [] [])), (6, 1, (.func (.func 17) [] [])), (7, 1, (.func (.func 18) [] [])), (8, 1, (.func (.func 19) [] [])), (9, 1, (.func (.func 20) [] [])), (10, 1, (.func (.func 21) [] [])), (11, 1, (.func (.func 22) [] []))])) fun t3 =>
  bd (nw (List.replicate 12 .nilFunc) 51) fun t2 =>
  bd (st 12 t2 t3) fun u_0 =>
  bd (ldN 12 t2) fun t4 =>
  lt (aggO (fillL (List.replicate 12 (.bool false)) [(1, 1, (.bool true)), (8, 1, (.bool true)), (9, 1, (.bool true))])) fun t5 =>
  bd (st 12 t0 t4) fun u_1 =>
  bd (st 12 t1 t5) fun u_2 =>
  bd (ldN 12 t0) fun u_3 => bd (ldN 12 t1) fun u_4 => rt (.tuple [u_3, u_4])
def n9 : An := (.two .nil (.two .nil (.two .nil .nil)))
theorem w9 {h : AH} {Q : AV → AH → Prop} (w : W (s9) h Q) : W (C 9 []) h Q :=
  W_den rfl func9 (by kernel_rfl : anB prog f9 n9 = true) (by kernel_rfl : denB prog orc f9 n9 [] = s9) w

/-- (*theodolite/suite.Suite).find -/
noncomputable def s10 (a0 a1 : AV) : M AV :=
  lt (nilV a0) fun t10 =>
  lt (fldA 0 t10) fun t11 =>
  bd (ld t11) fun t12 =>
  bd (lk prog 44 true t12 a1) fun t14 =>
  lt (extV t14 0) fun t15 =>
  lt (extV t14 1) fun t16 =>
  lt (unA .not t16) fun t18 =>
  cn t18 (rt (.tuple [(.ptr none), (.bool false)])) (
  lt (nilV a0) fun t20 =>
  lt (fldA 1 t20) fun t21 =>
  bd (ld t21) fun t22 =>
  lt (ixS 1 t22 t15) fun t24 =>
  bd (ld t24) fun t25 =>
  rt (.tuple [t25, (.bool true)]))
def n10 : An := (.two .nil (.two .nil (.two (.two .nil (.two (.two .nil .nil) .nil)) (.two .nil .nil))))
theorem w10 {a0 a1 : AV} {h : AH} {Q : AV → AH → Prop} (w : W (s10 a0 a1) h Q) : W (C 10 [a0, a1]) h Q :=
  W_den rfl func10 (by kernel_rfl : anB prog f10 n10 = true) (by kernel_rfl : denB prog orc f10 n10 [a0, a1] = s10 a0 a1) w

/-- (*theodolite/suite.Suite).create -/
noncomputable def s12 (a0 a1 a2 : AV) : M AV :=
  bd (bx 40 a2) fun t5 =>
  bd (nw [(.int .i64 0), (.int .i64 0), (.bool false), (.int .u64 0), (.int .u64 0), (.int .u64 0), (.int .u64 0), (.slice none 0 0 0)] 36) fun t6 =>
  lt (fldA 1 t5) fun t10 =>
  bd (ld t10) fun t11 =>
  bd (C 25 [a0, t11]) fun t12 =>
  lt (unA .not t12) fun t13 =>
  cn t13 (bd (C 8 [(.int .i64 2)]) fun t14 =>
  bd (st 8 t6 t14) fun u_0 =>
  bd (ldN 8 t6) fun u_1 => rt u_1) (
  lt (fldA 3 t5) fun t16 =>
  bd (ldN 7 t16) fun t17 =>
  bd (C 26 [t17]) fun t18 =>
  lt (extV t18 0) fun t19 =>
  lt (extV t18 1) fun t20 =>
  jn (fun u_2 => bd (C 8 [t20]) fun t29 =>
  bd (st 8 t6 t29) fun u_3 =>
  bd (ldN 8 t6) fun u_4 => rt u_4) fun u_5 =>
  lt (eqI false t20 (.int .i64 0)) fun t22 =>
  cn t22 (lt (fldA 1 t5) fun t24 =>
  bd (ld t24) fun t25 =>
  bd (C 27 [a0, t25, t19]) fun t27 =>
  u_5 []) (
  u_5 []))
def n12 : An := (.two .nil (.two (.two .nil (.two (.two .nil .nil) .nil)) (.two .nil (.join [] (.two .nil (.two .nil .nil)) (.two .nil .nil)))))
theorem w12 {a0 a1 a2 : AV} {h : AH} {Q : AV → AH → Prop} (w : W (s12 a0 a1 a2) h Q) : W (C 12 [a0, a1, a2]) h Q :=
  W_den rfl func12 (by kernel_rfl : anB prog f12 n12 = true) (by kernel_rfl : denB prog orc f12 n12 [a0, a1, a2] = s12 a0 a1 a2) w

/-- (*theodolite/suite.Suite).remove -/
noncomputable def s22 (a0 a1 a2 : AV) : M AV :=
  bd (bx 40 a2) fun t5 =>
  bd (nw [(.int .i64 0), (.int .i64 0), (.bool false), (.int .u64 0), (.int .u64 0), (.int .u64 0), (.int .u64 0), (.slice none 0 0 0)] 36) fun t6 =>
  lt (nilV a0) fun t8 =>
  lt (fldA 1 t8) fun t9 =>
  bq (ld t9) fun t10 =>
  lt (nilV a0) fun t12 =>
  lt (fldA 0 t12) fun t13 =>
  bq (ld t13) fun t14 =>
  lt (fldA 1 t5) fun t15 =>
  bq (ld t15) fun t16 =>
  bq (lk prog 44 false t14 t16) fun t17 =>
  lt (ixS 1 t10 t17) fun t18 =>
  bq (st 1 t18 (.ptr none)) fun u_0 =>
  lt (nilV a0) fun t20 =>
  lt (fldA 0 t20) fun t21 =>
  bq (ld t21) fun t22 =>
  lt (fldA 1 t5) fun t23 =>
  bq (ld t23) fun t24 =>
  bq (mdel prog 44 t22 t24) fun u_1 =>
  lt (aggO (fillL [(.int .i64 0), (.int .i64 0), (.bool false), (.int .u64 0), (.int .u64 0), (.int .u64 0), (.int .u64 0), (.slice none 0 0 0)] [])) fun t25 =>
  bd (st 8 t6 t25) fun u_2 =>
  bd (ldN 8 t6) fun u_3 => rt u_3
def n22 : An := (.two .nil (.two (.draw ⟨[0, 1, 2, 3, 4, 5, 6, 7, 8, 9, 10, 11, 12], [], [], []⟩) (.two (.draw ⟨[0, 1, 2, 3, 4, 5, 6], [], [], []⟩) (.two .nil .nil))))
theorem w22 {a0 a1 a2 : AV} {h : AH} {Q : AV → AH → Prop} (w : W (s22 a0 a1 a2) h Q) : W (C 22 [a0, a1, a2]) h Q :=
  W_den rfl func22 (by kernel_rfl : anB prog f22 n22 = true) (by kernel_rfl : denB prog orc f22 n22 [a0, a1, a2] = s22 a0 a1 a2) w

/-- (*theodolite/suite.Suite).free -/
noncomputable def s25 (a0 a1 : AV) : M AV :=
  lt (nilV a0) fun t9 =>
  lt (fldA 0 t9) fun t10 =>
  bd (ld t10) fun t11 =>
  bd (lk prog 44 true t11 a1) fun t13 =>
  lt (extV t13 0) fun t14 =>
  lt (extV t13 1) fun t15 =>
  lt (unA .not t15) fun t17 =>
  lt (gv t17 true (some a0)) fun t19 =>
  lt (gv t17 true (nilV t19)) fun t20 =>
  lt (gv t17 true (fldA 0 t20)) fun t21 =>
  bd (gm t17 true (ld t21)) fun t22 =>
  bd (gm t17 true (lenM t22)) fun t23 =>
  lt (gv t17 true (binV .lss t23 (.int .i64 64))) fun t24 =>
  lt (pickV t17 t24 (.bool false)) fun t25 =>
  rt t25
def n25 : An := (.two .nil (.two .nil (.two .nil .nil)))
theorem w25 {a0 a1 : AV} {h : AH} {Q : AV → AH → Prop} (w : W (s25 a0 a1) h Q) : W (C 25 [a0, a1]) h Q :=
  W_den rfl func25 (by kernel_rfl : anB prog f25 n25 = true) (by kernel_rfl : denB prog orc f25 n25 [a0, a1] = s25 a0 a1) w

/-- theodolite/join.Make -/
noncomputable def s26 (a0 : AV) : M AV :=
  bd (bx 29 a0) fun t1 =>
  lt (fldA 0 t1) fun t6 =>
  bd (ld t6) fun t7 =>
  bd (C 49 [t7]) fun t8 =>
  lt (unA .not t8) fun t9 =>
  cn t9 (rt (.tuple [(.ptr none), (.int .i64 1)])) (
  lt (fldA 0 t1) fun t10 =>
  bd (ld t10) fun t11 =>
  lt (aggO (fillL [(.int .u8 0), (.ptr none), (.ptr none), (.ptr none), (.ptr none)] [(0, 1, t11)])) fun t12 =>
  bd (bx 98 t12) fun t13 =>
  gh fun u_0 => bq (C 50 []) fun t14 =>
  gh fun u_1 =>
  lt (fldA 0 t1) fun t15 =>
  bq (ld t15) fun t16 =>
  lt (binV .sub t16 (.int .u8 1)) fun t17 =>
  lt (ixA 4 2 true t14 t17) fun t18 =>
  lt (fldV false 1 0 t18) fun t19 =>
  bq (ldN 7 t1) fun t21 =>
  bq (V t19 [t13, t21]) fun t22 =>
  chk (cf true (rdP t15) u_0 u_1) (chk (cf true (rdP t1) u_0 u_1) (lt (eqI true t22 (.int .i64 0)) fun t24 =>
  lt (gv t24 false (some t13)) fun t26 =>
  gh fun u_2 => bq (gm t24 false (C 37 [t26])) fun t27 =>
  gh fun u_3 =>
  bq (gm t24 false (ldN 7 t1)) fun t28 =>
  lt (gv t24 false (eqV prog true false 29 t27 t28)) fun t29 =>
  lt (pickV t24 (.bool true) t29) fun t30 =>
  chk (cf (gon t24 false) (bif gon t24 false then (rdP t1) else none) u_2 u_3) (cn t30 (rt (.tuple [(.ptr none), (.int .i64 1)])) (
  rt (.tuple [t13, (.int .i64 0)]))))))
def n26 : An := (.two .nil (.two (.two .nil (.two (.two .nil .nil) .nil)) (.two .nil (.two (.two (.draw ⟨[0, 1, 2, 3, 4, 5, 6, 7, 8, 9], [(2, 0), (7, 0)], [], []⟩) (.two (.draw ⟨[0, 1, 2, 3, 4, 5, 6, 7], [(5, 4)], [], []⟩) (.two (.two .nil .nil) .nil))) (.two .nil .nil)))))
theorem w26 {a0 : AV} {h : AH} {Q : AV → AH → Prop} (w : W (s26 a0) h Q) : W (C 26 [a0]) h Q :=
  W_den rfl func26 (by kernel_rfl : anB prog f26 n26 = true) (by kernel_rfl : denB prog orc f26 n26 [a0] = s26 a0) w

/-- (*theodolite/suite.Suite).name -/
noncomputable def s27 (a0 a1 a2 : AV) : M AV :=
  lt (nilV a0) fun t8 =>
  lt (fldA 1 t8) fun t9 =>
  bd (ld t9) fun t10 =>
  bd (C 51 [t10, (.ptr none)]) fun t11 =>
  jn (fun u_0 => un u_0 fun t6 u_1 => lt (nilV a0) fun t29 =>
  lt (fldA 1 t29) fun t30 =>
  bq (ld t30) fun t31 =>
  lt (nilV a0) fun t34 =>
  lt (fldA 0 t34) fun t35 =>
  bq (ld t35) fun t36 =>
  lt (ixS 1 t31 t6) fun t40 =>
  bq (st 1 t40 a2) fun u_2 =>
  bq (ment prog 44 t36 a1) fun t41 =>
  lt (extV t41 1) fun t42 =>
  bq (mest t36 t42 t6) fun u_3 =>
  rt (.tuple [])) fun u_4 =>
  lt (binV .lss t11 (.int .i64 0)) fun t13 =>
  cn t13 (lt (nilV a0) fun t15 =>
  lt (fldA 1 t15) fun t16 =>
  bd (ld t16) fun t17 =>
  lt (lnS t17) fun t18 =>
  lt (nilV a0) fun t21 =>
  lt (fldA 1 t21) fun t22 =>
  bd (ld t22) fun t23 =>
  bd (mkS 55 1 1 (fillL [(.ptr none)] [(0, 1, (.ptr none))])) fun t24 =>
  bd (ap 55 1 8 t23 t24) fun t25 =>
  lt (nilV a0) fun t26 =>
  lt (fldA 1 t26) fun t27 =>
  bd (st 1 t27 t25) fun u_5 =>
  u_4 [t18]) (
  u_4 [t11])
def n27 : An := (.two .nil (.join [6] (.two .nil (.two (.two .nil .nil) .nil)) (.draw ⟨[0, 1, 2, 3, 4, 5, 6, 7, 8, 10, 12, 13, 9, 14, 11, 15, 16], [], [], []⟩)))
theorem w27 {a0 a1 a2 : AV} {h : AH} {Q : AV → AH → Prop} (w : W (s27 a0 a1 a2) h Q) : W (C 27 [a0, a1, a2]) h Q :=
  W_den rfl func27 (by kernel_rfl : anB prog f27 n27 = true) (by kernel_rfl : denB prog orc f27 n27 [a0, a1, a2] = s27 a0 a1 a2) w

/-- (*theodolite/join.Sketch).Spec -/
noncomputable def s37 (a0 : AV) : M AV :=
  bd (nw [(.int .u8 0), (.int .i64 0), (.int .i64 0), (.int .i64 0), (.bool false), (.int .i64 0), (.int .i64 0)] 29) fun t2 =>
  lt (nilV a0) fun t5 =>
  lt (fldA 0 t5) fun t6 =>
  bd (ld t6) fun t7 =>
  lt (aggO (fillL [(.int .u8 0), (.int .i64 0), (.int .i64 0), (.int .i64 0), (.bool false), (.int .i64 0), (.int .i64 0)] [(0, 1, t7)])) fun t8 =>
  bd (nw [(.int .u8 0), (.int .i64 0), (.int .i64 0), (.int .i64 0), (.bool false), (.int .i64 0), (.int .i64 0)] 29) fun t3 =>
  bd (st 7 t3 t8) fun u_0 =>
  lt (nilV a0) fun t10 =>
  lt (fldA 0 t10) fun t11 =>
  bd (ld t11) fun t12 =>
  jn (fun u_1 => bd (ldN 7 t3) fun t55 =>
  bd (st 7 t2 t55) fun u_2 =>
  bd (ldN 7 t2) fun u_3 => rt u_3) fun u_4 =>
  lt (eqI false t12 (.int .u8 1)) fun t20 =>
  cn t20 (lt (nilV a0) fun t22 =>
  lt (fldA 1 t22) fun t23 =>
  bq (ld t23) fun t24 =>
  gh fun u_5 => bq (C 76 [t24]) fun t25 =>
  gh fun u_6 =>
  lt (nilV a0) fun t27 =>
  lt (fldA 1 t27) fun t28 =>
  bq (ld t28) fun t29 =>
  bq (C 77 [t29]) fun t30 =>
  lt (fldA 1 t3) fun t31 =>
  bq (st 3 t31 t25) fun u_7 =>
  lt (fldA 4 t3) fun t32 =>
  bq (st 1 t32 t30) fun u_8 =>
  chk (cf true (rdP t28) u_5 u_6) (u_4 [])) (
  lt (eqI false t12 (.int .u8 2)) fun t34 =>
  cn t34 (lt (nilV a0) fun t36 =>
  lt (fldA 2 t36) fun t37 =>
  bq (ld t37) fun t38 =>
  gh fun u_9 => bq (C 78 [t38]) fun t39 =>
  gh fun u_10 =>
  lt (nilV a0) fun t41 =>
  lt (fldA 2 t41) fun t42 =>
  bq (ld t42) fun t43 =>
  bq (C 79 [t43]) fun t44 =>
  lt (fldA 5 t3) fun t45 =>
  bq (st 1 t45 t39) fun u_11 =>
  lt (fldA 6 t3) fun t46 =>
  bq (st 1 t46 t44) fun u_12 =>
  chk (cf true (rdP t42) u_9 u_10) (u_4 [])) (
  lt (eqI false t12 (.int .u8 3)) fun t48 =>
  cn t48 (lt (nilV a0) fun t50 =>
  lt (fldA 3 t50) fun t51 =>
  bd (ld t51) fun t52 =>
  bd (C 80 [t52]) fun t53 =>
  lt (fldA 6 t3) fun t54 =>
  bd (st 1 t54 t53) fun u_13 =>
  u_4 []) (
  lt (nilV a0) fun t14 =>
  lt (fldA 4 t14) fun t15 =>
  bd (ld t15) fun t16 =>
  bd (C 81 [t16]) fun t17 =>
  lt (fldA 6 t3) fun t18 =>
  bd (st 1 t18 t17) fun u_14 =>
  u_4 [])))
def n37 : An := (.two .nil (.two .nil (.two (.two .nil (.bjoin [] (.two .nil (.two (.draw ⟨[0, 1, 2, 3, 4, 5, 6, 7, 8, 9, 10, 11, 12, 13], [(8, 4)], [], []⟩) (.two .nil (.two (.draw ⟨[0, 1, 2, 3, 4, 5, 6, 7, 8, 9, 10, 11, 12, 13], [(8, 4)], [], []⟩) (.two .nil (.two .nil .nil)))))))) (.two .nil .nil))))
theorem w37 {a0 : AV} {h : AH} {Q : AV → AH → Prop} (w : W (s37 a0) h Q) : W (C 37 [a0]) h Q :=
  W_den rfl func37 (by kernel_rfl : anB prog f37 n37 = true) (by kernel_rfl : denB prog orc f37 n37 [a0] = s37 a0) w

/-- theodolite/join.isKind -/
noncomputable def s49 (a0 : AV) : M AV :=
  lt (binV .geq a0 (.int .u8 1)) fun t4 =>
  lt (gv t4 true (some a0)) fun t6 =>
  lt (gv t4 true (binV .leq t6 (.int .u8 4))) fun t7 =>
  lt (pickV t4 t7 (.bool false)) fun t8 =>
  rt t8
def n49 : An := (.two .nil (.two .nil .nil))
theorem w49 {a0 : AV} {h : AH} {Q : AV → AH → Prop} (w : W (s49 a0) h Q) : W (C 49 [a0]) h Q :=
  W_den rfl func49 (by kernel_rfl : anB prog f49 n49 = true) (by kernel_rfl : denB prog orc f49 n49 [a0] = s49 a0) w

/-- theodolite/join.makers -/
noncomputable def s50 : M AV :=
  bd (nw (List.replicate 8 .nilFunc) 103) fun t0 =>
  lt (aggO (fillL [.nilFunc, .nilFunc] [(0, 1, (.func (.func 88) [] [])), (1, 1, (.func (.func 89) [] []))])) fun t1 =>
  lt (aggO (fillL [.nilFunc, .nilFunc] [(0, 1, (.func (.func 90) [] [])), (1, 1, (.func (.func 91) [] []))])) fun t2 =>
  lt (aggO (fillL [.nilFunc, .nilFunc] [(0, 1, (.func (.func 92) [] [])), (1, 1, (.func (.func 93) [] []))])) fun t3 =>
  lt (aggO (fillL [.nilFunc, .nilFunc] [(0, 1, (.func (.func 94) [] [])), (1, 1, (.func (.func 95) [] []))])) fun t4 =>
  lt (aggO (fillL (List.replicate 8 .nilFunc) [(0, 2, t1), (2, 2, t2), (4, 2, t3), (6, 2, t4)])) fun t5 =>
  bd (st 8 t0 t5) fun u_0 =>
  bd (ldN 8 t0) fun u_1 => rt u_1
def n50 : An := (.two .nil (.two .nil .nil))
theorem w50 {h : AH} {Q : AV → AH → Prop} (w : W (s50) h Q) : W (C 50 []) h Q :=
  W_den rfl func50 (by kernel_rfl : anB prog f50 n50 = true) (by kernel_rfl : denB prog orc f50 n50 [] = s50) w

/-- slices.Index[[]*theodolite/join.Sketch,*theodolite/join.Sketch] -/
noncomputable def s51 (a0 a1 : AV) : M AV :=
  lt (lnS a0) fun t7 =>
  bd (lp (fun u_0 => un u_0 fun t8 u_1 => lt (binV .lss t8 t7) fun t9 =>
  cn t9 (lt (ixS 1 a0 t8) fun t14 =>
  bd (ld t14) fun t15 =>
  lt (eqP false a1 t15) fun t16 =>
  cn t16 (rt (.done t8)) (
  lt (binV .add t8 (.int .i64 1)) fun t18 =>
  rt (.again [t18]))) (
  rt (.out 0 []))) [(.int .i64 0)]) fun u_2 =>
  ou u_2 rt [(0, fun u_3 => rt (.int .i64 (-1)))]
def n51 : An := (.two .nil (.two (.two .nil (.one (.loop [8] [(0, [])] (.two .nil (.two (.two .nil .nil) (.two (.one (.two .nil (.two .nil (.two (.two .nil .nil) .nil)))) .nil)))))) (.two .nil .nil)))
theorem w51 {a0 a1 : AV} {h : AH} {Q : AV → AH → Prop} (w : W (s51 a0 a1) h Q) : W (C 51 [a0, a1]) h Q :=
  W_den rfl func51 (by kernel_rfl : anB prog f51 n51 = true) (by kernel_rfl : denB prog orc f51 n51 [a0, a1] = s51 a0 a1) w

/-- (*theodolite/kll.Stack).Size -/
noncomputable def s81 (a0 : AV) : M AV :=
  lt (nilV a0) fun t4 =>
  lt (fldA 0 t4) fun t5 =>
  bd (ld t5) fun t6 =>
  rt t6
def n81 : An := (.two .nil (.two .nil .nil))
theorem w81 {a0 : AV} {h : AH} {Q : AV → AH → Prop} (w : W (s81 a0) h Q) : W (C 81 [a0]) h Q :=
  W_den rfl func81 (by kernel_rfl : anB prog f81 n81 = true) (by kernel_rfl : denB prog orc f81 n81 [a0] = s81 a0) w

/-- (*theodolite/join.Sketch).makeKll -/
noncomputable def s94 (a0 a1 : AV) : M AV :=
  bd (bx 29 a1) fun t3 =>
  lt (fldA 6 t3) fun t7 =>
  bd (ld t7) fun t8 =>
  bd (C 148 [t8]) fun t9 =>
  lt (extV t9 0) fun t10 =>
  lt (extV t9 1) fun t11 =>
  lt (nilV a0) fun t12 =>
  lt (fldA 4 t12) fun t13 =>
  bd (st 1 t13 t10) fun u_0 =>
  rt t11
def n94 : An := (.two .nil (.two .nil (.two .nil .nil)))
theorem w94 {a0 a1 : AV} {h : AH} {Q : AV → AH → Prop} (w : W (s94 a0 a1) h Q) : W (C 94 [a0, a1]) h Q :=
  W_den rfl func94 (by kernel_rfl : anB prog f94 n94 = true) (by kernel_rfl : denB prog orc f94 n94 [a0, a1] = s94 a0 a1) w

/-- theodolite/kll.New -/
noncomputable def s148 (a0 : AV) : M AV :=
  lt (binV .lss a0 (.int .i64 8)) fun t5 =>
  lt (gv t5 false (some a0)) fun t7 =>
  lt (gv t5 false (binV .gtr t7 (.int .i64 4096))) fun t8 =>
  lt (pickV t5 (.bool true) t8) fun t9 =>
  cn t9 (rt (.tuple [(.ptr none), (.int .i64 1)])) (
  lt (aggO (fillL [(.int .i64 0), (.slice none 0 0 0), (.int .u64 0), (.int .u64 0)] [(0, 1, a0)])) fun t11 =>
  bd (bx 150 t11) fun t12 =>
  rt (.tuple [t12, (.int .i64 0)]))
def n148 : An := (.two .nil (.two (.two .nil (.two (.two .nil .nil) .nil)) (.two .nil .nil)))
theorem w148 {a0 : AV} {h : AH} {Q : AV → AH → Prop} (w : W (s148 a0) h Q) : W (C 148 [a0]) h Q :=
  W_den rfl func148 (by kernel_rfl : anB prog f148 n148 = true) (by kernel_rfl : denB prog orc f148 n148 [a0] = s148 a0) w

end Go.Proofs.YtlpbgmbiollimaaGreat

set_option linter.unusedSimpArgs false
namespace Go.Proofs.YtlpbgmbiollimaaGreat
open Go Go.Am _root_.Go.Proofs.Tryz

/-- Nothing that was there has changed. -/
structure Ex (h h' : AH) : Prop where
  fr : Fr [] h h'
  wf : Wf h'

theorem Ex.refl {h : AH} (w : Wf h) : Ex h h := ⟨Fr.refl _ _, w⟩
theorem Ex.trans {h h1 h2 : AH} (a : Ex h h1) (b : Ex h1 h2) : Ex h h2 := ⟨a.fr.trans b.fr, b.wf⟩
theorem Ex.add {h h' : AH} (a : Ex h h') (o : AO) : Ex h (h'.add o) := ⟨a.fr.add o, a.wf.add o⟩
theorem Ex.set {h h' : AH} (a : Ex h h') {j : Nat} (o : AO) (h1 : h.next ≤ j) (h2 : j < h'.next) : Ex h (h'.set j o) := ⟨a.fr.set o (by omega), a.wf.set h2⟩
theorem Ex.get {h h' : AH} (a : Ex h h') (w : Wf h) {i : Nat} {o : AO} (e : h.get i = some o) : h'.get i = some o := by rw [a.fr.get i (w.lt e) (by simp)]; exact e
theorem Ex.next {h h' : AH} (a : Ex h h') : h.next ≤ h'.next := a.fr.next

def resErr (e : Int) : AV := .agg [.int .i64 e, .int .i64 0, .bool false, .int .u64 0, .int .u64 0, .int .u64 0, .int .u64 0, .slice none 0 0 0]

variable {h : AH} {Q : AV → AH → Prop}

theorem fail {e : Int} (w : Wf h) (q : ∀ h', Ex h h' → Q (resErr e) h') : W (C 8 [.int .i64 e]) h Q := by
  apply w8
  unfold s8
  simp only [↓ww]
  simp [fillL, W_st_eq, W_ldN_eq]
  exact q _ (((Ex.refl w).add _).set _ (Nat.le_refl _) (Nat.lt_succ_self _))

def fnV (g : FuncId) : AV := .func (.func g) [] []
def doL : List AV := [.nilFunc, fnV 12, fnV 13, fnV 14, fnV 15, fnV 16, fnV 17,
  fnV 18, fnV 19, fnV 20, fnV 21, fnV 22]
def aloneL : List AV := [.bool false, .bool true, .bool false, .bool false, .bool false, .bool false, .bool false, .bool false, .bool true, .bool true, .bool false, .bool false]

theorem acts (w : Wf h) (q : ∀ h', Ex h h' → Q (.tuple [.agg doL, .agg aloneL]) h') : W (C 9 []) h Q := by
  apply w9
  unfold s9
  simp only [↓ww]
  simp (disch := ((try simp only [AH.next_add, AH.next_set]); omega)) [fillL, W_nw, W_st_eq, W_ldN_eq, List.replicate, get_set_ne, get_add_ne, get_add_at, get_set_at]
  refine q _ ?_
  refine Ex.set (Ex.set (Ex.set (Ex.add (Ex.add (Ex.add (Ex.refl w) _) _) _) _ ?_ ?_) _ ?_ ?_) _ ?_ ?_ <;> (try simp only [AH.next_add, AH.next_set]) <;> omega

theorem newSuite (w : Wf h) (q : ∀ h' p m, Ex h h' → h'.get p = some (.cells [.map (some m), .slice none 0 0 0] 47 false) → h'.get m = some (.map [] 0) → h.next ≤ p → Q (.ptr (some (p, 0))) h') : W (C 5 []) h Q := by
  apply w5
  unfold s5
  simp only [↓ww]
  simp [fillL, W_bx]
  exact q _ _ h.next (((Ex.refl w).add _).add _) (by rw [← AH.next_add h (.map [] 0), get_add_eq]) (by rw [get_add_ne (by simp), get_add_eq]) (by omega)

/-! ### The suite -/

/-- The sketches' places. -/
def SuX (xs : List AV) (v : AV) (h : AH) : Prop := (xs = [] ∧ v = .slice none 0 0 0) ∨ (xs ≠ [] ∧ ∃ i, v = .slice (some (i, 0)) xs.length xs.length 1 ∧ h.get i = some (.cells xs 55 false))

structure Su (p : Nat) (es : List (AV × AV × Nat)) (clk : Nat) (xs : List AV) (h : AH) (m : Nat) (v : AV) : Prop where
  wf : Wf h
  su : h.get p = some (.cells [.map (some m), v] 47 false)
  mp : h.get m = some (.map es clk)
  sx : SuX xs v h
  pt : ∀ x ∈ xs, ∃ q, x = AV.ptr q

theorem Su.ex {p : Nat} {es : List (AV × AV × Nat)} {clk : Nat} {xs : List AV} {m : Nat} {v : AV} (s : Su p es clk xs h m v) {h' : AH} (e : Ex h h') : Su p es clk xs h' m v :=
  ⟨e.wf, e.get s.wf s.su, e.get s.wf s.mp, by
    rcases s.sx with ⟨a, b⟩ | ⟨a, i, b, c⟩
    · exact .inl ⟨a, b⟩
    · exact .inr ⟨a, i, b, e.get s.wf c⟩, s.pt⟩

variable {p : Nat} {es : List (AV × AV × Nat)} {clk : Nat} {xs : List AV} {m : Nat} {v : AV}

theorem entriesA_map {h : AH} {m : Nat} {es : List (AV × AV × Nat)} {clk : Nat} (e : h.get m = some (.map es clk)) : entriesA h (.map (some m)) = some es := by simp [entriesA, e]

theorem keyOkU {hd : Int} : keyOk prog 38 (.int .u32 hd) = true := by
  have hu := underlying38
  simp [keyOk, hu]

theorem lookup_none {hd : Int} {ok : Bool} (mp : h.get m = some (.map es clk)) (hf : findA prog 38 (.int .u32 hd) es 0 = some none) (q : Q (bif ok then .tuple [.int .i64 0, .bool false] else .int .i64 0) h) :
    W (lk prog 44 ok (.map (some m)) (.int .u32 hd)) h Q := by
  refine ⟨_, _, ?_, q⟩
  simp only [lk, lookupA, underlying44, entriesA_map mp, keyOkU, cond_true, hf]
  have : zeroA prog 3 = some (.int .i64 0) := by kernel_rfl
  rw [this]; rfl

theorem lookup_some {hd : Int} {ok : Bool} {j b : Nat} {x : AV} (mp : h.get m = some (.map es clk)) (hf : findA prog 38 (.int .u32 hd) es 0 = some (some (j, x, b))) (q : Q (bif ok then .tuple [x, .bool true] else x) h) :
    W (lk prog 44 ok (.map (some m)) (.int .u32 hd)) h Q := by
  refine ⟨_, _, ?_, q⟩
  simp only [lk, lookupA, underlying44, entriesA_map mp, keyOkU, cond_true, hf]

theorem find_none (s : Su p es clk xs h m v) {hd : Int} (hf : findA prog 38 (.int .u32 hd) es 0 = some none) (q : Q (.tuple [.ptr none, .bool false]) h) : W (C 10 [.ptr (some (p, 0)), .int .u32 hd]) h Q := by
  apply w10
  unfold s10
  simp only [↓ww]
  rw [W_ld_eq, s.su]
  simp only [ldQ_cells, Nat.zero_add, List.getElem?_cons_zero, cellQ_some]
  refine lookup_none s.mp hf ?_
  simp only [cond_true, ↓ww, Bool.not_false]
  exact q

theorem find_some (s : Su p es clk xs h m v) {hd : Int} {j j' b : Nat} {x : AV} (hf : findA prog 38 (.int .u32 hd) es 0 = some (some (j', .int .i64 j, b))) (hx : xs[j]? = some x) (q : Q (.tuple [x, .bool true]) h) :
    W (C 10 [.ptr (some (p, 0)), .int .u32 hd]) h Q := by
  apply w10
  unfold s10
  simp only [↓ww]
  rw [W_ld_eq, s.su]
  simp only [ldQ_cells, Nat.zero_add, List.getElem?_cons_zero, cellQ_some]
  refine lookup_some s.mp hf ?_
  simp only [cond_true, ↓ww, Bool.not_true]
  rw [W_ld_eq, s.su]
  simp only [ldQ_cells, Nat.zero_add, List.getElem?_cons_zero, List.getElem?_cons_succ, cellQ_some]
  have hlt : j < xs.length := by
    rcases Nat.lt_or_ge j xs.length with k | k
    · exact k
    · rw [List.getElem?_eq_none k] at hx; simp at hx
  rcases s.sx with ⟨a, b⟩ | ⟨a, i, rfl, c⟩
  · subst a; simp at hlt
  · simp (disch := omega) only [↓ww]
    rw [W_ld_eq, c]
    simp only [ldQ_cells, Nat.zero_add, Int.toNat_natCast, Nat.mul_one, hx, cellQ_some]
    exact q

theorem free_no (s : Su p es clk xs h m v) {hd : Int} {j b : Nat} {x : AV} (hf : findA prog 38 (.int .u32 hd) es 0 = some (some (j, x, b))) (q : Q (.bool false) h) : W (C 25 [.ptr (some (p, 0)), .int .u32 hd]) h Q := by
  apply w25
  unfold s25
  simp only [↓ww]
  rw [W_ld_eq, s.su]
  simp only [ldQ_cells, Nat.zero_add, List.getElem?_cons_zero, cellQ_some]
  refine lookup_some s.mp hf ?_
  simp only [cond_true, ↓ww, Bool.not_true]
  exact q

theorem free_yes (s : Su p es clk xs h m v) {hd : Int} (hf : findA prog 38 (.int .u32 hd) es 0 = some none) (q : Q (.bool (decide (es.length < 64))) h) : W (C 25 [.ptr (some (p, 0)), .int .u32 hd]) h Q := by
  apply w25
  unfold s25
  simp only [↓ww]
  rw [W_ld_eq, s.su]
  simp only [ldQ_cells, Nat.zero_add, List.getElem?_cons_zero, cellQ_some]
  refine lookup_none s.mp hf ?_
  simp only [cond_true, ↓ww, Bool.not_false]
  rw [W_ld_eq, s.su]
  simp only [ldQ_cells, Nat.zero_add, List.getElem?_cons_zero, cellQ_some]
  refine W_lenM (entriesA_map s.mp) ?_
  simp only [↓ww]
  have : decide ((es.length : Int) < 64) = decide (es.length < 64) := by rw [decide_eq_decide]; omega
  rw [this]; exact q

end Go.Proofs.YtlpbgmbiollimaaGreat

namespace Go.Proofs.YtlpbgmbiollimaaGreat
open Go Go.Am _root_.Go.Proofs.Tryz

variable {h : AH} {Q : AV → AH → Prop}

theorem isKind4 (q : Q (.bool true) h) : W (C 49 [.int .u8 4]) h Q := by
  apply w49
  unfold s49
  simp [pickV_bool]
  exact q

def makersL : List AV := [fnV 88, fnV 89, fnV 90, fnV 91, fnV 92, fnV 93, fnV 94, fnV 95]

theorem makers (w : Wf h) (q : ∀ h', Ex h h' → Q (.agg makersL) h') : W (C 50 []) h Q := by
  apply w50
  unfold s50
  simp only [↓ww]
  simp (disch := ((try simp only [AH.next_add, AH.next_set]); omega)) [fillL, W_nw, W_st_eq, W_ldN_eq, List.replicate, get_set_ne, get_add_ne, get_add_at, get_set_at]
  exact q _ (((Ex.refl w).add _).set _ (Nat.le_refl _) (Nat.lt_succ_self _))

theorem kllNew {k : Int} (w : Wf h) (h1 : 8 ≤ k) (h2 : k ≤ 4096) (q : ∀ h' b, Ex h h' → h'.get b = some (.cells [.int .i64 k, .slice none 0 0 0, .int .u64 0, .int .u64 0] 150 false) → h.next ≤ b → Q (.tuple [.ptr (some (b, 0)), .int .i64 0]) h') :
    W (C 148 [.int .i64 k]) h Q := by
  apply w148
  unfold s148
  simp only [↓ww]
  rw [decide_eq_false (show ¬ k < 8 by omega)]
  simp only [↓ww]
  rw [decide_eq_false (show ¬ 4096 < k by omega)]
  simp [fillL, W_bx]
  exact q _ h.next ((Ex.refl w).add _) get_add_eq (Nat.le_refl _)

theorem kllSize {b o : Nat} {cs : List AV} {k : AV} {t : TypeId} {ro : Bool} (e : h.get b = some (.cells cs t ro)) (e2 : cs[o]? = some k) (q : Q k h) : W (C 81 [.ptr (some (b, o))]) h Q := by
  apply w81
  unfold s81
  simp only [↓ww, W_ld_eq, e]
  simpa [e2] using q

/-- A specification of a KLL stack. -/
def specK (k : Int) : List AV := [.int .u8 4, .int .i64 0, .int .i64 0, .int .i64 0, .bool false, .int .i64 0, .int .i64 k]

theorem makeKll {k : Int} {x : Nat} (w : Wf h) (h1 : 8 ≤ k) (h2 : k ≤ 4096) (hx : h.get x = some (.cells [.int .u8 4, .ptr none, .ptr none, .ptr none, .ptr none] 98 false))
    (q : ∀ h' b, Fr [x] h h' → Wf h' → h'.get b = some (.cells [.int .i64 k, .slice none 0 0 0, .int .u64 0, .int .u64 0] 150 false) → h.next ≤ b →
      h'.get x = some (.cells [.int .u8 4, .ptr none, .ptr none, .ptr none, .ptr (some (b, 0))] 98 false) → Q (.int .i64 0) h') :
    W (C 94 [.ptr (some (x, 0)), .agg (specK k)]) h Q := by
  apply w94
  unfold s94
  have hlt := w.lt hx
  simp only [↓ww]
  simp [W_bx, specK, W_ld_eq]
  refine kllNew (w.add _) h1 h2 fun h' b e hb hn => ?_
  have hx' := e.get (w.add _) (i := x) (by rw [get_add_ne (by omega)]; exact hx)
  have hlt' := e.wf.lt hx'
  have hxb : x ≠ b := by simp at hn; omega
  simp [W_st_eq, hx']
  have f1 : Fr [x] h h' := ((Fr.refl [x] h).add _).step e.fr (by simp)
  exact q _ b (f1.set _ (by simp)) (e.wf.set hlt') (by rw [get_set_ne hxb]; exact hb) (by simp at hn; omega) get_set_eq

theorem specOf {x b : Nat} {k : Int} {cs : List AV} {t : TypeId} {ro : Bool} (w : Wf h) (hx : h.get x = some (.cells [.int .u8 4, .ptr none, .ptr none, .ptr none, .ptr (some (b, 0))] 98 false))
    (hb : h.get b = some (.cells cs t ro)) (hk : cs[0]? = some (.int .i64 k)) (q : ∀ h', Ex h h' → Q (.agg (specK k)) h') : W (C 37 [.ptr (some (x, 0))]) h Q := by
  apply w37
  unfold s37
  have hlt := w.lt hx
  have hltb := w.lt hb
  simp only [↓ww]
  simp (disch := ((try simp only [AH.next_add, AH.next_set]); omega)) [fillL, W_nw, W_ld_eq, W_st_eq, W_ldN_eq, W_bx, W_mkM, get_set_ne, get_add_ne, get_add_at, get_set_at, List.getElem?_cons_zero, List.getElem?_cons_succ, hx, W_jn]
  refine kllSize (b := b) (cs := cs) (t := t) (ro := ro) (by simp (disch := ((try simp only [AH.next_add, AH.next_set]); omega)) [fillL, W_nw, W_ld_eq, W_st_eq, W_ldN_eq, W_bx, W_mkM, get_set_ne, get_add_ne, get_add_at, get_set_at, List.getElem?_cons_zero, List.getElem?_cons_succ]; exact hb) hk ?_
  simp (disch := ((try simp only [AH.next_add, AH.next_set]); omega)) [W_st_eq, W_ldN_eq, get_set_ne, get_add_ne, get_add_at, get_set_at]
  refine q _ ?_
  refine Ex.set (Ex.set (Ex.set (Ex.add (Ex.add (Ex.refl w) _) _) _ ?_ ?_) _ ?_ ?_) _ ?_ ?_ <;> (try simp only [AH.next_add, AH.next_set]) <;> omega

end Go.Proofs.YtlpbgmbiollimaaGreat

namespace Go.Proofs.YtlpbgmbiollimaaGreat
open Go Go.Am _root_.Go.Proofs.Tryz

mutual
theorem beqV_refl : ∀ a : AV, beqV a a = true
  | .int _ _ => by simp [beqV]
  | .bool _ => by simp [beqV]
  | .str _ => by simp [beqV]
  | .ptr _ => by simp [beqV]
  | .slice _ _ _ _ => by simp [beqV]
  | .map _ => by simp [beqV]
  | .func _ x y => by simp [beqV, beqL_refl x, beqL_refl y]
  | .nilFunc => by simp [beqV]
  | .iface _ x => by simp [beqV, beqV_refl x]
  | .nilIface => by simp [beqV]
  | .agg x => by simp [beqV, beqL_refl x]
  | .tuple x => by simp [beqV, beqL_refl x]
theorem beqL_refl : ∀ a : List AV, beqL a a = true
  | [] => by simp [beqL]
  | a :: r => by simp [beqL, beqV_refl a, beqL_refl r]
end

theorem beqE_refl : ∀ a : List (AV × AV × Nat), beqE a a = true
  | [] => by simp [beqE]
  | (k, v, n) :: r => by simp [beqE, beqV_refl k, beqV_refl v, beqE_refl r]

theorem cf_same {on : Bool} {r : Nat} {h0 h1 : AH} {o : AO} (e0 : h0.get r = some o) (e1 : h1.get r = some o) (hl : o.live = true) : cf on (some r) h0 h1 = true := by
  have : beqO (some o) (some o) = true := by
    cases o with
    | cells cs t ro => simp [beqO, beqL_refl]
    | map es c => simp [beqO, beqE_refl]
    | dead => simp [AO.live] at hl
  simp [cf, e0, e1, this]

theorem mf_lt {on : Bool} {r : Nat} {h0 : AH} (e : r < h0.next) : mf on (some r) h0 = true := by
  have : Nat.beq r h0.next = false := by
    cases hb : Nat.beq r h0.next with
    | false => rfl
    | true => have := Nat.eq_of_beq_eq_true hb; omega
  simp [mf, this]

variable {h : AH} {Q : AV → AH → Prop}

theorem partKind (xs : List AV) (off : Nat) : partA prog 5 xs off = xs[off]? := by kernel_rfl
theorem partShape (xs : List AV) (off : Nat) : partA prog 27 xs off = if off + 3 ≤ xs.length then some (.agg ((xs.drop off).take 3)) else none := by kernel_rfl
theorem partBool (xs : List AV) (off : Nat) : partA prog 4 xs off = xs[off]? := by kernel_rfl
theorem partInt (xs : List AV) (off : Nat) : partA prog 3 xs off = xs[off]? := by kernel_rfl
theorem partInt64 (xs : List AV) (off : Nat) : partA prog 2 xs off = xs[off]? := by kernel_rfl

theorem specK_eq {k : Int} : eqV prog true false 29 (.agg (specK k)) (.agg (specK k)) = some (.bool false) := by
  simp [eqV, eqG, eqGuardType29, binA, specK, eqDepth, eqA, eqFields, underlying29, underlying27, underlying5, underlying4, underlying3, underlying2, stoodInHeld29, stoodInHeld27,
    partKind, partShape, partBool, partInt, partInt64]

theorem makeK {k : Int} (w : Wf h) (h1 : 8 ≤ k) (h2 : k ≤ 4096) (q : ∀ h' x, Ex h h' → h.next ≤ x → Q (.tuple [.ptr (some (x, 0)), .int .i64 0]) h') : W (C 26 [.agg (specK k)]) h Q := by
  apply w26
  unfold s26
  simp only [↓ww]
  simp (disch := ((try simp only [AH.next_add, AH.next_set]); omega)) [fillL, W_nw, W_ld_eq, W_st_eq, W_ldN_eq, W_bx, W_mkM, get_set_ne, get_add_ne, get_add_at, get_set_at, List.getElem?_cons_zero, List.getElem?_cons_succ, specK]
  refine isKind4 ?_
  simp (disch := ((try simp only [AH.next_add, AH.next_set]); omega)) [fillL, W_nw, W_ld_eq, W_st_eq, W_ldN_eq, W_bx, W_mkM, get_set_ne, get_add_ne, get_add_at, get_set_at, List.getElem?_cons_zero, List.getElem?_cons_succ]
  have e0 : Ex h ((h.add (.cells (specK k) 29 false)).add (.cells [.int .u8 4, .ptr none, .ptr none, .ptr none, .ptr none] 98 false)) := ((Ex.refl w).add _).add _
  refine makers e0.wf fun h3 e3 => ?_
  have g1 : h3.get h.next = some (.cells (specK k) 29 false) := e3.get e0.wf (by simp (disch := ((try simp only [AH.next_add, AH.next_set]); omega)) [fillL, W_nw, W_ld_eq, W_st_eq, W_ldN_eq, W_bx, W_mkM, get_set_ne, get_add_ne, get_add_at, get_set_at, List.getElem?_cons_zero, List.getElem?_cons_succ, specK])
  have g2 : h3.get (h.next + 1) = some (.cells [.int .u8 4, .ptr none, .ptr none, .ptr none, .ptr none] 98 false) := e3.get e0.wf (by simp (disch := ((try simp only [AH.next_add, AH.next_set]); omega)) [fillL, W_nw, W_ld_eq, W_st_eq, W_ldN_eq, W_bx, W_mkM, get_set_ne, get_add_ne, get_add_at, get_set_at, List.getElem?_cons_zero, List.getElem?_cons_succ])
  have n3 := e3.next
  simp only [AH.next_add] at n3
  simp (disch := ((try simp only [AH.next_add, AH.next_set]); omega)) [fillL, W_nw, W_ld_eq, W_st_eq, W_ldN_eq, W_bx, W_mkM, get_set_ne, get_add_ne, get_add_at, get_set_at, List.getElem?_cons_zero, List.getElem?_cons_succ, g1, specK, makersL, wr_u8, ixA, partV, fnV]
  refine makeKll e3.wf h1 h2 g2 fun h4 b f4 w4 hb hbn hx => ?_
  have g14 : h4.get h.next = some (.cells (specK k) 29 false) := by rw [f4.get _ (e3.wf.lt g1) (by simp)]; exact g1
  have hcf : cf true (some h.next) ((h.add (.cells (specK k) 29 false)).add (.cells [.int .u8 4, .ptr none, .ptr none, .ptr none, .ptr none] 98 false)) h3 = true := cf_same (o := .cells (specK k) 29 false) (by simp (disch := ((try simp only [AH.next_add, AH.next_set]); omega)) [fillL, W_nw, W_ld_eq, W_st_eq, W_ldN_eq, W_bx, W_mkM, get_set_ne, get_add_ne, get_add_at, get_set_at, List.getElem?_cons_zero, List.getElem?_cons_succ]) g1 rfl
  simp only [specK] at hcf
  rw [hcf]
  simp only [↓ww]
  simp only [eqI_true, ne_eq, not_true_eq_false, decide_false, ↓ww]
  refine specOf w4 hx hb rfl fun h5 e5 => ?_
  have g15 := e5.get w4 g14
  simp (disch := ((try simp only [AH.next_add, AH.next_set]); omega)) [fillL, W_nw, W_ld_eq, W_st_eq, W_ldN_eq, W_bx, W_mkM, get_set_ne, get_add_ne, get_add_at, get_set_at, List.getElem?_cons_zero, List.getElem?_cons_succ, g15, specK]
  have := specK_eq (k := k)
  simp only [specK] at this
  rw [this]
  have hcf2 : cf true (some h.next) h4 h5 = true := cf_same g14 g15 rfl
  simp [hcf2]
  exact q h5 (h.next + 1) ⟨(((e0.trans e3).fr.step f4 (by intro j hj hlt; simp at hj; omega)).trans e5.fr), e5.wf⟩ (by omega)

/-! ### Where there is no place, the first one that is free -/

theorem indexNone {xs : List AV} {v : AV} (hx : SuX xs v h) (hn : ∀ x ∈ xs, ∃ q, x = .ptr (some q)) (hl : xs.length < 1000000) (q : Q (.int .i64 (-1)) h) :
    W (C 51 [v, .ptr none]) h Q := by
  apply w51
  unfold s51
  have hv : ∃ b c s, v = .slice b xs.length c s := by
    rcases hx with ⟨rfl, rfl⟩ | ⟨_, i, rfl, _⟩
    · exact ⟨_, _, _, rfl⟩
    · exact ⟨_, _, _, rfl⟩
  obtain ⟨b, c, s, rfl⟩ := hv
  simp only [↓ww]
  refine (W_lp (fun s h' => h' = h ∧ ∃ n : Nat, s = [.int .i64 n] ∧ n ≤ xs.length) (fun s _ => xs.length - i1 s) (Q := fun r h' => r = .out 0 [] ∧ h' = h) ?_ ⟨rfl, 0, rfl, Nat.zero_le _⟩).mono ?_
  · rintro st h1 ⟨rfl, n, rfl, hn1⟩
    simp only [↓ww]
    refine W_ite (fun hc => ?_) (fun hc => ?_)
    · rcases hx with ⟨rfl, _⟩ | ⟨_, i, hv, hg⟩
      · simp at hc; omega
      · simp only [AV.slice.injEq] at hv
        obtain ⟨rfl, _, rfl, rfl⟩ := hv
        simp (disch := omega) only [↓ww]
        obtain ⟨x, hx⟩ : ∃ x, xs[n]? = some x := ⟨_, List.getElem?_eq_getElem (by omega)⟩
        obtain ⟨q', rfl⟩ := hn x (List.mem_of_getElem? hx)
        rw [W_ld_eq, hg]
        simp only [ldQ_cells, Nat.zero_add, Int.toNat_natCast, Nat.mul_one, hx, cellQ_some]
        simp (disch := omega) only [↓ww]
        exact ⟨⟨(by first | trivial | rfl), n + 1, rfl, by omega⟩, by simp; omega⟩
    · simp only [↓ww]
      exact ⟨(by first | trivial | rfl), (by first | trivial | rfl)⟩
  · rintro r h' ⟨rfl, rfl⟩
    simp only [↓ww]
    exact q

theorem indexAt {xs : List AV} {v : AV} {j : Nat} (hx : SuX xs v h) (hj : xs[j]? = some (.ptr none)) (hn : ∀ i x, i < j → xs[i]? = some x → ∃ q, x = .ptr (some q)) (hl : xs.length < 1000000) (q : Q (.int .i64 j) h) :
    W (C 51 [v, .ptr none]) h Q := by
  apply w51
  unfold s51
  have hjl : j < xs.length := by
    rcases Nat.lt_or_ge j xs.length with k | k
    · exact k
    · rw [List.getElem?_eq_none k] at hj; simp at hj
  rcases hx with ⟨rfl, rfl⟩ | ⟨_, i, rfl, hg⟩
  · simp at hjl
  · simp only [↓ww]
    refine (W_lp (fun s h' => h' = h ∧ ∃ n : Nat, s = [.int .i64 n] ∧ n ≤ j) (fun s _ => xs.length - i1 s) (Q := fun r h' => r = .done (.int .i64 j) ∧ h' = h) ?_ ⟨rfl, 0, rfl, Nat.zero_le _⟩).mono ?_
    · rintro st h1 ⟨rfl, n, rfl, hn1⟩
      simp only [↓ww]
      rw [decide_eq_true (show (n : Int) < (xs.length : Int) by omega)]
      simp (disch := omega) only [↓ww]
      rw [W_ld_eq, hg]
      simp only [ldQ_cells, Nat.zero_add, Int.toNat_natCast, Nat.mul_one]
      rcases Nat.lt_or_ge n j with k | k
      · obtain ⟨x, hx⟩ : ∃ x, xs[n]? = some x := ⟨_, List.getElem?_eq_getElem (by omega)⟩
        obtain ⟨q', rfl⟩ := hn n x k hx
        simp only [hx, cellQ_some]
        simp (disch := omega) only [↓ww]
        exact ⟨⟨(by first | trivial | rfl), n + 1, rfl, by omega⟩, by simp; omega⟩
      · obtain rfl : n = j := by omega
        simp only [hj, cellQ_some]
        simp only [↓ww, Bool.not_false]
        exact ⟨(by first | trivial | rfl), (by first | trivial | rfl)⟩
    · rintro r h' ⟨rfl, rfl⟩
      simp only [↓ww]
      exact q

end Go.Proofs.YtlpbgmbiollimaaGreat

namespace Go.Proofs.YtlpbgmbiollimaaGreat
open Go Go.Am _root_.Go.Proofs.Tryz

variable {h : AH} {Q : AV → AH → Prop}

/-- Cells of other types stay. -/
structure Kp (h h' : AH) : Prop where
  next : h.next ≤ h'.next
  get : ∀ i cs t ro, h.get i = some (.cells cs t ro) → t ≠ 47 → t ≠ 55 → h'.get i = some (.cells cs t ro)

theorem Kp.refl (h : AH) : Kp h h := ⟨Nat.le_refl _, fun _ _ _ _ e _ _ => e⟩
theorem Kp.trans {h h1 h2 : AH} (a : Kp h h1) (b : Kp h1 h2) : Kp h h2 := ⟨Nat.le_trans a.next b.next, fun i cs t ro e n1 n2 => b.get i cs t ro (a.get i cs t ro e n1 n2) n1 n2⟩
theorem Ex.kp {h h' : AH} (e : Ex h h') (w : Wf h) : Kp h h' := ⟨e.next, fun i cs t ro g _ _ => e.get w g⟩
theorem Kp.of_fr {h h' : AH} {S : List Nat} (f : Fr S h h') (w : Wf h) (hs : ∀ i cs t ro, i ∈ S → h.get i = some (.cells cs t ro) → t = 47 ∨ t = 55) : Kp h h' :=
  ⟨f.next, fun i cs t ro e n1 n2 => by
    rw [f.get i (w.lt e) (fun hi => (hs i cs t ro hi e).elim n1 n2)]; exact e⟩

theorem findBorn_last {k z : AV} {clk : Nat} : ∀ (es : List (AV × AV × Nat)) (i : Nat), (∀ e ∈ es, e.2.2 < clk) → findBorn clk (es ++ [(k, z, clk)]) i = some (i + es.length, k, clk)
  | [], i, _ => by simp [findBorn]
  | (a, b, n) :: es, i, hb => by
    have h1 := hb (a, b, n) (by simp)
    simp only [] at h1
    rw [List.cons_append, findBorn, if_neg (by omega), findBorn_last es (i + 1) (fun e he => hb e (by simp [he]))]
    simp; omega

theorem W_ment_new {m : Nat} {es : List (AV × AV × Nat)} {clk : Nat} {hd : Int} (mp : h.get m = some (.map es clk)) (hf : findA prog 38 (.int .u32 hd) es 0 = some none)
    (q : Q (.tuple [.int .i64 0, .int .i64 clk]) (h.set m (.map (es ++ [(.int .u32 hd, .int .i64 0, clk)]) (clk + 1)))) : W (ment prog 44 (.map (some m)) (.int .u32 hd)) h Q := by
  refine ⟨_, _, ?_, q⟩
  have hz : zeroA prog 3 = some (.int .i64 0) := by kernel_rfl
  simp only [ment, mapEntryA, underlying44, mp, keyOkU, cond_true, hf, hz, Option.map_some, ofO]

theorem W_mest_last {m : Nat} {es : List (AV × AV × Nat)} {clk : Nat} {k z v : AV} {c : Nat} (mp : h.get m = some (.map (es ++ [(k, z, clk)]) c)) (hb : ∀ e ∈ es, e.2.2 < clk)
    (q : Q undefA (h.set m (.map (es ++ [(k, v, clk)]) c))) : W (mest (.map (some m)) (.int .i64 clk) v) h Q := by
  refine ⟨_, _, ?_, q⟩
  have hs : (es ++ [(k, z, clk)]).set es.length (k, v, clk) = es ++ [(k, v, clk)] := by simp
  simp only [mest, entryStoreA, mp, findBorn_last es 0 hb, Nat.zero_add, hs, ofU]

variable {p : Nat} {es : List (AV × AV × Nat)} {clk : Nat} {xs : List AV} {m : Nat} {v : AV}

theorem rowOf_one {i : Nat} {x : AV} {t : TypeId} {ro : Bool} (e : h.get i = some (.cells [x] t ro)) : firstA h 1 1 (.slice (some (i, 0)) 1 1 1) = some [x] := by
  simp [firstA, rowOf, e]

/-- What the suite is when it has named a sketch. -/
abbrev Named1 (h : AH) (p : Nat) (es : List (AV × AV × Nat)) (clk : Nat) (xs : List AV) (m : Nat) (Q : AH → Prop) : Prop := ∀ h' v', Su p es clk xs h' m v' → Kp h h' → Q h'

theorem name_new (s : Su p es clk xs h m v) (hb : ∀ e ∈ es, e.2.2 < clk) {hd : Int} {x : Nat × Nat} (hn : ∀ x ∈ xs, ∃ q, x = .ptr (some q)) (hl : xs.length < 1000) (hf : findA prog 38 (.int .u32 hd) es 0 = some none)
    (q : Named1 h p (es ++ [(.int .u32 hd, .int .i64 xs.length, clk)]) (clk + 1) (xs ++ [.ptr (some x)]) m (Q (.tuple []))) :
    W (C 27 [.ptr (some (p, 0)), .int .u32 hd, .ptr (some x)]) h Q := by
  apply w27
  unfold s27
  have wf := s.wf
  have lp := wf.lt s.su
  have lm := wf.lt s.mp
  have hpm : p ≠ m := by intro e; subst e; have := s.su; rw [s.mp] at this; simp at this
  simp only [↓ww]
  rw [W_ld_eq, s.su]
  simp only [ldQ_cells, Nat.zero_add, List.getElem?_cons_succ, List.getElem?_cons_zero, cellQ_some]
  refine indexNone s.sx hn (by omega) ?_
  refine W_jnk fun k hk => ?_
  simp only [↓ww]
  rw [show (decide ((-1 : Int) < 0)) = true by decide]
  simp only [↓ww]
  rw [W_ld_eq, s.su]
  simp only [ldQ_cells, Nat.zero_add, List.getElem?_cons_succ, List.getElem?_cons_zero, cellQ_some]
  have hv : ∃ b c z, v = .slice b xs.length c z := by
    rcases s.sx with ⟨rfl, rfl⟩ | ⟨_, i, rfl, _⟩
    · exact ⟨_, _, _, rfl⟩
    · exact ⟨_, _, _, rfl⟩
  obtain ⟨b, c, z, rfl⟩ := hv
  simp only [↓ww]
  rw [W_ld_eq, s.su]
  simp only [ldQ_cells, Nat.zero_add, List.getElem?_cons_succ, List.getElem?_cons_zero, cellQ_some]
  rw [show fillL [.ptr none] [(0, 1, .ptr none)] = some [AV.ptr none] by rfl, W_mkS]
  refine ⟨rfl, ?_⟩
  -- the slice has grown
  have grown : ∀ (h1 : AH) (g : Nat), Wf h1 → h1.get p = some (.cells [.map (some m), .slice b xs.length c z] 47 false) → h1.get m = some (.map es clk) → h1.get g = some (.cells (xs ++ [.ptr none]) 55 false) → Kp h h1 → h.next ≤ g →
      W (st 1 (.ptr (some (p, 0 + 1))) (.slice (some (g, 0)) (xs.length + 1) (xs.length + 1) 1)) h1 fun a h' => W (k [.int .i64 (xs.length : Int)]) h' Q := by
    intro h1 g w1 g1 g2 g3 k1 hg
    have l1 := w1.lt g1
    have hpg : p ≠ g := by omega
    have hmg : m ≠ g := by omega
    have l3 := w1.lt g3
    rw [W_st_eq, g1]
    simp only [stQ_cells, cells_slice, List.length_cons, List.length_nil, ones_cons, ones_nil, one_slice, putCells_one]
    refine ⟨trivial, by simp, rfl, ?_⟩
    have w2 : Wf (h1.set p (.cells [.map (some m), .slice (some (g, 0)) (xs.length + 1) (xs.length + 1) 1] 47 false)) := w1.set l1
    have e2 : (h1.set p (.cells [.map (some m), .slice (some (g, 0)) (xs.length + 1) (xs.length + 1) 1] 47 false)).get m = some (.map es clk) := by rw [get_set_ne hpm]; exact g2
    have e3 : (h1.set p (.cells [.map (some m), .slice (some (g, 0)) (xs.length + 1) (xs.length + 1) 1] 47 false)).get g = some (.cells (xs ++ [.ptr none]) 55 false) := by rw [get_set_ne hpg]; exact g3
    simp only [Nat.zero_add, List.set_cons_succ, List.set_cons_zero]
    generalize hh2 : h1.set p (.cells [.map (some m), .slice (some (g, 0)) (xs.length + 1) (xs.length + 1) 1] 47 false) = h2 at *
    have e1 : h2.get p = some (.cells [.map (some m), .slice (some (g, 0)) (xs.length + 1) (xs.length + 1) 1] 47 false) := by rw [← hh2]; exact get_set_eq
    subst hk
    simp only [↓ww]
    rw [W_ld_eq, e1]
    simp only [ldQ_cells, Nat.zero_add, List.getElem?_cons_succ, List.getElem?_cons_zero, cellQ_some]
    rw [W_ld_eq, e1]
    simp only [ldQ_cells, Nat.zero_add, List.getElem?_cons_succ, List.getElem?_cons_zero, cellQ_some]
    simp (disch := omega) only [↓ww]
    rw [W_st_eq, e3]
    simp only [stQ_cells, cells_ptr, List.length_cons, List.length_nil, ones_cons, ones_nil, one_ptr, putCells_one]
    refine ⟨trivial, by simp, rfl, ?_⟩
    have e4 : (xs ++ [AV.ptr none]).set (0 + (xs.length : Int).toNat * 1) (.ptr (some x)) = xs ++ [.ptr (some x)] := by simp
    rw [e4]
    refine W_ment_new (es := es) (clk := clk) (by rw [get_set_ne (fun e => hmg e.symm)]; exact e2) hf ?_
    simp only [↓ww]
    refine W_mest_last (es := es) get_set_eq hb ?_
    refine q _ (.slice (some (g, 0)) (xs.length + 1) (xs.length + 1) 1) ⟨?_, ?_, get_set_eq, ?_, ?_⟩ ?_
    · have l2 := w2.lt e2
      have l4 := w2.lt e3
      exact ((w2.set l4).set (by simpa using l2)).set (by simpa using l2)
    · rw [get_set_ne (fun e => hpm e.symm), get_set_ne (fun e => hpm e.symm), get_set_ne (fun e => hpg e.symm)]; exact e1
    · refine .inr ⟨by simp, g, by simp, ?_⟩
      rw [get_set_ne hmg, get_set_ne hmg]; exact get_set_eq
    · intro y hy
      simp only [List.mem_append, List.mem_singleton] at hy
      rcases hy with hy | rfl
      · exact s.pt y hy
      · exact ⟨_, rfl⟩
    · refine k1.trans (Kp.trans (h1 := h2) ?_ ?_)
      · rw [← hh2]
        refine Kp.of_fr (S := [p]) ((Fr.refl _ _).set _ (fun _ => by simp)) w1 ?_
        intro i cs t ro hi hc
        simp at hi; subst hi
        rw [g1] at hc; simp at hc; exact .inl hc.2.1.symm
      · refine Kp.of_fr (S := [g, m]) ((((Fr.refl _ _).set _ (fun _ => by simp)).set _ (fun _ => by simp)).set _ (fun _ => by simp)) w2 ?_
        intro i cs t ro hi hc
        simp at hi
        rcases hi with rfl | rfl
        · rw [e3] at hc; simp at hc; exact .inr hc.2.1.symm
        · rw [e2] at hc; simp at hc
  have wa := wf.add (.cells [AV.ptr none] 55 false)
  have ea : (h.add (.cells [AV.ptr none] 55 false)).get h.next = some (.cells [AV.ptr none] 55 false) := get_add_eq
  have ka : Kp h (h.add (.cells [AV.ptr none] 55 false)) := ((Ex.refl wf).add _).kp wf
  rcases s.sx with ⟨rfl, hv⟩ | ⟨hne, i, hv, hg⟩
  · simp only [List.length_nil, AV.slice.injEq] at hv
    obtain ⟨rfl, _, rfl, rfl⟩ := hv
    refine W_ap_nil (n := 1) (new := [.ptr none]) rfl (rowOf_one ea) rfl rfl (by omega) (by omega) ?_
    try simp only [↓ww]
    refine grown _ (h.next + 1) (wa.add _) ?_ ?_ ?_ (ka.trans (((Ex.refl wa).add _).kp wa)) (by omega)
    · simp (disch := ((try simp only [AH.next_add, AH.next_set]); omega)) [fillL, W_nw, W_ld_eq, W_st_eq, W_ldN_eq, W_bx, W_mkM, get_set_ne, get_add_ne, get_add_at, get_set_at, List.getElem?_cons_zero, List.getElem?_cons_succ]; exact s.su
    · simp (disch := ((try simp only [AH.next_add, AH.next_set]); omega)) [fillL, W_nw, W_ld_eq, W_st_eq, W_ldN_eq, W_bx, W_mkM, get_set_ne, get_add_ne, get_add_at, get_set_at, List.getElem?_cons_zero, List.getElem?_cons_succ]; exact s.mp
    · simp (disch := ((try simp only [AH.next_add, AH.next_set]); omega)) [fillL, W_nw, W_ld_eq, W_st_eq, W_ldN_eq, W_bx, W_mkM, get_set_ne, get_add_ne, get_add_at, get_set_at, List.getElem?_cons_zero, List.getElem?_cons_succ]
  · simp only [AV.slice.injEq] at hv
    obtain ⟨rfl, _, rfl, rfl⟩ := hv
    have li := wf.lt hg
    have hip : p ≠ i := by intro e; subst e; rw [s.su] at hg; simp at hg
    have him : m ≠ i := by intro e; subst e; rw [s.mp] at hg; simp at hg
    refine W_ap_out (n := 1) (new := [.ptr none]) (cs := xs) rfl (rowOf_one ea) rfl rfl rfl (by omega) (by omega) (by rw [get_add_lt li]; exact hg) (by omega) ?_
    try simp only [↓ww, List.drop_zero, Nat.mul_one, List.take_length]
    refine grown _ (h.next + 1) ((wa.set (by simp; omega)).add _) ?_ ?_ ?_ ?_ (by omega)
    · simp (disch := ((try simp only [AH.next_add, AH.next_set]); omega)) [fillL, W_nw, W_ld_eq, W_st_eq, W_ldN_eq, W_bx, W_mkM, get_set_ne, get_add_ne, get_add_at, get_set_at, List.getElem?_cons_zero, List.getElem?_cons_succ]; exact s.su
    · simp (disch := ((try simp only [AH.next_add, AH.next_set]); omega)) [fillL, W_nw, W_ld_eq, W_st_eq, W_ldN_eq, W_bx, W_mkM, get_set_ne, get_add_ne, get_add_at, get_set_at, List.getElem?_cons_zero, List.getElem?_cons_succ]; exact s.mp
    · simp (disch := ((try simp only [AH.next_add, AH.next_set]); omega)) [fillL, W_nw, W_ld_eq, W_st_eq, W_ldN_eq, W_bx, W_mkM, get_set_ne, get_add_ne, get_add_at, get_set_at, List.getElem?_cons_zero, List.getElem?_cons_succ]
    · refine ka.trans (Kp.of_fr (S := [i]) (((Fr.refl _ _).set _ (fun _ => by simp)).add _) wa ?_)
      intro j cs t ro hj hc
      simp at hj; subst hj
      rw [get_add_lt li, hg] at hc; simp at hc; exact .inr hc.2.1.symm

end Go.Proofs.YtlpbgmbiollimaaGreat

namespace Go.Proofs.YtlpbgmbiollimaaGreat
open Go Go.Am _root_.Go.Proofs.Tryz

variable {h : AH} {Q : AV → AH → Prop}
variable {p : Nat} {es : List (AV × AV × Nat)} {clk : Nat} {xs : List AV} {m : Nat} {v : AV}

/-- An act. -/
def actL (kind hd : Int) (spec : List AV) : List AV := [.int .u8 kind, .int .u32 hd, .int .u32 0] ++ spec ++
  [.int .i64 0, .int .u64 0, .int .u64 0, .int .u64 0, .slice none 0 0 0, .slice none 0 0 0, .int .i64 0, .int .i64 0, .slice none 0 0 0]
def spec0 : List AV := [.int .u8 0, .int .i64 0, .int .i64 0, .int .i64 0, .bool false, .int .i64 0, .int .i64 0]

theorem name_at (s : Su p es clk xs h m v) (hb : ∀ e ∈ es, e.2.2 < clk) {hd : Int} {x : Nat × Nat} {j : Nat} (hj : xs[j]? = some (.ptr none)) (hn : ∀ i x, i < j → xs[i]? = some x → ∃ q, x = .ptr (some q)) (hl : xs.length < 1000)
    (hf : findA prog 38 (.int .u32 hd) es 0 = some none)
    (q : Named1 h p (es ++ [(.int .u32 hd, .int .i64 j, clk)]) (clk + 1) (xs.set j (.ptr (some x))) m (Q (.tuple []))) :
    W (C 27 [.ptr (some (p, 0)), .int .u32 hd, .ptr (some x)]) h Q := by
  apply w27
  unfold s27
  have wf := s.wf
  have lp := wf.lt s.su
  have lm := wf.lt s.mp
  have hpm : p ≠ m := by intro e; subst e; have := s.su; rw [s.mp] at this; simp at this
  have hjl : j < xs.length := by
    rcases Nat.lt_or_ge j xs.length with k | k
    · exact k
    · rw [List.getElem?_eq_none k] at hj; simp at hj
  simp only [↓ww]
  rw [W_ld_eq, s.su]
  simp only [ldQ_cells, Nat.zero_add, List.getElem?_cons_succ, List.getElem?_cons_zero, cellQ_some]
  refine indexAt s.sx hj hn (by omega) ?_
  rw [W_jn]
  simp only [↓ww]
  rw [show (decide ((j : Int) < 0)) = false by simp]
  simp only [↓ww]
  rcases s.sx with ⟨rfl, _⟩ | ⟨hne, i, rfl, hg⟩
  · simp at hjl
  have li := wf.lt hg
  have hip : p ≠ i := by intro e; subst e; have := s.su; rw [hg] at this; simp at this
  have him : m ≠ i := by intro e; subst e; rw [s.mp] at hg; simp at hg
  rw [W_ld_eq, s.su]
  simp only [ldQ_cells, Nat.zero_add, List.getElem?_cons_succ, List.getElem?_cons_zero, cellQ_some]
  rw [W_ld_eq, s.su]
  simp only [ldQ_cells, Nat.zero_add, List.getElem?_cons_succ, List.getElem?_cons_zero, cellQ_some]
  simp (disch := omega) only [↓ww]
  rw [W_st_eq, hg]
  simp only [stQ_cells, cells_ptr, List.length_cons, List.length_nil, ones_cons, ones_nil, one_ptr, putCells_one]
  refine ⟨trivial, by simp; omega, rfl, ?_⟩
  simp only [Nat.zero_add, Int.toNat_natCast, Nat.mul_one]
  refine W_ment_new (es := es) (clk := clk) (by rw [get_set_ne (fun e => him e.symm)]; exact s.mp) hf ?_
  simp only [↓ww]
  refine W_mest_last (es := es) get_set_eq hb ?_
  refine q _ (.slice (some (i, 0)) xs.length xs.length 1) ⟨?_, ?_, get_set_eq, ?_, ?_⟩ ?_
  · exact ((wf.set li).set (by simpa using lm)).set (by simpa using lm)
  · rw [get_set_ne (fun e => hpm e.symm), get_set_ne (fun e => hpm e.symm), get_set_ne (fun e => hip e.symm)]; exact s.su
  · refine .inr ⟨by simpa using hne, i, by simp, ?_⟩
    rw [get_set_ne him, get_set_ne him]; exact get_set_eq
  · intro y hy
    rcases List.mem_or_eq_of_mem_set hy with hy | rfl
    · exact s.pt y hy
    · exact ⟨_, rfl⟩
  · refine Kp.of_fr (S := [i, m]) ((((Fr.refl _ _).set _ (fun _ => by simp)).set _ (fun _ => by simp)).set _ (fun _ => by simp)) wf ?_
    intro j' cs t ro hi hc
    simp at hi
    rcases hi with rfl | rfl
    · rw [hg] at hc; simp at hc; exact .inr hc.2.1.symm
    · rw [s.mp] at hc; simp at hc

/-- A sketch that is made and named, wherever. -/
abbrev NameOk (p : Nat) (es : List (AV × AV × Nat)) (clk : Nat) (xs : List AV) (m : Nat) (hd : Int) (es' : List (AV × AV × Nat)) (xs' : Nat × Nat → List AV) : Prop :=
  ∀ (h1 : AH) (v1 : AV) (x : Nat × Nat) (Q : AV → AH → Prop), Su p es clk xs h1 m v1 → Named1 h1 p es' (clk + 1) (xs' x) m (Q (.tuple [])) → W (C 27 [.ptr (some (p, 0)), .int .u32 hd, .ptr (some x)]) h1 Q

theorem create_ok (s : Su p es clk xs h m v) {hd k : Int} {y : AV} {es' : List (AV × AV × Nat)} {xs' : Nat × Nat → List AV} (hk1 : 8 ≤ k) (hk2 : k ≤ 4096) (hl : es.length < 64) (hf : findA prog 38 (.int .u32 hd) es 0 = some none)
    (hname : NameOk p es clk xs m hd es' xs') (q : ∀ x, Named1 h p es' (clk + 1) (xs' x) m (Q (resErr 0))) :
    W (C 12 [.ptr (some (p, 0)), y, .agg (actL 1 hd (specK k))]) h Q := by
  apply w12
  unfold s12
  have wf := s.wf
  simp only [↓ww]
  simp (disch := ((try simp only [AH.next_add, AH.next_set]); omega)) [fillL, W_nw, W_ld_eq, W_st_eq, W_ldN_eq, W_bx, W_mkM, get_set_ne, get_add_ne, get_add_at, get_set_at, List.getElem?_cons_zero, List.getElem?_cons_succ, actL, specK]
  generalize hAe : (h.add (.cells [.int .u8 1, .int .u32 hd, .int .u32 0, .int .u8 4, .int .i64 0, .int .i64 0, .int .i64 0, .bool false, .int .i64 0, .int .i64 k, .int .i64 0, .int .u64 0, .int .u64 0, .int .u64 0, .slice none 0 0 0, .slice none 0 0 0, .int .i64 0, .int .i64 0, .slice none 0 0 0] 40 false)).add
    (.cells [.int .i64 0, .int .i64 0, .bool false, .int .u64 0, .int .u64 0, .int .u64 0, .int .u64 0, .slice none 0 0 0] 36 false) = hA
  have eA : Ex h hA := by rw [← hAe]; exact ((Ex.refl wf).add _).add _
  have gA : hA.get (h.next + 1) = some (.cells [.int .i64 0, .int .i64 0, .bool false, .int .u64 0, .int .u64 0, .int .u64 0, .int .u64 0, .slice none 0 0 0] 36 false) := by rw [← hAe]; simp (disch := ((try simp only [AH.next_add, AH.next_set]); omega)) [fillL, W_nw, W_ld_eq, W_st_eq, W_ldN_eq, W_bx, W_mkM, get_set_ne, get_add_ne, get_add_at, get_set_at, List.getElem?_cons_zero, List.getElem?_cons_succ]
  have gB : hA.get h.next = some (.cells [.int .u8 1, .int .u32 hd, .int .u32 0, .int .u8 4, .int .i64 0, .int .i64 0, .int .i64 0, .bool false, .int .i64 0, .int .i64 k, .int .i64 0, .int .u64 0, .int .u64 0, .int .u64 0, .slice none 0 0 0, .slice none 0 0 0, .int .i64 0, .int .i64 0, .slice none 0 0 0] 40 false) := by rw [← hAe]; simp (disch := ((try simp only [AH.next_add, AH.next_set]); omega)) [fillL, W_nw, W_ld_eq, W_st_eq, W_ldN_eq, W_bx, W_mkM, get_set_ne, get_add_ne, get_add_at, get_set_at, List.getElem?_cons_zero, List.getElem?_cons_succ]
  refine free_yes (s.ex eA) hf ?_
  rw [decide_eq_true hl]
  simp (disch := ((try simp only [AH.next_add, AH.next_set]); omega)) [fillL, W_nw, W_ld_eq, W_st_eq, W_ldN_eq, W_bx, W_mkM, get_set_ne, get_add_ne, get_add_at, get_set_at, List.getElem?_cons_zero, List.getElem?_cons_succ, gB]
  refine makeK eA.wf hk1 hk2 fun h3 x e3 hx => ?_
  simp (disch := ((try simp only [AH.next_add, AH.next_set]); omega)) [fillL, W_nw, W_ld_eq, W_st_eq, W_ldN_eq, W_bx, W_mkM, get_set_ne, get_add_ne, get_add_at, get_set_at, List.getElem?_cons_zero, List.getElem?_cons_succ]
  have g3 := e3.get eA.wf gB
  refine W_jnk fun kk hkk => ?_
  simp (disch := ((try simp only [AH.next_add, AH.next_set]); omega)) [fillL, W_nw, W_ld_eq, W_st_eq, W_ldN_eq, W_bx, W_mkM, get_set_ne, get_add_ne, get_add_at, get_set_at, List.getElem?_cons_zero, List.getElem?_cons_succ, g3]
  refine hname h3 v (x, 0) _ ((s.ex eA).ex e3) fun h4 v4 s4 k4 => ?_
  subst hkk
  simp only [↓ww]
  refine fail s4.wf fun h5 e5 => ?_
  have g5 : h5.get (h.next + 1) = _ := e5.get s4.wf (k4.get _ _ _ _ (e3.get eA.wf gA) (by decide) (by decide))
  have l5 := e5.wf.lt g5
  simp (disch := ((try simp only [AH.next_add, AH.next_set]); omega)) [fillL, W_nw, W_ld_eq, W_st_eq, W_ldN_eq, W_bx, W_mkM, get_set_ne, get_add_ne, get_add_at, get_set_at, List.getElem?_cons_zero, List.getElem?_cons_succ, g5, resErr]
  have e6 : Ex h4 (h5.set (h.next + 1) (.cells [.int .i64 0, .int .i64 0, .bool false, .int .u64 0, .int .u64 0, .int .u64 0, .int .u64 0, .slice none 0 0 0] 36 false)) := by
    refine ⟨⟨e5.next, fun i hi hn => ?_⟩, e5.wf.set l5⟩
    by_cases hii : h.next + 1 = i
    · subst hii
      rw [get_set_eq, ← e5.fr.get _ hi (by simp), g5]
    · rw [get_set_ne hii]; exact e5.fr.get _ hi (by simp)
  have := q (x, 0) _ v4 (s4.ex e6) (((((eA.trans e3).kp wf).trans k4)).trans (e6.kp s4.wf))
  simpa [resErr] using this

theorem create_full (s : Su p es clk xs h m v) {hd k : Int} {y : AV} (hl : 64 ≤ es.length) (hf : findA prog 38 (.int .u32 hd) es 0 = some none) (q : ∀ h', Ex h h' → Q (resErr 2) h') :
    W (C 12 [.ptr (some (p, 0)), y, .agg (actL 1 hd (specK k))]) h Q := by
  apply w12
  unfold s12
  have wf := s.wf
  simp only [↓ww]
  simp (disch := ((try simp only [AH.next_add, AH.next_set]); omega)) [fillL, W_nw, W_ld_eq, W_st_eq, W_ldN_eq, W_bx, W_mkM, get_set_ne, get_add_ne, get_add_at, get_set_at, List.getElem?_cons_zero, List.getElem?_cons_succ, actL, specK]
  refine free_yes (s.ex (((Ex.refl wf).add _).add _)) hf ?_
  rw [decide_eq_false (by omega)]
  simp (disch := ((try simp only [AH.next_add, AH.next_set]); omega)) [fillL, W_nw, W_ld_eq, W_st_eq, W_ldN_eq, W_bx, W_mkM, get_set_ne, get_add_ne, get_add_at, get_set_at, List.getElem?_cons_zero, List.getElem?_cons_succ]
  refine fail (((Ex.refl wf).add _).add _).wf fun h5 e5 => ?_
  have g5 : h5.get (h.next + 1) = some (.cells [.int .i64 0, .int .i64 0, .bool false, .int .u64 0, .int .u64 0, .int .u64 0, .int .u64 0, .slice none 0 0 0] 36 false) := e5.get (((Ex.refl wf).add _).add _).wf (by simp (disch := ((try simp only [AH.next_add, AH.next_set]); omega)) [fillL, W_nw, W_ld_eq, W_st_eq, W_ldN_eq, W_bx, W_mkM, get_set_ne, get_add_ne, get_add_at, get_set_at, List.getElem?_cons_zero, List.getElem?_cons_succ])
  simp (disch := ((try simp only [AH.next_add, AH.next_set]); omega)) [fillL, W_nw, W_ld_eq, W_st_eq, W_ldN_eq, W_bx, W_mkM, get_set_ne, get_add_ne, get_add_at, get_set_at, List.getElem?_cons_zero, List.getElem?_cons_succ, g5, resErr]
  have l5 := e5.wf.lt g5
  have := q _ (((((Ex.refl wf).add _).add _).trans e5).set (.cells [.int .i64 2, .int .i64 0, .bool false, .int .u64 0, .int .u64 0, .int .u64 0, .int .u64 0, .slice none 0 0 0] 36 false) (by omega) l5)
  simpa [resErr] using this

theorem W_mdel {j : Nat} {b : Nat} {x : AV} {hd : Int} (mp : h.get m = some (.map es clk)) (hf : findA prog 38 (.int .u32 hd) es 0 = some (some (j, x, b))) (q : Q (.tuple []) (h.set m (.map (es.eraseIdx j) clk))) :
    W (mdel prog 44 (.map (some m)) (.int .u32 hd)) h Q := by
  refine ⟨_, _, ?_, q⟩
  simp only [mdel, deleteA, underlying44, mp, keyOkU, cond_true, hf]

theorem remove_ok (s : Su p es clk xs h m v) {hd : Int} {y : AV} {j j' b : Nat} {sp : List AV} (hs : sp.length = 7) (hso : ones sp = true) (hl : xs.length < 1000) (hf : findA prog 38 (.int .u32 hd) es 0 = some (some (j', .int .i64 j, b))) (hj : j < xs.length)
    (q : Named1 h p (es.eraseIdx j') clk (xs.set j (.ptr none)) m (Q (resErr 0))) :
    W (C 22 [.ptr (some (p, 0)), y, .agg (actL 11 hd sp)]) h Q := by
  apply w22
  unfold s22
  have wf := s.wf
  have lp := wf.lt s.su
  have lm := wf.lt s.mp
  rcases s.sx with ⟨rfl, _⟩ | ⟨hne, i, rfl, hg⟩
  · simp at hj
  have li := wf.lt hg
  have hip : p ≠ i := by intro e; subst e; have := s.su; rw [hg] at this; simp at this
  have him : m ≠ i := by intro e; subst e; rw [s.mp] at hg; simp at hg
  have hpm : p ≠ m := by intro e; subst e; have := s.su; rw [s.mp] at this; simp at this
  simp only [↓ww]
  have hone : ones (AV.agg (actL 11 hd sp)).cells = true := by simp [actL, hso, Am.ones] at hso ⊢; exact hso
  rw [W_bx]
  refine ⟨hone, ?_⟩
  simp only [↓ww]
  generalize hAe : (h.add (.cells (AV.agg (actL 11 hd sp)).cells 40 false)).add
    (.cells [.int .i64 0, .int .i64 0, .bool false, .int .u64 0, .int .u64 0, .int .u64 0, .int .u64 0, .slice none 0 0 0] 36 false) = hA
  simp only [AH.next_add]
  have eA : Ex h hA := by rw [← hAe]; exact ((Ex.refl wf).add _).add _
  have gA : hA.get (h.next + 1) = some (.cells [.int .i64 0, .int .i64 0, .bool false, .int .u64 0, .int .u64 0, .int .u64 0, .int .u64 0, .slice none 0 0 0] 36 false) := by rw [← hAe]; simp (disch := ((try simp only [AH.next_add, AH.next_set]); omega)) [fillL, W_nw, W_ld_eq, W_st_eq, W_ldN_eq, W_bx, W_mkM, get_set_ne, get_add_ne, get_add_at, get_set_at, List.getElem?_cons_zero, List.getElem?_cons_succ]
  have gB : hA.get h.next = some (.cells (AV.agg (actL 11 hd sp)).cells 40 false) := by rw [← hAe]; simp (disch := ((try simp only [AH.next_add, AH.next_set]); omega)) [fillL, W_nw, W_ld_eq, W_st_eq, W_ldN_eq, W_bx, W_mkM, get_set_ne, get_add_ne, get_add_at, get_set_at, List.getElem?_cons_zero, List.getElem?_cons_succ]
  have g1 : (AV.agg (actL 11 hd sp)).cells[1]? = some (.int .u32 hd) := rfl
  have sA := s.ex eA
  have gI := eA.get wf hg
  rw [W_ld_eq, sA.su]
  simp only [ldQ_cells, Nat.zero_add, List.getElem?_cons_succ, List.getElem?_cons_zero, cellQ_some]
  rw [W_ld_eq, sA.su]
  simp only [ldQ_cells, Nat.zero_add, List.getElem?_cons_succ, List.getElem?_cons_zero, cellQ_some]
  rw [W_ld_eq, gB]
  simp only [ldQ_cells, Nat.zero_add, g1, cellQ_some]
  refine lookup_some sA.mp hf ?_
  simp (disch := omega) only [↓ww, cond_false]
  rw [W_st_eq, gI]
  simp only [stQ_cells, cells_ptr, List.length_cons, List.length_nil, ones_cons, ones_nil, one_ptr, putCells_one]
  refine ⟨trivial, by simp; omega, rfl, ?_⟩
  simp only [Nat.zero_add, Int.toNat_natCast, Nat.mul_one]
  have hAi : h.next ≠ i := by omega
  rw [W_ld_eq, get_set_ne (fun e => hip e.symm), sA.su]
  simp only [ldQ_cells, Nat.zero_add, List.getElem?_cons_succ, List.getElem?_cons_zero, cellQ_some]
  rw [W_ld_eq, get_set_ne (fun e => hAi e.symm), gB]
  simp only [ldQ_cells, Nat.zero_add, g1, cellQ_some]
  refine W_mdel (by rw [get_set_ne (fun e => him e.symm)]; exact sA.mp) hf ?_
  simp only [↓ww, fillL, aggO_some]
  have hn1 : h.next + 1 ≠ i := by omega
  have hn2 : h.next + 1 ≠ m := by omega
  rw [W_st_eq, get_set_ne (fun e => hn2 e.symm), get_set_ne (fun e => hn1 e.symm), gA]
  simp (disch := ((try simp only [AH.next_add, AH.next_set]); omega)) [fillL, W_nw, W_ld_eq, W_st_eq, W_ldN_eq, W_bx, W_mkM, get_set_ne, get_add_ne, get_add_at, get_set_at, List.getElem?_cons_zero, List.getElem?_cons_succ]
  have lA := eA.wf.lt gA
  have li2 := eA.wf.lt gI
  have lm2 := eA.wf.lt sA.mp
  have := q (((hA.set i (.cells (xs.set j (.ptr none)) 55 false)).set m (.map (es.eraseIdx j') clk)).set (h.next + 1) (.cells [.int .i64 0, .int .i64 0, .bool false, .int .u64 0, .int .u64 0, .int .u64 0, .int .u64 0, .slice none 0 0 0] 36 false))
    (.slice (some (i, 0)) xs.length xs.length 1) ⟨?_, ?_, ?_, ?_, ?_⟩ ?_
  · simpa [resErr] using this
  · exact ((eA.wf.set li2).set (by simpa using lm2)).set (by simpa using lA)
  · rw [get_set_ne (by omega), get_set_ne (fun e => hpm e.symm), get_set_ne (fun e => hip e.symm)]; exact sA.su
  · rw [get_set_ne (by omega), get_set_eq]
  · refine .inr ⟨by simpa using hne, i, by simp, ?_⟩
    rw [get_set_ne (by omega), get_set_ne him]; exact get_set_eq
  · intro y hy
    rcases List.mem_or_eq_of_mem_set hy with hy | rfl
    · exact s.pt y hy
    · exact ⟨_, rfl⟩
  · refine (eA.kp wf).trans (Kp.trans (h1 := (hA.set i (.cells (xs.set j (.ptr none)) 55 false)).set m (.map (es.eraseIdx j') clk)) ?_ ?_)
    · refine Kp.of_fr (S := [i, m]) (((Fr.refl _ _).set _ (fun _ => by simp)).set _ (fun _ => by simp)) eA.wf ?_
      intro j' cs t ro hi hc
      simp at hi
      rcases hi with rfl | rfl
      · rw [gI] at hc; simp at hc; exact .inr hc.2.1.symm
      · rw [sA.mp] at hc; simp at hc
    · refine ⟨Nat.le_refl _, fun i' cs t ro e n1 n2 => ?_⟩
      by_cases hh : h.next + 1 = i'
      · subst hh
        rw [get_set_ne (fun e => hn2 e.symm), get_set_ne (fun e => hn1 e.symm), gA] at e
        rw [get_set_eq]; exact e
      · rw [get_set_ne hh]; exact e

end Go.Proofs.YtlpbgmbiollimaaGreat
