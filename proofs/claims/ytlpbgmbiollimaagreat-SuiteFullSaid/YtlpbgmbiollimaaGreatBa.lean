/-
  The library's sort at whole numbers of 32 bits does what its text says of an array.
  Conditions: the slice is shorter than its bound.
-/
import Derived.Test.YtlpbgmbiollimaaGreatRows
import Derived.Test.YtlpbgmbiollimaaGreatAh
import Derived.KernelRfl
import Derived.Sort.AssemblyPlain
set_option linter.unusedVariables false
namespace Go.Proofs.YtlpbgmbiollimaaGreat.Low
open Go Go.Am _root_.Go.Proofs.Tryz

def orc : Orc := fun _ => none

theorem orcN : OrcNext orc := by intro f g e l h v h' hg; simp [orc] at e
theorem orcOk : OrcOk prog orc := by intro f g e; simp [orc] at e

noncomputable def C (f : FuncId) (l : List AV) : M AV := ca prog orc f l
noncomputable def V (f : AV) (l : List AV) : M AV := cv prog orc f l

theorem W_den {f : FuncId} {fn : Func} {x : An} (ho : orc f = none) (hf : prog.funcs[f]? = some fn) (hx : anB prog fn x = true) {l : List AV} {t : M AV}
    (ht : denB prog orc fn x l = t) {h : AH} {Q : AV → AH → Prop} (w : W t h Q) : W (C f l) h Q := W_call (fun e => denB_ok orcN ho hf hx ht e) w

@[simp] theorem V_func {g : FuncId} {first captured l : List AV} : V (.func (.func g) first captured) l = C g (first ++ l ++ captured) := rfl

theorem W_run {f : FuncId} {l : List AV} {h : AH} {Q : AV → AH → Prop} (w : W (C f l) h Q) : ∃ n v h', callA prog orc n f l h = some (.ret v, h') ∧ Q v h' := by
  obtain ⟨v, h', e, q⟩ := w
  unfold C ca at e
  split at e
  · rename_i x h1 hx
    simp only [Option.some.injEq, Prod.mk.injEq, Ex.ok.injEq] at e
    obtain ⟨rfl, rfl⟩ := e
    obtain ⟨n, hn⟩ := of_callX hx
    exact ⟨n, _, _, hn, q⟩
  · simp at e
  · simp at e

end Go.Proofs.YtlpbgmbiollimaaGreat.Low

namespace Go.Proofs.YtlpbgmbiollimaaGreat.Low
open Go Go.Am _root_.Go.Proofs.Tryz

/-- slices.Sort[[]uint32,uint32] -/
noncomputable def s11 (a0 : AV) : M AV :=
  lt (lnS a0) fun t4 =>
  lt (cvI .u64 t4) fun t8 =>
  bd (C 24 [t8]) fun t9 =>
  bd (C 23 [a0, (.int .i64 0), t4, t9]) fun t10 =>
  rt (.tuple [])
def n11 : An := (.two .nil .nil)
theorem w11 {a0 : AV} {h : AH} {Q : AV → AH → Prop} (w : W (s11 a0) h Q) : W (C 11 [a0]) h Q :=
  W_den rfl func11 (by kernel_rfl : anB prog f11 n11 = true) (by kernel_rfl : denB prog orc f11 n11 [a0] = s11 a0) w

/-- slices.pdqsortOrdered[uint32] -/
noncomputable def s23 (a0 a1 a2 a3 : AV) : M AV :=
  bd (lp (fun u_0 => un u_0 fun t2 u_1 => un u_1 fun t1 u_2 => un u_2 fun t3 u_3 => un u_3 fun t8 u_4 => un u_4 fun t9 u_5 => jn (fun u_6 => un u_6 fun t2_7 u_8 => un u_8 fun t1_9 u_10 => un u_10 fun t3_11 u_12 => un u_12 fun t8_13 u_14 => un u_14 fun t9_15 u_16 => rt (.again [t2_7, t1_9, t3_11, t8_13, t9_15])) fun u_17 =>
  lt (binV .sub t2 t1) fun t21 =>
  lt (binV .leq t21 (.int .i64 12)) fun t23 =>
  cn t23 (bd (C 38 [a0, t1, t2]) fun t27 =>
  rt (.done (.tuple []))) (
  lt (eqI false t3 (.int .i64 0)) fun t29 =>
  cn t29 (bd (C 39 [a0, t1, t2]) fun t33 =>
  rt (.done (.tuple []))) (
  jn (fun u_18 => un u_18 fun t3_19 u_20 => bd (C 41 [a0, t1, t2]) fun t46 =>
  lt (extV t46 0) fun t47 =>
  lt (extV t46 1) fun t48 =>
  jn (fun u_21 => un u_21 fun t12 u_22 => un u_22 fun t11 u_23 => jn (fun u_24 => lt (binV .gtr t1 (.int .i64 0)) fun t74 =>
  lt (gv t74 true (some a0)) fun t76 =>
  lt (gv t74 true (some t1)) fun t77 =>
  lt (gv t74 true (binV .sub t77 (.int .i64 1))) fun t78 =>
  lt (gv t74 true (ixS 1 t76 t78)) fun t79 =>
  bq (gm t74 true (ld t79)) fun t80 =>
  lt (gv t74 true (some a0)) fun t81 =>
  lt (gv t74 true (some t11)) fun t82 =>
  lt (gv t74 true (ixS 1 t81 t82)) fun t83 =>
  bq (gm t74 true (ld t83)) fun t84 =>
  bd (gm t74 true (C 44 [t80, t84])) fun t85 =>
  lt (gv t74 true (unA .not t85)) fun t86 =>
  lt (pickV t74 t86 (.bool false)) fun t87 =>
  cn t87 (bd (C 45 [a0, t1, t2, t11]) fun t92 =>
  u_17 [t2, t92, t3_19, t8, t9]) (
  bd (C 46 [a0, t1, t2, t11]) fun t99 =>
  lt (extV t99 0) fun t100 =>
  lt (extV t99 1) fun t101 =>
  lt (binV .sub t100 t1) fun t105 =>
  lt (binV .sub t2 t100) fun t108 =>
  lt (binV .quo t21 (.int .i64 8)) fun t110 =>
  lt (binV .lss t105 t108) fun t113 =>
  cn t113 (lt (binV .geq t105 t110) fun t116 =>
  bd (C 23 [a0, t1, t100, t3_19]) fun t121 =>
  lt (binV .add t100 (.int .i64 1)) fun t123 =>
  u_17 [t2, t123, t3_19, t116, t101]) (
  lt (binV .geq t108 t110) fun t126 =>
  lt (binV .add t100 (.int .i64 1)) fun t129 =>
  bd (C 23 [a0, t129, t2, t3_19]) fun t132 =>
  u_17 [t100, t1, t3_19, t126, t101]))) fun u_25 =>
  lt (gv t8 true (some t9)) fun t63 =>
  lt (pickV t8 t63 (.bool false)) fun t64 =>
  lt (gv t64 true (some t12)) fun t66 =>
  lt (gv t64 true (eqI false t66 (.int .i64 1))) fun t67 =>
  lt (pickV t64 t67 (.bool false)) fun t68 =>
  cn t68 (bd (C 43 [a0, t1, t2]) fun t72 =>
  cn t72 (rt (.done (.tuple []))) (
  u_25 [])) (
  u_25 [])) fun u_26 =>
  lt (eqI false t48 (.int .i64 2)) fun t50 =>
  cn t50 (bd (C 42 [a0, t1, t2]) fun t54 =>
  lt (binV .sub t2 (.int .i64 1)) fun t56 =>
  lt (binV .sub t47 t1) fun t59 =>
  lt (binV .sub t56 t59) fun t60 =>
  u_26 [(.int .i64 1), t60]) (
  u_26 [t48, t47])) fun u_27 =>
  lt (unA .not t8) fun t35 =>
  cn t35 (bd (C 40 [a0, t1, t2]) fun t39 =>
  lt (binV .sub t3 (.int .i64 1)) fun t41 =>
  u_27 [t41]) (
  u_27 [t3])))) [a2, a1, a3, (.bool true), (.bool true)]) fun u_28 =>
  ou u_28 rt []
def n23 : An := (.two .nil (.two .nil (.one (.loop [2, 1, 3, 8, 9] [] (.bjoin [2, 1, 3, 8, 9] (.two .nil (.two (.two .nil (.two (.two .nil .nil) .nil)) (.two (.two .nil (.two (.two .nil .nil) .nil)) (.join [3] (.two .nil (.two (.two .nil .nil) .nil)) (.two .nil (.join [12, 11] (.two .nil (.two (.two .nil (.two .nil .nil)) .nil)) (.join [] (.two .nil (.two (.two .nil (.two .nil .nil)) .nil)) (.two (.two (.draw ⟨[0, 1, 2, 3, 4, 5, 6, 7, 8, 9, 10, 11, 12, 13, 14], [], [], [12]⟩) (.two (.two .nil (.two .nil .nil)) .nil)) (.two .nil (.two .nil (.two .nil (.two .nil (.two .nil (.two (.two .nil (.two .nil .nil)) (.two .nil (.two .nil .nil)))))))))))))))))))))
theorem w23 {a0 a1 a2 a3 : AV} {h : AH} {Q : AV → AH → Prop} (w : W (s23 a0 a1 a2 a3) h Q) : W (C 23 [a0, a1, a2, a3]) h Q :=
  W_den rfl func23 (by kernel_rfl : anB prog f23 n23 = true) (by kernel_rfl : denB prog orc f23 n23 [a0, a1, a2, a3] = s23 a0 a1 a2 a3) w

/-- math/bits.Len -/
noncomputable def s24 (a0 : AV) : M AV :=
  cn (.bool false) (lt (cvI .u32 a0) fun t4 =>
  bd (C 47 [t4]) fun t5 =>
  rt t5) (
  bd (C 48 [a0]) fun t7 =>
  rt t7)
def n24 : An := (.two .nil (.two (.two (.two .nil .nil) .nil) (.two .nil .nil)))
theorem w24 {a0 : AV} {h : AH} {Q : AV → AH → Prop} (w : W (s24 a0) h Q) : W (C 24 [a0]) h Q :=
  W_den rfl func24 (by kernel_rfl : anB prog f24 n24 = true) (by kernel_rfl : denB prog orc f24 n24 [a0] = s24 a0) w

/-- slices.insertionSortOrdered[uint32] -/
noncomputable def s38 (a0 a1 a2 : AV) : M AV :=
  lt (binV .add a1 (.int .i64 1)) fun t9 =>
  bd (lp (fun u_0 => un u_0 fun t6 u_1 => lt (binV .lss t6 a2) fun t12 =>
  cn t12 (bd (lp (fun u_2 => un u_2 fun t7 u_3 => lt (binV .gtr t7 a1) fun t18 =>
  lt (gv t18 true (some a0)) fun t20 =>
  lt (gv t18 true (some t7)) fun t21 =>
  lt (gv t18 true (ixS 1 t20 t21)) fun t22 =>
  bq (gm t18 true (ld t22)) fun t23 =>
  lt (gv t18 true (some a0)) fun t24 =>
  lt (gv t18 true (some t7)) fun t25 =>
  lt (gv t18 true (binV .sub t25 (.int .i64 1))) fun t26 =>
  lt (gv t18 true (ixS 1 t24 t26)) fun t27 =>
  bq (gm t18 true (ld t27)) fun t28 =>
  bd (gm t18 true (C 44 [t23, t28])) fun t29 =>
  lt (pickV t18 t29 (.bool false)) fun t30 =>
  cn t30 (lt (binV .sub t7 (.int .i64 1)) fun t40 =>
  lt (ixS 1 a0 t40) fun t41 =>
  bq (ld t41) fun t42 =>
  lt (ixS 1 a0 t7) fun t45 =>
  bq (ld t45) fun t46 =>
  lt (ixS 1 a0 t7) fun t47 =>
  bq (st 1 t47 t42) fun u_4 =>
  lt (binV .sub t7 (.int .i64 1)) fun t37 =>
  lt (ixS 1 a0 t37) fun t48 =>
  bq (st 1 t48 t46) fun u_5 =>
  lt (binV .sub t7 (.int .i64 1)) fun t32 =>
  rt (.again [t32])) (
  rt (.out 2 []))) [t6]) fun u_6 =>
  ou u_6 (fun v => rt (.done v)) [(2, fun u_7 => lt (binV .add t6 (.int .i64 1)) fun t14 =>
  rt (.again [t14]))]) (
  rt (.out 0 []))) [t9]) fun u_8 =>
  ou u_8 rt [(0, fun u_9 => rt (.tuple []))]
def n38 : An := (.two .nil (.one (.loop [6] [(0, [])] (.two (.two .nil (.two .nil .nil)) (.two (.one (.two .nil (.one (.loop [7] [(2, [])] (.two (.two (.draw ⟨[0, 1, 2, 3, 4, 5, 6, 7, 8, 9, 10, 11, 12, 13, 14], [], [], [13]⟩) (.two .nil .nil)) (.two (.one (.draw ⟨[0, 1, 5, 6, 7, 8, 9, 10, 11, 12, 13, 14, 15, 2, 3, 4, 16, 17], [], [], []⟩)) .nil)))))) .nil)))))
theorem w38 {a0 a1 a2 : AV} {h : AH} {Q : AV → AH → Prop} (w : W (s38 a0 a1 a2) h Q) : W (C 38 [a0, a1, a2]) h Q :=
  W_den rfl func38 (by kernel_rfl : anB prog f38 n38 = true) (by kernel_rfl : denB prog orc f38 n38 [a0, a1, a2] = s38 a0 a1 a2) w

/-- slices.heapSortOrdered[uint32] -/
noncomputable def s39 (a0 a1 a2 : AV) : M AV :=
  lt (binV .sub a2 a1) fun t14 =>
  lt (binV .sub t14 (.int .i64 1)) fun t16 =>
  lt (binV .quo t16 (.int .i64 2)) fun t17 =>
  bd (lp (fun u_0 => un u_0 fun t9 u_1 => lt (binV .geq t9 (.int .i64 0)) fun t19 =>
  cn t19 (bd (C 82 [a0, t9, t14, a1]) fun t26 =>
  lt (binV .sub t9 (.int .i64 1)) fun t21 =>
  rt (.again [t21])) (
  rt (.out 0 []))) [t17]) fun u_2 =>
  ou u_2 rt [(0, fun u_3 => lt (binV .sub t14 (.int .i64 1)) fun t28 =>
  bd (lp (fun u_4 => un u_4 fun t10 u_5 => lt (binV .geq t10 (.int .i64 0)) fun t30 =>
  cn t30 (lt (binV .add a1 t10) fun t42 =>
  lt (ixS 1 a0 t42) fun t43 =>
  bq (ld t43) fun t44 =>
  lt (ixS 1 a0 a1) fun t47 =>
  bq (ld t47) fun t48 =>
  lt (ixS 1 a0 a1) fun t49 =>
  bq (st 1 t49 t44) fun u_6 =>
  lt (binV .add a1 t10) fun t38 =>
  lt (ixS 1 a0 t38) fun t50 =>
  bq (st 1 t50 t48) fun u_7 =>
  bd (C 82 [a0, (.int .i64 0), t10, a1]) fun t55 =>
  lt (binV .sub t10 (.int .i64 1)) fun t32 =>
  rt (.again [t32])) (
  rt (.out 2 []))) [t28]) fun u_8 =>
  ou u_8 rt [(2, fun u_9 => rt (.tuple []))])]
def n39 : An := (.two .nil (.two .nil (.two .nil (.two (.two .nil (.one (.loop [9] [(0, [])] (.two (.two .nil (.two .nil .nil)) (.two (.one .nil) .nil))))) (.two .nil (.one (.loop [10] [(2, [])] (.two (.two .nil (.two .nil .nil)) (.two (.one (.two (.draw ⟨[0, 1, 6, 7, 8, 9, 10, 11, 12, 13, 14, 15, 16, 17, 2, 3, 4, 5, 18, 19], [], [], []⟩) .nil)) .nil)))))))))
theorem w39 {a0 a1 a2 : AV} {h : AH} {Q : AV → AH → Prop} (w : W (s39 a0 a1 a2) h Q) : W (C 39 [a0, a1, a2]) h Q :=
  W_den rfl func39 (by kernel_rfl : anB prog f39 n39 = true) (by kernel_rfl : denB prog orc f39 n39 [a0, a1, a2] = s39 a0 a1 a2) w

/-- slices.breakPatternsOrdered[uint32] -/
noncomputable def s40 (a0 a1 a2 : AV) : M AV :=
  lt (binV .sub a2 a1) fun t13 =>
  lt (binV .geq t13 (.int .i64 8)) fun t15 =>
  cn t15 (lt (cvI .u64 t13) fun t17 =>
  bd (nw [(.int .u64 0)] 127) fun t7 =>
  bd (st 1 t7 t17) fun u_0 =>
  bd (C 83 [t13]) fun t19 =>
  lt (binV .quo t13 (.int .i64 4)) fun t22 =>
  lt (binV .mul t22 (.int .i64 2)) fun t23 =>
  lt (binV .add a1 t23) fun t24 =>
  lt (binV .sub t24 (.int .i64 1)) fun t25 =>
  bd (lp (fun u_1 => un u_1 fun t9 u_2 => lt (binV .quo t13 (.int .i64 4)) fun t29 =>
  lt (binV .mul t29 (.int .i64 2)) fun t30 =>
  lt (binV .add a1 t30) fun t31 =>
  lt (binV .add t31 (.int .i64 1)) fun t32 =>
  lt (binV .leq t9 t32) fun t33 =>
  cn t33 (bd (C 84 [t7]) fun t36 =>
  lt (binV .sub t19 (.int .u64 1)) fun t38 =>
  lt (binV .and t36 t38) fun t39 =>
  lt (cvI .i64 t39) fun t40 =>
  jn (fun u_3 => un u_3 fun t10 u_4 => lt (binV .add a1 t10) fun t56 =>
  lt (ixS 1 a0 t56) fun t57 =>
  bq (ld t57) fun t58 =>
  lt (ixS 1 a0 t9) fun t61 =>
  bq (ld t61) fun t62 =>
  lt (ixS 1 a0 t9) fun t63 =>
  bq (st 1 t63 t58) fun u_5 =>
  lt (binV .add a1 t10) fun t52 =>
  lt (ixS 1 a0 t52) fun t64 =>
  bq (st 1 t64 t62) fun u_6 =>
  lt (binV .add t9 (.int .i64 1)) fun t35 =>
  rt (.again [t35])) fun u_7 =>
  lt (binV .geq t40 t13) fun t43 =>
  cn t43 (lt (binV .sub t40 t13) fun t46 =>
  u_7 [t46]) (
  u_7 [t40])) (
  rt (.out 0 []))) [t25]) fun u_8 =>
  ou u_8 rt [(0, fun u_9 => rt (.tuple []))]) (
  rt (.tuple []))
def n40 : An := (.two .nil (.two .nil (.two (.two .nil (.two .nil (.two .nil (.one (.loop [9] [(0, [])] (.two (.two .nil (.two .nil .nil)) (.two (.one (.two .nil (.join [10] (.two .nil (.two .nil .nil)) (.draw ⟨[0, 1, 6, 7, 8, 9, 10, 11, 12, 13, 14, 15, 16, 17, 2, 3, 4, 5, 18, 19], [], [], []⟩)))) .nil))))))) .nil)))
theorem w40 {a0 a1 a2 : AV} {h : AH} {Q : AV → AH → Prop} (w : W (s40 a0 a1 a2) h Q) : W (C 40 [a0, a1, a2]) h Q :=
  W_den rfl func40 (by kernel_rfl : anB prog f40 n40 = true) (by kernel_rfl : denB prog orc f40 n40 [a0, a1, a2] = s40 a0 a1 a2) w

/-- slices.choosePivotOrdered[uint32] -/
noncomputable def s41 (a0 a1 a2 : AV) : M AV :=
  lt (binV .sub a2 a1) fun t15 =>
  bd (nw [(.int .i64 0)] 3) fun t9 =>
  lt (binV .quo t15 (.int .i64 4)) fun t18 =>
  lt (binV .mul t18 (.int .i64 1)) fun t19 =>
  lt (binV .add a1 t19) fun t20 =>
  lt (binV .quo t15 (.int .i64 4)) fun t23 =>
  lt (binV .mul t23 (.int .i64 2)) fun t24 =>
  lt (binV .add a1 t24) fun t25 =>
  lt (binV .quo t15 (.int .i64 4)) fun t28 =>
  lt (binV .mul t28 (.int .i64 3)) fun t29 =>
  lt (binV .add a1 t29) fun t30 =>
  jn (fun u_0 => un u_0 fun t11 u_1 => bd (ld t9) fun t49 =>
  lt (eqI false t49 (.int .i64 0)) fun t52 =>
  cn t52 (rt (.tuple [t11, (.int .i64 1)])) (
  lt (eqI false t49 (.int .i64 12)) fun t55 =>
  cn t55 (rt (.tuple [t11, (.int .i64 2)])) (
  rt (.tuple [t11, (.int .i64 0)])))) fun u_2 =>
  lt (binV .geq t15 (.int .i64 8)) fun t32 =>
  cn t32 (jn (fun u_3 => un u_3 fun t10 u_4 => un u_4 fun t11_5 u_6 => un u_6 fun t12 u_7 => bd (C 86 [a0, t10, t11_5, t12, t9]) fun t48 =>
  u_2 [t48]) fun u_8 =>
  lt (binV .geq t15 (.int .i64 50)) fun t34 =>
  cn t34 (bd (C 85 [a0, t20, t9]) fun t37 =>
  bd (C 85 [a0, t25, t9]) fun t40 =>
  bd (C 85 [a0, t30, t9]) fun t43 =>
  u_8 [t37, t40, t43]) (
  u_8 [t20, t25, t30])) (
  u_2 [t25])
def n41 : An := (.two .nil (.two .nil (.two .nil (.two .nil (.two .nil (.two .nil (.join [11] (.two .nil (.two (.join [10, 11, 12] (.two .nil (.two (.two .nil (.two .nil .nil)) .nil)) .nil) .nil)) (.two .nil (.one (.two .nil (.two (.two .nil .nil) (.two .nil (.two (.two .nil .nil) (.two .nil .nil))))))))))))))
theorem w41 {a0 a1 a2 : AV} {h : AH} {Q : AV → AH → Prop} (w : W (s41 a0 a1 a2) h Q) : W (C 41 [a0, a1, a2]) h Q :=
  W_den rfl func41 (by kernel_rfl : anB prog f41 n41 = true) (by kernel_rfl : denB prog orc f41 n41 [a0, a1, a2] = s41 a0 a1 a2) w

/-- slices.reverseRangeOrdered[uint32] -/
noncomputable def s42 (a0 a1 a2 : AV) : M AV :=
  lt (binV .sub a2 (.int .i64 1)) fun t10 =>
  bd (lp (fun u_0 => un u_0 fun t6 u_1 => un u_1 fun t7 u_2 => lt (binV .lss t6 t7) fun t13 =>
  cn t13 (lt (ixS 1 a0 t7) fun t20 =>
  bq (ld t20) fun t21 =>
  lt (ixS 1 a0 t6) fun t24 =>
  bq (ld t24) fun t25 =>
  lt (ixS 1 a0 t6) fun t26 =>
  bq (st 1 t26 t21) fun u_3 =>
  lt (ixS 1 a0 t7) fun t27 =>
  bq (st 1 t27 t25) fun u_4 =>
  lt (binV .add t6 (.int .i64 1)) fun t29 =>
  lt (binV .sub t7 (.int .i64 1)) fun t31 =>
  rt (.again [t29, t31])) (
  rt (.out 0 []))) [a1, t10]) fun u_5 =>
  ou u_5 rt [(0, fun u_6 => rt (.tuple []))]
def n42 : An := (.two .nil (.two .nil (.one (.loop [6, 7] [(0, [])] (.two (.two .nil (.two .nil .nil)) (.one (.two (.draw ⟨[0, 1, 4, 5, 6, 7, 8, 9, 10, 11, 12, 13, 2, 3, 14, 15], [], [], []⟩) (.two .nil .nil))))))))
theorem w42 {a0 a1 a2 : AV} {h : AH} {Q : AV → AH → Prop} (w : W (s42 a0 a1 a2) h Q) : W (C 42 [a0, a1, a2]) h Q :=
  W_den rfl func42 (by kernel_rfl : anB prog f42 n42 = true) (by kernel_rfl : denB prog orc f42 n42 [a0, a1, a2] = s42 a0 a1 a2) w

/-- slices.partialInsertionSortOrdered[uint32] -/
noncomputable def s43 (a0 a1 a2 : AV) : M AV :=
  lt (binV .add a1 (.int .i64 1)) fun t12 =>
  bd (lp (fun u_0 => un u_0 fun t8 u_1 => un u_1 fun t7 u_2 => lt (binV .lss t8 (.int .i64 5)) fun t14 =>
  cn t14 (jn (fun u_3 => un u_3 fun t7_4 u_5 => lt (binV .add t8 (.int .i64 1)) fun t16 =>
  rt (.again [t16, t7_4])) fun u_6 =>
  bd (lp (fun u_7 => un u_7 fun t7_8 u_9 => lt (binV .lss t7_8 a2) fun t19 =>
  lt (gv t19 true (some a0)) fun t21 =>
  lt (gv t19 true (some t7_8)) fun t22 =>
  lt (gv t19 true (ixS 1 t21 t22)) fun t23 =>
  bq (gm t19 true (ld t23)) fun t24 =>
  lt (gv t19 true (some a0)) fun t25 =>
  lt (gv t19 true (some t7_8)) fun t26 =>
  lt (gv t19 true (binV .sub t26 (.int .i64 1))) fun t27 =>
  lt (gv t19 true (ixS 1 t25 t27)) fun t28 =>
  bq (gm t19 true (ld t28)) fun t29 =>
  bd (gm t19 true (C 44 [t24, t29])) fun t30 =>
  lt (gv t19 true (unA .not t30)) fun t31 =>
  lt (pickV t19 t31 (.bool false)) fun t32 =>
  cn t32 (lt (binV .add t7_8 (.int .i64 1)) fun t34 =>
  rt (.again [t34])) (
  rt (.out 2 [t7_8]))) [t7]) fun u_10 =>
  ou u_10 (fun v => rt (.done v)) [(2, fun u_11 => un u_11 fun t7_12 u_13 => lt (eqI false t7_12 a2) fun t37 =>
  cn t37 (rt (.done (.bool true))) (
  lt (binV .sub a2 a1) fun t40 =>
  lt (binV .lss t40 (.int .i64 50)) fun t41 =>
  cn t41 (rt (.done (.bool false))) (
  lt (binV .sub t7_12 (.int .i64 1)) fun t49 =>
  lt (ixS 1 a0 t49) fun t50 =>
  bq (ld t50) fun t51 =>
  lt (ixS 1 a0 t7_12) fun t54 =>
  bq (ld t54) fun t55 =>
  lt (ixS 1 a0 t7_12) fun t56 =>
  bq (st 1 t56 t51) fun u_14 =>
  lt (binV .sub t7_12 (.int .i64 1)) fun t46 =>
  lt (ixS 1 a0 t46) fun t57 =>
  bq (st 1 t57 t55) fun u_15 =>
  jn (fun u_16 => lt (binV .sub a2 t7_12) fun t97 =>
  lt (binV .geq t97 (.int .i64 2)) fun t98 =>
  cn t98 (lt (binV .add t7_12 (.int .i64 1)) fun t100 =>
  bd (lp (fun u_17 => un u_17 fun t10 u_18 => lt (binV .lss t10 a2) fun t103 =>
  cn t103 (lt (ixS 1 a0 t10) fun t108 =>
  bq (ld t108) fun t109 =>
  lt (binV .sub t10 (.int .i64 1)) fun t112 =>
  lt (ixS 1 a0 t112) fun t113 =>
  bq (ld t113) fun t114 =>
  bd (C 44 [t109, t114]) fun t115 =>
  lt (unA .not t115) fun t116 =>
  cn t116 (rt (.out 6 [])) (
  lt (binV .sub t10 (.int .i64 1)) fun t124 =>
  lt (ixS 1 a0 t124) fun t125 =>
  bq (ld t125) fun t126 =>
  lt (ixS 1 a0 t10) fun t129 =>
  bq (ld t129) fun t130 =>
  lt (ixS 1 a0 t10) fun t131 =>
  bq (st 1 t131 t126) fun u_19 =>
  lt (binV .sub t10 (.int .i64 1)) fun t121 =>
  lt (ixS 1 a0 t121) fun t132 =>
  bq (st 1 t132 t130) fun u_20 =>
  lt (binV .add t10 (.int .i64 1)) fun t105 =>
  rt (.again [t105]))) (
  rt (.out 6 []))) [t100]) fun u_21 =>
  ou u_21 (fun v => rt (.done v)) [(6, fun u_22 => u_6 [t7_12])]) (
  u_6 [t7_12])) fun u_23 =>
  lt (binV .sub t7_12 a1) fun t60 =>
  lt (binV .geq t60 (.int .i64 2)) fun t61 =>
  cn t61 (lt (binV .sub t7_12 (.int .i64 1)) fun t63 =>
  bd (lp (fun u_24 => un u_24 fun t9 u_25 => lt (binV .geq t9 (.int .i64 1)) fun t65 =>
  cn t65 (lt (ixS 1 a0 t9) fun t70 =>
  bq (ld t70) fun t71 =>
  lt (binV .sub t9 (.int .i64 1)) fun t74 =>
  lt (ixS 1 a0 t74) fun t75 =>
  bq (ld t75) fun t76 =>
  bd (C 44 [t71, t76]) fun t77 =>
  lt (unA .not t77) fun t78 =>
  cn t78 (rt (.out 4 [])) (
  lt (binV .sub t9 (.int .i64 1)) fun t86 =>
  lt (ixS 1 a0 t86) fun t87 =>
  bq (ld t87) fun t88 =>
  lt (ixS 1 a0 t9) fun t91 =>
  bq (ld t91) fun t92 =>
  lt (ixS 1 a0 t9) fun t93 =>
  bq (st 1 t93 t88) fun u_26 =>
  lt (binV .sub t9 (.int .i64 1)) fun t83 =>
  lt (ixS 1 a0 t83) fun t94 =>
  bq (st 1 t94 t92) fun u_27 =>
  lt (binV .sub t9 (.int .i64 1)) fun t67 =>
  rt (.again [t67]))) (
  rt (.out 4 []))) [t63]) fun u_28 =>
  ou u_28 (fun v => rt (.done v)) [(4, fun u_29 => u_23 [])]) (
  u_23 []))))]) (
  rt (.out 0 []))) [(.int .i64 0), t12]) fun u_30 =>
  ou u_30 rt [(0, fun u_31 => rt (.bool false))]
def n43 : An := (.two .nil (.two .nil (.two (.two .nil (.one (.loop [8, 7] [(0, [])] (.two (.two .nil (.two .nil .nil)) (.two (.bjoin [7] (.two (.one (.loop [7] [(2, [7])] (.two (.two (.draw ⟨[0, 1, 2, 3, 4, 5, 6, 7, 8, 9, 10, 11, 12, 13, 14, 15], [], [], [13]⟩) (.two .nil .nil)) (.one .nil)))) (.two (.two .nil (.two (.two .nil .nil) .nil)) (.two (.two .nil (.two (.two .nil .nil) .nil)) (.two (.draw ⟨[0, 1, 5, 6, 7, 8, 9, 10, 11, 12, 13, 14, 15, 2, 3, 4, 16, 17], [], [], []⟩) (.join [] (.two .nil (.two (.two .nil (.one (.loop [9] [(4, [])] (.two (.two .nil (.two .nil .nil)) (.two (.one (.two (.two (.draw ⟨[0, 1, 2, 3, 4, 5, 6, 7, 8, 9, 10], [], [], [9]⟩) (.two .nil .nil)) (.draw ⟨[0, 1, 5, 6, 7, 8, 9, 10, 11, 12, 13, 14, 15, 2, 3, 4, 16, 17], [], [], []⟩))) .nil))))) .nil)) (.two .nil (.two (.two .nil (.one (.loop [10] [(6, [])] (.two (.two .nil (.two .nil .nil)) (.two (.one (.two (.two (.draw ⟨[0, 1, 2, 3, 4, 5, 6, 7, 8, 9, 10], [], [], [9]⟩) (.two .nil .nil)) (.draw ⟨[0, 1, 5, 6, 7, 8, 9, 10, 11, 12, 13, 14, 15, 2, 3, 4, 16, 17], [], [], []⟩))) .nil))))) .nil)))))))) .nil))))) (.two .nil .nil))))
theorem w43 {a0 a1 a2 : AV} {h : AH} {Q : AV → AH → Prop} (w : W (s43 a0 a1 a2) h Q) : W (C 43 [a0, a1, a2]) h Q :=
  W_den rfl func43 (by kernel_rfl : anB prog f43 n43 = true) (by kernel_rfl : denB prog orc f43 n43 [a0, a1, a2] = s43 a0 a1 a2) w

/-- cmp.Less[uint32] -/
noncomputable def s44 (a0 a1 : AV) : M AV :=
  bd (C 87 [a0]) fun t6 =>
  lt (gv t6 true (some a1)) fun t8 =>
  bd (gm t6 true (C 87 [t8])) fun t9 =>
  lt (gv t6 true (unA .not t9)) fun t10 =>
  lt (pickV t6 t10 (.bool false)) fun t11 =>
  lt (gv t11 false (some a0)) fun t13 =>
  lt (gv t11 false (some a1)) fun t14 =>
  lt (gv t11 false (binV .lss t13 t14)) fun t15 =>
  lt (pickV t11 (.bool true) t15) fun t16 =>
  rt t16
def n44 : An := (.two .nil (.two .nil .nil))
theorem w44 {a0 a1 : AV} {h : AH} {Q : AV → AH → Prop} (w : W (s44 a0 a1) h Q) : W (C 44 [a0, a1]) h Q :=
  W_den rfl func44 (by kernel_rfl : anB prog f44 n44 = true) (by kernel_rfl : denB prog orc f44 n44 [a0, a1] = s44 a0 a1) w

/-- slices.partitionEqualOrdered[uint32] -/
noncomputable def s45 (a0 a1 a2 a3 : AV) : M AV :=
  lt (ixS 1 a0 a3) fun t17 =>
  bq (ld t17) fun t18 =>
  lt (ixS 1 a0 a1) fun t21 =>
  bq (ld t21) fun t22 =>
  lt (ixS 1 a0 a1) fun t23 =>
  bq (st 1 t23 t18) fun u_0 =>
  lt (ixS 1 a0 a3) fun t24 =>
  bq (st 1 t24 t22) fun u_1 =>
  lt (binV .add a1 (.int .i64 1)) fun t26 =>
  lt (binV .sub a2 (.int .i64 1)) fun t28 =>
  bd (lp (fun u_2 => un u_2 fun t9 u_3 => un u_3 fun t10 u_4 => bd (lp (fun u_5 => un u_5 fun t9_6 u_7 => lt (binV .leq t9_6 t10) fun t31 =>
  lt (gv t31 true (some a0)) fun t33 =>
  lt (gv t31 true (some a1)) fun t34 =>
  lt (gv t31 true (ixS 1 t33 t34)) fun t35 =>
  bq (gm t31 true (ld t35)) fun t36 =>
  lt (gv t31 true (some a0)) fun t37 =>
  lt (gv t31 true (some t9_6)) fun t38 =>
  lt (gv t31 true (ixS 1 t37 t38)) fun t39 =>
  bq (gm t31 true (ld t39)) fun t40 =>
  bd (gm t31 true (C 44 [t36, t40])) fun t41 =>
  lt (gv t31 true (unA .not t41)) fun t42 =>
  lt (pickV t31 t42 (.bool false)) fun t43 =>
  cn t43 (lt (binV .add t9_6 (.int .i64 1)) fun t45 =>
  rt (.again [t45])) (
  rt (.out 2 [t9_6]))) [t9]) fun u_8 =>
  ou u_8 (fun v => rt (.done v)) [(2, fun u_9 => un u_9 fun t9_10 u_11 => bd (lp (fun u_12 => un u_12 fun t10_13 u_14 => lt (binV .leq t9_10 t10_13) fun t48 =>
  lt (gv t48 true (some a0)) fun t50 =>
  lt (gv t48 true (some a1)) fun t51 =>
  lt (gv t48 true (ixS 1 t50 t51)) fun t52 =>
  bq (gm t48 true (ld t52)) fun t53 =>
  lt (gv t48 true (some a0)) fun t54 =>
  lt (gv t48 true (some t10_13)) fun t55 =>
  lt (gv t48 true (ixS 1 t54 t55)) fun t56 =>
  bq (gm t48 true (ld t56)) fun t57 =>
  bd (gm t48 true (C 44 [t53, t57])) fun t58 =>
  lt (pickV t48 t58 (.bool false)) fun t59 =>
  cn t59 (lt (binV .sub t10_13 (.int .i64 1)) fun t61 =>
  rt (.again [t61])) (
  rt (.out 4 [t10_13]))) [t10]) fun u_15 =>
  ou u_15 (fun v => rt (.done v)) [(4, fun u_16 => un u_16 fun t10_17 u_18 => lt (binV .gtr t9_10 t10_17) fun t64 =>
  cn t64 (rt (.out 0 [t9_10])) (
  lt (ixS 1 a0 t10_17) fun t71 =>
  bq (ld t71) fun t72 =>
  lt (ixS 1 a0 t9_10) fun t75 =>
  bq (ld t75) fun t76 =>
  lt (ixS 1 a0 t9_10) fun t77 =>
  bq (st 1 t77 t72) fun u_19 =>
  lt (ixS 1 a0 t10_17) fun t78 =>
  bq (st 1 t78 t76) fun u_20 =>
  lt (binV .add t9_10 (.int .i64 1)) fun t80 =>
  lt (binV .sub t10_17 (.int .i64 1)) fun t82 =>
  rt (.again [t80, t82])))])]) [t26, t28]) fun u_21 =>
  ou u_21 rt [(0, fun u_22 => un u_22 fun t9_23 u_24 => rt t9_23)]
def n45 : An := (.two .nil (.two (.draw ⟨[0, 1, 4, 5, 6, 7, 8, 9, 10, 11, 12, 13, 2, 3, 14, 15], [], [], []⟩) (.two .nil (.two (.one (.loop [9, 10] [(0, [9])] (.one (.two (.one (.loop [9] [(2, [9])] (.two (.two (.draw ⟨[0, 1, 2, 3, 4, 5, 6, 7, 8, 9, 10, 11, 12, 13, 14], [], [], [12]⟩) (.two .nil .nil)) (.one .nil)))) (.two (.one (.loop [10] [(4, [10])] (.two (.two (.draw ⟨[0, 1, 2, 3, 4, 5, 6, 7, 8, 9, 10, 11, 12, 13], [], [], [12]⟩) (.two .nil .nil)) (.one .nil)))) (.two (.two .nil (.two .nil .nil)) (.two (.draw ⟨[0, 1, 4, 5, 6, 7, 8, 9, 10, 11, 12, 13, 2, 3, 14, 15], [], [], []⟩) (.two .nil .nil)))))))) (.two .nil .nil)))))
theorem w45 {a0 a1 a2 a3 : AV} {h : AH} {Q : AV → AH → Prop} (w : W (s45 a0 a1 a2 a3) h Q) : W (C 45 [a0, a1, a2, a3]) h Q :=
  W_den rfl func45 (by kernel_rfl : anB prog f45 n45 = true) (by kernel_rfl : denB prog orc f45 n45 [a0, a1, a2, a3] = s45 a0 a1 a2 a3) w

/-- slices.partitionOrdered[uint32] -/
noncomputable def s46 (a0 a1 a2 a3 : AV) : M AV :=
  lt (ixS 1 a0 a3) fun t18 =>
  bq (ld t18) fun t19 =>
  lt (ixS 1 a0 a1) fun t22 =>
  bq (ld t22) fun t23 =>
  lt (ixS 1 a0 a1) fun t24 =>
  bq (st 1 t24 t19) fun u_0 =>
  lt (ixS 1 a0 a3) fun t25 =>
  bq (st 1 t25 t23) fun u_1 =>
  lt (binV .add a1 (.int .i64 1)) fun t27 =>
  lt (binV .sub a2 (.int .i64 1)) fun t29 =>
  bd (lp (fun u_2 => un u_2 fun t10 u_3 => lt (binV .leq t10 t29) fun t32 =>
  lt (gv t32 true (some a0)) fun t34 =>
  lt (gv t32 true (some t10)) fun t35 =>
  lt (gv t32 true (ixS 1 t34 t35)) fun t36 =>
  bq (gm t32 true (ld t36)) fun t37 =>
  lt (gv t32 true (some a0)) fun t38 =>
  lt (gv t32 true (some a1)) fun t39 =>
  lt (gv t32 true (ixS 1 t38 t39)) fun t40 =>
  bq (gm t32 true (ld t40)) fun t41 =>
  bd (gm t32 true (C 44 [t37, t41])) fun t42 =>
  lt (pickV t32 t42 (.bool false)) fun t43 =>
  cn t43 (lt (binV .add t10 (.int .i64 1)) fun t45 =>
  rt (.again [t45])) (
  rt (.out 0 [t10]))) [t27]) fun u_4 =>
  ou u_4 rt [(0, fun u_5 => un u_5 fun t10_6 u_7 => bd (lp (fun u_8 => un u_8 fun t11 u_9 => lt (binV .leq t10_6 t11) fun t48 =>
  lt (gv t48 true (some a0)) fun t50 =>
  lt (gv t48 true (some t11)) fun t51 =>
  lt (gv t48 true (ixS 1 t50 t51)) fun t52 =>
  bq (gm t48 true (ld t52)) fun t53 =>
  lt (gv t48 true (some a0)) fun t54 =>
  lt (gv t48 true (some a1)) fun t55 =>
  lt (gv t48 true (ixS 1 t54 t55)) fun t56 =>
  bq (gm t48 true (ld t56)) fun t57 =>
  bd (gm t48 true (C 44 [t53, t57])) fun t58 =>
  lt (gv t48 true (unA .not t58)) fun t59 =>
  lt (pickV t48 t59 (.bool false)) fun t60 =>
  cn t60 (lt (binV .sub t11 (.int .i64 1)) fun t62 =>
  rt (.again [t62])) (
  rt (.out 2 [t11]))) [t29]) fun u_10 =>
  ou u_10 rt [(2, fun u_11 => un u_11 fun t11_12 u_13 => lt (binV .gtr t10_6 t11_12) fun t65 =>
  cn t65 (lt (ixS 1 a0 a1) fun t72 =>
  bq (ld t72) fun t73 =>
  lt (ixS 1 a0 t11_12) fun t76 =>
  bq (ld t76) fun t77 =>
  lt (ixS 1 a0 t11_12) fun t78 =>
  bq (st 1 t78 t73) fun u_14 =>
  lt (ixS 1 a0 a1) fun t79 =>
  bq (st 1 t79 t77) fun u_15 =>
  rt (.tuple [t11_12, (.bool true)])) (
  lt (ixS 1 a0 t11_12) fun t87 =>
  bq (ld t87) fun t88 =>
  lt (ixS 1 a0 t10_6) fun t91 =>
  bq (ld t91) fun t92 =>
  lt (ixS 1 a0 t10_6) fun t93 =>
  bq (st 1 t93 t88) fun u_16 =>
  lt (ixS 1 a0 t11_12) fun t94 =>
  bq (st 1 t94 t92) fun u_17 =>
  lt (binV .add t10_6 (.int .i64 1)) fun t96 =>
  lt (binV .sub t11_12 (.int .i64 1)) fun t98 =>
  bd (lp (fun u_18 => un u_18 fun t10_19 u_20 => un u_20 fun t11_21 u_22 => bd (lp (fun u_23 => un u_23 fun t10_24 u_25 => lt (binV .leq t10_24 t11_21) fun t101 =>
  lt (gv t101 true (some a0)) fun t103 =>
  lt (gv t101 true (some t10_24)) fun t104 =>
  lt (gv t101 true (ixS 1 t103 t104)) fun t105 =>
  bq (gm t101 true (ld t105)) fun t106 =>
  lt (gv t101 true (some a0)) fun t107 =>
  lt (gv t101 true (some a1)) fun t108 =>
  lt (gv t101 true (ixS 1 t107 t108)) fun t109 =>
  bq (gm t101 true (ld t109)) fun t110 =>
  bd (gm t101 true (C 44 [t106, t110])) fun t111 =>
  lt (pickV t101 t111 (.bool false)) fun t112 =>
  cn t112 (lt (binV .add t10_24 (.int .i64 1)) fun t114 =>
  rt (.again [t114])) (
  rt (.out 6 [t10_24]))) [t10_19]) fun u_26 =>
  ou u_26 (fun v => rt (.done v)) [(6, fun u_27 => un u_27 fun t10_28 u_29 => bd (lp (fun u_30 => un u_30 fun t11_31 u_32 => lt (binV .leq t10_28 t11_31) fun t117 =>
  lt (gv t117 true (some a0)) fun t119 =>
  lt (gv t117 true (some t11_31)) fun t120 =>
  lt (gv t117 true (ixS 1 t119 t120)) fun t121 =>
  bq (gm t117 true (ld t121)) fun t122 =>
  lt (gv t117 true (some a0)) fun t123 =>
  lt (gv t117 true (some a1)) fun t124 =>
  lt (gv t117 true (ixS 1 t123 t124)) fun t125 =>
  bq (gm t117 true (ld t125)) fun t126 =>
  bd (gm t117 true (C 44 [t122, t126])) fun t127 =>
  lt (gv t117 true (unA .not t127)) fun t128 =>
  lt (pickV t117 t128 (.bool false)) fun t129 =>
  cn t129 (lt (binV .sub t11_31 (.int .i64 1)) fun t131 =>
  rt (.again [t131])) (
  rt (.out 8 [t11_31]))) [t11_21]) fun u_33 =>
  ou u_33 (fun v => rt (.done v)) [(8, fun u_34 => un u_34 fun t11_35 u_36 => lt (binV .gtr t10_28 t11_35) fun t134 =>
  cn t134 (rt (.out 4 [t11_35])) (
  lt (ixS 1 a0 t11_35) fun t141 =>
  bq (ld t141) fun t142 =>
  lt (ixS 1 a0 t10_28) fun t145 =>
  bq (ld t145) fun t146 =>
  lt (ixS 1 a0 t10_28) fun t147 =>
  bq (st 1 t147 t142) fun u_37 =>
  lt (ixS 1 a0 t11_35) fun t148 =>
  bq (st 1 t148 t146) fun u_38 =>
  lt (binV .add t10_28 (.int .i64 1)) fun t150 =>
  lt (binV .sub t11_35 (.int .i64 1)) fun t152 =>
  rt (.again [t150, t152])))])]) [t96, t98]) fun u_39 =>
  ou u_39 rt [(4, fun u_40 => un u_40 fun t11_41 u_42 => lt (ixS 1 a0 a1) fun t159 =>
  bq (ld t159) fun t160 =>
  lt (ixS 1 a0 t11_41) fun t163 =>
  bq (ld t163) fun t164 =>
  lt (ixS 1 a0 t11_41) fun t165 =>
  bq (st 1 t165 t160) fun u_43 =>
  lt (ixS 1 a0 a1) fun t166 =>
  bq (st 1 t166 t164) fun u_44 =>
  rt (.tuple [t11_41, (.bool false)]))]))])]
def n46 : An := (.two .nil (.two (.draw ⟨[0, 1, 4, 5, 6, 7, 8, 9, 10, 11, 12, 13, 2, 3, 14, 15], [], [], []⟩) (.two .nil (.two (.one (.loop [10] [(0, [10])] (.two (.two (.draw ⟨[0, 1, 2, 3, 4, 5, 6, 7, 8, 9, 10, 11, 12, 13], [], [], [12]⟩) (.two .nil .nil)) (.one .nil)))) (.two (.one (.loop [11] [(2, [11])] (.two (.two (.draw ⟨[0, 1, 2, 3, 4, 5, 6, 7, 8, 9, 10, 11, 12, 13, 14], [], [], [12]⟩) (.two .nil .nil)) (.one .nil)))) (.two (.two .nil (.two (.two (.draw ⟨[0, 1, 4, 5, 6, 7, 8, 9, 10, 11, 12, 13, 2, 3, 14, 15], [], [], []⟩) (.two .nil .nil)) .nil)) (.two (.draw ⟨[0, 1, 4, 5, 6, 7, 8, 9, 10, 11, 12, 13, 2, 3, 14, 15], [], [], []⟩) (.two .nil (.two .nil (.two (.one (.loop [10, 11] [(4, [11])] (.one (.two (.one (.loop [10] [(6, [10])] (.two (.two (.draw ⟨[0, 1, 2, 3, 4, 5, 6, 7, 8, 9, 10, 11, 12, 13], [], [], [12]⟩) (.two .nil .nil)) (.one .nil)))) (.two (.one (.loop [11] [(8, [11])] (.two (.two (.draw ⟨[0, 1, 2, 3, 4, 5, 6, 7, 8, 9, 10, 11, 12, 13, 14], [], [], [12]⟩) (.two .nil .nil)) (.one .nil)))) (.two (.two .nil (.two .nil .nil)) (.two (.draw ⟨[0, 1, 4, 5, 6, 7, 8, 9, 10, 11, 12, 13, 2, 3, 14, 15], [], [], []⟩) (.two .nil .nil)))))))) (.two (.draw ⟨[0, 1, 4, 5, 6, 7, 8, 9, 10, 11, 12, 13, 2, 3, 14, 15], [], [], []⟩) (.two .nil .nil))))))))))))
theorem w46 {a0 a1 a2 a3 : AV} {h : AH} {Q : AV → AH → Prop} (w : W (s46 a0 a1 a2 a3) h Q) : W (C 46 [a0, a1, a2, a3]) h Q :=
  W_den rfl func46 (by kernel_rfl : anB prog f46 n46 = true) (by kernel_rfl : denB prog orc f46 n46 [a0, a1, a2, a3] = s46 a0 a1 a2 a3) w

def q47_0 : List UInt8 := [0, 1, 2, 2, 3, 3, 3, 3, 4, 4, 4, 4, 4, 4, 4, 4, 5, 5, 5, 5, 5, 5, 5, 5, 5, 5, 5, 5, 5, 5, 5, 5, 6, 6, 6, 6, 6, 6, 6, 6, 6, 6, 6, 6, 6, 6, 6, 6, 6, 6, 6, 6, 6, 6, 6, 6, 6, 6, 6, 6, 6, 6, 6, 6, 7, 7, 7, 7, 7, 7, 7, 7, 7, 7, 7, 7, 7, 7, 7, 7, 7, 7, 7, 7, 7, 7, 7, 7, 7, 7, 7, 7, 7, 7, 7, 7, 7, 7, 7, 7, 7, 7, 7, 7, 7, 7, 7, 7, 7, 7, 7, 7, 7, 7, 7, 7, 7, 7, 7, 7, 7, 7, 7, 7, 7, 7, 7, 7, 8, 8, 8, 8, 8, 8, 8, 8, 8, 8, 8, 8, 8, 8, 8, 8, 8, 8, 8, 8, 8, 8, 8, 8, 8, 8, 8, 8, 8, 8, 8, 8, 8, 8, 8, 8, 8, 8, 8, 8, 8, 8, 8, 8, 8, 8, 8, 8, 8, 8, 8, 8, 8, 8, 8, 8, 8, 8, 8, 8, 8, 8, 8, 8, 8, 8, 8, 8, 8, 8, 8, 8, 8, 8, 8, 8, 8, 8, 8, 8, 8, 8, 8, 8, 8, 8, 8, 8, 8, 8, 8, 8, 8, 8, 8, 8, 8, 8, 8, 8, 8, 8, 8, 8, 8, 8, 8, 8, 8, 8, 8, 8, 8, 8, 8, 8, 8, 8, 8, 8, 8, 8, 8, 8, 8, 8, 8, 8]
/-- math/bits.Len32 -/
noncomputable def s47 (a0 : AV) : M AV :=
  jn (fun u_0 => un u_0 fun t0 u_1 => un u_1 fun t2 u_2 => jn (fun u_3 => un u_3 fun t2_4 u_5 => un u_5 fun t0_6 u_7 => lt (cvI .u8 t0_6) fun t15 =>
  lt (ixT (.str q47_0) t15) fun t16 =>
  lt (cvI .i64 t16) fun t17 =>
  lt (binV .add t2_4 t17) fun t18 =>
  rt t18) fun u_8 =>
  lt (binV .geq t0 (.int .u32 256)) fun t8 =>
  cn t8 (lt (binV .shr t0 (.int .u64 8)) fun t10 =>
  lt (binV .add t2 (.int .i64 8)) fun t12 =>
  u_8 [t12, t10]) (
  u_8 [t2, t0])) fun u_9 =>
  lt (binV .geq a0 (.int .u32 65536)) fun t4 =>
  cn t4 (lt (binV .shr a0 (.int .u64 16)) fun t6 =>
  u_9 [t6, (.int .i64 16)]) (
  u_9 [a0, (.int .i64 0)])
def n47 : An := (.two .nil (.join [0, 2] (.two .nil (.two (.two .nil .nil) .nil)) (.join [2, 0] (.two .nil (.two (.two .nil .nil) .nil)) (.two .nil .nil))))
theorem w47 {a0 : AV} {h : AH} {Q : AV → AH → Prop} (w : W (s47 a0) h Q) : W (C 47 [a0]) h Q :=
  W_den rfl func47 (by kernel_rfl : anB prog f47 n47 = true) (by kernel_rfl : denB prog orc f47 n47 [a0] = s47 a0) w

def q48_0 : List UInt8 := [0, 1, 2, 2, 3, 3, 3, 3, 4, 4, 4, 4, 4, 4, 4, 4, 5, 5, 5, 5, 5, 5, 5, 5, 5, 5, 5, 5, 5, 5, 5, 5, 6, 6, 6, 6, 6, 6, 6, 6, 6, 6, 6, 6, 6, 6, 6, 6, 6, 6, 6, 6, 6, 6, 6, 6, 6, 6, 6, 6, 6, 6, 6, 6, 7, 7, 7, 7, 7, 7, 7, 7, 7, 7, 7, 7, 7, 7, 7, 7, 7, 7, 7, 7, 7, 7, 7, 7, 7, 7, 7, 7, 7, 7, 7, 7, 7, 7, 7, 7, 7, 7, 7, 7, 7, 7, 7, 7, 7, 7, 7, 7, 7, 7, 7, 7, 7, 7, 7, 7, 7, 7, 7, 7, 7, 7, 7, 7, 8, 8, 8, 8, 8, 8, 8, 8, 8, 8, 8, 8, 8, 8, 8, 8, 8, 8, 8, 8, 8, 8, 8, 8, 8, 8, 8, 8, 8, 8, 8, 8, 8, 8, 8, 8, 8, 8, 8, 8, 8, 8, 8, 8, 8, 8, 8, 8, 8, 8, 8, 8, 8, 8, 8, 8, 8, 8, 8, 8, 8, 8, 8, 8, 8, 8, 8, 8, 8, 8, 8, 8, 8, 8, 8, 8, 8, 8, 8, 8, 8, 8, 8, 8, 8, 8, 8, 8, 8, 8, 8, 8, 8, 8, 8, 8, 8, 8, 8, 8, 8, 8, 8, 8, 8, 8, 8, 8, 8, 8, 8, 8, 8, 8, 8, 8, 8, 8, 8, 8, 8, 8, 8, 8, 8, 8, 8, 8]
/-- math/bits.Len64 -/
noncomputable def s48 (a0 : AV) : M AV :=
  jn (fun u_0 => un u_0 fun t0 u_1 => un u_1 fun t2 u_2 => jn (fun u_3 => un u_3 fun t0_4 u_5 => un u_5 fun t2_6 u_7 => jn (fun u_8 => un u_8 fun t2_9 u_10 => un u_10 fun t0_11 u_12 => lt (cvI .u8 t0_11) fun t21 =>
  lt (ixT (.str q48_0) t21) fun t22 =>
  lt (cvI .i64 t22) fun t23 =>
  lt (binV .add t2_9 t23) fun t24 =>
  rt t24) fun u_13 =>
  lt (binV .geq t0_4 (.int .u64 256)) fun t14 =>
  cn t14 (lt (binV .shr t0_4 (.int .u64 8)) fun t16 =>
  lt (binV .add t2_6 (.int .i64 8)) fun t18 =>
  u_13 [t18, t16]) (
  u_13 [t2_6, t0_4])) fun u_14 =>
  lt (binV .geq t0 (.int .u64 65536)) fun t8 =>
  cn t8 (lt (binV .shr t0 (.int .u64 16)) fun t10 =>
  lt (binV .add t2 (.int .i64 16)) fun t12 =>
  u_14 [t10, t12]) (
  u_14 [t0, t2])) fun u_15 =>
  lt (binV .geq a0 (.int .u64 4294967296)) fun t4 =>
  cn t4 (lt (binV .shr a0 (.int .u64 32)) fun t6 =>
  u_15 [t6, (.int .i64 32)]) (
  u_15 [a0, (.int .i64 0)])
def n48 : An := (.two .nil (.join [0, 2] (.two .nil (.two (.two .nil .nil) .nil)) (.join [0, 2] (.two .nil (.two (.two .nil .nil) .nil)) (.join [2, 0] (.two .nil (.two (.two .nil .nil) .nil)) (.two .nil .nil)))))
theorem w48 {a0 : AV} {h : AH} {Q : AV → AH → Prop} (w : W (s48 a0) h Q) : W (C 48 [a0]) h Q :=
  W_den rfl func48 (by kernel_rfl : anB prog f48 n48 = true) (by kernel_rfl : denB prog orc f48 n48 [a0] = s48 a0) w

/-- slices.siftDownOrdered[uint32] -/
noncomputable def s82 (a0 a1 a2 a3 : AV) : M AV :=
  bd (lp (fun u_0 => un u_0 fun t8 u_1 => lt (binV .mul (.int .i64 2) t8) fun t12 =>
  lt (binV .add t12 (.int .i64 1)) fun t13 =>
  lt (binV .geq t13 a2) fun t16 =>
  cn t16 (rt (.out 0 [])) (
  jn (fun u_2 => un u_2 fun t9 u_3 => lt (binV .add a3 t8) fun t42 =>
  lt (ixS 1 a0 t42) fun t43 =>
  bq (ld t43) fun t44 =>
  lt (binV .add a3 t9) fun t48 =>
  lt (ixS 1 a0 t48) fun t49 =>
  bq (ld t49) fun t50 =>
  bd (C 44 [t44, t50]) fun t51 =>
  lt (unA .not t51) fun t52 =>
  cn t52 (rt (.done (.tuple []))) (
  lt (binV .add a3 t8) fun t56 =>
  lt (binV .add a3 t9) fun t64 =>
  lt (ixS 1 a0 t64) fun t65 =>
  bq (ld t65) fun t66 =>
  lt (binV .add a3 t8) fun t70 =>
  lt (ixS 1 a0 t70) fun t71 =>
  bq (ld t71) fun t72 =>
  lt (ixS 1 a0 t56) fun t73 =>
  bq (st 1 t73 t66) fun u_4 =>
  lt (binV .add a3 t9) fun t60 =>
  lt (ixS 1 a0 t60) fun t74 =>
  bq (st 1 t74 t72) fun u_5 =>
  rt (.again [t9]))) fun u_6 =>
  lt (binV .add t13 (.int .i64 1)) fun t18 =>
  lt (binV .lss t18 a2) fun t20 =>
  lt (gv t20 true (some a0)) fun t22 =>
  lt (gv t20 true (some a3)) fun t23 =>
  lt (gv t20 true (some t13)) fun t24 =>
  lt (gv t20 true (binV .add t23 t24)) fun t25 =>
  lt (gv t20 true (ixS 1 t22 t25)) fun t26 =>
  bq (gm t20 true (ld t26)) fun t27 =>
  lt (gv t20 true (some a0)) fun t28 =>
  lt (gv t20 true (some a3)) fun t29 =>
  lt (gv t20 true (some t13)) fun t30 =>
  lt (gv t20 true (binV .add t29 t30)) fun t31 =>
  lt (gv t20 true (binV .add t31 (.int .i64 1))) fun t32 =>
  lt (gv t20 true (ixS 1 t28 t32)) fun t33 =>
  bq (gm t20 true (ld t33)) fun t34 =>
  bd (gm t20 true (C 44 [t27, t34])) fun t35 =>
  lt (pickV t20 t35 (.bool false)) fun t36 =>
  cn t36 (lt (binV .add t13 (.int .i64 1)) fun t38 =>
  u_6 [t38]) (
  u_6 [t13]))) [a1]) fun u_7 =>
  ou u_7 rt [(0, fun u_8 => rt (.tuple []))]
def n82 : An := (.two .nil (.one (.loop [8] [(0, [])] (.one (.two .nil (.two (.two .nil (.two .nil .nil)) (.join [9] (.two (.draw ⟨[0, 1, 2, 3, 4, 5, 6, 7, 8, 9, 10, 11, 12, 13, 14, 15, 16, 17, 18, 19], [], [], [18]⟩) (.two .nil .nil)) (.two (.two (.draw ⟨[0, 1, 2, 3, 4, 5, 6, 7, 8, 9, 10, 11, 12, 13], [], [], [12]⟩) (.two .nil .nil)) (.two (.draw ⟨[0, 1, 2, 3, 8, 9, 10, 11, 12, 13, 14, 15, 16, 17, 18, 19, 20, 21, 4, 5, 6, 7, 22, 23], [], [], []⟩) .nil)))))))))
theorem w82 {a0 a1 a2 a3 : AV} {h : AH} {Q : AV → AH → Prop} (w : W (s82 a0 a1 a2 a3) h Q) : W (C 82 [a0, a1, a2, a3]) h Q :=
  W_den rfl func82 (by kernel_rfl : anB prog f82 n82 = true) (by kernel_rfl : denB prog orc f82 n82 [a0, a1, a2, a3] = s82 a0 a1 a2 a3) w

/-- slices.nextPowerOfTwo -/
noncomputable def s83 (a0 : AV) : M AV :=
  lt (cvI .u64 a0) fun t4 =>
  bd (C 24 [t4]) fun t5 =>
  lt (binV .shl (.int .u64 1) t5) fun t6 =>
  rt t6
def n83 : An := (.two .nil (.two .nil .nil))
theorem w83 {a0 : AV} {h : AH} {Q : AV → AH → Prop} (w : W (s83 a0) h Q) : W (C 83 [a0]) h Q :=
  W_den rfl func83 (by kernel_rfl : anB prog f83 n83 = true) (by kernel_rfl : denB prog orc f83 n83 [a0] = s83 a0) w

/-- (*slices.xorshift).Next -/
noncomputable def s84 (a0 : AV) : M AV :=
  lt (nilV a0) fun t4 =>
  bq (ld t4) fun t5 =>
  lt (nilV a0) fun t7 =>
  bq (ld t7) fun t8 =>
  lt (binV .shl t8 (.int .u64 13)) fun t9 =>
  lt (binV .xor t5 t9) fun t10 =>
  lt (nilV a0) fun t11 =>
  bq (st 1 t11 t10) fun u_0 =>
  lt (nilV a0) fun t13 =>
  bq (ld t13) fun t14 =>
  lt (nilV a0) fun t16 =>
  bq (ld t16) fun t17 =>
  lt (binV .shr t17 (.int .u64 7)) fun t18 =>
  lt (binV .xor t14 t18) fun t19 =>
  lt (nilV a0) fun t20 =>
  bq (st 1 t20 t19) fun u_1 =>
  lt (nilV a0) fun t22 =>
  bq (ld t22) fun t23 =>
  lt (nilV a0) fun t25 =>
  bq (ld t25) fun t26 =>
  lt (binV .shl t26 (.int .u64 17)) fun t27 =>
  lt (binV .xor t23 t27) fun t28 =>
  lt (nilV a0) fun t29 =>
  bq (st 1 t29 t28) fun u_2 =>
  lt (nilV a0) fun t31 =>
  bd (ld t31) fun t32 =>
  rt t32
def n84 : An := (.two .nil (.two (.draw ⟨[0, 1, 2, 3, 4, 5, 6, 7, 8, 9], [], [], []⟩) (.two (.draw ⟨[0, 1, 2, 3, 4, 5, 6, 7, 8, 9], [], [], []⟩) (.two (.draw ⟨[0, 1, 2, 3, 4, 5, 6, 7, 8, 9], [], [], []⟩) (.two .nil .nil)))))
theorem w84 {a0 : AV} {h : AH} {Q : AV → AH → Prop} (w : W (s84 a0) h Q) : W (C 84 [a0]) h Q :=
  W_den rfl func84 (by kernel_rfl : anB prog f84 n84 = true) (by kernel_rfl : denB prog orc f84 n84 [a0] = s84 a0) w

/-- slices.medianAdjacentOrdered[uint32] -/
noncomputable def s85 (a0 a1 a2 : AV) : M AV :=
  lt (binV .sub a1 (.int .i64 1)) fun t9 =>
  lt (binV .add a1 (.int .i64 1)) fun t12 =>
  bd (C 86 [a0, t9, a1, t12, a2]) fun t14 =>
  rt t14
def n85 : An := (.two .nil (.two .nil .nil))
theorem w85 {a0 a1 a2 : AV} {h : AH} {Q : AV → AH → Prop} (w : W (s85 a0 a1 a2) h Q) : W (C 85 [a0, a1, a2]) h Q :=
  W_den rfl func85 (by kernel_rfl : anB prog f85 n85 = true) (by kernel_rfl : denB prog orc f85 n85 [a0, a1, a2] = s85 a0 a1 a2) w

/-- slices.medianOrdered[uint32] -/
noncomputable def s86 (a0 a1 a2 a3 a4 : AV) : M AV :=
  bd (C 138 [a0, a1, a2, a4]) fun t16 =>
  lt (extV t16 0) fun t17 =>
  lt (extV t16 1) fun t18 =>
  bd (C 138 [a0, t18, a3, a4]) fun t24 =>
  lt (extV t24 0) fun t25 =>
  lt (extV t24 1) fun t26 =>
  bd (C 138 [a0, t17, t25, a4]) fun t32 =>
  lt (extV t32 0) fun t33 =>
  lt (extV t32 1) fun t34 =>
  rt t34
def n86 : An := (.two .nil (.two .nil (.two .nil (.two .nil (.two .nil .nil)))))
theorem w86 {a0 a1 a2 a3 a4 : AV} {h : AH} {Q : AV → AH → Prop} (w : W (s86 a0 a1 a2 a3 a4) h Q) : W (C 86 [a0, a1, a2, a3, a4]) h Q :=
  W_den rfl func86 (by kernel_rfl : anB prog f86 n86 = true) (by kernel_rfl : denB prog orc f86 n86 [a0, a1, a2, a3, a4] = s86 a0 a1 a2 a3 a4) w

/-- cmp.isNaN[uint32] -/
noncomputable def s87 (a0 : AV) : M AV :=
  lt (eqI true a0 a0) fun t5 =>
  rt t5
def n87 : An := (.two .nil (.two .nil .nil))
theorem w87 {a0 : AV} {h : AH} {Q : AV → AH → Prop} (w : W (s87 a0) h Q) : W (C 87 [a0]) h Q :=
  W_den rfl func87 (by kernel_rfl : anB prog f87 n87 = true) (by kernel_rfl : denB prog orc f87 n87 [a0] = s87 a0) w

/-- slices.order2Ordered[uint32] -/
noncomputable def s138 (a0 a1 a2 a3 : AV) : M AV :=
  lt (ixS 1 a0 a2) fun t12 =>
  bq (ld t12) fun t13 =>
  lt (ixS 1 a0 a1) fun t16 =>
  bq (ld t16) fun t17 =>
  bd (C 44 [t13, t17]) fun t18 =>
  cn t18 (lt (nilV a3) fun t20 =>
  bd (ld t20) fun t21 =>
  lt (binV .add t21 (.int .i64 1)) fun t22 =>
  lt (nilV a3) fun t23 =>
  bd (st 1 t23 t22) fun u_0 =>
  rt (.tuple [a2, a1])) (
  rt (.tuple [a1, a2]))
def n138 : An := (.two .nil (.two (.two (.draw ⟨[0, 1, 2, 3, 4, 5, 6, 7, 8], [], [], [8]⟩) (.two (.two .nil (.two .nil .nil)) .nil)) (.two .nil .nil)))
theorem w138 {a0 a1 a2 a3 : AV} {h : AH} {Q : AV → AH → Prop} (w : W (s138 a0 a1 a2 a3) h Q) : W (C 138 [a0, a1, a2, a3]) h Q :=
  W_den rfl func138 (by kernel_rfl : anB prog f138 n138 = true) (by kernel_rfl : denB prog orc f138 n138 [a0, a1, a2, a3] = s138 a0 a1 a2 a3) w

end Go.Proofs.YtlpbgmbiollimaaGreat.Low

set_option linter.unusedSimpArgs false
namespace Go.Proofs.YtlpbgmbiollimaaGreat.Low
open Go Go.Am _root_.Go.Proofs.Tryz

namespace SortU

abbrev U (x : Int) : AV := .int .u32 x
abbrev E : TypeId := 38

variable {h : AH} {Q : AV → AH → Prop} {x y : Int}

theorem nan (q : Q (.bool false) h) : W (C 87 [U x]) h Q := by
  apply w87
  unfold s87
  simpa using q

theorem less (q : Q (.bool (Sort.ltInt x y)) h) : W (C 44 [U x, U y]) h Q := by
  apply w44
  unfold s44
  rw [W_bd]
  apply nan
  simp
  exact q

/-- The sort's array is here. -/
abbrev R (i : Nat) (pre post : List AV) (D : Array Int) (h : AH) : Prop := Ro U i E pre post D h
abbrev SL (i : Nat) (pre : List AV) (n cap : Nat) : AV := .slice (some (i, pre.length)) n cap 1

theorem wi {z : Int} {n : Nat} (h : z = n) (hb : n < 9223372036854775808) : AV.int .i64 (IntKind.i64.wrap z) = .int .i64 n := by
  subst h; rw [wr_i64 (by omega) (by omega)]

variable {i cap N : Nat} {pre post : List AV} {D : Array Int} {α : Type}

theorem ldx {K : AV → M α} {Q : α → AH → Prop} (r : R i pre post D h) (n : Nat) (hN : D.size = N) (hn : n < N) (w : W (K (U D[n]!)) h Q) : W (lt (ixS 1 (SL i pre N cap) (.int .i64 n)) fun t => bq (ld t) K) h Q := by
  rw [ixS_ok (by omega) (by omega), W_lt, W_bq]
  simp only [Int.toNat_natCast, Nat.mul_one]
  exact W_ldR r (by omega) w

theorem stx {K : AV → M α} {Q : α → AH → Prop} (r : R i pre post D h) (n : Nat) (hN : D.size = N) (hn : n < N)
    (w : ∀ h', R i pre post (D.setIfInBounds n x) h' → Fr [i] h h' → h'.next = h.next → W (K undefA) h' Q) : W (lt (ixS 1 (SL i pre N cap) (.int .i64 n)) fun t => bq (st 1 t (U x)) K) h Q := by
  rw [ixS_ok (by omega) (by omega), W_lt, W_bq]
  simp only [Int.toNat_natCast, Nat.mul_one]
  exact W_stR r (by omega) rfl w

/-- 'data[m], data[n] = data[n], data[m]': the two writes. -/
theorem swx {K : AV → M α} {Q : α → AH → Prop} (r : R i pre post D h) (m n : Nat) (hN : D.size = N) (hm : m < N) (hn : n < N)
    (w : ∀ h', R i pre post (Sort.swp D m n) h' → Fr [i] h h' → h'.next = h.next → W (K undefA) h' Q) :
    W (lt (ixS 1 (SL i pre N cap) (.int .i64 m)) fun t => bq (st 1 t (U D[n]!)) fun _ => lt (ixS 1 (SL i pre N cap) (.int .i64 n)) fun t => bq (st 1 t (U D[m]!)) K) h Q :=
  stx r m hN hm fun h1 r1 f1 e1 => stx r1 n (by simp [hN]) hn fun h2 r2 f2 e2 => w h2 r2 (f1.trans f2) (e2.trans e1)

theorem ldz (r : R i pre post D h) {z : Int} (n : Nat) (hz : z = n) (hN : D.size = N) (hn : n < N) (q : Q (U D[n]!) h) : W (ld (.ptr (some (i, pre.length + z.toNat * 1)))) h Q := by
  subst hz
  simp only [Int.toNat_natCast, Nat.mul_one]
  exact W_ldR r (by omega) q

theorem stz (r : R i pre post D h) {z : Int} (n : Nat) (hz : z = n) (hN : D.size = N) (hn : n < N)
    (q : ∀ h', R i pre post (D.setIfInBounds n x) h' → Fr [i] h h' → h'.next = h.next → Q undefA h') : W (st 1 (.ptr (some (i, pre.length + z.toNat * 1))) (U x)) h Q := by
  subst hz
  simp only [Int.toNat_natCast, Nat.mul_one]
  exact W_stR r (by omega) rfl q

theorem swz (r : R i pre post D h) {z w : Int} (m n : Nat) (hz : z = m) (hw : w = n) (hN : D.size = N) (hm : m < N) (hn : n < N)
    (q : ∀ h', R i pre post (Sort.swp D m n) h' → Fr [i] h h' → h'.next = h.next → Q undefA h') :
    W (st 1 (.ptr (some (i, pre.length + z.toNat * 1))) (U D[n]!)) h fun _ h' => W (st 1 (.ptr (some (i, pre.length + w.toNat * 1))) (U D[m]!)) h' Q :=
  stz r m hz hN hm fun h1 r1 f1 e1 => stz r1 n hw (by simp [hN]) hn fun h2 r2 f2 e2 => q h2 r2 (f1.trans f2) (e2.trans e1)

theorem swp_size (D : Array Int) (a b : Nat) : (Sort.swp D a b).size = D.size := by simp [Sort.swp]

theorem insertionSort (r : R i pre post D h) (hN : D.size = N) (hb : N < 140737488355328) {a b : Nat} (hab : a ≤ b) (hbN : b ≤ N)
    (q : ∀ h', R i pre post (Sort.insertionSort Sort.ltInt D a b) h' → Fr [i] h h' → (Sort.insertionSort Sort.ltInt D a b).size = N → Q (.tuple []) h') :
    W (C 38 [SL i pre N cap, .int .i64 a, .int .i64 b]) h Q := by
  apply w38
  unfold s38
  simp only [binV_add, W_lt]
  rw [wi (n := a + 1) (by omega) (by omega)]
  refine W_loop (fun s h' => ∃ (n : Nat) (D' : Array Int), s = [.int .i64 n] ∧ a + 1 ≤ n ∧ R i pre post D' h' ∧ Fr [i] h h' ∧ D'.size = N ∧ Sort.insOuter Sort.ltInt a b n D' = Sort.insertionSort Sort.ltInt D a b)
    (fun s _ => b - i1 s) (fun r h' => r = .out 0 [] ∧ R i pre post (Sort.insertionSort Sort.ltInt D a b) h' ∧ Fr [i] h h' ∧ (Sort.insertionSort Sort.ltInt D a b).size = N)
    ⟨a + 1, D, rfl, Nat.le_refl _, r, Fr.refl _ _, hN, rfl⟩ ?_ (fun r h' ⟨e1, e2, e3, e4⟩ => by subst e1; simp only [ou_out, if_true, W_rt]; exact q h' e2 e3 e4)
  rintro s h1 ⟨n, D1, rfl, hn, r1, f1, hN1, e1⟩
  simp only [W_un, binV_lss, W_lt]
  refine W_ite (fun hc => ?_) (fun hc => ?_)
  · rw [Sort.insOuter, if_pos (by omega)] at e1
    refine W_loop (fun s h' => ∃ (j : Nat) (D' : Array Int), s = [.int .i64 j] ∧ j ≤ n ∧ R i pre post D' h' ∧ Fr [i] h h' ∧ D'.size = N ∧ Sort.insInner Sort.ltInt a j D' = Sort.insInner Sort.ltInt a n D1)
      (fun s _ => i1 s) (fun r h' => r = .out 2 [] ∧ R i pre post (Sort.insInner Sort.ltInt a n D1) h' ∧ Fr [i] h h' ∧ (Sort.insInner Sort.ltInt a n D1).size = N)
      ⟨n, D1, rfl, Nat.le_refl _, r1, f1, hN1, rfl⟩ ?_ ?_
    · rintro s h2 ⟨j, D2, rfl, hj, r2, f2, hN2, e2⟩
      simp only [W_un, binV_gtr, W_lt]
      have fin : Sort.insInner Sort.ltInt a j D2 = D2 → R i pre post (Sort.insInner Sort.ltInt a n D1) h2 ∧ Fr [i] h h2 ∧ (Sort.insInner Sort.ltInt a n D1).size = N := by
        intro hf; rw [← e2, hf]; exact ⟨r2, f2, hN2⟩
      by_cases hja : a < j
      · have : decide ((a : Int) < (j : Int)) = true := by simpa using hja
        obtain ⟨j', rfl⟩ : ∃ j', j = j' + 1 := ⟨j - 1, by omega⟩
        rw [this]
        simp only [gv_tt, gm_tt, W_lt]
        refine ldx r2 (j' + 1) hN2 (by omega) ?_
        simp only [binV_sub, W_lt]
        rw [wi (n := j') (by omega) (by omega)]
        refine ldx r2 j' hN2 (by omega) ?_
        rw [W_bd]
        apply less
        simp only [pickV_true, W_lt]
        refine W_if (fun hl => ?_) (fun hl => ?_)
        · refine ldx r2 j' hN2 (by omega) ?_
          refine ldx r2 (j' + 1) hN2 (by omega) ?_
          refine swx r2 (j' + 1) j' hN2 (by omega) (by omega) fun h3 r3 f3 _ => ?_
          simp only [W_lt, W_rt, LQ_again]
          refine ⟨⟨j', _, rfl, by omega, r3, f2.trans f3, by rw [swp_size]; exact hN2, ?_⟩, by simp⟩
          rw [← e2]
          conv => rhs; rw [Sort.insInner]
          simp [hja, hl]
        · simp only [W_rt, LQ_out]
          refine ⟨trivial, fin ?_⟩
          rw [Sort.insInner]
          simp [hl]
      · have : decide ((a : Int) < (j : Int)) = false := by simpa using hja
        rw [this]
        simp only [gv_ft, gm_ft, W_lt, W_bq, W_bd, W_rt, pickV_false, W_cn_false, LQ_out]
        refine ⟨trivial, fin ?_⟩
        cases j with
        | zero => rfl
        | succ j => rw [Sort.insInner]; simp; intro hq; omega
    · rintro r2 h2 ⟨rfl, e2, e3, e4⟩
      simp only [W_rt, ou_out, if_true, binV_add, W_lt, LQ_again]
      rw [wi (n := n + 1) (by omega) (by omega)]
      exact ⟨⟨n + 1, _, rfl, by omega, e2, e3, e4, e1⟩, by simp; omega⟩
  · simp only [W_rt, LQ_out]
    rw [Sort.insOuter, if_neg (by omega)] at e1
    subst e1
    exact ⟨trivial, r1, f1, hN1⟩

end SortU
end Go.Proofs.YtlpbgmbiollimaaGreat.Low

namespace Go.Proofs.YtlpbgmbiollimaaGreat.Low
open Go Go.Am _root_.Go.Proofs.Tryz
namespace SortU

variable {h : AH} {Q : AV → AH → Prop} {i cap N : Nat} {pre post : List AV} {D : Array Int}

theorem wz {z : Int} (h1 : -9223372036854775808 ≤ z) (h2 : z ≤ 9223372036854775807) : AV.int .i64 (IntKind.i64.wrap z) = .int .i64 z := by rw [wr_i64 h1 h2]

theorem siftDown (r : R i pre post D h) (hN : D.size = N) (hb : N < 140737488355328) {lo hi first : Nat} (hlo : lo ≤ N) (hf : first + hi ≤ N)
    (q : ∀ h', R i pre post (Sort.siftDown Sort.ltInt hi first lo D) h' → Fr [i] h h' → (Sort.siftDown Sort.ltInt hi first lo D).size = N → Q (.tuple []) h') :
    W (C 82 [SL i pre N cap, .int .i64 lo, .int .i64 hi, .int .i64 first]) h Q := by
  apply w82
  unfold s82
  refine W_loop (fun s h' => ∃ (n : Nat) (D' : Array Int), s = [.int .i64 n] ∧ n ≤ N ∧ R i pre post D' h' ∧ Fr [i] h h' ∧ D'.size = N ∧ Sort.siftDown Sort.ltInt hi first n D' = Sort.siftDown Sort.ltInt hi first lo D)
    (fun s _ => N - i1 s) (fun r h' => (r = .out 0 [] ∨ r = .done (.tuple [])) ∧ R i pre post (Sort.siftDown Sort.ltInt hi first lo D) h' ∧ Fr [i] h h' ∧ (Sort.siftDown Sort.ltInt hi first lo D).size = N)
    ⟨lo, D, rfl, hlo, r, Fr.refl _ _, hN, rfl⟩ ?_ ?_
  · rintro s h1 ⟨n, D1, rfl, hn, r1, f1, hN1, e1⟩
    simp (disch := omega) only [↓ww]
    refine W_ite (fun hc => ?_) (fun hc => ?_)
    · simp only [↓ww]
      rw [Sort.siftDown, dif_pos (by omega)] at e1
      rw [← e1]
      exact ⟨.inl trivial, r1, f1, hN1⟩
    · rw [Sort.siftDown, dif_neg (by omega)] at e1
      -- behind the choice of the child
      refine W_jnk fun k hk => ?_
      have fin : ∀ (c : Nat) (z : Int), z = c → c < hi → n < c → (Sort.siftDown Sort.ltInt hi first lo D = if !Sort.ltInt D1[first + n]! D1[first + c]! then D1 else Sort.siftDown Sort.ltInt hi first c (Sort.swp D1 (first + n) (first + c))) →
          W (k [.int .i64 z]) h1 (LQ (fun s h' => ∃ (n : Nat) (D' : Array Int), s = [.int .i64 n] ∧ n ≤ N ∧ R i pre post D' h' ∧ Fr [i] h h' ∧ D'.size = N ∧ Sort.siftDown Sort.ltInt hi first n D' = Sort.siftDown Sort.ltInt hi first lo D)
            (fun s _ => N - i1 s) (N - i1 [.int .i64 (n : Int)]) (fun r h' => (r = .out 0 [] ∨ r = .done (.tuple [])) ∧ R i pre post (Sort.siftDown Sort.ltInt hi first lo D) h' ∧ Fr [i] h h' ∧ (Sort.siftDown Sort.ltInt hi first lo D).size = N)) := by
        intro c z hz hch hnc he
        subst hz hk
        simp (disch := omega) only [↓ww]
        refine ldz r1 (first + n) (by omega) hN1 (by omega) ?_
        refine ldz r1 (first + c) (by omega) hN1 (by omega) ?_
        apply less
        simp only [↓ww]
        refine W_if (fun hl => ?_) (fun hl => ?_)
        · simp only [↓ww]
          rw [hl, if_pos rfl] at he
          rw [he]
          exact ⟨.inr trivial, r1, f1, hN1⟩
        · simp (disch := omega) only [↓ww]
          refine ldz r1 (first + c) (by omega) hN1 (by omega) ?_
          refine ldz r1 (first + n) (by omega) hN1 (by omega) ?_
          refine swz r1 (first + n) (first + c) (by omega) (by omega) hN1 (by omega) (by omega) fun h3 r3 f3 _ => ?_
          rw [hl, if_neg (by simp)] at he
          exact ⟨⟨c, _, rfl, by omega, r3, f1.trans f3, by rw [swp_size]; exact hN1, he.symm⟩, by simp; omega⟩
      simp (disch := omega) only [↓ww]
      by_cases h2 : 2 * n + 2 < hi
      · rw [decide_eq_true (show (2 * (n : Int) + 1 + 1 < hi) by omega)]
        simp (disch := omega) only [↓ww]
        refine ldz r1 (first + (2 * n + 1)) (by omega) hN1 (by omega) ?_
        refine ldz r1 (first + (2 * n + 1) + 1) (by omega) hN1 (by omega) ?_
        apply less
        refine W_if (fun hl => ?_) (fun hl => ?_)
        · simp (disch := omega) only [↓ww]
          refine fin (2 * n + 2) _ (by omega) (by omega) (by omega) ?_
          rw [← e1, if_pos (by simp [hl]; omega)]
          split
          · rfl
          · first | rfl | rw [dif_pos (by omega)]
        · refine fin (2 * n + 1) _ (by omega) (by omega) (by omega) ?_
          rw [← e1, if_neg (by simp [hl])]
      · rw [decide_eq_false (show ¬ (2 * (n : Int) + 1 + 1 < hi) by omega)]
        simp (disch := omega) only [↓ww]
        refine fin (2 * n + 1) _ (by omega) (by omega) (by omega) ?_
        rw [← e1, if_neg (by simp; omega)]
  · rintro r2 h2 ⟨hor, e2, e3, e4⟩
    rcases hor with rfl | rfl
    · simp only [↓ww]; exact q h2 e2 e3 e4
    · simp only [↓ww]; exact q h2 e2 e3 e4

theorem siftDown_size : ∀ (m : Nat) (hi first root : Nat) (D : Array Int), hi - root ≤ m → (Sort.siftDown Sort.ltInt hi first root D).size = D.size := by
  intro m
  induction m with
  | zero =>
    intro hi first root D hm
    rw [Sort.siftDown, dif_pos (by omega)]
  | succ m ih =>
    intro hi first root D hm
    rw [Sort.siftDown]
    split
    · rfl
    · split
      · split
        · rfl
        · split
          · rw [ih _ _ _ _ (by omega), swp_size]
          · rfl
      · split
        · rfl
        · rw [ih _ _ _ _ (by omega), swp_size]

theorem heapSort (r : R i pre post D h) (hN : D.size = N) (hb : N < 140737488355328) {a b : Nat} (hab : a ≤ b) (hbN : b ≤ N)
    (q : ∀ h', R i pre post (Sort.heapSort Sort.ltInt D a b) h' → Fr [i] h h' → (Sort.heapSort Sort.ltInt D a b).size = N → Q (.tuple []) h') :
    W (C 39 [SL i pre N cap, .int .i64 a, .int .i64 b]) h Q := by
  apply w39
  unfold s39
  simp (disch := omega) only [↓ww]
  have hq : ((b : Int) - a - 1).tdiv 2 = (((b - a - 1) / 2 + 1 : Nat) : Int) - 1 := by
    rcases Nat.eq_zero_or_pos (b - a) with h0 | h0
    · rw [show (b : Int) - a - 1 = -1 by omega, h0]; decide
    · rw [show (b : Int) - a - 1 = ((b - a - 1 : Nat) : Int) by omega]
      have : (((b - a - 1 : Nat) : Int)).tdiv 2 = (((b - a - 1) / 2 : Nat) : Int) := rfl
      rw [this]; omega
  rw [binV_quo (by decide), W_lt, hq, wz (by omega) (by omega)]
  refine W_loop (fun s h' => ∃ (k : Nat) (D' : Array Int), s = [.int .i64 ((k : Int) - 1)] ∧ k ≤ (b - a - 1) / 2 + 1 ∧ R i pre post D' h' ∧ Fr [i] h h' ∧ D'.size = N ∧ Sort.heapBuild Sort.ltInt (b - a) a k D' = Sort.heapBuild Sort.ltInt (b - a) a ((b - a - 1) / 2 + 1) D)
    (fun s _ => (match s with | .int _ n :: _ => (n + 1).toNat | _ => 0)) (fun r h' => r = .out 0 [] ∧ ∃ D', D' = Sort.heapBuild Sort.ltInt (b - a) a ((b - a - 1) / 2 + 1) D ∧ R i pre post D' h' ∧ Fr [i] h h' ∧ D'.size = N)
    ⟨_, D, rfl, Nat.le_refl _, r, Fr.refl _ _, hN, rfl⟩ ?_ ?_
  · rintro s h1 ⟨k, D1, rfl, hk, r1, f1, hN1, e1⟩
    simp (disch := omega) only [↓ww]
    refine W_ite (fun hc => ?_) (fun hc => ?_)
    · obtain ⟨k', rfl⟩ : ∃ k', k = k' + 1 := ⟨k - 1, by omega⟩
      simp (disch := omega) only [↓ww]
      rw [show ((k' + 1 : Nat) : Int) - 1 = (k' : Int) by omega, show (b : Int) - a = ((b - a : Nat) : Int) by omega]
      refine siftDown r1 hN1 hb (by omega) (by omega) fun h2 r2 f2 s2 => ?_
      refine ⟨⟨k', _, rfl, by omega, r2, f1.trans f2, s2, ?_⟩, by simp⟩
      rw [← e1, Sort.heapBuild]
    · simp only [↓ww]
      obtain rfl : k = 0 := by omega
      exact ⟨trivial, D1, by rw [← e1]; rfl, r1, f1, hN1⟩
  · rintro r2 h2 ⟨rfl, D2, hD2, r2, f2, hN2⟩
    simp (disch := omega) only [↓ww]
    refine (W_lp (fun s h' => ∃ (k : Nat) (D' : Array Int), s = [.int .i64 ((k : Int) - 1)] ∧ k ≤ b - a ∧ R i pre post D' h' ∧ Fr [i] h h' ∧ D'.size = N ∧ Sort.heapPop Sort.ltInt a k D' = Sort.heapSort Sort.ltInt D a b)
      (fun s _ => (match s with | .int _ n :: _ => (n + 1).toNat | _ => 0)) (Q := fun r h' => r = .out 2 [] ∧ R i pre post (Sort.heapSort Sort.ltInt D a b) h' ∧ Fr [i] h h' ∧ (Sort.heapSort Sort.ltInt D a b).size = N) ?_
      ⟨b - a, D2, by rw [show ((b - a : Nat) : Int) = (b : Int) - a by omega], Nat.le_refl _, r2, f2, hN2, by rw [Sort.heapSort, hD2]⟩).mono ?_
    · rintro s h1 ⟨k, D1, rfl, hk, r1, f1, hN1, e1⟩
      simp (disch := omega) only [↓ww]
      refine W_ite (fun hc => ?_) (fun hc => ?_)
      · obtain ⟨k', rfl⟩ : ∃ k', k = k' + 1 := ⟨k - 1, by omega⟩
        rw [show ((k' + 1 : Nat) : Int) - 1 = (k' : Int) by omega]
        simp (disch := omega) only [↓ww]
        refine ldz r1 (a + k') (by omega) hN1 (by omega) ?_
        refine ldz r1 a (by omega) hN1 (by omega) ?_
        refine swz r1 a (a + k') (by omega) (by omega) hN1 (by omega) (by omega) fun h3 r3 f3 _ => ?_
        refine siftDown (lo := 0) r3 (by rw [swp_size]; exact hN1) hb (by omega) (by omega) fun h4 r4 f4 s4 => ?_
        refine ⟨⟨k', _, rfl, by omega, r4, (f1.trans f3).trans f4, s4, ?_⟩, by simp⟩
        rw [← e1, Sort.heapPop]
      · simp only [↓ww]
        obtain rfl : k = 0 := by omega
        rw [← e1]
        exact ⟨trivial, r1, f1, hN1⟩
    · rintro r3 h3 ⟨rfl, r4, f4, hN4⟩
      simp only [↓ww]
      exact q h3 r4 f4 hN4

theorem reverseRange (r : R i pre post D h) (hN : D.size = N) (hb : N < 140737488355328) {a b : Nat} (hab : a < b) (hbN : b ≤ N)
    (q : ∀ h', R i pre post (Sort.reverseRange D a b) h' → Fr [i] h h' → (Sort.reverseRange D a b).size = N → Q (.tuple []) h') :
    W (C 42 [SL i pre N cap, .int .i64 a, .int .i64 b]) h Q := by
  apply w42
  unfold s42
  simp (disch := omega) only [↓ww]
  refine (W_lp (fun s h' => ∃ (m n : Nat) (D' : Array Int), s = [.int .i64 m, .int .i64 n] ∧ m ≤ N ∧ n < N ∧ R i pre post D' h' ∧ Fr [i] h h' ∧ D'.size = N ∧ Sort.reverseLoop m n D' = Sort.reverseRange D a b)
    (fun s _ => i2 s - i1 s) (Q := fun r h' => r = .out 0 [] ∧ R i pre post (Sort.reverseRange D a b) h' ∧ Fr [i] h h' ∧ (Sort.reverseRange D a b).size = N) ?_
    ⟨a, b - 1, D, by rw [show ((b - 1 : Nat) : Int) = (b : Int) - 1 by omega], by omega, by omega, r, Fr.refl _ _, hN, rfl⟩).mono ?_
  · rintro s h1 ⟨m, n, D1, rfl, hm, hn, r1, f1, hN1, e1⟩
    simp (disch := omega) only [↓ww]
    rw [Sort.reverseLoop] at e1
    refine W_ite (fun hc => ?_) (fun hc => ?_)
    · rw [if_pos (by omega)] at e1
      simp (disch := omega) only [↓ww]
      refine ldz r1 n (by omega) hN1 (by omega) ?_
      refine ldz r1 m (by omega) hN1 (by omega) ?_
      refine swz r1 m n (by omega) (by omega) hN1 (by omega) (by omega) fun h3 r3 f3 _ => ?_
      exact ⟨⟨m + 1, n - 1, _, by rw [show ((n - 1 : Nat) : Int) = (n : Int) - 1 by omega]; rfl, by omega, by omega, r3, f1.trans f3, by rw [swp_size]; exact hN1, e1⟩, by simp; omega⟩
    · rw [if_neg (by omega)] at e1
      simp only [↓ww]
      rw [← e1]
      exact ⟨trivial, r1, f1, hN1⟩
  · rintro r3 h3 ⟨rfl, r4, f4, hN4⟩
    simp only [↓ww]
    exact q h3 r4 f4 hN4

end SortU
end Go.Proofs.YtlpbgmbiollimaaGreat.Low

namespace Go.Proofs.YtlpbgmbiollimaaGreat.Low
open Go Go.Am _root_.Go.Proofs.Tryz
namespace SortU

variable {h : AH} {Q : AV → AH → Prop} {i cap N : Nat} {pre post : List AV} {D : Array Int}

/-- The count of swaps, in an object of its own. -/
def Cnt (p s : Nat) (h : AH) : Prop := h.get p = some (.cells [.int .i64 (s : Int)] 3 false)

theorem R.ne (r : R i pre post D h) {p s : Nat} (c : Cnt p s h) : i ≠ p := by
  intro e; subst e
  have := r.get
  rw [c] at this
  simp [E] at this

theorem order2 (r : R i pre post D h) (hN : D.size = N) (hb : N < 140737488355328) {a b : Nat} (ha : a < N) (hbb : b < N) {p s : Nat} (hp : Cnt p s h) (hs : s < 100000)
    (q : ∀ h', R i pre post D h' → Cnt p (Sort.order2 Sort.ltInt D a b s).2.2 h' → Fr [p] h h' → Q (.tuple [.int .i64 (Sort.order2 Sort.ltInt D a b s).1, .int .i64 (Sort.order2 Sort.ltInt D a b s).2.1]) h') :
    W (C 138 [SL i pre N cap, .int .i64 a, .int .i64 b, .ptr (some (p, 0))]) h Q := by
  apply w138
  unfold s138
  simp (disch := omega) only [↓ww]
  refine ldz r b rfl hN hbb ?_
  refine ldz r a rfl hN ha ?_
  apply less
  have hne := R.ne r hp
  refine W_if (fun hl => ?_) (fun hl => ?_)
  · simp only [↓ww]
    rw [W_ld_eq, hp]
    simp only [ldQ_cells, List.getElem?_cons_zero, cellQ_some]
    simp (disch := omega) only [↓ww]
    rw [W_st_eq, hp]
    simp only [stQ_cells, cells_int, List.length_cons, List.length_nil, ones_cons, ones_nil, one_int, putCells_one, List.set_cons_zero]
    have e : Sort.order2 Sort.ltInt D a b s = (b, a, s + 1) := by rw [Sort.order2, if_pos hl]
    rw [e] at q
    refine ⟨trivial, by simp, rfl, q _ ⟨?_, r.wf.set (r.wf.lt hp)⟩ ?_ ((Fr.refl _ _).set _ (fun _ => by simp))⟩
    · rw [get_set_ne (fun e => hne e.symm)]; exact r.get
    · simp [Cnt]
  · simp only [↓ww]
    have e : Sort.order2 Sort.ltInt D a b s = (a, b, s) := by rw [Sort.order2, if_neg (by simp [hl])]
    rw [e] at q
    exact q h r hp (Fr.refl _ _)

theorem order2_lt {lt : Int → Int → Bool} {a b s m : Nat} (ha : a < m) (hb : b < m) : (Sort.order2 lt D a b s).1 < m ∧ (Sort.order2 lt D a b s).2.1 < m ∧ (Sort.order2 lt D a b s).2.2 ≤ s + 1 := by
  rw [Sort.order2]; split <;> simp <;> omega

theorem median (r : R i pre post D h) (hN : D.size = N) (hb : N < 140737488355328) {a b c : Nat} (ha : a < N) (hbb : b < N) (hc : c < N) {p s : Nat} (hp : Cnt p s h) (hs : s < 90000)
    (q : ∀ h', R i pre post D h' → Cnt p (Sort.median Sort.ltInt D a b c s).2 h' → Fr [p] h h' → Q (.int .i64 (Sort.median Sort.ltInt D a b c s).1) h') :
    W (C 86 [SL i pre N cap, .int .i64 a, .int .i64 b, .int .i64 c, .ptr (some (p, 0))]) h Q := by
  apply w86
  unfold s86
  simp only [↓ww]
  obtain ⟨l1, l2, l3⟩ := order2_lt (D := D) (lt := Sort.ltInt) (s := s) ha hbb
  refine order2 r hN hb ha hbb hp (by omega) fun h1 r1 c1 f1 => ?_
  simp only [↓ww]
  obtain ⟨m1, m2, m3⟩ := order2_lt (D := D) (lt := Sort.ltInt) (s := (Sort.order2 Sort.ltInt D a b s).2.2) l2 hc
  refine order2 r1 hN hb l2 hc c1 (by omega) fun h2 r2 c2 f2 => ?_
  simp only [↓ww]
  refine order2 r2 hN hb l1 m1 c2 (by omega) fun h3 r3 c3 f3 => ?_
  simp only [↓ww]
  exact q h3 r3 c3 ((f1.trans f2).trans f3)

theorem median_lt {lt : Int → Int → Bool} {a b c s m : Nat} (ha : a < m) (hb : b < m) (hc : c < m) : (Sort.median lt D a b c s).1 < m ∧ (Sort.median lt D a b c s).2 ≤ s + 3 := by
  obtain ⟨l1, l2, l3⟩ := order2_lt (D := D) (lt := lt) (s := s) ha hb
  obtain ⟨m1, m2, m3⟩ := order2_lt (D := D) (lt := lt) (s := (Sort.order2 lt D a b s).2.2) l2 hc
  obtain ⟨n1, n2, n3⟩ := order2_lt (D := D) (lt := lt) (s := (Sort.order2 lt D (Sort.order2 lt D a b s).2.1 c (Sort.order2 lt D a b s).2.2).2.2) l1 m1
  exact ⟨n2, by simp only [Sort.median]; omega⟩

theorem medianAdjacent (r : R i pre post D h) (hN : D.size = N) (hb : N < 140737488355328) {a : Nat} (ha0 : 0 < a) (ha : a + 1 < N) {p s : Nat} (hp : Cnt p s h) (hs : s < 90000)
    (q : ∀ h', R i pre post D h' → Cnt p (Sort.medianAdjacent Sort.ltInt D a s).2 h' → Fr [p] h h' → Q (.int .i64 (Sort.medianAdjacent Sort.ltInt D a s).1) h') :
    W (C 85 [SL i pre N cap, .int .i64 a, .ptr (some (p, 0))]) h Q := by
  apply w85
  unfold s85
  simp (disch := omega) only [↓ww]
  rw [show (a : Int) - 1 = ((a - 1 : Nat) : Int) by omega, show (a : Int) + 1 = ((a + 1 : Nat) : Int) by omega]
  exact median r hN hb (by omega) (by omega) ha hp hs q

theorem tdiv4 (n : Nat) : ((n : Nat) : Int).tdiv 4 = ((n / 4 : Nat) : Int) := rfl

def hintI : Sort.Hint → Int
  | .unknown => 0
  | .increasing => 1
  | .decreasing => 2

theorem choosePivot (r : R i pre post D h) (hN : D.size = N) (hb : N < 140737488355328) {a b : Nat} (hab : a < b) (hbN : b ≤ N)
    (q : ∀ h', R i pre post D h' → Fr [] h h' → Q (.tuple [.int .i64 (Sort.choosePivot Sort.ltInt D a b).1, .int .i64 (hintI (Sort.choosePivot Sort.ltInt D a b).2)]) h') :
    W (C 41 [SL i pre N cap, .int .i64 a, .int .i64 b]) h Q := by
  apply w41
  unfold s41
  simp (disch := omega) only [↓ww]
  rw [show (b : Int) - a = ((b - a : Nat) : Int) by omega, binV_quo (by decide), tdiv4, wr_i64 (by omega) (by omega)]
  simp (disch := omega) only [↓ww]
  have r0 : R i pre post D (h.add (.cells [.int .i64 0] 3 false)) := r.frame ((Fr.refl [] h).add _) (by simp) (r.wf.add _)
  have c0 : Cnt h.next 0 (h.add (.cells [.int .i64 0] 3 false)) := get_add_eq
  have f0 : Fr [] h (h.add (.cells [.int .i64 0] 3 false)) := (Fr.refl [] h).add _
  have hnn : ∀ {h1 : AH}, Fr [h.next] (h.add (.cells [.int .i64 0] 3 false)) h1 → Fr [] h h1 := fun f => f0.step f (by intro j hj hl; simp at hj; omega)
  refine W_jnk fun k hk => ?_
  generalize hl : b - a = l at *
  obtain ⟨X, hX⟩ : ∃ X, X = Sort.choosePivot Sort.ltInt D a b := ⟨_, rfl⟩
  rw [← hX] at q
  rw [Sort.choosePivot] at hX
  simp only [hl] at hX
  have fin : ∀ (m s : Nat) (h1 : AH), R i pre post D h1 → Cnt h.next s h1 → Fr [] h h1 → X = (m, if s = 0 then .increasing else if s = 12 then .decreasing else .unknown) → W (k [.int .i64 m]) h1 Q := by
    intro m s h1 r1 c1 f1 he
    subst hk
    simp only [↓ww]
    rw [W_ld_eq, c1]
    simp only [ldQ_cells, List.getElem?_cons_zero, cellQ_some]
    rw [he] at q
    simp only [↓ww]
    refine W_ite (fun h0 => ?_) (fun h0 => ?_)
    · rw [if_pos (by omega)] at q; simp only [↓ww]; exact q h1 r1 f1
    · rw [if_neg (by omega)] at q
      simp only [↓ww]
      refine W_ite (fun h0 => ?_) (fun h0 => ?_)
      · rw [if_pos (by omega)] at q; simp only [↓ww]; exact q h1 r1 f1
      · rw [if_neg (by omega)] at q; simp only [↓ww]; exact q h1 r1 f1
  simp (disch := omega) only [↓ww]
  refine W_ite (fun h8 => ?_) (fun h8 => ?_)
  · refine W_jnk fun k2 hk2 => ?_
    have fin2 : ∀ (x y z s : Nat) (h1 : AH), x < N → y < N → z < N → s < 80000 → R i pre post D h1 → Cnt h.next s h1 → Fr [] h h1 → X = ((Sort.median Sort.ltInt D x y z s).1, if (Sort.median Sort.ltInt D x y z s).2 = 0 then .increasing else if (Sort.median Sort.ltInt D x y z s).2 = 12 then .decreasing else .unknown) →
        W (k2 [.int .i64 x, .int .i64 y, .int .i64 z]) h1 Q := by
      intro x y z s h1 hx hy hz hs r1 c1 f1 he
      subst hk2
      simp only [↓ww]
      refine median r1 hN hb hx hy hz c1 (by omega) fun h2 r2 c2 f2 => ?_
      exact fin _ _ h2 r2 c2 (f1.step f2 (by intro j hj hl; simp at hj; omega)) he
    have e0 := hX
    rw [if_pos (show l ≥ 8 by omega)] at e0
    simp (disch := omega) only [↓ww]
    rw [show (a : Int) + ((l / 4 : Nat) : Int) * 1 = ((a + l / 4 * 1 : Nat) : Int) by omega, show (a : Int) + ((l / 4 : Nat) : Int) * 2 = ((a + l / 4 * 2 : Nat) : Int) by omega, show (a : Int) + ((l / 4 : Nat) : Int) * 3 = ((a + l / 4 * 3 : Nat) : Int) by omega]
    refine W_ite (fun h50 => ?_) (fun h50 => ?_)
    · rw [if_pos (show l ≥ 50 by omega)] at e0
      simp only [↓ww]
      have b1 := median_lt (D := D) (lt := Sort.ltInt) (a := a + l / 4 * 1 - 1) (b := a + l / 4 * 1) (c := a + l / 4 * 1 + 1) (s := 0) (m := N) (by omega) (by omega) (by omega)
      refine medianAdjacent r0 hN hb (by omega) (by omega) c0 (by omega) fun h1 r1 c1 f1 => ?_
      have b2 := median_lt (D := D) (lt := Sort.ltInt) (a := a + l / 4 * 2 - 1) (b := a + l / 4 * 2) (c := a + l / 4 * 2 + 1) (s := (Sort.medianAdjacent Sort.ltInt D (a + l / 4 * 1) 0).2) (m := N) (by omega) (by omega) (by omega)
      have b1' : (Sort.medianAdjacent Sort.ltInt D (a + l / 4 * 1) 0).2 ≤ 3 := b1.2
      refine medianAdjacent r1 hN hb (by omega) (by omega) c1 (by omega) fun h2 r2 c2 f2 => ?_
      have b2' : (Sort.medianAdjacent Sort.ltInt D (a + l / 4 * 2) (Sort.medianAdjacent Sort.ltInt D (a + l / 4 * 1) 0).2).2 ≤ 6 := by have := b2.2; simp only [Sort.medianAdjacent] at *; omega
      have b3 := median_lt (D := D) (lt := Sort.ltInt) (a := a + l / 4 * 3 - 1) (b := a + l / 4 * 3) (c := a + l / 4 * 3 + 1) (s := (Sort.medianAdjacent Sort.ltInt D (a + l / 4 * 2) (Sort.medianAdjacent Sort.ltInt D (a + l / 4 * 1) 0).2).2) (m := N) (by omega) (by omega) (by omega)
      refine medianAdjacent r2 hN hb (by omega) (by omega) c2 (by omega) fun h3 r3 c3 f3 => ?_
      refine fin2 _ _ _ _ h3 b1.1 b2.1 b3.1 (by have := b3.2; simp only [Sort.medianAdjacent] at *; omega) r3 c3 (hnn ((f1.trans f2).trans f3)) e0
    · rw [if_neg (show ¬ l ≥ 50 by omega)] at e0
      refine fin2 _ _ _ _ _ (by omega) (by omega) (by omega) (by omega) r0 c0 f0 e0
  · have e0 := hX
    rw [if_neg (show ¬ l ≥ 8 by omega)] at e0
    rw [show (a : Int) + ((l / 4 : Nat) : Int) * 2 = ((a + l / 4 * 2 : Nat) : Int) by omega]
    exact fin _ 0 _ r0 c0 f0 e0

end SortU
end Go.Proofs.YtlpbgmbiollimaaGreat.Low
