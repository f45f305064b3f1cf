/-
  The library's sort at whole numbers of 32 bits sorts.
  Conditions: the slice is shorter than its bound.
-/
import Derived.Test.YtlpbgmbiollimaaGreatBa
import Derived.Test.YtlpbgmbiollimaaGreatAh
set_option linter.unusedVariables false
set_option linter.unusedSimpArgs false
namespace Go.Proofs.YtlpbgmbiollimaaGreat.Low
open Go Go.Am _root_.Go.Proofs.Tryz
namespace SortU

variable {h : AH} {i cap N : Nat} {pre post : List AV} {D : Array Int}

/-- 'for i <= j && less(data[i], data[a]) { i++ }'. -/
theorem scanA {Q : Go1 → AH → Prop} (e : Nat) (r : R i pre post D h) (hN : D.size = N) (hb : N < 140737488355328) {a j m : Nat} (ha : a < N) (hj : j < N) (hm : m ≤ N)
    (q : Q (.out e [.int .i64 (Sort.scanUp (fun x => Sort.ltInt x D[a]!) D j m : Nat)]) h) :
    W (lp (fun u_2 => un u_2 fun t10 u_3 => lt (binV .leq t10 (.int .i64 j)) fun t32 =>
      lt (gv t32 true (some (SL i pre N cap))) fun t34 =>
      lt (gv t32 true (some t10)) fun t35 =>
      lt (gv t32 true (ixS 1 t34 t35)) fun t36 =>
      bq (gm t32 true (ld t36)) fun t37 =>
      lt (gv t32 true (some (SL i pre N cap))) fun t38 =>
      lt (gv t32 true (some (.int .i64 a))) fun t39 =>
      lt (gv t32 true (ixS 1 t38 t39)) fun t40 =>
      bq (gm t32 true (ld t40)) fun t41 =>
      bd (gm t32 true (C 44 [t37, t41])) fun t42 =>
      lt (pickV t32 t42 (.bool false)) fun t43 =>
      cn t43 (lt (binV .add t10 (.int .i64 1)) fun t45 =>
      rt (.again [t45])) (
      rt (.out e [t10]))) [.int .i64 m]) h Q := by
  refine W_lp (fun s h' => h' = h ∧ ∃ n : Nat, s = [.int .i64 n] ∧ n ≤ N ∧ Sort.scanUp (fun x => Sort.ltInt x D[a]!) D j n = Sort.scanUp (fun x => Sort.ltInt x D[a]!) D j m) (fun s _ => N - i1 s) ?_ ⟨rfl, m, rfl, hm, rfl⟩
  rintro s h1 ⟨rfl, n, rfl, hn, e1⟩
  simp (disch := omega) only [↓ww]
  by_cases hc : n ≤ j
  · rw [decide_eq_true (show ((n : Int) ≤ j) by omega)]
    simp (disch := omega) only [↓ww]
    refine ldz r n rfl hN (by omega) ?_
    refine ldz r a rfl hN (by omega) ?_
    apply less
    try simp (disch := omega) only [↓ww]
    rw [Sort.scanUp] at e1
    refine W_if (fun hl => ?_) (fun hl => ?_)
    · rw [if_pos (by simp [hc, hl])] at e1
      simp (disch := omega) only [↓ww]
      exact ⟨⟨by trivial, n + 1, rfl, by omega, e1⟩, by simp; omega⟩
    · rw [if_neg (by simp [hl])] at e1
      simp (disch := omega) only [↓ww]
      rw [e1]; exact q
  · rw [decide_eq_false (show ¬((n : Int) ≤ j) by omega)]
    simp (disch := omega) only [↓ww]
    rw [Sort.scanUp, if_neg (by simp; intro; omega)] at e1
    rw [e1]; exact q

theorem scanUp_ge {p : Int → Bool} {j : Nat} : ∀ (k n : Nat), j + 1 - n ≤ k → n ≤ Sort.scanUp p D j n
  | 0, n, h => by rw [Sort.scanUp, if_neg (by simp; intro; omega)]; exact Nat.le_refl _
  | k + 1, n, h => by
    rw [Sort.scanUp]
    split
    · exact Nat.le_trans (Nat.le_succ n) (scanUp_ge k (n + 1) (by omega))
    · exact Nat.le_refl _
theorem scanUp_le {p : Int → Bool} {j : Nat} : ∀ (k n : Nat), j + 1 - n ≤ k → n ≤ j + 1 → Sort.scanUp p D j n ≤ j + 1
  | 0, n, h, hn => by rw [Sort.scanUp, if_neg (by simp; intro; omega)]; exact hn
  | k + 1, n, h, hn => by
    rw [Sort.scanUp]
    split
    · rename_i hc
      simp at hc
      exact scanUp_le k (n + 1) (by omega) (by omega)
    · exact hn
theorem scanDown_le {p : Int → Bool} {m : Nat} : ∀ (j : Nat), Sort.scanDown p D m j ≤ j
  | 0 => Nat.le_refl _
  | j + 1 => by
    rw [Sort.scanDown]
    split
    · exact Nat.le_trans (scanDown_le j) (Nat.le_succ j)
    · exact Nat.le_refl _
theorem scanDown_ge {p : Int → Bool} {m : Nat} : ∀ (j : Nat), m ≤ j + 1 → m ≤ Sort.scanDown p D m j + 1
  | 0, h => h
  | j + 1, h => by
    rw [Sort.scanDown]
    split
    · rename_i hc
      simp at hc
      exact scanDown_ge j (by omega)
    · exact h

/-- 'for i <= j && !less(data[j], data[a]) { j-- }'. -/
theorem scanB {Q : Go1 → AH → Prop} (e : Nat) (r : R i pre post D h) (hN : D.size = N) (hb : N < 140737488355328) {a j m : Nat} (ha : a < N) (hj : j < N) (hm : 0 < m)
    (q : Q (.out e [.int .i64 (Sort.scanDown (fun x => !Sort.ltInt x D[a]!) D m j : Nat)]) h) :
    W (lp (fun u_8 => un u_8 fun t11 u_9 => lt (binV .leq (.int .i64 m) t11) fun t48 =>
      lt (gv t48 true (some (SL i pre N cap))) fun t50 =>
      lt (gv t48 true (some t11)) fun t51 =>
      lt (gv t48 true (ixS 1 t50 t51)) fun t52 =>
      bq (gm t48 true (ld t52)) fun t53 =>
      lt (gv t48 true (some (SL i pre N cap))) fun t54 =>
      lt (gv t48 true (some (.int .i64 a))) fun t55 =>
      lt (gv t48 true (ixS 1 t54 t55)) fun t56 =>
      bq (gm t48 true (ld t56)) fun t57 =>
      bd (gm t48 true (C 44 [t53, t57])) fun t58 =>
      lt (gv t48 true (unA .not t58)) fun t59 =>
      lt (pickV t48 t59 (.bool false)) fun t60 =>
      cn t60 (lt (binV .sub t11 (.int .i64 1)) fun t62 =>
      rt (.again [t62])) (
      rt (.out e [t11]))) [.int .i64 j]) h Q := by
  refine W_lp (fun s h' => h' = h ∧ ∃ n : Nat, s = [.int .i64 n] ∧ n < N ∧ Sort.scanDown (fun x => !Sort.ltInt x D[a]!) D m n = Sort.scanDown (fun x => !Sort.ltInt x D[a]!) D m j) (fun s _ => i1 s) ?_ ⟨rfl, j, rfl, hj, rfl⟩
  rintro s h1 ⟨rfl, n, rfl, hn, e1⟩
  simp (disch := omega) only [↓ww]
  by_cases hc : m ≤ n
  · rw [decide_eq_true (show ((m : Int) ≤ n) by omega)]
    simp (disch := omega) only [↓ww]
    refine ldz r n rfl hN (by omega) ?_
    refine ldz r a rfl hN (by omega) ?_
    apply less
    try simp (disch := omega) only [↓ww]
    obtain ⟨n', rfl⟩ : ∃ n', n = n' + 1 := ⟨n - 1, by omega⟩
    rw [Sort.scanDown] at e1
    refine W_if (fun hl => ?_) (fun hl => ?_)
    · rw [if_pos (by simp at hl; simp [hc, hl])] at e1
      simp (disch := omega) only [↓ww]
      exact ⟨⟨by trivial, n', by simp, by omega, e1⟩, by simp⟩
    · rw [if_neg (by simp at hl; simp [hl])] at e1
      simp (disch := omega) only [↓ww]
      rw [e1]; exact q
  · rw [decide_eq_false (show ¬((m : Int) ≤ n) by omega)]
    simp (disch := omega) only [↓ww]
    have : Sort.scanDown (fun x => !Sort.ltInt x D[a]!) D m n = n := by
      cases n with
      | zero => rfl
      | succ n => rw [Sort.scanDown, if_neg (by simp; intro; omega)]
    rw [this] at e1
    rw [e1]; exact q

/-- 'for i <= j && !less(data[a], data[i]) { i++ }'. -/
theorem scanC {Q : Go1 → AH → Prop} (e : Nat) (r : R i pre post D h) (hN : D.size = N) (hb : N < 140737488355328) {a j m : Nat} (ha : a < N) (hj : j < N) (hm : m ≤ N)
    (q : Q (.out e [.int .i64 (Sort.scanUp (fun x => !Sort.ltInt D[a]! x) D j m : Nat)]) h) :
    W (lp (fun u_5 => un u_5 fun t9_6 u_7 => lt (binV .leq t9_6 (.int .i64 j)) fun t31 =>
      lt (gv t31 true (some (SL i pre N cap))) fun t33 =>
      lt (gv t31 true (some (.int .i64 a))) fun t34 =>
      lt (gv t31 true (ixS 1 t33 t34)) fun t35 =>
      bq (gm t31 true (ld t35)) fun t36 =>
      lt (gv t31 true (some (SL i pre N cap))) fun t37 =>
      lt (gv t31 true (some t9_6)) fun t38 =>
      lt (gv t31 true (ixS 1 t37 t38)) fun t39 =>
      bq (gm t31 true (ld t39)) fun t40 =>
      bd (gm t31 true (C 44 [t36, t40])) fun t41 =>
      lt (gv t31 true (unA .not t41)) fun t42 =>
      lt (pickV t31 t42 (.bool false)) fun t43 =>
      cn t43 (lt (binV .add t9_6 (.int .i64 1)) fun t45 =>
      rt (.again [t45])) (
      rt (.out e [t9_6]))) [.int .i64 m]) h Q := by
  refine W_lp (fun s h' => h' = h ∧ ∃ n : Nat, s = [.int .i64 n] ∧ n ≤ N ∧ Sort.scanUp (fun x => !Sort.ltInt D[a]! x) D j n = Sort.scanUp (fun x => !Sort.ltInt D[a]! x) D j m) (fun s _ => N - i1 s) ?_ ⟨rfl, m, rfl, hm, rfl⟩
  rintro s h1 ⟨rfl, n, rfl, hn, e1⟩
  simp (disch := omega) only [↓ww]
  by_cases hc : n ≤ j
  · rw [decide_eq_true (show ((n : Int) ≤ j) by omega)]
    simp (disch := omega) only [↓ww]
    refine ldz r a rfl hN (by omega) ?_
    refine ldz r n rfl hN (by omega) ?_
    apply less
    try simp (disch := omega) only [↓ww]
    rw [Sort.scanUp] at e1
    refine W_if (fun hl => ?_) (fun hl => ?_)
    · rw [if_pos (by simp at hl; simp [hc, hl])] at e1
      simp (disch := omega) only [↓ww]
      exact ⟨⟨by trivial, n + 1, rfl, by omega, e1⟩, by simp; omega⟩
    · rw [if_neg (by simp at hl; simp [hl])] at e1
      simp (disch := omega) only [↓ww]
      rw [e1]; exact q
  · rw [decide_eq_false (show ¬((n : Int) ≤ j) by omega)]
    simp (disch := omega) only [↓ww]
    rw [Sort.scanUp, if_neg (by simp; intro; omega)] at e1
    rw [e1]; exact q

/-- 'for i <= j && less(data[a], data[j]) { j-- }'. -/
theorem scanD {Q : Go1 → AH → Prop} (e : Nat) (r : R i pre post D h) (hN : D.size = N) (hb : N < 140737488355328) {a j m : Nat} (ha : a < N) (hj : j < N) (hm : 0 < m)
    (q : Q (.out e [.int .i64 (Sort.scanDown (fun x => Sort.ltInt D[a]! x) D m j : Nat)]) h) :
    W (lp (fun u_12 => un u_12 fun t10_13 u_14 => lt (binV .leq (.int .i64 m) t10_13) fun t48 =>
      lt (gv t48 true (some (SL i pre N cap))) fun t50 =>
      lt (gv t48 true (some (.int .i64 a))) fun t51 =>
      lt (gv t48 true (ixS 1 t50 t51)) fun t52 =>
      bq (gm t48 true (ld t52)) fun t53 =>
      lt (gv t48 true (some (SL i pre N cap))) fun t54 =>
      lt (gv t48 true (some t10_13)) fun t55 =>
      lt (gv t48 true (ixS 1 t54 t55)) fun t56 =>
      bq (gm t48 true (ld t56)) fun t57 =>
      bd (gm t48 true (C 44 [t53, t57])) fun t58 =>
      lt (pickV t48 t58 (.bool false)) fun t59 =>
      cn t59 (lt (binV .sub t10_13 (.int .i64 1)) fun t61 =>
      rt (.again [t61])) (
      rt (.out e [t10_13]))) [.int .i64 j]) h Q := by
  refine W_lp (fun s h' => h' = h ∧ ∃ n : Nat, s = [.int .i64 n] ∧ n < N ∧ Sort.scanDown (fun x => Sort.ltInt D[a]! x) D m n = Sort.scanDown (fun x => Sort.ltInt D[a]! x) D m j) (fun s _ => i1 s) ?_ ⟨rfl, j, rfl, hj, rfl⟩
  rintro s h1 ⟨rfl, n, rfl, hn, e1⟩
  simp (disch := omega) only [↓ww]
  by_cases hc : m ≤ n
  · rw [decide_eq_true (show ((m : Int) ≤ n) by omega)]
    simp (disch := omega) only [↓ww]
    refine ldz r a rfl hN (by omega) ?_
    refine ldz r n rfl hN (by omega) ?_
    apply less
    try simp (disch := omega) only [↓ww]
    obtain ⟨n', rfl⟩ : ∃ n', n = n' + 1 := ⟨n - 1, by omega⟩
    rw [Sort.scanDown] at e1
    refine W_if (fun hl => ?_) (fun hl => ?_)
    · rw [if_pos (by simp [hc, hl])] at e1
      simp (disch := omega) only [↓ww]
      exact ⟨⟨by trivial, n', by simp, by omega, e1⟩, by simp⟩
    · rw [if_neg (by simp [hl])] at e1
      simp (disch := omega) only [↓ww]
      rw [e1]; exact q
  · rw [decide_eq_false (show ¬((m : Int) ≤ n) by omega)]
    simp (disch := omega) only [↓ww]
    have : Sort.scanDown (fun x => Sort.ltInt D[a]! x) D m n = n := by
      cases n with
      | zero => rfl
      | succ n => rw [Sort.scanDown, if_neg (by simp; intro; omega)]
    rw [this] at e1
    rw [e1]; exact q

variable {Q : AV → AH → Prop}

theorem partitionEqual (r : R i pre post D h) (hN : D.size = N) (hb : N < 140737488355328) {a b pivot : Nat} (hap : a ≤ pivot) (hpb : pivot < b) (hbN : b ≤ N)
    (q : ∀ h', R i pre post (Sort.partitionEqual Sort.ltInt D a b pivot).2 h' → Fr [i] h h' → (Sort.partitionEqual Sort.ltInt D a b pivot).2.size = N →
      Q (.int .i64 (Sort.partitionEqual Sort.ltInt D a b pivot).1) h') :
    W (C 45 [SL i pre N cap, .int .i64 a, .int .i64 b, .int .i64 pivot]) h Q := by
  apply w45
  unfold s45
  simp (disch := omega) only [↓ww]
  refine ldz r pivot rfl hN (by omega) ?_
  refine ldz r a rfl hN (by omega) ?_
  refine swz r a pivot rfl rfl hN (by omega) (by omega) fun h0 r0 f0 _ => ?_
  rw [show (a : Int) + 1 = ((a + 1 : Nat) : Int) by omega, show (b : Int) - 1 = ((b - 1 : Nat) : Int) by omega]
  have hN0 : (Sort.swp D a pivot).size = N := by rw [swp_size]; exact hN
  generalize hD0 : Sort.swp D a pivot = D0 at *
  rw [show Sort.partitionEqual Sort.ltInt D a b pivot = Sort.partEqLoop Sort.ltInt a (a + 1) (b - 1) D0 by rw [Sort.partitionEqual, hD0]] at q
  refine (W_lp (fun s h' => ∃ (m n : Nat) (D' : Array Int), s = [.int .i64 m, .int .i64 n] ∧ a + 1 ≤ m ∧ m ≤ N ∧ a ≤ n ∧ n < N ∧ m ≤ n + 2 ∧ R i pre post D' h' ∧ Fr [i] h h' ∧ D'.size = N ∧ Sort.partEqLoop Sort.ltInt a m n D' = Sort.partEqLoop Sort.ltInt a (a + 1) (b - 1) D0)
    (fun s _ => i2 s + 2 - i1 s) (Q := fun r h' => r = .out 0 [.int .i64 (Sort.partEqLoop Sort.ltInt a (a + 1) (b - 1) D0).1] ∧ R i pre post (Sort.partEqLoop Sort.ltInt a (a + 1) (b - 1) D0).2 h' ∧ Fr [i] h h' ∧ (Sort.partEqLoop Sort.ltInt a (a + 1) (b - 1) D0).2.size = N) ?_
    ⟨a + 1, b - 1, D0, rfl, by omega, by omega, by omega, by omega, by omega, r0, f0, hN0, rfl⟩).mono ?_
  · rintro s h1 ⟨m, n, D1, rfl, hm, hmN, hn, hnN, hmn, r1, f1, hN1, e1⟩
    simp only [↓ww]
    refine scanC 2 r1 hN1 hb (by omega) hnN (by omega) ?_
    simp only [↓ww]
    have hu1 := scanUp_ge (D := D1) (p := fun x => !Sort.ltInt D1[a]! x) (j := n) _ m (Nat.le_refl _)
    have hu2 : Sort.scanUp (fun x => !Sort.ltInt D1[a]! x) D1 n m ≤ n + 2 := by
      by_cases hh : m ≤ n + 1
      · have := scanUp_le (D := D1) (p := fun x => !Sort.ltInt D1[a]! x) (j := n) _ m (Nat.le_refl _) hh; omega
      · rw [Sort.scanUp, if_neg (by simp; intro; omega)]; omega
    generalize hu : Sort.scanUp (fun x => !Sort.ltInt D1[a]! x) D1 n m = u at *
    refine scanD 4 r1 hN1 hb (by omega) hnN (by omega) ?_
    simp only [↓ww]
    have hd1 := scanDown_le (D := D1) (p := fun x => Sort.ltInt D1[a]! x) (m := u) n
    have hd2 : u ≤ Sort.scanDown (fun x => Sort.ltInt D1[a]! x) D1 u n + 2 := by
      by_cases hh : u ≤ n + 1
      · have := scanDown_ge (D := D1) (p := fun x => Sort.ltInt D1[a]! x) (m := u) n hh; omega
      · cases n with
        | zero => rw [Sort.scanDown]; omega
        | succ n => rw [Sort.scanDown, if_neg (by simp; intro; omega)]; omega
    rw [Sort.partEqLoop, hu] at e1
    try simp only [] at e1
    generalize hd : Sort.scanDown (fun x => Sort.ltInt D1[a]! x) D1 u n = d at *
    refine W_ite (fun hc => ?_) (fun hc => ?_)
    · rw [if_pos (by omega)] at e1
      simp only [↓ww]
      rw [← e1]
      exact ⟨(by first | trivial | rfl), r1, f1, hN1⟩
    · rw [if_neg (by omega), dif_pos (by omega)] at e1
      simp (disch := omega) only [↓ww]
      refine ldz r1 d rfl hN1 (by omega) ?_
      refine ldz r1 u rfl hN1 (by omega) ?_
      refine swz r1 u d rfl rfl hN1 (by omega) (by omega) fun h2 r2 f2 _ => ?_
      exact ⟨⟨u + 1, d - 1, _, by rw [show ((d - 1 : Nat) : Int) = (d : Int) - 1 by omega]; rfl, by omega, by omega, by omega, by omega, by omega, r2, f1.trans f2, by rw [swp_size]; exact hN1, e1⟩, by simp; omega⟩
  · rintro r2 h2 ⟨rfl, e2, e3, e4⟩
    simp only [↓ww]
    exact q h2 e2 e3 e4

end SortU
end Go.Proofs.YtlpbgmbiollimaaGreat.Low

namespace Go.Proofs.YtlpbgmbiollimaaGreat.Low
open Go Go.Am _root_.Go.Proofs.Tryz
namespace SortU

variable {h : AH} {i cap N : Nat} {pre post : List AV} {D : Array Int} {Q : AV → AH → Prop}

/-- The scans from m and n, both ways: where they stop. -/
theorem scans {p p' : Int → Bool} {m n : Nat} (hm : 0 < m) (hmn : m ≤ n + 2) : m ≤ Sort.scanUp p D n m ∧ Sort.scanUp p D n m ≤ n + 2 ∧ Sort.scanDown p' D (Sort.scanUp p D n m) n ≤ n ∧
    Sort.scanUp p D n m ≤ Sort.scanDown p' D (Sort.scanUp p D n m) n + 2 := by
  have hu1 := scanUp_ge (D := D) (p := p) (j := n) _ m (Nat.le_refl _)
  have hu2 : Sort.scanUp p D n m ≤ n + 2 := by
    by_cases hh : m ≤ n + 1
    · have := scanUp_le (D := D) (p := p) (j := n) _ m (Nat.le_refl _) hh; omega
    · rw [Sort.scanUp, if_neg (by simp; intro; omega)]; omega
  refine ⟨hu1, hu2, scanDown_le n, ?_⟩
  by_cases hh : Sort.scanUp p D n m ≤ n + 1
  · have := scanDown_ge (D := D) (p := p') (m := Sort.scanUp p D n m) n hh; omega
  · cases n with
    | zero => rw [Sort.scanDown]; omega
    | succ n => rw [Sort.scanDown, if_neg (by simp; intro; omega)]; omega

theorem partition (r : R i pre post D h) (hN : D.size = N) (hb : N < 140737488355328) {a b pivot : Nat} (hap : a ≤ pivot) (hpb : pivot < b) (hbN : b ≤ N)
    (q : ∀ h', R i pre post (Sort.partition Sort.ltInt D a b pivot).2.2 h' → Fr [i] h h' → (Sort.partition Sort.ltInt D a b pivot).2.2.size = N →
      Q (.tuple [.int .i64 (Sort.partition Sort.ltInt D a b pivot).1, .bool (Sort.partition Sort.ltInt D a b pivot).2.1]) h') :
    W (C 46 [SL i pre N cap, .int .i64 a, .int .i64 b, .int .i64 pivot]) h Q := by
  apply w46
  unfold s46
  simp (disch := omega) only [↓ww]
  refine ldz r pivot rfl hN (by omega) ?_
  refine ldz r a rfl hN (by omega) ?_
  refine swz r a pivot rfl rfl hN (by omega) (by omega) fun h0 r0 f0 _ => ?_
  rw [show (a : Int) + 1 = ((a + 1 : Nat) : Int) by omega, show (b : Int) - 1 = ((b - 1 : Nat) : Int) by omega]
  have hN0 : (Sort.swp D a pivot).size = N := by rw [swp_size]; exact hN
  generalize hD0 : Sort.swp D a pivot = D0 at *
  obtain ⟨X, hX⟩ : ∃ X, X = Sort.partition Sort.ltInt D a b pivot := ⟨_, rfl⟩
  rw [← hX] at q
  rw [Sort.partition, hD0] at hX
  simp only [] at hX
  obtain ⟨g1, g2, g3, g4⟩ := scans (D := D0) (p := fun x => Sort.ltInt x D0[a]!) (p' := fun x => !Sort.ltInt x D0[a]!) (m := a + 1) (n := b - 1) (by omega) (by omega)
  refine scanA 0 r0 hN0 hb (by omega) (by omega) (by omega) ?_
  generalize hu : Sort.scanUp (fun x => Sort.ltInt x D0[a]!) D0 (b - 1) (a + 1) = u at *
  simp only [↓ww]
  refine scanB 2 r0 hN0 hb (by omega) (by omega) (by omega) ?_
  generalize hd : Sort.scanDown (fun x => !Sort.ltInt x D0[a]!) D0 u (b - 1) = d at *
  simp only [↓ww]
  refine W_ite (fun hc => ?_) (fun hc => ?_)
  · rw [if_pos (by omega)] at hX
    simp (disch := omega) only [↓ww]
    refine ldz r0 a rfl hN0 (by omega) ?_
    refine ldz r0 d rfl hN0 (by omega) ?_
    refine swz r0 d a rfl rfl hN0 (by omega) (by omega) fun h1 r1 f1 _ => ?_
    subst hX
    exact q h1 r1 (f0.trans f1) (by simp only [swp_size]; exact hN0)
  · rw [if_neg (by omega)] at hX
    simp (disch := omega) only [↓ww]
    refine ldz r0 d rfl hN0 (by omega) ?_
    refine ldz r0 u rfl hN0 (by omega) ?_
    refine swz r0 u d rfl rfl hN0 (by omega) (by omega) fun h1 r1 f1 _ => ?_
    have hN1 : (Sort.swp D0 u d).size = N := by rw [swp_size]; exact hN0
    generalize hD1 : Sort.swp D0 u d = D1 at *
    rw [show (u : Int) + 1 = ((u + 1 : Nat) : Int) by omega, show (d : Int) - 1 = ((d - 1 : Nat) : Int) by omega]
    refine (W_lp (fun s h' => ∃ (m n : Nat) (D' : Array Int), s = [.int .i64 m, .int .i64 n] ∧ a + 1 ≤ m ∧ m ≤ N ∧ a ≤ n ∧ n < N ∧ m ≤ n + 2 ∧ R i pre post D' h' ∧ Fr [i] h h' ∧ D'.size = N ∧ Sort.partLoop Sort.ltInt a m n D' = Sort.partLoop Sort.ltInt a (u + 1) (d - 1) D1)
      (fun s _ => i2 s + 2 - i1 s) (Q := fun r h' => r = .out 4 [.int .i64 (Sort.partLoop Sort.ltInt a (u + 1) (d - 1) D1).1] ∧ R i pre post (Sort.partLoop Sort.ltInt a (u + 1) (d - 1) D1).2 h' ∧ Fr [i] h h' ∧ (Sort.partLoop Sort.ltInt a (u + 1) (d - 1) D1).2.size = N ∧ (Sort.partLoop Sort.ltInt a (u + 1) (d - 1) D1).1 < N) ?_
      ⟨u + 1, d - 1, D1, rfl, by omega, by omega, by omega, by omega, by omega, r1, f0.trans f1, hN1, rfl⟩).mono ?_
    · rintro s h2 ⟨m, n, D2, rfl, hm, hmN, hn, hnN, hmn, r2, f2, hN2, e2⟩
      simp only [↓ww]
      obtain ⟨k1, k2, k3, k4⟩ := scans (D := D2) (p := fun x => Sort.ltInt x D2[a]!) (p' := fun x => !Sort.ltInt x D2[a]!) (m := m) (n := n) (by omega) hmn
      refine scanA 6 r2 hN2 hb (by omega) hnN (by omega) ?_
      rw [Sort.partLoop] at e2
      try simp only [] at e2
      generalize hu2 : Sort.scanUp (fun x => Sort.ltInt x D2[a]!) D2 n m = u2 at *
      simp only [↓ww]
      refine scanB 8 r2 hN2 hb (by omega) hnN (by omega) ?_
      generalize hd2 : Sort.scanDown (fun x => !Sort.ltInt x D2[a]!) D2 u2 n = d2 at *
      simp only [↓ww]
      refine W_ite (fun hc => ?_) (fun hc => ?_)
      · rw [if_pos (by omega)] at e2
        simp only [↓ww]
        rw [← e2]
        exact ⟨(by first | trivial | rfl), r2, f2, hN2, by simp only []; omega⟩
      · rw [if_neg (by omega), dif_pos (by omega)] at e2
        simp (disch := omega) only [↓ww]
        refine ldz r2 d2 rfl hN2 (by omega) ?_
        refine ldz r2 u2 rfl hN2 (by omega) ?_
        refine swz r2 u2 d2 rfl rfl hN2 (by omega) (by omega) fun h3 r3 f3 _ => ?_
        exact ⟨⟨u2 + 1, d2 - 1, _, by rw [show ((d2 - 1 : Nat) : Int) = (d2 : Int) - 1 by omega]; rfl, by omega, by omega, by omega, by omega, by omega, r3, f2.trans f3, by rw [swp_size]; exact hN2, e2⟩, by simp; omega⟩
    · rintro r2 h2 ⟨rfl, e2, e3, e4, e5⟩
      generalize Sort.partLoop Sort.ltInt a (u + 1) (d - 1) D1 = Y at *
      obtain ⟨y, D2⟩ := Y
      simp only [] at e2 e4 e5
      simp (disch := omega) only [↓ww]
      refine ldz e2 a rfl e4 (by omega) ?_
      refine ldz e2 y rfl e4 (by omega) ?_
      refine swz e2 y a rfl rfl e4 (by omega) (by omega) fun h3 r3 f3 _ => ?_
      subst hX
      exact q h3 r3 (e3.trans f3) (by simp only [swp_size]; exact e4)

/-- 'for i < b && !less(data[i], data[i-1]) { i++ }'. -/
theorem scanS {Q : Go1 → AH → Prop} (e : Nat) (r : R i pre post D h) (hN : D.size = N) (hb : N < 140737488355328) {b m : Nat} (hbN : b ≤ N) (hm : 0 < m) (hmb : m ≤ b)
    (q : m ≤ Sort.scanSorted Sort.ltInt D b m → Sort.scanSorted Sort.ltInt D b m ≤ b → Q (.out e [.int .i64 (Sort.scanSorted Sort.ltInt D b m : Nat)]) h) :
    W (lp (fun u_7 => un u_7 fun t7_8 u_9 => lt (binV .lss t7_8 (.int .i64 b)) fun t19 =>
      lt (gv t19 true (some (SL i pre N cap))) fun t21 =>
      lt (gv t19 true (some t7_8)) fun t22 =>
      lt (gv t19 true (ixS 1 t21 t22)) fun t23 =>
      bq (gm t19 true (ld t23)) fun t24 =>
      lt (gv t19 true (some (SL i pre N cap))) fun t25 =>
      lt (gv t19 true (some t7_8)) fun t26 =>
      lt (gv t19 true (binV .sub t26 (.int .i64 1))) fun t27 =>
      lt (gv t19 true (ixS 1 t25 t27)) fun t28 =>
      bq (gm t19 true (ld t28)) fun t29 =>
      bd (gm t19 true (C 44 [t24, t29])) fun t30 =>
      lt (gv t19 true (unA .not t30)) fun t31 =>
      lt (pickV t19 t31 (.bool false)) fun t32 =>
      cn t32 (lt (binV .add t7_8 (.int .i64 1)) fun t34 =>
      rt (.again [t34])) (
      rt (.out e [t7_8]))) [.int .i64 m]) h Q := by
  refine W_lp (fun s h' => h' = h ∧ ∃ n : Nat, s = [.int .i64 n] ∧ m ≤ n ∧ n ≤ b ∧ Sort.scanSorted Sort.ltInt D b n = Sort.scanSorted Sort.ltInt D b m) (fun s _ => N - i1 s) ?_ ⟨rfl, m, rfl, Nat.le_refl _, hmb, rfl⟩
  rintro s h1 ⟨rfl, n, rfl, hn, hnb, e1⟩
  simp (disch := omega) only [↓ww]
  by_cases hc : n < b
  · rw [decide_eq_true (show ((n : Int) < b) by omega)]
    simp (disch := omega) only [↓ww]
    refine ldz r n rfl hN (by omega) ?_
    refine ldz r (n - 1) (by omega) hN (by omega) ?_
    apply less
    try simp (disch := omega) only [↓ww]
    rw [Sort.scanSorted] at e1
    refine W_if (fun hl => ?_) (fun hl => ?_)
    · rw [if_pos (by simp at hl; simp [hc, hl])] at e1
      simp (disch := omega) only [↓ww]
      exact ⟨⟨by trivial, n + 1, rfl, by omega, by omega, e1⟩, by simp; omega⟩
    · rw [if_neg (by simp at hl; simp [hl])] at e1
      simp (disch := omega) only [↓ww]
      rw [← e1] at q; exact q hn hnb
  · rw [decide_eq_false (show ¬((n : Int) < b) by omega)]
    simp (disch := omega) only [↓ww]
    rw [Sort.scanSorted, if_neg (by simp; intro; omega)] at e1
    rw [← e1] at q; exact q hn hnb

theorem partialInsertionSort (r : R i pre post D h) (hN : D.size = N) (hb : N < 140737488355328) {a b : Nat} (hab : a < b) (hbN : b ≤ N)
    (q : ∀ h', R i pre post (Sort.partialInsertionSort Sort.ltInt D a b).1 h' → Fr [i] h h' → (Sort.partialInsertionSort Sort.ltInt D a b).1.size = N →
      Q (.bool (Sort.partialInsertionSort Sort.ltInt D a b).2) h') :
    W (C 43 [SL i pre N cap, .int .i64 a, .int .i64 b]) h Q := by
  apply w43
  unfold s43
  simp (disch := omega) only [↓ww]
  generalize hX : Sort.partialInsertionSort Sort.ltInt D a b = X at q
  rw [Sort.partialInsertionSort] at hX
  refine (W_lp (fun s h' => ∃ (j m : Nat) (D' : Array Int), s = [.int .i64 j, .int .i64 m] ∧ j ≤ 5 ∧ a + 1 ≤ m ∧ m ≤ b ∧ R i pre post D' h' ∧ Fr [i] h h' ∧ D'.size = N ∧ Sort.partialIns Sort.ltInt a b (5 - j) m D' = X)
    (fun s _ => 5 - i1 s) (Q := fun r h' => ((r = .out 0 [] ∧ X.2 = false) ∨ r = .done (.bool X.2)) ∧ R i pre post X.1 h' ∧ Fr [i] h h' ∧ X.1.size = N) ?_
    ⟨0, a + 1, D, rfl, by omega, by omega, by omega, r, Fr.refl _ _, hN, hX⟩).mono ?_
  · rintro s h1 ⟨j, m, D1, rfl, hj, hm, hmb, r1, f1, hN1, e1⟩
    simp (disch := omega) only [↓ww]
    refine W_ite (fun hc => ?_) (fun hc => ?_)
    · refine W_jnk fun k6 hk6 => ?_
      simp (disch := omega) only [↓ww]
      obtain ⟨j', hj'⟩ : ∃ j', 5 - j = j' + 1 := ⟨5 - j - 1, by omega⟩
      rw [hj', Sort.partialIns] at e1
      try simp only [] at e1
      refine scanS 2 r1 hN1 hb hbN (by omega) (by omega) fun hs1 hs2 => ?_
      generalize Sort.scanSorted Sort.ltInt D1 b m = n at *
      simp (disch := omega) only [↓ww]
      refine W_ite (fun hc2 => ?_) (fun hc2 => ?_)
      · rw [if_pos (by omega)] at e1
        simp (disch := omega) only [↓ww]
        subst e1
        exact ⟨.inr (by first | trivial | rfl), r1, f1, hN1⟩
      · rw [if_neg (by omega)] at e1
        simp (disch := omega) only [↓ww]
        refine W_ite (fun hc3 => ?_) (fun hc3 => ?_)
        · rw [if_pos (by omega)] at e1
          simp (disch := omega) only [↓ww]
          subst e1
          exact ⟨.inr (by first | trivial | rfl), r1, f1, hN1⟩
        · rw [if_neg (by omega)] at e1
          simp (disch := omega) only [↓ww]
          refine ldz r1 (n - 1) (by omega) hN1 (by omega) ?_
          refine ldz r1 n (by omega) hN1 (by omega) ?_
          refine swz r1 n (n - 1) (by omega) (by omega) hN1 (by omega) (by omega) fun h2 r2 f2 _ => ?_
          have hN2 : (Sort.swp D1 n (n - 1)).size = N := by rw [swp_size]; exact hN1
          generalize Sort.swp D1 n (n - 1) = D2 at *
          refine W_jnk fun k23 hk23 => ?_
          -- behind the first shift
          have fin : ∀ (D3 : Array Int) (h3 : AH), R i pre post D3 h3 → Fr [i] h h3 → D3.size = N →
              Sort.partialIns Sort.ltInt a b j' n (if b - n ≥ 2 then Sort.shiftUp Sort.ltInt b (n + 1) D3 else D3) = X → W (k23 []) h3 (LQ (fun s h' => ∃ (j m : Nat) (D' : Array Int), s = [.int .i64 j, .int .i64 m] ∧ j ≤ 5 ∧ a + 1 ≤ m ∧ m ≤ b ∧ R i pre post D' h' ∧ Fr [i] h h' ∧ D'.size = N ∧ Sort.partialIns Sort.ltInt a b (5 - j) m D' = X)
                (fun s _ => 5 - i1 s) (5 - i1 [.int .i64 (j : Int), .int .i64 (m : Int)]) (fun r h' => ((r = .out 0 [] ∧ X.2 = false) ∨ r = .done (.bool X.2)) ∧ R i pre post X.1 h' ∧ Fr [i] h h' ∧ X.1.size = N)) := by
            intro D3 h3 r3 f3 hN3 e3
            subst hk23
            simp (disch := omega) only [↓ww]
            have fin2 : ∀ (D4 : Array Int) (h4 : AH), R i pre post D4 h4 → Fr [i] h h4 → D4.size = N → Sort.partialIns Sort.ltInt a b j' n D4 = X → W (k6 [.int .i64 (n : Int)]) h4 (LQ (fun s h' => ∃ (j m : Nat) (D' : Array Int), s = [.int .i64 j, .int .i64 m] ∧ j ≤ 5 ∧ a + 1 ≤ m ∧ m ≤ b ∧ R i pre post D' h' ∧ Fr [i] h h' ∧ D'.size = N ∧ Sort.partialIns Sort.ltInt a b (5 - j) m D' = X)
                (fun s _ => 5 - i1 s) (5 - i1 [.int .i64 (j : Int), .int .i64 (m : Int)]) (fun r h' => ((r = .out 0 [] ∧ X.2 = false) ∨ r = .done (.bool X.2)) ∧ R i pre post X.1 h' ∧ Fr [i] h h' ∧ X.1.size = N)) := by
              intro D4 h4 r4 f4 hN4 e4
              subst hk6
              simp (disch := omega) only [↓ww]
              exact ⟨⟨j + 1, n, D4, rfl, by omega, by omega, by omega, r4, f4, hN4, by rw [show 5 - (j + 1) = j' by omega]; exact e4⟩, by simp; omega⟩
            refine W_ite (fun hc4 => ?_) (fun hc4 => ?_)
            · rw [if_pos (by omega)] at e3
              simp (disch := omega) only [↓ww]
              refine (W_lp (fun s h' => ∃ (m : Nat) (D' : Array Int), s = [.int .i64 m] ∧ n + 1 ≤ m ∧ m ≤ b ∧ R i pre post D' h' ∧ Fr [i] h h' ∧ D'.size = N ∧ Sort.shiftUp Sort.ltInt b m D' = Sort.shiftUp Sort.ltInt b (n + 1) D3)
                (fun s _ => b - i1 s) (Q := fun r h' => r = .out 6 [] ∧ R i pre post (Sort.shiftUp Sort.ltInt b (n + 1) D3) h' ∧ Fr [i] h h' ∧ (Sort.shiftUp Sort.ltInt b (n + 1) D3).size = N) ?_
                ⟨n + 1, D3, rfl, by omega, by omega, r3, f3, hN3, rfl⟩).mono ?_
              · rintro s h5 ⟨m5, D5, rfl, hm5, hm5b, r5, f5, hN5, e5⟩
                simp (disch := omega) only [↓ww]
                rw [Sort.shiftUp] at e5
                refine W_ite (fun hc5 => ?_) (fun hc5 => ?_)
                · rw [if_pos (by omega)] at e5
                  simp (disch := omega) only [↓ww]
                  refine ldz r5 m5 (by omega) hN5 (by omega) ?_
                  refine ldz r5 (m5 - 1) (by omega) hN5 (by omega) ?_
                  apply less
                  try simp (disch := omega) only [↓ww]
                  refine W_if (fun hl => ?_) (fun hl => ?_)
                  · rw [if_pos hl] at e5
                    simp (disch := omega) only [↓ww]
                    rw [← e5]
                    exact ⟨(by first | trivial | rfl), r5, f5, hN5⟩
                  · rw [if_neg (by simp [hl])] at e5
                    simp (disch := omega) only [↓ww]
                    refine ldz r5 (m5 - 1) (by omega) hN5 (by omega) ?_
                    refine ldz r5 m5 (by omega) hN5 (by omega) ?_
                    refine swz r5 m5 (m5 - 1) (by omega) (by omega) hN5 (by omega) (by omega) fun h6 r6 f6 _ => ?_
                    exact ⟨⟨m5 + 1, _, rfl, by omega, by omega, r6, f5.trans f6, by rw [swp_size]; exact hN5, e5⟩, by simp; omega⟩
                · rw [if_neg (by omega)] at e5
                  simp (disch := omega) only [↓ww]
                  rw [← e5]
                  exact ⟨(by first | trivial | rfl), r5, f5, hN5⟩
              · rintro r5 h5 ⟨rfl, e5, e6, e7⟩
                simp (disch := omega) only [↓ww]
                exact fin2 _ h5 e5 e6 e7 e3
            · rw [if_neg (by omega)] at e3
              try simp (disch := omega) only [↓ww]
              exact fin2 _ h3 r3 f3 hN3 e3
          simp (disch := omega) only [↓ww]
          refine W_ite (fun hc4 => ?_) (fun hc4 => ?_)
          · rw [if_pos (show n - a ≥ 2 by omega)] at e1
            simp (disch := omega) only [↓ww]
            refine (W_lp (fun s h' => ∃ (m : Nat) (D' : Array Int), s = [.int .i64 m] ∧ m < b ∧ R i pre post D' h' ∧ Fr [i] h h' ∧ D'.size = N ∧ Sort.shiftDown Sort.ltInt m D' = Sort.shiftDown Sort.ltInt (n - 1) D2)
              (fun s _ => i1 s) (Q := fun r h' => r = .out 4 [] ∧ R i pre post (Sort.shiftDown Sort.ltInt (n - 1) D2) h' ∧ Fr [i] h h' ∧ (Sort.shiftDown Sort.ltInt (n - 1) D2).size = N) ?_
              ⟨n - 1, D2, by rw [show ((n - 1 : Nat) : Int) = (n : Int) - 1 by omega], by omega, r2, f1.trans f2, hN2, rfl⟩).mono ?_
            · rintro s h5 ⟨m5, D5, rfl, hm5, r5, f5, hN5, e5⟩
              simp (disch := omega) only [↓ww]
              refine W_ite (fun hc5 => ?_) (fun hc5 => ?_)
              · obtain ⟨m6, rfl⟩ : ∃ m6, m5 = m6 + 1 := ⟨m5 - 1, by omega⟩
                rw [Sort.shiftDown] at e5
                simp (disch := omega) only [↓ww]
                refine ldz r5 (m6 + 1) (by omega) hN5 (by omega) ?_
                refine ldz r5 m6 (by omega) hN5 (by omega) ?_
                apply less
                try simp (disch := omega) only [↓ww]
                refine W_if (fun hl => ?_) (fun hl => ?_)
                · rw [if_pos hl] at e5
                  simp (disch := omega) only [↓ww]
                  rw [← e5]
                  exact ⟨(by first | trivial | rfl), r5, f5, hN5⟩
                · rw [if_neg (by simp [hl])] at e5
                  simp (disch := omega) only [↓ww]
                  refine ldz r5 m6 (by omega) hN5 (by omega) ?_
                  refine ldz r5 (m6 + 1) (by omega) hN5 (by omega) ?_
                  refine swz r5 (m6 + 1) m6 (by omega) (by omega) hN5 (by omega) (by omega) fun h6 r6 f6 _ => ?_
                  exact ⟨⟨m6, _, by rw [show (((m6 + 1 : Nat) : Int) - 1) = (m6 : Int) by omega], by omega, r6, f5.trans f6, by rw [swp_size]; exact hN5, e5⟩, by simp⟩
              · obtain rfl : m5 = 0 := by omega
                rw [Sort.shiftDown] at e5
                simp (disch := omega) only [↓ww]
                rw [← e5]
                exact ⟨(by first | trivial | rfl), r5, f5, hN5⟩
            · rintro r5 h5 ⟨rfl, e5, e6, e7⟩
              simp (disch := omega) only [↓ww]
              exact fin _ h5 e5 e6 e7 e1
          · rw [if_neg (show ¬ n - a ≥ 2 by omega)] at e1
            try simp (disch := omega) only [↓ww]
            exact fin _ h2 r2 (f1.trans f2) hN2 e1
    · obtain rfl : j = 5 := by omega
      simp (disch := omega) only [↓ww]
      rw [show 5 - 5 = 0 by rfl, Sort.partialIns] at e1
      subst e1
      exact ⟨.inl ⟨(by first | trivial | rfl), rfl⟩, r1, f1, hN1⟩
  · rintro r2 h2 ⟨hor, e2, e3, e4⟩
    rcases hor with ⟨rfl, hf⟩ | rfl
    · simp only [↓ww]
      rw [hf] at q
      exact q h2 e2 e3 e4
    · simp only [↓ww]
      exact q h2 e2 e3 e4

end SortU
end Go.Proofs.YtlpbgmbiollimaaGreat.Low

namespace Go.Proofs.YtlpbgmbiollimaaGreat.Low
open Go Go.Am _root_.Go.Proofs.Tryz
namespace SortU

variable {h : AH} {i cap N : Nat} {pre post : List AV} {D : Array Int} {Q : AV → AH → Prop}

def len8 : List UInt8 := (List.range 256).map fun n => UInt8.ofNat (Sort.bitsLen n)

theorem len8_at {n : Nat} (hn : n < 256) : len8[n]? = some (UInt8.ofNat (Sort.bitsLen n)) := by simp [len8, hn]

theorem ix8 {n : Nat} (hn : n < 256) {l : List UInt8} (hl : l = len8) : ixT (.str l) (.int .u8 n) = some (.int .u8 (Sort.bitsLen n : Nat)) := by
  subst hl
  simp only [ixT]
  rw [if_pos (by omega), show ((n : Nat) : Int).toNat = n by simp, len8_at hn]
  have : Sort.bitsLen n ≤ 8 := bitsLen_le (m := 8) hn
  have e : (UInt8.ofNat (Sort.bitsLen n)).toNat = Sort.bitsLen n := by simp; omega
  simp only [e]

theorem shr_nat {n m : Nat} {kk kd : IntKind} (hm : m ≤ kd.bits) : binV .shr (.int kd n) (.int kk (m : Int)) = some (.int kd ((n / 2 ^ m : Nat) : Int)) := by
  rw [binV_shr (by omega)]
  have : min (m : Int).toNat kd.bits = m := by simp; omega
  rw [this, Int.fdiv_eq_ediv_of_nonneg _ (by exact Int.le_of_lt (Int.pow_pos (by decide)))]
  congr 2

theorem bitsLen64 {n : Nat} (hn : n < 18446744073709551616) (q : Q (.int .i64 (Sort.bitsLen n : Nat)) h) : W (C 48 [.int .u64 n]) h Q := by
  apply w48
  unfold s48
  have e8 : ∀ {m : Nat}, m < 256 → Sort.bitsLen m ≤ 8 := fun h => bitsLen_le (m := 8) h
  refine W_jnk fun k1 hk1 => ?_
  have fin : ∀ (m d : Nat), m < 4294967296 → d ≤ 32 → Sort.bitsLen n = Sort.bitsLen m + d → W (k1 [.int .u64 m, .int .i64 d]) h Q := by
    intro m d hm hd he
    subst hk1
    simp only [↓ww]
    refine W_jnk fun k2 hk2 => ?_
    have fin2 : ∀ (m d : Nat), m < 65536 → d ≤ 48 → Sort.bitsLen n = Sort.bitsLen m + d → W (k2 [.int .u64 m, .int .i64 d]) h Q := by
      intro m d hm hd he
      subst hk2
      simp only [↓ww]
      refine W_jnk fun k3 hk3 => ?_
      have fin3 : ∀ (m d : Nat), m < 256 → d ≤ 56 → Sort.bitsLen n = Sort.bitsLen m + d → W (k3 [.int .i64 d, .int .u64 m]) h Q := by
        intro m d hm hd he
        subst hk3
        simp (disch := omega) only [↓ww]
        rw [ix8 hm (by kernel_rfl)]
        have := e8 hm
        simp (disch := omega) only [↓ww]
        rw [show (d : Int) + (Sort.bitsLen m : Nat) = (Sort.bitsLen n : Nat) by omega]
        exact q
      simp (disch := omega) only [↓ww]
      refine W_ite (fun hc => ?_) (fun hc => ?_)
      · rw [show (8 : Int) = ((8 : Nat) : Int) by rfl, shr_nat (m := 8) (by decide)]
        simp (disch := omega) only [↓ww]
        rw [show (d : Int) + ((8 : Nat) : Int) = ((d + 8 : Nat) : Int) by omega]
        exact fin3 (m / 2 ^ 8) (d + 8) (by omega) (by omega) (by rw [he, bitsLen_shift (k := 8) (n := m) (by omega)]; omega)
      · exact fin3 m d (by omega) (by omega) he
    simp (disch := omega) only [↓ww]
    refine W_ite (fun hc => ?_) (fun hc => ?_)
    · rw [show (16 : Int) = ((16 : Nat) : Int) by rfl, shr_nat (m := 16) (by decide)]
      simp (disch := omega) only [↓ww]
      rw [show (d : Int) + ((16 : Nat) : Int) = ((d + 16 : Nat) : Int) by omega]
      exact fin2 (m / 2 ^ 16) (d + 16) (by omega) (by omega) (by rw [he, bitsLen_shift (k := 16) (n := m) (by omega)]; omega)
    · exact fin2 m d (by omega) (by omega) he
  simp (disch := omega) only [↓ww]
  refine W_ite (fun hc => ?_) (fun hc => ?_)
  · rw [show (32 : Int) = ((32 : Nat) : Int) by rfl, shr_nat (m := 32) (by decide)]
    simp (disch := omega) only [↓ww]
    exact fin (n / 2 ^ 32) 32 (by omega) (by omega) (by rw [bitsLen_shift (k := 32) (n := n) (by omega)])
  · exact fin n 0 (by omega) (by omega) rfl

theorem bitsLenI {n : Nat} (hn : n < 18446744073709551616) (q : Q (.int .i64 (Sort.bitsLen n : Nat)) h) : W (C 24 [.int .u64 n]) h Q := by
  apply w24
  unfold s24
  simp only [↓ww]
  exact bitsLen64 hn q

theorem nextPow {n : Nat} (hn : n < 140737488355328) (q : Q (.int .u64 ((2 ^ Sort.bitsLen n : Nat) : Int)) h) : W (C 83 [.int .i64 n]) h Q := by
  apply w83
  unfold s83
  simp (disch := omega) only [↓ww]
  refine bitsLenI (by omega) ?_
  have hl : Sort.bitsLen n ≤ 47 := bitsLen_le (m := 47) hn
  rw [binV_shl (by omega), W_lt, W_rt]
  have : min (((Sort.bitsLen n : Nat) : Int)).toNat IntKind.u64.bits = Sort.bitsLen n := by simp [IntKind.bits]; omega
  have h2 : (2 : Nat) ^ Sort.bitsLen n ≤ 2 ^ 47 := Nat.pow_le_pow_right (by decide) hl
  rw [this, show (1 : Int) * 2 ^ Sort.bitsLen n = ((2 ^ Sort.bitsLen n : Nat) : Int) by simp, wr_nat (by omega)]
  exact q

/-- The random numbers' state, in an object of its own. -/
def Rnd (p : Nat) (x : UInt64) (h : AH) : Prop := h.get p = some (.cells [u64V x] 127 false)

theorem R.neR (r : R i pre post D h) {p : Nat} {x : UInt64} (c : Rnd p x h) : i ≠ p := by
  intro e; subst e
  have := r.get
  rw [c] at this
  simp [E] at this

theorem W_ldRnd {p : Nat} {x : UInt64} (c : Rnd p x h) (q : Q (u64V x) h) : W (ld (.ptr (some (p, 0)))) h Q := by
  rw [W_ld_eq, c]
  simpa using q
theorem W_stRnd {p : Nat} {x y : UInt64} (c : Rnd p x h) (wf : Wf h) (q : ∀ h', Rnd p y h' → Fr [p] h h' → Wf h' → Q undefA h') : W (st 1 (.ptr (some (p, 0))) (u64V y)) h Q := by
  rw [W_st_eq, c]
  simp only [stQ_cells, cells_int, List.length_cons, List.length_nil, ones_cons, ones_nil, one_int, putCells_one, List.set_cons_zero]
  exact ⟨trivial, by simp, rfl, q _ get_set_eq ((Fr.refl _ _).set _ (fun _ => by simp)) (wf.set (wf.lt c))⟩

theorem xorNext {p : Nat} {x : UInt64} (c : Rnd p x h) (wf : Wf h) (q : ∀ h', Rnd p (Sort.xorNext x) h' → Fr [p] h h' → Wf h' → Q (u64V (Sort.xorNext x)) h') :
    W (C 84 [.ptr (some (p, 0))]) h Q := by
  apply w84
  unfold s84
  simp only [↓ww]
  refine W_ldRnd c (W_ldRnd c ?_)
  rw [show (13 : Int) = ((13 : Nat) : Int) by rfl, binV_shl_u64 _ 13 (by decide), W_lt, binV_xor_u64, W_lt]
  simp only [↓ww]
  refine W_stRnd c wf fun h1 c1 f1 w1 => W_ldRnd c1 (W_ldRnd c1 ?_)
  rw [show (7 : Int) = ((7 : Nat) : Int) by rfl, binV_shr_u64 _ 7 (by decide), W_lt, binV_xor_u64, W_lt]
  simp only [↓ww]
  refine W_stRnd c1 w1 fun h2 c2 f2 w2 => W_ldRnd c2 (W_ldRnd c2 ?_)
  rw [show (17 : Int) = ((17 : Nat) : Int) by rfl, binV_shl_u64 _ 17 (by decide), W_lt, binV_xor_u64, W_lt]
  simp only [↓ww]
  refine W_stRnd c2 w2 fun h3 c3 f3 w3 => W_ldRnd c3 ?_
  exact q h3 c3 ((f1.trans f2).trans f3) w3

theorem breakPatterns (r : R i pre post D h) (hN : D.size = N) (hb : N < 140737488355328) {a b : Nat} (hab : a ≤ b) (hbN : b ≤ N)
    (q : ∀ h', R i pre post (Sort.breakPatterns D a b) h' → Fr [i] h h' → (Sort.breakPatterns D a b).size = N → Q (.tuple []) h') :
    W (C 40 [SL i pre N cap, .int .i64 a, .int .i64 b]) h Q := by
  apply w40
  unfold s40
  simp (disch := omega) only [↓ww]
  obtain ⟨X, hX⟩ : ∃ X, X = Sort.breakPatterns D a b := ⟨_, rfl⟩
  rw [← hX] at q
  rw [Sort.breakPatterns] at hX
  simp only [] at hX
  rw [show (b : Int) - a = ((b - a : Nat) : Int) by omega]
  generalize hl : b - a = l at *
  refine W_ite (fun h8 => ?_) (fun h8 => ?_)
  · rw [if_pos (by omega)] at hX
    simp (disch := omega) only [↓ww]
    have r0 : R i pre post D (h.add (.cells [.int .u64 0] 127 false)) := r.frame ((Fr.refl [] h).add _) (by simp) (r.wf.add _)
    have c0 : Rnd h.next 0 (h.add (.cells [.int .u64 0] 127 false)) := get_add_eq
    have f0 : Fr [i] h (h.add (.cells [.int .u64 0] 127 false)) := (Fr.refl [i] h).add _
    have e0 : (.int .u64 (l : Int) : AV) = u64V (UInt64.ofNat l) := by
      show _ = AV.int .u64 ((UInt64.ofNat l).toNat : Int)
      congr 1
      simp; omega
    rw [e0]
    refine W_stRnd c0 r0.wf fun h1 c1 f1 w1 => ?_
    have r1 : R i pre post D h1 := r0.frame f1 (by have := R.neR r0 c0; simp; exact this) w1
    have hF : ∀ {h2 : AH}, Fr [i, h.next] (h.add (.cells [.int .u64 0] 127 false)) h2 → Fr [i] h h2 := fun f => f0.step f (by intro j hj hlt; simp at hj; rcases hj with rfl | rfl <;> first | omega | simp)
    refine nextPow (by omega) ?_
    try simp (disch := omega) only [↓ww]
    rw [binV_quo (by decide), tdiv4, wr_i64 (by omega) (by omega)]
    simp (disch := omega) only [↓ww]
    have hmod : (2 : Nat) ^ Sort.bitsLen l ≤ 2 * l := by
      obtain ⟨k1, k2⟩ := bitsLen_spec l
      have hb0 : 0 < Sort.bitsLen l := by
        rcases Nat.eq_zero_or_pos (Sort.bitsLen l) with h0 | h0
        · rw [h0] at k1; omega
        · exact h0
      have := k2 (by omega)
      rw [show Sort.bitsLen l = (Sort.bitsLen l - 1) + 1 by omega, Nat.pow_succ]
      omega
    have hmpos : 0 < (2 : Nat) ^ Sort.bitsLen l := Nat.pos_of_ne_zero (by simp)
    have hmeq : (1 : Nat) <<< Sort.bitsLen l = 2 ^ Sort.bitsLen l := by simp [Nat.shiftLeft_eq]
    rw [hmeq] at hX
    generalize hm : (2 : Nat) ^ Sort.bitsLen l = m at *
    generalize hidx : a + l / 4 * 2 - 1 = idx at *
    have hidx2 : idx + 1 = a + l / 4 * 2 := by omega
    -- the rounds
    let f : Nat → UInt64 × Array Int → UInt64 × Array Int := fun k s => Nat.rec s (fun j t => Sort.breakStep a l m t (idx + j)) k
    have hXf : X = (f 3 (UInt64.ofNat l, D)).2 := hX
    refine (W_lp (fun s h' => ∃ (k : Nat), k ≤ 3 ∧ s = [.int .i64 ((idx + k : Nat) : Int)] ∧ R i pre post (f k (UInt64.ofNat l, D)).2 h' ∧ Rnd h.next (f k (UInt64.ofNat l, D)).1 h' ∧ Fr [i, h.next] (h.add (.cells [.int .u64 0] 127 false)) h' ∧ (f k (UInt64.ofNat l, D)).2.size = N)
      (fun s _ => idx + 3 - i1 s) (Q := fun r h' => r = .out 0 [] ∧ R i pre post X h' ∧ Fr [i] h h' ∧ X.size = N) ?_
      ⟨0, by omega, by rw [show (a : Int) + ((l / 4 : Nat) : Int) * 2 - 1 = ((idx + 0 : Nat) : Int) by omega], r1, c1, f1.mono (by intro j hj _; simp at hj; simp [hj]), hN⟩).mono ?_
    · rintro s h2 ⟨k, hk, rfl, r2, c2, f2, hN2⟩
      simp (disch := omega) only [↓ww]
      refine W_ite (fun hc => ?_) (fun hc => ?_)
      · simp only [↓ww]
        refine xorNext c2 r2.wf fun h3 c3 f3 w3 => ?_
        have r3 : R i pre post (f k (UInt64.ofNat l, D)).2 h3 := r2.frame f3 (by have := R.neR r2 c2; simp; exact this) w3
        have em : (.int .u64 ((m : Int) - 1) : AV) = u64V (UInt64.ofNat (m - 1)) := by
          show _ = AV.int .u64 ((UInt64.ofNat (m - 1)).toNat : Int)
          congr 1
          simp; omega
        simp (disch := omega) only [↓ww]
        rw [em, binV_and_u64, W_lt]
        generalize hst : f k (UInt64.ofNat l, D) = st at *
        have hand : (Sort.xorNext st.1 &&& UInt64.ofNat (m - 1)).toNat = (Sort.xorNext st.1).toNat &&& (m - 1) := by
          rw [UInt64.toNat_and]; simp; congr 1; omega
        have hle : (Sort.xorNext st.1).toNat &&& (m - 1) ≤ m - 1 := Nat.and_le_right
        show W (lt (cvI .i64 (.int .u64 ((Sort.xorNext st.1 &&& UInt64.ofNat (m - 1)).toNat : Int))) _) _ _
        rw [hand]
        generalize ho : (Sort.xorNext st.1).toNat &&& (m - 1) = o at *
        simp (disch := omega) only [↓ww]
        refine W_jnk fun kk hkk => ?_
        have fin : ∀ (o' : Nat), o' < l → o' = (if o ≥ l then o - l else o) → W (kk [.int .i64 (o' : Int)]) h3 (LQ (fun s h' => ∃ (k : Nat), k ≤ 3 ∧ s = [.int .i64 ((idx + k : Nat) : Int)] ∧ R i pre post (f k (UInt64.ofNat l, D)).2 h' ∧ Rnd h.next (f k (UInt64.ofNat l, D)).1 h' ∧ Fr [i, h.next] (h.add (.cells [.int .u64 0] 127 false)) h' ∧ (f k (UInt64.ofNat l, D)).2.size = N)
            (fun s _ => idx + 3 - i1 s) (idx + 3 - i1 [.int .i64 ((idx + k : Nat) : Int)]) (fun r h' => r = .out 0 [] ∧ R i pre post X h' ∧ Fr [i] h h' ∧ X.size = N)) := by
          intro o' ho' he
          subst hkk
          have hN3 : st.2.size = N := hN2
          simp (disch := omega) only [↓ww]
          refine ldz r3 (a + o') (by omega) hN3 (by omega) ?_
          refine ldz r3 (idx + k) rfl hN3 (by omega) ?_
          refine swz r3 (idx + k) (a + o') rfl (by omega) hN3 (by omega) (by omega) fun h4 r4 f4 n4 => ?_
          have hfs : f (k + 1) (UInt64.ofNat l, D) = (Sort.xorNext st.1, Sort.swp st.2 (idx + k) (a + o')) := by
            show Sort.breakStep a l m (f k (UInt64.ofNat l, D)) (idx + k) = _
            rw [hst, Sort.breakStep]
            simp only [ho, ← he]
          refine ⟨⟨k + 1, by omega, by rw [show ((idx + k : Nat) : Int) + 1 = ((idx + (k + 1) : Nat) : Int) by omega], ?_, ?_, ?_, ?_⟩, by simp; omega⟩
          · rw [hfs]; exact r4
          · rw [hfs]
            show h4.get h.next = _
            rw [f4.get h.next (w3.lt c3) (by have := R.neR r3 c3; simp; exact fun e => this e.symm)]
            exact c3
          · exact (f2.trans (f3.mono (by intro j hj _; simp at hj; simp [hj]))).trans (f4.mono (by intro j hj _; simp at hj; simp [hj]))
          · rw [hfs, swp_size]; exact hN3
        refine W_ite (fun hc2 => ?_) (fun hc2 => ?_)
        · try simp (disch := omega) only [↓ww]
          rw [show (o : Int) - (l : Int) = ((o - l : Nat) : Int) by omega]
          exact fin (o - l) (by omega) (by rw [if_pos (by omega)])
        · exact fin o (by omega) (by rw [if_neg (by omega)])
      · obtain rfl : k = 3 := by omega
        simp only [↓ww]
        rw [hXf]
        exact ⟨(by first | trivial | rfl), r2, hF f2, hN2⟩
    · rintro r2 h2 ⟨rfl, e2, e3, e4⟩
      simp only [↓ww]
      exact q h2 e2 e3 e4
  · rw [if_neg (by omega)] at hX
    subst hX
    simp only [↓ww]
    exact q h r (Fr.refl _ _) hN

end SortU
end Go.Proofs.YtlpbgmbiollimaaGreat.Low

namespace Go.Proofs.YtlpbgmbiollimaaGreat.Low
open Go Go.Am _root_.Go.Proofs.Tryz
namespace SortU

theorem partEq_le {lt : Int → Int → Bool} {a b : Nat} : ∀ (k m n : Nat) (D : Array Int), n + 2 - m ≤ k → a + 1 ≤ m → m ≤ n + 2 → n + 1 ≤ b → (m ≤ n + 1 ∨ n + 2 ≤ b) → a < (Sort.partEqLoop lt a m n D).1 ∧ (Sort.partEqLoop lt a m n D).1 ≤ b := by
  intro k
  induction k with
  | zero =>
    intro m n D hk hm hmn hnb hor
    obtain ⟨g1, g2, g3, g4⟩ := scans (D := D) (p := fun x => !lt D[a]! x) (p' := fun x => lt D[a]! x) (m := m) (n := n) (by omega) hmn
    rw [Sort.partEqLoop]
    try simp only []
    rw [if_pos (by omega)]
    simp only []
    omega
  | succ k ih =>
    intro m n D hk hm hmn hnb hor
    obtain ⟨g1, g2, g3, g4⟩ := scans (D := D) (p := fun x => !lt D[a]! x) (p' := fun x => lt D[a]! x) (m := m) (n := n) (by omega) hmn
    have g5 : m ≤ n + 1 → Sort.scanUp (fun x => !lt D[a]! x) D n m ≤ n + 1 := fun hh => scanUp_le _ m (Nat.le_refl _) hh
    rw [Sort.partEqLoop]
    try simp only []
    split
    · simp only []; omega
    · rename_i hc
      rw [dif_pos (by omega)]
      exact ih _ _ _ (by omega) (by omega) (by omega) (by omega) (by omega)

theorem partitionEqual_le {lt : Int → Int → Bool} {a b pivot : Nat} {D : Array Int} (hab : a < b) : a < (Sort.partitionEqual lt D a b pivot).1 ∧ (Sort.partitionEqual lt D a b pivot).1 ≤ b := by
  rw [Sort.partitionEqual]
  exact partEq_le _ _ _ _ (Nat.le_refl _) (by omega) (by omega) (by omega) (by omega)

theorem swoInt : Sort.SWO Sort.ltInt := ⟨by intro x; simp [Sort.ltInt], by intro x y z; simp only [Sort.ltInt, decide_eq_true_eq]; omega, by intro x y z; simp only [Sort.ltInt, decide_eq_false_iff_not]; omega⟩

theorem W_both {α : Type} {p q : Bool} {K : AV → M α} {h : AH} {Q : α → AH → Prop} : W (lt (gv (.bool p) true (some (.bool q))) fun t => lt (pickV (.bool p) t (.bool false)) K) h Q ↔ W (K (.bool (p && q))) h Q := by
  cases p <;> rfl

theorem tdiv8 (n : Nat) : ((n : Nat) : Int).tdiv 8 = ((n / 8 : Nat) : Int) := rfl

variable {i cap N : Nat} {pre post : List AV}

set_option maxHeartbeats 2000000 in
theorem pdqsort (hb : N < 140737488355328) : ∀ (m : Nat) (D : Array Int) (h : AH) (a b limit : Nat) (Q : AV → AH → Prop), b - a = m → R i pre post D h → D.size = N → a ≤ b → b ≤ N → limit < 1000 →
    (∀ h', R i pre post (Sort.pdq Sort.ltInt D a b limit true true) h' → Fr [i] h h' → (Sort.pdq Sort.ltInt D a b limit true true).size = N → Q (.tuple []) h') →
    W (C 23 [SL i pre N cap, .int .i64 a, .int .i64 b, .int .i64 limit]) h Q := by
  intro m
  induction m using Nat.strongRecOn with
  | ind m ih =>
  intro D h a b limit Q hm r hN hab hbN hlim q
  apply w23
  unfold s23
  generalize hX : Sort.pdq Sort.ltInt D a b limit true true = X at q
  refine W_loop (fun s h' => ∃ (b' a' l' : Nat) (wb wp : Bool) (D' : Array Int), s = [.int .i64 b', .int .i64 a', .int .i64 l', .bool wb, .bool wp] ∧ a' ≤ b' ∧ b' ≤ N ∧ b' - a' ≤ m ∧ l' < 1000 ∧ R i pre post D' h' ∧ Fr [i] h h' ∧ D'.size = N ∧ Sort.pdq Sort.ltInt D' a' b' l' wb wp = X)
    (fun s _ => i1 s - i2 s) (fun r h' => r = .done (.tuple []) ∧ R i pre post X h' ∧ Fr [i] h h' ∧ X.size = N)
    ⟨b, a, limit, true, true, D, rfl, hab, hbN, by omega, hlim, r, Fr.refl _ _, hN, hX⟩ ?_ (fun r h' ⟨e1, e2, e3, e4⟩ => by subst e1; simp only [↓ww]; exact q h' e2 e3 e4)
  rintro s h1 ⟨b1, a1, l1, wb, wp, D1, rfl, hab1, hbN1, hm1, hl1, r1, f1, hN1, e1⟩
  simp only [↓ww]
  refine W_jnk fun k17 hk17 => ?_
  have again : ∀ (b2 a2 l2 : Nat) (wb2 wp2 : Bool) (D2 : Array Int) (h2 : AH), a2 ≤ b2 → b2 ≤ N → b2 - a2 < b1 - a1 → l2 < 1000 → R i pre post D2 h2 → Fr [i] h h2 → D2.size = N → Sort.pdq Sort.ltInt D2 a2 b2 l2 wb2 wp2 = X →
      W (k17 [.int .i64 b2, .int .i64 a2, .int .i64 l2, .bool wb2, .bool wp2]) h2 (LQ (fun s h' => ∃ (b' a' l' : Nat) (wb wp : Bool) (D' : Array Int), s = [.int .i64 b', .int .i64 a', .int .i64 l', .bool wb, .bool wp] ∧ a' ≤ b' ∧ b' ≤ N ∧ b' - a' ≤ m ∧ l' < 1000 ∧ R i pre post D' h' ∧ Fr [i] h h' ∧ D'.size = N ∧ Sort.pdq Sort.ltInt D' a' b' l' wb wp = X)
        (fun s _ => i1 s - i2 s) (i1 [.int .i64 (b1 : Int), .int .i64 (a1 : Int), .int .i64 (l1 : Int), .bool wb, .bool wp] - i2 [.int .i64 (b1 : Int), .int .i64 (a1 : Int), .int .i64 (l1 : Int), .bool wb, .bool wp]) (fun r h' => r = .done (.tuple []) ∧ R i pre post X h' ∧ Fr [i] h h' ∧ X.size = N)) := by
    intro b2 a2 l2 wb2 wp2 D2 h2 g1 g2 g3 g4 r2 f2 n2 e2
    subst hk17
    simp only [↓ww]
    exact ⟨⟨b2, a2, l2, wb2, wp2, D2, rfl, g1, g2, by omega, g4, r2, f2, n2, e2⟩, by simp; omega⟩
  simp (disch := omega) only [↓ww]
  rw [Sort.pdq] at e1
  refine W_ite (fun hc => ?_) (fun hc => ?_)
  · rw [if_pos (by omega)] at e1
    simp only [↓ww]
    refine insertionSort r1 hN1 hb hab1 hbN1 fun h2 r2 f2 n2 => ?_
    rw [← e1]
    exact ⟨(by first | trivial | rfl), r2, f1.trans f2, n2⟩
  rw [if_neg (by omega)] at e1
  simp (disch := omega) only [↓ww]
  refine W_ite (fun hc2 => ?_) (fun hc2 => ?_)
  · rw [if_pos (by omega)] at e1
    simp only [↓ww]
    refine heapSort r1 hN1 hb hab1 hbN1 fun h2 r2 f2 n2 => ?_
    rw [← e1]
    exact ⟨(by first | trivial | rfl), r2, f1.trans f2, n2⟩
  rw [if_neg (by omega)] at e1
  refine W_jnk fun k27 hk27 => ?_
  -- behind the breaking of patterns
  have fin27 : ∀ (l2 : Nat) (D2 : Array Int) (h2 : AH), l2 < 1000 → R i pre post D2 h2 → Fr [i] h h2 → D2.size = N → D2 = (if (!wb) = true then Sort.breakPatterns D1 a1 b1 else D1) → l2 = (if (!wb) = true then l1 - 1 else l1) →
      W (k27 [.int .i64 l2]) h2 (LQ (fun s h' => ∃ (b' a' l' : Nat) (wb wp : Bool) (D' : Array Int), s = [.int .i64 b', .int .i64 a', .int .i64 l', .bool wb, .bool wp] ∧ a' ≤ b' ∧ b' ≤ N ∧ b' - a' ≤ m ∧ l' < 1000 ∧ R i pre post D' h' ∧ Fr [i] h h' ∧ D'.size = N ∧ Sort.pdq Sort.ltInt D' a' b' l' wb wp = X)
        (fun s _ => i1 s - i2 s) (i1 [.int .i64 (b1 : Int), .int .i64 (a1 : Int), .int .i64 (l1 : Int), .bool wb, .bool wp] - i2 [.int .i64 (b1 : Int), .int .i64 (a1 : Int), .int .i64 (l1 : Int), .bool wb, .bool wp]) (fun r h' => r = .done (.tuple []) ∧ R i pre post X h' ∧ Fr [i] h h' ∧ X.size = N)) := by
    intro l2 D2 h2 hl2 r2 f2 n2 eD el
    simp only [← eD, ← el] at e1
    clear eD el
    subst hk27
    simp only [↓ww]
    refine choosePivot r2 n2 hb (by omega) hbN1 fun h3 r3 f3 => ?_
    have hcp := Sort.choosePivot_holds Sort.ltInt D2 a1 b1 (by omega)
    generalize Sort.choosePivot Sort.ltInt D2 a1 b1 = c at *
    simp only [↓ww]
    refine W_jnk fun k26 hk26 => ?_
    -- behind the reversal
    have fin26 : ∀ (hint : Sort.Hint) (pv : Nat) (D3 : Array Int) (h4 : AH), a1 ≤ pv → pv < b1 → R i pre post D3 h4 → Fr [i] h h4 → D3.size = N → D3 = (if c.2 = .decreasing then Sort.reverseRange D2 a1 b1 else D2) → pv = (if c.2 = .decreasing then b1 - 1 - (c.1 - a1) else c.1) → hint = (if c.2 = .decreasing then .increasing else c.2) →
        W (k26 [.int .i64 (hintI hint), .int .i64 pv]) h4 (LQ (fun s h' => ∃ (b' a' l' : Nat) (wb wp : Bool) (D' : Array Int), s = [.int .i64 b', .int .i64 a', .int .i64 l', .bool wb, .bool wp] ∧ a' ≤ b' ∧ b' ≤ N ∧ b' - a' ≤ m ∧ l' < 1000 ∧ R i pre post D' h' ∧ Fr [i] h h' ∧ D'.size = N ∧ Sort.pdq Sort.ltInt D' a' b' l' wb wp = X)
          (fun s _ => i1 s - i2 s) (i1 [.int .i64 (b1 : Int), .int .i64 (a1 : Int), .int .i64 (l1 : Int), .bool wb, .bool wp] - i2 [.int .i64 (b1 : Int), .int .i64 (a1 : Int), .int .i64 (l1 : Int), .bool wb, .bool wp]) (fun r h' => r = .done (.tuple []) ∧ R i pre post X h' ∧ Fr [i] h h' ∧ X.size = N)) := by
      intro hint pv D3 h4 hpv1 hpv2 r4 f4 n4 eD epv eh
      simp only [← eD, ← epv, ← eh] at e1
      clear eD epv eh
      subst hk26
      simp only [↓ww]
      refine W_jnk fun k25 hk25 => ?_
      -- behind the partial insertion sort
      have fin25 : ∀ (D4 : Array Int) (h5 : AH), R i pre post D4 h5 → Fr [i] h h5 → D4.size = N →
          (if (decide (a1 > 0) && !Sort.ltInt D4[a1 - 1]! D4[pv]!) = true then
            match Sort.partitionEqual Sort.ltInt D4 a1 b1 pv with
            | (mid, d4) => if _h : a1 < mid ∧ mid ≤ b1 then Sort.pdq Sort.ltInt d4 mid b1 l2 wb wp else d4
          else match Sort.partition Sort.ltInt D4 a1 b1 pv with
            | (mid, alreadyPartitioned, d4) => if _h : a1 ≤ mid ∧ mid < b1 then
                if mid - a1 < b1 - mid then Sort.pdq Sort.ltInt (Sort.pdq Sort.ltInt d4 a1 mid l2 true true) (mid + 1) b1 l2 (decide (mid - a1 ≥ (b1 - a1) / 8)) alreadyPartitioned
                else Sort.pdq Sort.ltInt (Sort.pdq Sort.ltInt d4 (mid + 1) b1 l2 true true) a1 mid l2 (decide (b1 - mid ≥ (b1 - a1) / 8)) alreadyPartitioned
              else d4) = X →
          W (k25 []) h5 (LQ (fun s h' => ∃ (b' a' l' : Nat) (wb wp : Bool) (D' : Array Int), s = [.int .i64 b', .int .i64 a', .int .i64 l', .bool wb, .bool wp] ∧ a' ≤ b' ∧ b' ≤ N ∧ b' - a' ≤ m ∧ l' < 1000 ∧ R i pre post D' h' ∧ Fr [i] h h' ∧ D'.size = N ∧ Sort.pdq Sort.ltInt D' a' b' l' wb wp = X)
            (fun s _ => i1 s - i2 s) (i1 [.int .i64 (b1 : Int), .int .i64 (a1 : Int), .int .i64 (l1 : Int), .bool wb, .bool wp] - i2 [.int .i64 (b1 : Int), .int .i64 (a1 : Int), .int .i64 (l1 : Int), .bool wb, .bool wp]) (fun r h' => r = .done (.tuple []) ∧ R i pre post X h' ∧ Fr [i] h h' ∧ X.size = N)) := by
        intro D4 h5 r5 f5 n5 e5
        subst hk25
        simp (disch := omega) only [↓ww]
        -- the partition into less and more
        have finP : (decide (a1 > 0) && !Sort.ltInt D4[a1 - 1]! D4[pv]!) = false → W (bd (C 46 [SL i pre N cap, .int .i64 a1, .int .i64 b1, .int .i64 pv]) fun t99 =>
            lt (extV t99 0) fun t100 =>
            lt (extV t99 1) fun t101 =>
            lt (binV .sub t100 (.int .i64 a1)) fun t105 =>
            lt (binV .sub (.int .i64 b1) t100) fun t108 =>
            lt (binV .quo (.int .i64 ((b1 : Int) - a1)) (.int .i64 8)) fun t110 =>
            lt (binV .lss t105 t108) fun t113 =>
            cn t113 (lt (binV .geq t105 t110) fun t116 =>
            bd (C 23 [SL i pre N cap, .int .i64 a1, t100, .int .i64 l2]) fun t121 =>
            lt (binV .add t100 (.int .i64 1)) fun t123 =>
            k17 [.int .i64 b1, t123, .int .i64 l2, t116, t101]) (
            lt (binV .geq t108 t110) fun t126 =>
            lt (binV .add t100 (.int .i64 1)) fun t129 =>
            bd (C 23 [SL i pre N cap, t129, .int .i64 b1, .int .i64 l2]) fun t132 =>
            k17 [t100, .int .i64 a1, .int .i64 l2, t126, t101])) h5 (LQ (fun s h' => ∃ (b' a' l' : Nat) (wb wp : Bool) (D' : Array Int), s = [.int .i64 b', .int .i64 a', .int .i64 l', .bool wb, .bool wp] ∧ a' ≤ b' ∧ b' ≤ N ∧ b' - a' ≤ m ∧ l' < 1000 ∧ R i pre post D' h' ∧ Fr [i] h h' ∧ D'.size = N ∧ Sort.pdq Sort.ltInt D' a' b' l' wb wp = X)
            (fun s _ => i1 s - i2 s) (i1 [.int .i64 (b1 : Int), .int .i64 (a1 : Int), .int .i64 (l1 : Int), .bool wb, .bool wp] - i2 [.int .i64 (b1 : Int), .int .i64 (a1 : Int), .int .i64 (l1 : Int), .bool wb, .bool wp]) (fun r h' => r = .done (.tuple []) ∧ R i pre post X h' ∧ Fr [i] h h' ∧ X.size = N)) := by
          intro hf
          rw [if_neg (by rw [hf]; simp)] at e5
          simp only [↓ww]
          refine partition r5 n5 hb hpv1 hpv2 hbN1 fun h6 r6 f6 n6 => ?_
          obtain ⟨p1, p2, _, _, _⟩ := Sort.partition_holds (lt := Sort.ltInt) swoInt D4 a1 b1 pv hpv1 hpv2 (by omega)
          generalize Sort.partition Sort.ltInt D4 a1 b1 pv = Y at *
          obtain ⟨mid, alr, D5⟩ := Y
          simp only [] at e5 p1 p2 r6 n6
          rw [dif_pos ⟨p1, p2⟩] at e5
          simp (disch := omega) only [↓ww]
          rw [show (b1 : Int) - a1 = ((b1 - a1 : Nat) : Int) by omega, binV_quo (by decide), tdiv8, wr_i64 (by omega) (by omega)]
          simp (disch := omega) only [↓ww]
          refine W_ite (fun hc5 => ?_) (fun hc5 => ?_)
          · rw [if_pos (by omega)] at e5
            simp (disch := omega) only [↓ww]
            refine ih (mid - a1) (by omega) D5 h6 a1 mid l2 _ rfl r6 n6 p1 (by omega) hl2 fun h7 r7 f7 n7 => ?_
            rw [show (mid : Int) + 1 = ((mid + 1 : Nat) : Int) by omega, show decide ((((b1 - a1) / 8 : Nat) : Int) ≤ (mid : Int) - a1) = decide (mid - a1 ≥ (b1 - a1) / 8) by rw [decide_eq_decide]; omega]
            exact again _ _ _ _ _ _ _ (by omega) hbN1 (by omega) hl2 r7 ((f5.trans f6).trans f7) n7 e5
          · rw [if_neg (by omega)] at e5
            simp (disch := omega) only [↓ww]
            rw [show (mid : Int) + 1 = ((mid + 1 : Nat) : Int) by omega]
            refine ih (b1 - (mid + 1)) (by omega) D5 h6 (mid + 1) b1 l2 _ rfl r6 n6 (by omega) hbN1 hl2 fun h7 r7 f7 n7 => ?_
            rw [show decide ((((b1 - a1) / 8 : Nat) : Int) ≤ (b1 : Int) - mid) = decide (b1 - mid ≥ (b1 - a1) / 8) by rw [decide_eq_decide]; omega]
            exact again _ _ _ _ _ _ _ (by omega) (by omega) (by omega) hl2 r7 ((f5.trans f6).trans f7) n7 e5
        by_cases ha0 : 0 < a1
        · rw [decide_eq_true (show (0 : Int) < (a1 : Int) by omega)]
          simp (disch := omega) only [↓ww]
          refine ldz r5 (a1 - 1) (by omega) n5 (by omega) ?_
          refine ldz r5 pv (by omega) n5 (by omega) ?_
          apply less
          try simp (disch := omega) only [↓ww]
          refine W_if (fun hl => ?_) (fun hl => ?_)
          · rw [if_pos (by rw [hl]; simpa using ha0)] at e5
            simp (disch := omega) only [↓ww]
            refine partitionEqual r5 n5 hb hpv1 hpv2 hbN1 fun h6 r6 f6 n6 => ?_
            have p1 := partitionEqual_le (lt := Sort.ltInt) (D := D4) (pivot := pv) (show a1 < b1 by omega)
            generalize Sort.partitionEqual Sort.ltInt D4 a1 b1 pv = Y at *
            obtain ⟨mid, D5⟩ := Y
            simp only [] at e5 p1 r6 n6
            rw [dif_pos p1] at e5
            exact again _ _ _ _ _ _ _ (by omega) hbN1 (by omega) hl2 r6 (f5.trans f6) n6 e5
          · exact finP (by rw [hl]; simp)
        · rw [decide_eq_false (show ¬ (0 : Int) < (a1 : Int) by omega)]
          simp (disch := omega) only [↓ww]
          exact W_bd.1 (finP (by rw [decide_eq_false (by omega)]; rfl))
      rw [W_both]
      cases hwb : (wb && wp) with
      | false =>
        simp (disch := omega) only [↓ww]
        rw [hwb] at e1
        simp only [Bool.false_and, Bool.false_eq_true, if_false] at e1
        exact fin25 _ h4 r4 f4 n4 e1
      | true =>
        simp (disch := omega) only [↓ww]
        rw [hwb] at e1
        refine W_ite (fun hc3 => ?_) (fun hc3 => ?_)
        · have hh : hint = .increasing := by
            revert hc3
            cases hint <;> intro hc3 <;> first | rfl | exact absurd hc3 (by decide)
          simp only [hh, Bool.true_and, decide_true, if_true] at e1
          simp (disch := omega) only [↓ww]
          refine partialInsertionSort r4 n4 hb (by omega) hbN1 fun h5 r5 f5 n5 => ?_
          refine W_if (fun hp => ?_) (fun hp => ?_)
          · rw [if_pos hp] at e1
            simp only [↓ww]
            rw [← e1]
            exact ⟨(by first | trivial | rfl), r5, f4.trans f5, n5⟩
          · rw [if_neg (by simp [hp])] at e1
            exact fin25 _ h5 r5 (f4.trans f5) n5 e1
        · have hh : hint ≠ .increasing := by intro e; subst e; simp [hintI] at hc3
          simp only [hh, Bool.true_and, decide_false, Bool.false_eq_true, if_false] at e1
          exact fin25 _ h4 r4 f4 n4 e1
    have f3' : Fr [i] h h3 := f2.trans (f3.mono (by simp))
    refine W_ite (fun hc3 => ?_) (fun hc3 => ?_)
    · have hd : c.2 = .decreasing := by
        revert hc3
        cases c.2 <;> intro hc3 <;> first | rfl | exact absurd hc3 (by decide)
      simp (disch := omega) only [↓ww]
      refine reverseRange r3 n2 hb (by omega) hbN1 fun h4 r4 f4 n4 => ?_
      have := fin26 .increasing (b1 - 1 - (c.1 - a1)) _ h4 (by omega) (by omega) r4 (f3'.trans f4) n4 (by rw [if_pos hd]) (by rw [if_pos hd]) (by rw [if_pos hd])
      rw [show ((b1 - 1 - (c.1 - a1) : Nat) : Int) = (b1 : Int) - 1 - ((c.1 : Int) - a1) by omega] at this
      exact this
    · have hd : c.2 ≠ .decreasing := by intro e; rw [e] at hc3; simp [hintI] at hc3
      exact fin26 c.2 c.1 D2 h3 hcp.1 hcp.2 r3 f3' n2 (by rw [if_neg hd]) (by rw [if_neg hd]) (by rw [if_neg hd])
  cases wb with
  | false =>
    simp (disch := omega) only [↓ww, Bool.not_false]
    refine breakPatterns r1 hN1 hb hab1 hbN1 fun h2 r2 f2 n2 => ?_
    have := fin27 (l1 - 1) _ h2 (by omega) r2 (f1.trans f2) n2 (by simp) (by simp)
    rw [show ((l1 - 1 : Nat) : Int) = (l1 : Int) - 1 by omega] at this
    exact this
  | true =>
    simp (disch := omega) only [↓ww, Bool.not_true]
    exact fin27 l1 D1 h1 hl1 r1 f1 hN1 (by simp) (by simp)

theorem sort {D : Array Int} {h : AH} {Q : AV → AH → Prop} (hb : N < 140737488355328) (r : R i pre post D h) (hN : D.size = N)
    (q : ∀ h', R i pre post (D.toList.mergeSort (fun x y => decide (x ≤ y))).toArray h' → Fr [i] h h' → Q (.tuple []) h') :
    W (C 11 [SL i pre N cap]) h Q := by
  apply w11
  unfold s11
  simp (disch := omega) only [↓ww]
  refine bitsLenI (by omega) ?_
  have hl : Sort.bitsLen N ≤ 47 := bitsLen_le (m := 47) hb
  refine pdqsort hb N D h 0 N _ _ (by omega) r hN (by omega) (by omega) (by omega) fun h1 r1 f1 n1 => ?_
  have e : Sort.pdq Sort.ltInt D 0 N (Sort.bitsLen N) true true = (D.toList.mergeSort (fun x y => decide (x ≤ y))).toArray := by
    have := Sort.sortInt D.toList
    rw [Array.toArray_toList, Sort.sort, hN] at this
    rw [← this]
  rw [e] at r1
  exact q h1 r1 f1

end SortU
end Go.Proofs.YtlpbgmbiollimaaGreat.Low

namespace Go.Proofs.YtlpbgmbiollimaaGreat.Low
open Go Go.Am _root_.Go.Proofs.Tryz
namespace SortU

theorem sort_nil (h : AH) : callA prog orc 60 11 [.slice none 0 0 0] h = some (.ret (.tuple []), h) := by kernel_rfl

end SortU
end Go.Proofs.YtlpbgmbiollimaaGreat.Low
