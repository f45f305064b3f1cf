/-
  A function's code as a function of plain Lean is what the abstract machine runs.
  Conditions: none.
-/
import Derived.Test.YtlpbgmbiollimaaGreatAf
set_option linter.unusedVariables false
set_option linter.unusedSimpArgs false
namespace Go.Am
open Go

section
variable {P : Program} {orc : Orc}

theorem writeA_next {h h' : AH} {i o : Nat} {l : List AV} (e : writeA h i o l = some h') : h'.next = h.next := by
  unfold writeA at e
  split at e
  · split at e
    · injection e with e; subst e; rfl
    · simp at e
  · simp at e

theorem appendA_next {ts : List TypeId} {l : List AV} {h h' : AH} {v : AV} (e : appendA P ts l h = some (v, h')) : h.next ≤ h'.next := by
  unfold appendA at e
  repeat' split at e
  all_goals first
    | (simp only [Option.some.injEq, Prod.mk.injEq] at e; obtain ⟨-, rfl⟩ := e; first | exact Nat.le_refl _ | exact Nat.le_succ _)
    | (simp only [Option.map_eq_some_iff, Prod.mk.injEq] at e; obtain ⟨h1, hw, -, rfl⟩ := e; rw [writeA_next hw]; exact Nat.le_refl _)
    | simp at e

theorem copyA_next {ts : List TypeId} {l : List AV} {h h' : AH} {v : AV} (e : copyA P ts l h = some (v, h')) : h.next ≤ h'.next := by
  simp only [copyA] at e
  repeat' split at e
  all_goals first
    | (simp only [Option.some.injEq, Prod.mk.injEq] at e; obtain ⟨-, rfl⟩ := e; exact Nat.le_refl _)
    | (simp only [Option.map_eq_some_iff, Prod.mk.injEq] at e; obtain ⟨h1, hw, -, rfl⟩ := e; rw [writeA_next hw]; exact Nat.le_refl _)
    | simp at e

theorem deleteA_next {ts : List TypeId} {l : List AV} {h h' : AH} (e : deleteA P ts l h = some h') : h.next ≤ h'.next := by
  unfold deleteA at e
  repeat' split at e
  all_goals first
    | simp at e; done
    | (cases hk : keyOk P _ _ <;> rw [hk] at e <;> first | (simp at e; done) | (simp only [cond_true] at e; repeat' split at e) <;> first | (simp at e; done) | (injection e with e; subst e; exact Nat.le_refl _))

theorem mapPutA_next {t : TypeId} {m k v : AV} {h h' : AH} (e : mapPutA P t m k v h = some h') : h.next ≤ h'.next := by
  unfold mapPutA at e
  repeat' split at e
  all_goals first
    | simp at e; done
    | (cases hk : keyOk P _ _ <;> rw [hk] at e <;> first | (simp at e; done) | (simp only [cond_true] at e; repeat' split at e) <;> first | (simp at e; done) | (injection e with e; subst e; exact Nat.le_refl _))

theorem mapEntryA_next {t : TypeId} {m k v : AV} {h h' : AH} (e : mapEntryA P t m k h = some (v, h')) : h.next ≤ h'.next := by
  unfold mapEntryA at e
  repeat' split at e
  all_goals first
    | simp at e; done
    | (cases hk : keyOk P _ _ <;> rw [hk] at e <;> first | (simp at e; done) | (simp only [cond_true] at e; repeat' split at e) <;> first | (simp at e; done) | (simp only [Option.some.injEq, Option.map_eq_some_iff, Prod.mk.injEq] at e; first | (obtain ⟨-, rfl⟩ := e; exact Nat.le_refl _) | (obtain ⟨z, -, -, rfl⟩ := e; exact Nat.le_refl _)))

theorem entryStoreA_next {m s v : AV} {h h' : AH} (e : entryStoreA m s v h = some h') : h.next ≤ h'.next := by
  unfold entryStoreA at e
  repeat' split at e
  all_goals first
    | (simp at e; done)
    | (injection e with e; subst e; exact Nat.le_refl _)

theorem R_of_next {o : Option (AV × AH)} {a : Nx} {h' : AH} (e : R.of o = .ok a h') : ∃ v, o = some (v, h') := by
  cases o with
  | none => simp [R.of] at e
  | some p => obtain ⟨v, h⟩ := p; simp only [R.of, R.ok.injEq] at e; obtain ⟨-, rfl⟩ := e; exact ⟨v, rfl⟩
theorem R_unit_next {o : Option AH} {a : Nx} {h' : AH} (e : R.unit o = .ok a h') : o = some h' := by
  cases o with
  | none => simp [R.unit] at e
  | some p => simp only [R.unit, R.ok.injEq] at e; obtain ⟨-, rfl⟩ := e; rfl
theorem R_of_pan {o : Option (AV × AH)} {v : AV} {h' : AH} (e : R.of o = .pan v h') : False := by cases o <;> simp [R.of] at e
theorem R_unit_pan {o : Option AH} {v : AV} {h' : AH} (e : R.unit o = .pan v h') : False := by cases o <;> simp [R.unit] at e

theorem storeA_next {t : TypeId} {h h' : AH} {i o : Nat} {v : AV} (e : storeA P t h i o v = some h') : h.next ≤ h'.next := by
  unfold storeA at e
  split at e
  · rw [writeA_next e]; exact Nat.le_refl _
  · simp at e

theorem effA_next {ev : Operand → Option AV} {h h' : AH} {op : Op} {a : Nx} (e : effA P ev h op = .ok a h') : h.next ≤ h'.next := by
  unfold effA at e
  split at e
  all_goals (try (split at e))
  all_goals first
    | (simp at e; done)
    | (have e1 := R_unit_next e; first | exact storeA_next e1 | exact mapPutA_next e1 | exact entryStoreA_next e1)
    | (obtain ⟨v, e1⟩ := R_of_next e; first | exact mapEntryA_next e1 | exact appendA_next e1 | exact copyA_next e1)
    | (simp only [R.ok.injEq] at e; obtain ⟨-, rfl⟩ := e; exact Nat.le_refl _)
    | (split at e
       · rename_i h1 hd; simp only [R.ok.injEq] at e; obtain ⟨-, rfl⟩ := e; exact deleteA_next hd
       · simp at e)

theorem effA_next_pan {ev : Operand → Option AV} {h h' : AH} {op : Op} {v : AV} (e : effA P ev h op = .pan v h') : h' = h := by
  unfold effA at e
  split at e
  all_goals (try (split at e))
  all_goals first
    | (simp at e; done)
    | exact (R_unit_pan e).elim
    | exact (R_of_pan e).elim
    | (simp only [R.pan.injEq] at e; exact e.2.symm)
    | (split at e <;> simp at e)

theorem opA_next {ev : Operand → Option AV} {h h' : AH} {op : Op} {a : Nx} (e : opA P ev h op = .ok a h') : h.next ≤ h'.next := by
  unfold opA at e
  split at e
  · split at e
    · simp only [R.ok.injEq] at e; obtain ⟨-, rfl⟩ := e; exact Nat.le_refl _
    · simp at e
  · split at e
    · simp only [R.ok.injEq] at e; obtain ⟨-, rfl⟩ := e; exact Nat.le_refl _
    · simp at e
  · split at e
    · simp only [R.ok.injEq] at e; obtain ⟨-, rfl⟩ := e; exact Nat.le_succ _
    · simp at e
  · exact effA_next e

theorem opA_pan {ev : Operand → Option AV} {h h' : AH} {op : Op} {v : AV} (e : opA P ev h op = .pan v h') : h' = h := by
  unfold opA at e
  split at e
  · split at e <;> simp at e
  · split at e <;> simp at e
  · split at e <;> simp at e
  · exact effA_next_pan e

def OrcNext (orc : Orc) : Prop := ∀ f g, orc f = some g → ∀ l h v h', g l h = some (v, h') → h.next ≤ h'.next

/-! ### The numbers grow -/

def NextAt (P : Program) (orc : Orc) (n : Nat) : Prop :=
  (∀ ops os st x st', opsA P orc n ops os st = some (x, st') → st.heap.next ≤ st'.heap.next) ∧
  (∀ o st x st', oneA P orc n o st = some (x, st') → st.heap.next ≤ st'.heap.next) ∧
  (∀ ops pre is st tr x st', drawA P orc n ops pre is st = some (tr, x, st') → st.heap.next ≤ st'.heap.next) ∧
  (∀ c st x st', codeA P orc n c st = some (x, st') → st.heap.next ≤ st'.heap.next) ∧
  (∀ f l h r h', callA P orc n f l h = some (r, h') → h.next ≤ h'.next) ∧
  (∀ fn t ds m h r h', leaveA P orc n fn t ds m h = some (r, h') → h.next ≤ h'.next) ∧
  (∀ f l rc h r h', lateA P orc n f l rc h = some (r, h') → h.next ≤ h'.next)

theorem next_at (ho : OrcNext orc) : ∀ n, NextAt P orc n
  | 0 => by
    refine ⟨?_, ?_, ?_, ?_, ?_, ?_, ?_⟩ <;> intros <;> simp_all [opsA, oneA, drawA, codeA, callA, leaveA, lateA]
  | n + 1 => by
    obtain ⟨h1, h2, h3, h4, h5, h6, h7⟩ := next_at ho n
    refine ⟨?_, ?_, ?_, ?_, ?_, ?_, ?_⟩
    · intro ops os st x st' h
      cases os with
      | nil => simp only [opsA, Option.some.injEq, Prod.mk.injEq] at h; obtain ⟨-, rfl⟩ := h; exact Nat.le_refl _
      | cons o os =>
        rw [opsA] at h
        split at h
        · simp at h
        · have := h1 _ _ _ _ _ h; exact this
        · split at h
          · rename_i s1 ho1
            exact Nat.le_trans (h2 _ _ _ _ ho1) (h1 _ _ _ _ _ h)
          · rename_i r' hr
            exact h2 _ _ _ _ h
    · intro o st x st' h
      rw [oneA] at h
      split at h
      · rename_i v h' e; simp only [Option.some.injEq, Prod.mk.injEq] at h; obtain ⟨-, rfl⟩ := h; exact opA_next e
      · rename_i h' e; simp only [Option.some.injEq, Prod.mk.injEq] at h; obtain ⟨-, rfl⟩ := h; exact opA_next e
      · rename_i h' e; simp only [Option.some.injEq, Prod.mk.injEq] at h; obtain ⟨-, rfl⟩ := h; exact opA_next e
      · rename_i h' e
        split at h
        · simp at h
        · simp only [Option.some.injEq, Prod.mk.injEq] at h; obtain ⟨-, rfl⟩ := h; exact opA_next e
        · simp only [Option.some.injEq, Prod.mk.injEq] at h; obtain ⟨-, rfl⟩ := h; exact opA_next e
      · rename_i f l h' e
        split at h
        · rename_i v h2' hc; simp only [Option.some.injEq, Prod.mk.injEq] at h; obtain ⟨-, rfl⟩ := h; exact Nat.le_trans (opA_next e) (h5 _ _ _ _ _ hc)
        · rename_i v h2' hc; simp only [Option.some.injEq, Prod.mk.injEq] at h; obtain ⟨-, rfl⟩ := h; exact Nat.le_trans (opA_next e) (h5 _ _ _ _ _ hc)
        · simp at h
      · rename_i v h' e; simp only [Option.some.injEq, Prod.mk.injEq] at h; obtain ⟨-, rfl⟩ := h; rw [opA_pan e]; exact Nat.le_refl _
      · simp at h
    · intro ops pre is st tr x st' h
      cases is with
      | nil => simp only [drawA, Option.some.injEq, Prod.mk.injEq] at h; obtain ⟨-, -, rfl⟩ := h; exact Nat.le_refl _
      | cons i is =>
        rw [drawA] at h
        split at h
        · simp at h
        · split at h
          · simp at h
          · split at h
            · rename_i tr' r' hd
              obtain ⟨x', s'⟩ := r'
              simp only [Option.some.injEq, Prod.mk.injEq] at h; obtain ⟨-, rfl, rfl⟩ := h
              have := h3 _ _ _ _ _ _ _ hd; exact this
            · simp at h
          · split at h
            · rename_i s1 ho1
              cases hb : Nat.ble st.heap.next s1.heap.next with
              | false => rw [hb] at h; simp at h
              | true =>
                rw [hb] at h
                simp only [cond_true] at h
                split at h
                · rename_i tr' r' hd
                  obtain ⟨x', s'⟩ := r'
                  simp only [Option.some.injEq, Prod.mk.injEq] at h; obtain ⟨-, rfl, rfl⟩ := h
                  exact Nat.le_trans (h2 _ _ _ _ ho1) (h3 _ _ _ _ _ _ _ hd)
                · simp at h
            · rename_i v s1 ho1
              cases hb : is.all (fun j => ahead pre i j) with
              | false => rw [hb] at h; simp at h
              | true =>
                rw [hb] at h
                simp only [cond_true, Option.some.injEq, Prod.mk.injEq] at h
                obtain ⟨-, -, rfl⟩ := h
                exact h2 _ _ _ _ ho1
            · simp at h
    · intro c st x st' h
      cases c with
      | region id ops draw =>
        rw [codeA] at h
        cases draw with
        | false => exact h1 _ _ _ _ _ h
        | true =>
          simp only [cond_true] at h
          cases hk : (drawInfo P ops).ok with
          | false => rw [hk] at h; simp at h
          | true =>
            rw [hk] at h
            simp only [cond_true] at h
            split at h
            · rename_i tr r hd
              obtain ⟨x', s'⟩ := r
              cases hc : confOk ops tr (drawInfo P ops).conf (drawInfo P ops).made with
              | false => rw [hc] at h; simp at h
              | true => rw [hc] at h; simp only [cond_true, Option.some.injEq, Prod.mk.injEq] at h; obtain ⟨rfl, rfl⟩ := h; exact h3 _ _ _ _ _ _ _ hd
            · simp at h
      | seq a b =>
        rw [codeA] at h
        split at h
        · rename_i s1 ha; exact Nat.le_trans (h4 _ _ _ _ ha) (h4 _ _ _ _ h)
        · exact h4 _ _ _ _ h
      | cond c a b =>
        rw [codeA] at h
        split at h
        · exact h4 _ _ _ _ h
        · simp at h
      | block id b =>
        rw [codeA] at h
        split at h
        · rename_i s1 ha; simp only [Option.some.injEq, Prod.mk.injEq] at h; obtain ⟨-, rfl⟩ := h; exact h4 _ _ _ _ ha
        · exact h4 _ _ _ _ h
      | loop b =>
        rw [codeA] at h
        split at h
        · rename_i s1 ha; exact Nat.le_trans (h4 _ _ _ _ ha) (h4 _ _ _ _ h)
        · exact h4 _ _ _ _ h
      | skip => simp only [codeA, Option.some.injEq, Prod.mk.injEq] at h; obtain ⟨-, rfl⟩ := h; exact Nat.le_refl _
      | exit id => simp only [codeA, Option.some.injEq, Prod.mk.injEq] at h; obtain ⟨-, rfl⟩ := h; exact Nat.le_refl _
      | ret => simp only [codeA, Option.some.injEq, Prod.mk.injEq] at h; obtain ⟨-, rfl⟩ := h; exact Nat.le_refl _
      | _ => simp [codeA] at h
    · intro f l h r h' hr
      rw [callA] at hr
      split at hr
      · rename_i g hg
        simp only [Option.map_eq_some_iff, Prod.mk.injEq] at hr
        obtain ⟨⟨v, h1'⟩, hgv, -, rfl⟩ := hr
        exact ho f g hg l h v h1' hgv
      · split at hr
        · simp at hr
        · split at hr
          · simp at hr
          · split at hr
            · rename_i s1 hc; exact Nat.le_trans (h4 _ _ _ _ hc) (h6 _ _ _ _ _ _ _ hr)
            · rename_i s1 hc; exact Nat.le_trans (h4 _ _ _ _ hc) (h6 _ _ _ _ _ _ _ hr)
            · rename_i s1 hc; exact Nat.le_trans (h4 _ _ _ _ hc) (h6 _ _ _ _ _ _ _ hr)
            · simp at hr
    · intro fn t ds m h r h' hr
      cases ds with
      | nil =>
        cases m with
        | none =>
          simp only [leaveA, Option.map_eq_some_iff, Prod.mk.injEq] at hr
          obtain ⟨v, -, -, rfl⟩ := hr
          exact Nat.le_refl _
        | some v => simp only [leaveA, Option.some.injEq, Prod.mk.injEq] at hr; obtain ⟨-, rfl⟩ := hr; exact Nat.le_refl _
      | cons d ds =>
        obtain ⟨f, l⟩ := d
        cases m with
        | none =>
          rw [leaveA] at hr
          split at hr
          · rename_i h1' hl; exact Nat.le_trans (h7 _ _ _ _ _ _ hl) (h6 _ _ _ _ _ _ _ hr)
          · rename_i h1' hl; exact Nat.le_trans (h7 _ _ _ _ _ _ hl) (h6 _ _ _ _ _ _ _ hr)
          · simp at hr
        | some v =>
          rw [leaveA] at hr
          split at hr
          · rename_i h1' hl; exact Nat.le_trans (h7 _ _ _ _ _ _ hl) (h6 _ _ _ _ _ _ _ hr)
          · rename_i h1' hl; exact Nat.le_trans (h7 _ _ _ _ _ _ hl) (h6 _ _ _ _ _ _ _ hr)
          · simp at hr
    · intro f l rc h r h' hr
      rw [lateA] at hr
      split at hr
      · simp at hr
      · split at hr
        · simp at hr
        · split at hr
          · rename_i s1 hc
            split at hr
            · simp only [Option.some.injEq, Prod.mk.injEq] at hr; obtain ⟨-, rfl⟩ := hr; exact h4 _ _ _ _ hc
            · simp at hr
          · rename_i s1 hc
            split at hr
            · simp only [Option.some.injEq, Prod.mk.injEq] at hr; obtain ⟨-, rfl⟩ := hr; exact h4 _ _ _ _ hc
            · simp at hr
          · simp at hr

theorem callX_next (ho : OrcNext orc) {f : FuncId} {l : List AV} {h h' : AH} {r : CR} (e : callX P orc f l h = some (r, h')) : h.next ≤ h'.next := by
  obtain ⟨n, hn⟩ := of_callX e
  exact (next_at ho n).2.2.2.2.1 _ _ _ _ _ hn

/-! ### Temporaries that are not written -/

def asgOps (ops : List Oper) : List Tmp := ops.filterMap (·.dst)

def asg : Code → List Tmp
  | .region _ ops _ => asgOps ops.toList
  | .seq a b => asg a ++ asg b
  | .cond _ a b => asg a ++ asg b
  | .block _ b => asg b
  | .loop b => asg b
  | _ => []

theorem Tr.get_del {α : Type} (t : Tr α) (i j : Nat) : (t.del i).get j = if i = j then none else t.get j := by
  split
  · rename_i h; subst h; exact Tr.get_del_eq _ _
  · rename_i h; exact Tr.get_del_ne _ h

theorem putT_keep {nt : Nat} {t : Tr AV} {dst : Option Tmp} {v : AV} {i : Tmp} (h : dst ≠ some i) : (putT nt t dst v).get i = t.get i := by
  cases dst with
  | none => rfl
  | some d =>
    have hne : d ≠ i := fun e => h (by rw [e])
    simp only [putT]
    cases Nat.blt d nt
    · exact Tr.get_del_ne _ hne
    · exact Tr.get_put_ne _ _ hne

theorem oneA_keep {n : Nat} {o : Oper} {st st' : ASt} {x : AX} (h : oneA P orc n o st = some (x, st')) : st'.nt = st.nt ∧ ∀ i, o.dst ≠ some i → st'.tmps.get i = st.tmps.get i := by
  cases n with
  | zero => simp [oneA] at h
  | succ n =>
    rw [oneA] at h
    split at h
    · simp only [Option.some.injEq, Prod.mk.injEq] at h; obtain ⟨-, rfl⟩ := h; exact ⟨rfl, fun i hi => putT_keep hi⟩
    · simp only [Option.some.injEq, Prod.mk.injEq] at h; obtain ⟨-, rfl⟩ := h; exact ⟨rfl, fun i hi => putT_keep hi⟩
    · simp only [Option.some.injEq, Prod.mk.injEq] at h; obtain ⟨-, rfl⟩ := h; exact ⟨rfl, fun i hi => putT_keep hi⟩
    · split at h
      · simp at h
      · simp only [Option.some.injEq, Prod.mk.injEq] at h; obtain ⟨-, rfl⟩ := h; exact ⟨rfl, fun i hi => putT_keep hi⟩
      · simp only [Option.some.injEq, Prod.mk.injEq] at h; obtain ⟨-, rfl⟩ := h; exact ⟨rfl, fun i hi => putT_keep hi⟩
    · split at h
      · simp only [Option.some.injEq, Prod.mk.injEq] at h; obtain ⟨-, rfl⟩ := h; exact ⟨rfl, fun i hi => putT_keep hi⟩
      · simp only [Option.some.injEq, Prod.mk.injEq] at h; obtain ⟨-, rfl⟩ := h; exact ⟨rfl, fun i hi => rfl⟩
      · simp at h
    · simp only [Option.some.injEq, Prod.mk.injEq] at h; obtain ⟨-, rfl⟩ := h; exact ⟨rfl, fun i hi => rfl⟩
    · simp at h

theorem opsA_tmps : ∀ {n : Nat} {ops : Array Oper} {os : List Oper} {st st' : ASt} {x : AX}, opsA P orc n ops os st = some (x, st') → st'.nt = st.nt ∧ ∀ i, i ∉ asgOps os → st'.tmps.get i = st.tmps.get i
  | 0, _, _, _, _, _, h => by simp [opsA] at h
  | n + 1, ops, [], st, st', x, h => by
    simp only [opsA, Option.some.injEq, Prod.mk.injEq] at h; obtain ⟨-, rfl⟩ := h; exact ⟨rfl, fun _ _ => rfl⟩
  | n + 1, ops, o :: os, st, st', x, h => by
    have hd : ∀ i, i ∉ asgOps (o :: os) → o.dst ≠ some i ∧ i ∉ asgOps os := by
      intro i hi
      constructor
      · intro e; exact hi (by simp [asgOps, e])
      · intro e; exact hi (by
          simp only [asgOps, List.mem_filterMap] at e ⊢
          obtain ⟨a, ha, hb⟩ := e
          exact ⟨a, List.mem_cons_of_mem _ ha, hb⟩)
    rw [opsA] at h
    split at h
    · simp at h
    · obtain ⟨h1, h2⟩ := opsA_tmps h
      exact ⟨h1, fun i hi => by rw [h2 i (hd i hi).2]; exact putT_keep (hd i hi).1⟩
    · split at h
      · rename_i s1 ho1
        obtain ⟨h1, h2⟩ := opsA_tmps h
        obtain ⟨h3, h4⟩ := oneA_keep ho1
        exact ⟨h1.trans h3, fun i hi => by rw [h2 i (hd i hi).2, h4 i (hd i hi).1]⟩
      · obtain ⟨h3, h4⟩ := oneA_keep h
        exact ⟨h3, fun i hi => h4 i (hd i hi).1⟩

theorem drawA_tmps : ∀ {n : Nat} {ops : Array Oper} {pre is : List Nat} {st st' : ASt} {tr : List Stp} {x : AX}, drawA P orc n ops pre is st = some (tr, x, st') → st'.nt = st.nt ∧ ∀ i, i ∉ asgOps ops.toList → st'.tmps.get i = st.tmps.get i
  | 0, _, _, _, _, _, _, _, h => by simp [drawA] at h
  | n + 1, ops, pre, [], st, st', tr, x, h => by
    simp only [drawA, Option.some.injEq, Prod.mk.injEq] at h; obtain ⟨-, -, rfl⟩ := h; exact ⟨rfl, fun _ _ => rfl⟩
  | n + 1, ops, pre, i :: is, st, st', tr, x, h => by
    rw [drawA] at h
    split at h
    · simp at h
    · rename_i o ho
      have hmem : o ∈ ops.toList := by
        rw [← Array.getElem?_toList] at ho
        exact List.mem_of_getElem? ho
      have hd : ∀ j, j ∉ asgOps ops.toList → o.dst ≠ some j := by
        intro j hj e
        exact hj (by simp only [asgOps, List.mem_filterMap]; exact ⟨o, hmem, e⟩)
      split at h
      · simp at h
      · split at h
        · rename_i tr' r' hdr
          obtain ⟨x', s'⟩ := r'
          simp only [Option.some.injEq, Prod.mk.injEq] at h; obtain ⟨-, rfl, rfl⟩ := h
          obtain ⟨h1, h2⟩ := drawA_tmps hdr
          exact ⟨h1, fun j hj => by rw [h2 j hj]; exact putT_keep (hd j hj)⟩
        · simp at h
      · split at h
        · rename_i s1 ho1
          cases hb : Nat.ble st.heap.next s1.heap.next with
          | false => rw [hb] at h; simp at h
          | true =>
            rw [hb] at h
            simp only [cond_true] at h
            split at h
            · rename_i tr' r' hdr
              obtain ⟨x', s'⟩ := r'
              simp only [Option.some.injEq, Prod.mk.injEq] at h; obtain ⟨-, rfl, rfl⟩ := h
              obtain ⟨h1, h2⟩ := drawA_tmps hdr
              obtain ⟨h3, h4⟩ := oneA_keep ho1
              exact ⟨h1.trans h3, fun j hj => by rw [h2 j hj, h4 j (hd j hj)]⟩
            · simp at h
        · rename_i v s1 ho1
          cases hb : is.all (fun j => ahead pre i j) with
          | false => rw [hb] at h; simp at h
          | true =>
            rw [hb] at h
            simp only [cond_true, Option.some.injEq, Prod.mk.injEq] at h
            obtain ⟨-, -, rfl⟩ := h
            obtain ⟨h3, h4⟩ := oneA_keep ho1
            exact ⟨h3, fun j hj => h4 j (hd j hj)⟩
        · simp at h

theorem codeA_tmps : ∀ {n : Nat} {c : Code} {st st' : ASt} {x : AX}, codeA P orc n c st = some (x, st') → st'.nt = st.nt ∧ ∀ i, i ∉ asg c → st'.tmps.get i = st.tmps.get i
  | 0, _, _, _, _, h => by simp [codeA] at h
  | n + 1, c, st, st', x, h => by
    cases c with
    | region id ops draw =>
      rw [codeA] at h
      cases draw with
      | false => exact opsA_tmps h
      | true =>
        simp only [cond_true] at h
        cases hk : (drawInfo P ops).ok with
        | false => rw [hk] at h; simp at h
        | true =>
          rw [hk] at h
          simp only [cond_true] at h
          split at h
          · rename_i tr r hd
            obtain ⟨x', s'⟩ := r
            cases hc : confOk ops tr (drawInfo P ops).conf (drawInfo P ops).made with
            | false => rw [hc] at h; simp at h
            | true => rw [hc] at h; simp only [cond_true, Option.some.injEq, Prod.mk.injEq] at h; obtain ⟨rfl, rfl⟩ := h; exact drawA_tmps hd
          · simp at h
    | seq a b =>
      rw [codeA] at h
      split at h
      · rename_i s1 ha
        obtain ⟨h1, h2⟩ := codeA_tmps ha
        obtain ⟨h3, h4⟩ := codeA_tmps h
        refine ⟨h3.trans h1, fun i hi => ?_⟩
        simp only [asg, List.mem_append, not_or] at hi
        rw [h4 i hi.2, h2 i hi.1]
      · obtain ⟨h1, h2⟩ := codeA_tmps h
        refine ⟨h1, fun i hi => ?_⟩
        simp only [asg, List.mem_append, not_or] at hi
        exact h2 i hi.1
    | cond c a b =>
      rw [codeA] at h
      split at h
      · rename_i t ht
        obtain ⟨h1, h2⟩ := codeA_tmps h
        refine ⟨h1, fun i hi => ?_⟩
        simp only [asg, List.mem_append, not_or] at hi
        refine h2 i ?_
        cases t
        · exact hi.2
        · exact hi.1
      · simp at h
    | block id b =>
      rw [codeA] at h
      split at h
      · rename_i s1 ha; simp only [Option.some.injEq, Prod.mk.injEq] at h; obtain ⟨-, rfl⟩ := h; have := codeA_tmps ha; exact this
      · have := codeA_tmps h; exact this
    | loop b =>
      rw [codeA] at h
      split at h
      · rename_i s1 ha
        obtain ⟨h1, h2⟩ := codeA_tmps ha
        obtain ⟨h3, h4⟩ := codeA_tmps h
        exact ⟨h3.trans h1, fun i hi => by rw [h4 i hi]; exact h2 i hi⟩
      · have := codeA_tmps h; exact this
    | skip => simp only [codeA, Option.some.injEq, Prod.mk.injEq] at h; obtain ⟨-, rfl⟩ := h; exact ⟨rfl, fun _ _ => rfl⟩
    | exit id => simp only [codeA, Option.some.injEq, Prod.mk.injEq] at h; obtain ⟨-, rfl⟩ := h; exact ⟨rfl, fun _ _ => rfl⟩
    | ret => simp only [codeA, Option.some.injEq, Prod.mk.injEq] at h; obtain ⟨-, rfl⟩ := h; exact ⟨rfl, fun _ _ => rfl⟩
    | _ => simp [codeA] at h

end
end Go.Am

namespace Go.Am
open Go

/-! ### Notes on a code: nothing is trusted of them -/

structure DA where
  order : List Nat
  conf : List (Nat × Nat)
  made : List (Nat × Nat)
  pn : List Nat

inductive An where
  | nil
  | two (a b : An)
  | join (L : List Tmp) (a b : An)
  | one (a : An)
  | bjoin (L : List Tmp) (a : An)
  | loop (L : List Tmp) (X : List (Nat × List Tmp)) (a : An)
  | draw (d : DA)

structure KK (α : Type) where
  nrm : Tr AV → M α
  ext : List (Nat × (Tr AV → M α))
  rs : List ResultVar
  ret : AV → M α

section
variable {α : Type}

def findX : Nat → List (Nat × (Tr AV → M α)) → Option (Tr AV → M α)
  | _, [] => none
  | i, (j, k) :: r => bif Nat.beq j i then some k else findX i r

def goX (i : Nat) (l : List (Nat × (Tr AV → M α))) (t : Tr AV) : M α := match findX i l with
  | some k => k t
  | none => no

def pk (t : Tr AV) : List Tmp → Option (List AV)
  | [] => some []
  | i :: is => match t.get i, pk t is with
    | some v, some vs => some (v :: vs)
    | _, _ => none

def pkM (t : Tr AV) (L : List Tmp) (k : List AV → M α) : M α := match pk t L with
  | some vs => k vs
  | none => no

def delT : List Tmp → Tr AV → Tr AV
  | [], t => t
  | i :: is, t => delT is (t.del i)

def unL : List Tmp → List AV → Tr AV → (Tr AV → M α) → M α
  | [], _, t, k => k t
  | i :: is, vs, t, k => un vs fun v r => unL is r (t.put i v) k

/-- Guards. -/
def gv (g : AV) (w : Bool) (x : Option AV) : Option AV := match g with
  | .bool b => bif b == w then x else some undefA
  | _ => some undefA
def gm (g : AV) (w : Bool) (m : M AV) : M AV := match g with
  | .bool b => bif b == w then m else rt undefA
  | _ => rt undefA
def gon (g : AV) (w : Bool) : Bool := match g with
  | .bool b => b == w
  | _ => false

/-! ### What is looked at behind a drawn region -/

structure T1 where
  i : Nat
  on : Bool
  h0 : AH
  h1 : AH
  rid : Option Nat

def cf (on : Bool) (r : Option Nat) (h0 h1 : AH) : Bool := !on || (match r with
  | some r => beqO (h0.get r) (h1.get r)
  | none => true)
def mf (on : Bool) (r : Option Nat) (h0 : AH) : Bool := !on || (match r with
  | some r => !Nat.beq r h0.next
  | none => true)

def findT : Nat → List T1 → Option T1
  | _, [] => none
  | i, a :: r => bif Nat.beq a.i i then some a else findT i r

def confD : List (Nat × Nat) → List T1 → M α → M α
  | [], _, m => m
  | (i, e) :: xs, acc, m => match findT i acc, findT e acc with
    | some a, some b => chk (cf b.on a.rid b.h0 b.h1) (confD xs acc m)
    | _, _ => confD xs acc m
def madeD : List (Nat × Nat) → List T1 → M α → M α
  | [], _, m => m
  | (i, e) :: xs, acc, m => match findT i acc, findT e acc with
    | some a, some b => chk (mf b.on a.rid b.h0) (madeD xs acc m)
    | _, _ => madeD xs acc m

def rdP (x : AV) : Option Nat := match x with
  | .ptr (some (i, _)) => some i
  | _ => none
def rdM (x : AV) : Option Nat := match x with
  | .map r => r
  | _ => none
def rdS (x : AV) : Option Nat := match x with
  | .slice (some (i, _)) _ _ _ => some i
  | _ => none

def readD (ev : Operand → Option AV) : Op → Option Nat
  | .slice _ x _ _ _ => match ev x with
    | some v => rdP v
    | none => none
  | .load _ a => match ev a with
    | some v => rdP v
    | none => none
  | .lookup _ m _ _ => match ev m with
    | some v => rdM v
    | none => none
  | .convert _ _ x => match ev x with
    | some v => rdS v
    | none => none
  | .call { callee := .builtin .len, args, .. } => match args.toList with
    | [x] => match ev x with
      | some v => rdM v
      | none => none
    | _ => none
  | _ => none

theorem readD_eq (ev : Operand → Option AV) (op : Op) : readD ev op = readId ev op := by
  cases op with
  | slice t x lo hi mx =>
    simp only [readD, readId]
    cases ev x with
    | none => rfl
    | some v =>
      cases v <;> try rfl
      rename_i a
      rcases a with _ | ⟨i, o⟩ <;> rfl
  | load t x =>
    simp only [readD, readId]
    cases ev x with
    | none => rfl
    | some v =>
      cases v <;> try rfl
      rename_i a
      rcases a with _ | ⟨i, o⟩ <;> rfl
  | lookup t x k ok =>
    simp only [readD, readId]
    cases ev x with
    | none => rfl
    | some v => cases v <;> rfl
  | convert s d x =>
    simp only [readD, readId]
    cases ev x with
    | none => rfl
    | some v =>
      cases v <;> try rfl
      rename_i a _ _ _
      rcases a with _ | ⟨i, o⟩ <;> rfl
  | call c =>
    obtain ⟨callee, args, ats⟩ := c
    cases callee with
    | builtin b =>
      cases b <;> try rfl
      simp only [readD, readId]
      cases args.toList with
      | nil => rfl
      | cons x r =>
        cases r with
        | cons _ _ => rfl
        | nil =>
          show (match ev x with | some v => rdM v | none => none) = _
          simp only []
          cases ev x with
          | none => rfl
          | some v => cases v <;> rfl
    | _ => rfl
  | _ => rfl

/-! ### The codes -/

variable (P : Program) (orc : Orc)

/-- Are all that it looks at there? -/
def evOk (t : Tr AV) (op : Op) : Bool := op.operands.toList.all fun x => (evalA t x).isSome

noncomputable def oneD (t : Tr AV) (op : Op) (k : AV → M α) : M α := bif evOk t op then (match pureD P (evalA t) op with
  | some x => lt x k
  | none => bd (effD P orc (evalA t) op) k) else no

noncomputable def oneG (g : AV) (w : Bool) (t : Tr AV) (op : Op) (k : AV → M α) : M α := bif evOk t op then (match pureD P (evalA t) op with
  | some x => lt (gv g w x) k
  | none => bd (gm g w (effD P orc (evalA t) op)) k) else no

noncomputable def opsD (nt : Nat) (ops : Array Oper) : List Oper → Tr AV → (Tr AV → M α) → M α
  | [], t, k => k t
  | o :: os, t, k => match o.guard with
    | none => oneD P orc t o.op fun v => opsD nt ops os (putT nt t o.dst v) k
    | some (j, w) => match (ops[j]?).bind (·.dst) with
      | some d => match t.get d with
        | some g => oneG P orc g w t o.op fun v => opsD nt ops os (putT nt t o.dst v) k
        | none => no
      | none => no

/-- The heap ahead of and behind an operation, where that is looked at. -/
def ghB (b : Bool) (k : AH → M α) : M α := bif b then gh k else k AH.empty

/-- Is it looked at what the heap was ahead of this operation, and behind it? -/
def needD (d : DA) (i : Nat) : Bool := d.conf.any (fun x => Nat.beq x.2 i) || d.made.any (fun x => Nat.beq x.2 i)

noncomputable def drawD (nt : Nat) (ops : Array Oper) (d : DA) : List Nat → Tr AV → List T1 → (Tr AV → M α) → M α
  | [], t, acc, k => confD d.conf acc (madeD d.made acc (k t))
  | i :: is, t, acc, k => match ops[i]? with
    | none => no
    | some o => bif evOk t o.op then (match o.guard with
      | none => ghB (needD d i) fun h0 => (match pureD P (evalA t) o.op with
        | some x => lt x
        | none => (bif d.conf.isEmpty && d.made.isEmpty && d.pn.contains i then bd else bq) (effD P orc (evalA t) o.op)) fun v =>
          ghB (needD d i) fun h1 => drawD nt ops d is (putT nt t o.dst v) (acc ++ [T1.mk i true h0 h1 (readD (evalA t) o.op)]) k
      | some (j, w) => match (ops[j]?).bind (·.dst) with
        | some dd => match t.get dd with
          | some g => ghB (needD d i) fun h0 => (match pureD P (evalA t) o.op with
            | some x => lt (gv g w x)
            | none => (bif d.conf.isEmpty && d.made.isEmpty && d.pn.contains i then bd else bq) (gm g w (effD P orc (evalA t) o.op))) fun v =>
              ghB (needD d i) fun h1 => drawD nt ops d is (putT nt t o.dst v) (acc ++ [T1.mk i (gon g w) h0 h1 (bif gon g w then readD (evalA t) o.op else none)]) k
          | none => no
        | none => no) else no

noncomputable def resK (t : Tr AV) : List ResultVar → List AV → (List AV → M α) → M α
  | [], acc, k => k acc.reverse
  | .tmp i :: rs, acc, k => match t.get i with
    | some v => resK t rs (v :: acc) k
    | none => no
  | .cell a ty :: rs, acc, k => match P.underlying ty, tsz P ty, t.get a with
    | some d, some n, some p => bd (bif isAggD d then ldN n p else ld p) fun v => resK t rs (v :: acc) k
    | _, _, _ => no
end

noncomputable def den (P : Program) (orc : Orc) (nt : Nat) : Code → An → (α : Type) → Tr AV → KK α → M α
  | .skip, _, _, t, K => K.nrm t
  | .region _ ops false, _, _, t, K => opsD P orc nt ops ops.toList t K.nrm
  | .region _ ops true, .draw d, _, t, K => drawD P orc nt ops d d.order t [] K.nrm
  | .seq a b, .two x y, α, t, K => den P orc nt a x α t { K with nrm := fun t' => den P orc nt b y α t' K }
  | .seq a b, .join L x y, α, t, K => jn (fun vs => unL L vs (delT (asg a) t) fun t' => den P orc nt b y α t' K) fun k => den P orc nt a x α t { K with nrm := fun t' => pkM t' L k }
  | .cond c a b, .two x y, α, t, K => match evalA t c with
    | some v => cn v (den P orc nt a x α t K) (den P orc nt b y α t K)
    | none => no
  | .block id b, .one x, α, t, K => den P orc nt b x α t { K with ext := (id, K.nrm) :: K.ext }
  | .block id b, .bjoin L x, α, t, K => jn (fun vs => unL L vs (delT (asg b) t) K.nrm) fun k => den P orc nt b x α t { K with nrm := fun t' => pkM t' L k, ext := (id, fun t' => pkM t' L k) :: K.ext }
  | .loop b, .loop L X x, α, t, K => pkM t L fun vs =>
      bd (lp (fun vs => unL L vs (delT (asg b) t) fun t' => den P orc nt b x Go1 t' {
        nrm := fun t' => pkM t' L fun vs => rt (.again vs)
        ext := X.map fun y => (y.1, fun t' => pkM t' y.2 fun vs => rt (.out y.1 vs))
        rs := K.rs
        ret := fun v => rt (.done v) }) vs) fun r =>
      ou r K.ret (X.map fun y => (y.1, fun vs => unL y.2 vs (delT (asg b) t) (goX y.1 K.ext)))
  | .exit id, _, _, t, K => goX id K.ext t
  | .ret, _, _, t, K => resK P t K.rs [] fun vs => K.ret (tupA vs)
  | _, _, _, _, _ => no

/-- A function's body, where nothing is deferred. -/
noncomputable def denF (P : Program) (orc : Orc) (fn : Func) (c : Code) (x : An) (l : List AV) : M AV :=
  den P orc fn.ntmps c x AV (initT 0 l .nil) {
    nrm := fun t => resK P t fn.results.toList [] fun vs => rt (tupA vs)
    ext := []
    rs := fn.results.toList
    ret := rt }

/-! ### The notes on drawn regions are looked at once -/

def tailOk (pre : List Nat) (i : Nat) : List Nat → Bool
  | [] => true
  | j :: js => bif Nat.beq j i then js.all (fun m => ahead pre i m) && tailOk pre i js else tailOk pre i js

def beqP : List (Nat × Nat) → List (Nat × Nat) → Bool
  | [], [] => true
  | (a, b) :: x, (c, d) :: y => Nat.beq a c && Nat.beq b d && beqP x y
  | _, _ => false
def beqN : List Nat → List Nat → Bool
  | [], [] => true
  | a :: x, c :: y => Nat.beq a c && beqN x y
  | _, _ => false

def drOk (P : Program) (ops : Array Oper) (d : DA) (I : DI) : Bool :=
  I.ok && beqN I.order d.order && beqP I.conf d.conf && beqP I.made d.made && d.pn.all (fun i => tailOk (Region.before ops).toList i d.order)

def anOk (P : Program) : Code → An → Bool
  | .region _ ops true, .draw d => drOk P ops d (drawInfo P ops)
  | .seq a b, .two x y => anOk P a x && anOk P b y
  | .seq a b, .join _ x y => anOk P a x && anOk P b y
  | .cond _ a b, .two x y => anOk P a x && anOk P b y
  | .block _ b, .one x => anOk P b x
  | .block _ b, .bjoin _ x => anOk P b x
  | .loop b, .loop _ _ x => anOk P b x
  | _, _ => true

end Go.Am

namespace Go.Am
open Go

/-! ### Temporaries: fewer of them -/

def Sub (t s : Tr AV) : Prop := ∀ i v, t.get i = some v → s.get i = some v

theorem Sub.refl (t : Tr AV) : Sub t t := fun _ _ h => h
theorem Sub.putT {t s : Tr AV} (h : Sub t s) (nt : Nat) (dst : Option Tmp) (v : AV) : Sub (putT nt t dst v) (putT nt s dst v) := by
  intro i w hw
  cases dst with
  | none => exact h _ _ hw
  | some d =>
    simp only [Am.putT] at hw ⊢
    cases hb : Nat.blt d nt
    · rw [hb] at hw
      simp only [cond_false] at hw ⊢
      rw [Tr.get_del] at hw ⊢
      split at hw
      · simp at hw
      · rename_i hne; rw [if_neg hne]; exact h _ _ hw
    · rw [hb] at hw
      simp only [cond_true] at hw ⊢
      rw [Tr.get_put] at hw ⊢
      split at hw
      · rename_i he; rw [if_pos he]; exact hw
      · rename_i hne; rw [if_neg hne]; exact h _ _ hw

theorem Sub.ev {t s : Tr AV} (h : Sub t s) {x : Operand} {v : AV} (e : evalA t x = some v) : evalA s x = some v := by
  cases x <;> first | exact h _ _ e | exact e

theorem delT_get : ∀ (l : List Tmp) (t : Tr AV) (i : Nat) (v : AV), (delT l t).get i = some v → i ∉ l ∧ t.get i = some v
  | [], t, i, v, h => ⟨by simp, h⟩
  | j :: l, t, i, v, h => by
    obtain ⟨h1, h2⟩ := delT_get l _ i v h
    rw [Tr.get_del] at h2
    split at h2
    · simp at h2
    · rename_i hne
      refine ⟨?_, h2⟩
      simp only [List.mem_cons, not_or]
      exact ⟨fun e => hne e.symm, h1⟩

section
variable {P : Program} {orc : Orc} {α : Type}

theorem evOk_congr {t s : Tr AV} (hs : Sub t s) {op : Op} (h : evOk t op = true) : ∀ x ∈ op.operands, evalA t x = evalA s x := by
  intro x hx
  simp only [evOk, List.all_eq_true] at h
  have := h x (by simpa using hx)
  cases e : evalA t x with
  | none => rw [e] at this; simp at this
  | some v => exact (hs.ev e).symm

theorem opA_sub {t s : Tr AV} (hs : Sub t s) {op : Op} (h : evOk t op = true) (H : AH) : opA P (evalA t) H op = opA P (evalA s) H op := opA_congr op (evOk_congr hs h) H

theorem OpRel.sub {t s : Tr AV} (hs : Sub t s) {op : Op} (he : evOk t op = true) {h h' : AH} {r : Ex AV} (o : OpRel P orc (evalA t) h op r h') : OpRel P orc (evalA s) h op r h' := by
  have e := opA_sub (P := P) hs he h
  cases o with
  | val h1 => exact .val (by rw [← e]; exact h1)
  | skip h1 => exact .skip (by rw [← e]; exact h1)
  | ret h1 h2 => exact .ret (by rw [← e]; exact h1) h2
  | pan h1 => exact .pan (by rw [← e]; exact h1)
  | cpan h1 h2 => exact .cpan (by rw [← e]; exact h1) h2

/-- One operation of the abstract machine, out of what it says. -/
theorem oneA_of {st : ASt} {o : Oper} {h' : AH} {v : AV} (hr : OpRel P orc (evalA st.tmps) st.heap o.op (.ok v) h') : ∃ n, oneA P orc n o st = some (.normal, { st with heap := h' }.put o.dst v) := by
  cases hr with
  | val h1 => exact ⟨1, by rw [oneA, h1]⟩
  | skip h1 => exact ⟨1, by rw [oneA, h1]⟩
  | ret h1 h2 =>
    obtain ⟨n, hn⟩ := of_callX h2
    exact ⟨n + 1, by rw [oneA, h1]; simp only [hn]⟩
theorem oneA_of_pan {st : ASt} {o : Oper} {h' : AH} {v : AV} (hr : OpRel P orc (evalA st.tmps) st.heap o.op (.pan v) h') : ∃ n, oneA P orc n o st = some (.pan v, { st with heap := h' }) := by
  cases hr with
  | pan h1 => exact ⟨1, by rw [oneA, h1]⟩
  | cpan h1 h2 =>
    obtain ⟨n, hn⟩ := of_callX h2
    exact ⟨n + 1, by rw [oneA, h1]; simp only [hn]⟩

theorem evalA_func (t : Tr AV) (g : FuncId) : evalA t (.func g) = some (.func (.func g) [] []) := rfl

/-- What the temporaries of a state have to do with those that a function knows. -/
structure Ag (nt : Nat) (t : Tr AV) (st : ASt) : Prop where
  nt : st.nt = nt
  sub : Sub t st.tmps
  ds : st.defers = []
  rc : st.rc = .off

theorem Ag.put {nt : Nat} {t : Tr AV} {st : ASt} (a : Ag nt t st) (h : AH) (dst : Option Tmp) (v : AV) : Ag nt (putT nt t dst v) ({ st with heap := h }.put dst v) :=
  ⟨a.nt, by simp only [ASt.put]; rw [a.nt]; exact a.sub.putT nt dst v, a.ds, a.rc⟩

/-- The values that a function hands back. -/
def resV (P : Program) (t : Tr AV) (h : AH) : List ResultVar → Option (List AV)
  | [] => some []
  | .tmp i :: rs => match t.get i, resV P t h rs with
    | some v, some vs => some (v :: vs)
    | _, _ => none
  | .cell a ty :: rs => match t.get a with
    | some (.ptr (some (i, o))) => (match loadA P ty h i o, resV P t h rs with
      | some v, some vs => some (v :: vs)
      | _, _ => none)
    | _ => none

def KAt (P : Program) (K : KK α) (t : Tr AV) (h : AH) (r : Ex α) (h2 : AH) : AX → Prop
  | .normal => K.nrm t h = some (r, h2)
  | .exit id => ∃ k, findX id K.ext = some k ∧ k t h = some (r, h2)
  | .ret => ∃ vs, resV P t h K.rs = some vs ∧ K.ret (tupA vs) h = some (r, h2)
  | .pan v => r = .pan v ∧ h = h2

theorem bd_some {β : Type} {m : M α} {k : α → M β} {h : AH} {r : Ex β} {h2 : AH} (e : bd m k h = some (r, h2)) :
    (∃ a h1, m h = some (.ok a, h1) ∧ k a h1 = some (r, h2)) ∨ ∃ v, m h = some (.pan v, h2) ∧ r = .pan v := by
  unfold bd at e
  split at e
  · rename_i a h1 hm; exact .inl ⟨a, h1, hm, e⟩
  · rename_i v h1 hm
    simp only [Option.some.injEq, Prod.mk.injEq] at e
    obtain ⟨rfl, rfl⟩ := e
    exact .inr ⟨v, hm, rfl⟩
  · simp at e
theorem bq_some {β : Type} {m : M α} {k : α → M β} {h : AH} {r : Ex β} {h2 : AH} (e : bq m k h = some (r, h2)) :
    ∃ a h1, m h = some (.ok a, h1) ∧ k a h1 = some (r, h2) := by
  unfold bq at e
  split at e
  · rename_i a h1 hm; exact ⟨a, h1, hm, e⟩
  · simp at e
theorem lt_some {o : Option AV} {k : AV → M α} {h : AH} {r} (e : lt o k h = some r) : ∃ v, o = some v ∧ k v h = some r := by
  cases o with
  | none => simp [lt, no] at e
  | some v => exact ⟨v, rfl, e⟩
theorem no_false {h : AH} {r} (e : (no : M α) h = some r) : False := by simp [no] at e

theorem gv_some {g : AV} {w : Bool} {x : Option AV} {v : AV} (e : gv g w x = some v) : (gon g w = true ∧ x = some v) ∨ (gon g w = false ∧ v = undefA) := by
  unfold gv at e
  split at e
  · rename_i b
    cases hb : b == w <;> rw [hb] at e
    · simp only [cond_false, Option.some.injEq] at e; exact .inr ⟨hb, e.symm⟩
    · exact .inl ⟨hb, e⟩
  · rename_i hne
    simp only [Option.some.injEq] at e
    refine .inr ⟨?_, e.symm⟩
    cases g <;> first | rfl | exact absurd rfl (hne _)
theorem gm_some {g : AV} {w : Bool} {m : M AV} {h : AH} {r} (e : gm g w m h = some r) : (gon g w = true ∧ m h = some r) ∨ (gon g w = false ∧ r = (.ok undefA, h)) := by
  unfold gm at e
  split at e
  · rename_i b
    cases hb : b == w <;> rw [hb] at e
    · simp only [cond_false, rt, Option.some.injEq] at e; exact .inr ⟨hb, e.symm⟩
    · exact .inl ⟨hb, e⟩
  · rename_i hne
    simp only [rt, Option.some.injEq] at e
    refine .inr ⟨?_, e.symm⟩
    cases g <;> first | rfl | exact absurd rfl (hne _)

theorem wanted_gon {ops : Array Oper} {tmps : Tr AV} {o : Oper} {j : Nat} {w : Bool} {d : Tmp} {g : AV} (hg : o.guard = some (j, w)) (hd : (ops[j]?).bind (·.dst) = some d) (ht : tmps.get d = some g) :
    wantedA ops tmps o = some (gon g w) := by
  rw [wantedA, hg]
  simp only [hd, ht]
  cases g <;> rfl

/-! ### Regions in the order of the text -/

theorem opsD_ok {nt : Nat} {ops : Array Oper} : ∀ (os : List Oper) (t : Tr AV) (k : Tr AV → M α) (st : ASt) (r : Ex α) (h2 : AH), opsD P orc nt ops os t k st.heap = some (r, h2) → Ag nt t st →
    ∃ n x st' t', opsA P orc n ops os st = some (x, st') ∧ ((x = .normal ∧ Ag nt t' st' ∧ k t' st'.heap = some (r, h2)) ∨ ∃ v, x = .pan v ∧ st'.defers = [] ∧ st'.rc = .off ∧ st'.nt = nt ∧ r = .pan v ∧ st'.heap = h2)
  | [], t, k, st, r, h2, e, a => ⟨1, .normal, st, t, rfl, .inl ⟨rfl, a, e⟩⟩
  | o :: os, t, k, st, r, h2, e, a => by
    have go : ∀ {v : AV} {h1 : AH}, wantedA ops st.tmps o = some true → OpRel P orc (evalA st.tmps) st.heap o.op (.ok v) h1 → opsD P orc nt ops os (putT nt t o.dst v) k h1 = some (r, h2) →
        ∃ n x st' t', opsA P orc n ops (o :: os) st = some (x, st') ∧ ((x = .normal ∧ Ag nt t' st' ∧ k t' st'.heap = some (r, h2)) ∨ ∃ v, x = .pan v ∧ st'.defers = [] ∧ st'.rc = .off ∧ st'.nt = nt ∧ r = .pan v ∧ st'.heap = h2) := by
      intro v h1 hw hr he
      obtain ⟨n1, h3⟩ := oneA_of hr
      obtain ⟨n2, x, st', t', h4, h5⟩ := opsD_ok os _ k ({ st with heap := h1 }.put o.dst v) r h2 he (a.put h1 o.dst v)
      refine ⟨max n1 n2 + 1, x, st', t', ?_, h5⟩
      rw [opsA, hw]
      simp only [oneA_mono (Nat.le_max_left n1 n2) h3]
      exact opsA_mono (Nat.le_max_right n1 n2) h4
    have gopan : ∀ {v : AV} {h1 : AH}, wantedA ops st.tmps o = some true → OpRel P orc (evalA st.tmps) st.heap o.op (.pan v) h1 → r = .pan v → h1 = h2 →
        ∃ n x st' t', opsA P orc n ops (o :: os) st = some (x, st') ∧ ((x = .normal ∧ Ag nt t' st' ∧ k t' st'.heap = some (r, h2)) ∨ ∃ v, x = .pan v ∧ st'.defers = [] ∧ st'.rc = .off ∧ st'.nt = nt ∧ r = .pan v ∧ st'.heap = h2) := by
      intro v h1 hw hr e1 e2
      obtain ⟨n1, h3⟩ := oneA_of_pan hr
      refine ⟨n1 + 1, .pan v, { st with heap := h1 }, t, ?_, .inr ⟨v, rfl, a.ds, a.rc, a.nt, e1, e2⟩⟩
      rw [opsA, hw]
      simp only [h3]
    have gono : wantedA ops st.tmps o = some false → opsD P orc nt ops os (putT nt t o.dst undefA) k st.heap = some (r, h2) →
        ∃ n x st' t', opsA P orc n ops (o :: os) st = some (x, st') ∧ ((x = .normal ∧ Ag nt t' st' ∧ k t' st'.heap = some (r, h2)) ∨ ∃ v, x = .pan v ∧ st'.defers = [] ∧ st'.rc = .off ∧ st'.nt = nt ∧ r = .pan v ∧ st'.heap = h2) := by
      intro hw he
      obtain ⟨n2, x, st', t', h4, h5⟩ := opsD_ok os _ k (st.put o.dst undefA) r h2 he (a.put st.heap o.dst undefA)
      refine ⟨n2 + 1, x, st', t', ?_, h5⟩
      rw [opsA, hw]
      exact h4
    rw [opsD] at e
    cases hg : o.guard with
    | none =>
      simp only [hg] at e
      have hw : wantedA ops st.tmps o = some true := by rw [wantedA, hg]
      unfold oneD at e
      cases hev : evOk t o.op with
      | false => rw [hev] at e; simp only [cond_false] at e; exact (no_false e).elim
      | true =>
        rw [hev] at e
        simp only [cond_true] at e
        cases hx : pureD P (evalA t) o.op with
        | some x =>
          simp only [hx] at e
          obtain ⟨v, rfl, e⟩ := lt_some e
          exact go hw (OpRel.sub a.sub hev (.val (pureD_op hx st.heap))) e
        | none =>
          simp only [hx] at e
          rcases bd_some e with ⟨v, h1, hm, e⟩ | ⟨v, hm, rfl⟩
          · exact go hw (OpRel.sub a.sub hev (effD_ok (evalA_func t) hm)) e
          · exact gopan hw (OpRel.sub a.sub hev (effD_ok (evalA_func t) hm)) rfl rfl
    | some jw =>
      obtain ⟨j, w⟩ := jw
      simp only [hg] at e
      cases hd : (ops[j]?).bind (·.dst) with
      | none => simp only [hd] at e; exact (no_false e).elim
      | some d =>
        simp only [hd] at e
        cases hgt : t.get d with
        | none => simp only [hgt] at e; exact (no_false e).elim
        | some g =>
          simp only [hgt] at e
          have hw := wanted_gon hg hd (a.sub _ _ hgt)
          unfold oneG at e
          cases hev : evOk t o.op with
          | false => rw [hev] at e; simp only [cond_false] at e; exact (no_false e).elim
          | true =>
            rw [hev] at e
            simp only [cond_true] at e
            cases hx : pureD P (evalA t) o.op with
            | some x =>
              simp only [hx] at e
              obtain ⟨v, hv, e'⟩ := lt_some e
              rcases gv_some hv with ⟨h1, rfl⟩ | ⟨h1, rfl⟩
              · rw [h1] at hw
                exact go hw (OpRel.sub a.sub hev (.val (pureD_op hx st.heap))) e'
              · rw [h1] at hw
                exact gono hw e'
            | none =>
              simp only [hx] at e
              rcases bd_some e with ⟨v, h1, hm, e⟩ | ⟨v, hm, rfl⟩
              · rcases gm_some hm with ⟨h3, hm⟩ | ⟨h3, hm⟩
                · rw [h3] at hw
                  exact go hw (OpRel.sub a.sub hev (effD_ok (evalA_func t) hm)) e
                · rw [h3] at hw
                  simp only [Prod.mk.injEq, Ex.ok.injEq] at hm
                  obtain ⟨rfl, rfl⟩ := hm
                  exact gono hw e
              · rcases gm_some hm with ⟨h3, hm⟩ | ⟨h3, hm⟩
                · rw [h3] at hw
                  exact gopan hw (OpRel.sub a.sub hev (effD_ok (evalA_func t) hm)) rfl rfl
                · simp at hm

end
end Go.Am

namespace Go.Am
open Go

inductive All2 {α β : Type} (R : α → β → Prop) : List α → List β → Prop where
  | nil : All2 R [] []
  | cons {a b xs ys} : R a b → All2 R xs ys → All2 R (a :: xs) (b :: ys)

structure Ent (d : DA) (ops : Array Oper) (a : T1) (s : Stp) : Prop where
  i : a.i = s.i
  on : a.on = s.on
  hs : needD d a.i = true → a.h0 = s.s.heap ∧ a.h1 = s.t.heap
  rid : a.rid = readOf ops s

section
variable {P : Program} {orc : Orc} {α : Type}

theorem find_ent {d : DA} {ops : Array Oper} (i : Nat) : ∀ {acc : List T1} {tr : List Stp}, All2 (Ent d ops) acc tr →
    (findT i acc = none ∧ stepOf tr i = none) ∨ ∃ a s, findT i acc = some a ∧ stepOf tr i = some s ∧ Ent d ops a s
  | _, _, .nil => .inl ⟨rfl, rfl⟩
  | _, _, .cons (a := a) (b := b) (xs := xs) (ys := ys) h hs => by
    simp only [findT, stepOf, List.find?_cons, h.i]
    cases hb : Nat.beq b.i i with
    | true => simp only [cond_true]; exact .inr ⟨a, b, rfl, rfl, h⟩
    | false =>
      simp only [cond_false]
      exact find_ent i hs

theorem beq_self (i : Nat) : Nat.beq i i = true := Nat.beq_refl i

theorem confD_ok {d : DA} {ops : Array Oper} {acc : List T1} {tr : List Stp} (hA : All2 (Ent d ops) acc tr) {m : M α} {h : AH} {r} :
    ∀ (l : List (Nat × Nat)), (∀ x ∈ l, x ∈ d.conf) → confD l acc m h = some r → m h = some r ∧ l.all (fun x => match stepOf tr x.1, stepOf tr x.2 with
      | some a, some b => !b.on || (match readOf ops a with
        | some r => beqO (b.s.heap.get r) (b.t.heap.get r)
        | none => true)
      | _, _ => true) = true
  | [], _, e => ⟨e, rfl⟩
  | (i, j) :: l, hl, e => by
    rw [confD] at e
    have hmem := hl (i, j) (by simp)
    have hrest : ∀ x ∈ l, x ∈ d.conf := fun x hx => hl x (by simp [hx])
    rcases find_ent i hA with ⟨h1, h2⟩ | ⟨a, s, h1, h2, h3⟩
    · simp only [h1] at e
      obtain ⟨q1, q2⟩ := confD_ok hA l hrest e
      refine ⟨q1, ?_⟩
      rw [List.all_cons, q2, h2]; rfl
    · rcases find_ent j hA with ⟨k1, k2⟩ | ⟨b, u, k1, k2, k3⟩
      · simp only [h1, k1] at e
        obtain ⟨q1, q2⟩ := confD_ok hA l hrest e
        refine ⟨q1, ?_⟩
        rw [List.all_cons, q2, h2, k2]; rfl
      · simp only [h1, k1] at e
        cases hc : cf b.on a.rid b.h0 b.h1 with
        | false => rw [hc] at e; simp [chk, no] at e
        | true =>
          rw [hc] at e
          obtain ⟨q1, q2⟩ := confD_ok hA l hrest e
          refine ⟨q1, ?_⟩
          rw [List.all_cons, q2, h2, k2, Bool.and_true]
          have hbj : b.i = j := by
            have := k1
            clear e hc
            induction acc generalizing tr with
            | nil => simp [findT] at this
            | cons x xs ih =>
              cases hA with
              | cons hx hxs =>
                rw [findT] at k1
                cases hb : Nat.beq x.i j with
                | true => rw [hb] at k1; simp only [cond_true, Option.some.injEq] at k1; rw [← k1]; exact Nat.eq_of_beq_eq_true hb
                | false =>
                  rw [hb] at k1
                  simp only [cond_false] at k1
                  have hf : ∀ {l : List T1} {b : T1}, findT j l = some b → b.i = j := by
                    intro l
                    induction l with
                    | nil => intro b hb; simp [findT] at hb
                    | cons y ys ihy =>
                      intro b hb'
                      rw [findT] at hb'
                      cases hyb : Nat.beq y.i j with
                      | true => rw [hyb] at hb'; simp only [cond_true, Option.some.injEq] at hb'; rw [← hb']; exact Nat.eq_of_beq_eq_true hyb
                      | false => rw [hyb] at hb'; exact ihy hb'
                  exact hf k1
          have hneed : needD d b.i = true := by
            rw [needD, Bool.or_eq_true]
            left
            rw [List.any_eq_true]
            exact ⟨(i, j), hmem, by rw [hbj]; exact beq_self j⟩
          obtain ⟨e1, e2⟩ := k3.hs hneed
          unfold cf at hc; rw [k3.on, h3.rid, e1, e2] at hc
          exact hc

theorem findT_i {j : Nat} : ∀ {l : List T1} {b : T1}, findT j l = some b → b.i = j
  | [], b, h => by simp [findT] at h
  | y :: ys, b, h => by
    rw [findT] at h
    cases hyb : Nat.beq y.i j with
    | true => rw [hyb] at h; simp only [cond_true, Option.some.injEq] at h; rw [← h]; exact Nat.eq_of_beq_eq_true hyb
    | false => rw [hyb] at h; exact findT_i h

theorem madeD_ok {d : DA} {ops : Array Oper} {acc : List T1} {tr : List Stp} (hA : All2 (Ent d ops) acc tr) {m : M α} {h : AH} {r} :
    ∀ (l : List (Nat × Nat)), (∀ x ∈ l, x ∈ d.made) → madeD l acc m h = some r → m h = some r ∧ l.all (fun x => match stepOf tr x.1, stepOf tr x.2 with
      | some a, some b => !b.on || (match readOf ops a with
        | some r => !Nat.beq r b.s.heap.next
        | none => true)
      | _, _ => true) = true
  | [], _, e => ⟨e, rfl⟩
  | (i, j) :: l, hl, e => by
    rw [madeD] at e
    have hmem := hl (i, j) (by simp)
    have hrest : ∀ x ∈ l, x ∈ d.made := fun x hx => hl x (by simp [hx])
    rcases find_ent i hA with ⟨h1, h2⟩ | ⟨a, s, h1, h2, h3⟩
    · simp only [h1] at e
      obtain ⟨q1, q2⟩ := madeD_ok hA l hrest e
      refine ⟨q1, ?_⟩
      rw [List.all_cons, q2, h2]; rfl
    · rcases find_ent j hA with ⟨k1, k2⟩ | ⟨b, u, k1, k2, k3⟩
      · simp only [h1, k1] at e
        obtain ⟨q1, q2⟩ := madeD_ok hA l hrest e
        refine ⟨q1, ?_⟩
        rw [List.all_cons, q2, h2, k2]; rfl
      · simp only [h1, k1] at e
        cases hc : mf b.on a.rid b.h0 with
        | false => rw [hc] at e; simp [chk, no] at e
        | true =>
          rw [hc] at e
          obtain ⟨q1, q2⟩ := madeD_ok hA l hrest e
          refine ⟨q1, ?_⟩
          rw [List.all_cons, q2, h2, k2, Bool.and_true]
          have hbj := findT_i k1
          have hneed : needD d b.i = true := by
            rw [needD, Bool.or_eq_true]
            right
            rw [List.any_eq_true]
            exact ⟨(i, j), hmem, by rw [hbj]; exact beq_self j⟩
          obtain ⟨e1, e2⟩ := k3.hs hneed
          unfold mf at hc; rw [k3.on, h3.rid, e1] at hc
          exact hc

theorem tailOk_head {pre : List Nat} {i : Nat} {is : List Nat} (h : tailOk pre i (i :: is) = true) : is.all (fun j => ahead pre i j) = true := by
  rw [tailOk, beq_self, cond_true, Bool.and_eq_true] at h
  exact h.1
theorem tailOk_tail {pre : List Nat} {i j : Nat} {is : List Nat} (h : tailOk pre i (j :: is) = true) : tailOk pre i is = true := by
  rw [tailOk] at h
  cases hb : Nat.beq j i <;> rw [hb] at h
  · exact h
  · rw [cond_true, Bool.and_eq_true] at h; exact h.2

theorem ghB_some {b : Bool} {k : AH → M α} {h : AH} {r} (e : ghB b k h = some r) : ∃ h0, k h0 h = some r ∧ (b = true → h0 = h) := by
  cases b with
  | true => exact ⟨h, e, fun _ => rfl⟩
  | false => exact ⟨AH.empty, e, fun hb => by simp at hb⟩

/-- One operation of a drawn region, whichever it is. -/
theorem drawD_step (hn : OrcNext orc) {nt : Nat} {ops : Array Oper} {d : DA} {pre : List Nat} {i : Nat} {is : List Nat} {t : Tr AV} {st : ASt} {o : Oper} (ho : ops[i]? = some o) (a : Ag nt t st)
    {on : Bool} (hw : wantedA ops st.tmps o = some on) {st' : ASt} (hst : (on = true ∧ ∃ n, oneA P orc n o st = some (.normal, st')) ∨ (on = false ∧ st' = st.put o.dst undefA))
    {n2 : Nat} {tr : List Stp} {x : AX} {st2 : ASt} (h2 : drawA P orc n2 ops pre is st' = some (tr, x, st2)) : ∃ n, drawA P orc n ops pre (i :: is) st = some (⟨i, on, st, st'⟩ :: tr, x, st2) := by
  rcases hst with ⟨rfl, n1, h1⟩ | ⟨rfl, rfl⟩
  · refine ⟨max n1 n2 + 1, ?_⟩
    rw [drawA, ho]
    simp only [hw, oneA_mono (Nat.le_max_left n1 n2) h1]
    have hle : Nat.ble st.heap.next st'.heap.next = true := Nat.ble_eq_true_of_le ((next_at hn n1).2.1 _ _ _ _ h1)
    rw [hle]
    simp only [cond_true, drawA_mono (Nat.le_max_right n1 n2) h2]
  · refine ⟨n2 + 1, ?_⟩
    rw [drawA, ho]
    simp only [hw, h2]

theorem drawD_ok (hn : OrcNext orc) {nt : Nat} {ops : Array Oper} {d : DA} {pre : List Nat} : ∀ (is : List Nat) (t : Tr AV) (acc : List T1) (k : Tr AV → M α) (st : ASt) (r : Ex α) (h2 : AH),
    drawD P orc nt ops d is t acc k st.heap = some (r, h2) → Ag nt t st → (∀ i ∈ d.pn, tailOk pre i is = true) →
    ∃ n tr x st' t', drawA P orc n ops pre is st = some (tr, x, st') ∧
      ((x = .normal ∧ Ag nt t' st' ∧ ∃ acc', All2 (Ent d ops) acc' tr ∧ confD d.conf (acc ++ acc') (madeD d.made (acc ++ acc') (k t')) st'.heap = some (r, h2)) ∨
       (∃ v, x = .pan v ∧ st'.defers = [] ∧ st'.rc = .off ∧ st'.nt = nt ∧ r = .pan v ∧ st'.heap = h2 ∧ d.conf = [] ∧ d.made = []))
  | [], t, acc, k, st, r, h2, e, a, _ => ⟨1, [], .normal, st, t, rfl, .inl ⟨rfl, a, [], .nil, by rw [List.append_nil]; exact e⟩⟩
  | i :: is, t, acc, k, st, r, h2, e, a, hp => by
    rw [drawD] at e
    cases ho : ops[i]? with
    | none => simp only [ho] at e; exact (no_false e).elim
    | some o =>
      simp only [ho] at e
      cases hev : evOk t o.op with
      | false => rw [hev] at e; simp only [cond_false] at e; exact (no_false e).elim
      | true =>
        rw [hev] at e
        simp only [cond_true] at e
        have hp' : ∀ i ∈ d.pn, tailOk pre i is = true := fun j hj => tailOk_tail (hp j hj)
        have hrd : readD (evalA t) o.op = readId (evalA st.tmps) o.op := by rw [readD_eq]; exact readId_congr _ (evOk_congr a.sub hev)
        have goon : ∀ {on : Bool} {st' : ASt} {v : AV} {h0 h1 : AH} {rid : Option Nat}, wantedA ops st.tmps o = some on →
            ((on = true ∧ ∃ n, oneA P orc n o st = some (.normal, st')) ∨ (on = false ∧ st' = st.put o.dst undefA)) → Ag nt (putT nt t o.dst v) st' →
            (needD d i = true → h0 = st.heap ∧ h1 = st'.heap) → rid = (bif on then readD (evalA t) o.op else none) →
            drawD P orc nt ops d is (putT nt t o.dst v) (acc ++ [⟨i, on, h0, h1, rid⟩]) k st'.heap = some (r, h2) →
            ∃ n tr x st' t', drawA P orc n ops pre (i :: is) st = some (tr, x, st') ∧
              ((x = .normal ∧ Ag nt t' st' ∧ ∃ acc', All2 (Ent d ops) acc' tr ∧ confD d.conf (acc ++ acc') (madeD d.made (acc ++ acc') (k t')) st'.heap = some (r, h2)) ∨
               (∃ v, x = .pan v ∧ st'.defers = [] ∧ st'.rc = .off ∧ st'.nt = nt ∧ r = .pan v ∧ st'.heap = h2 ∧ d.conf = [] ∧ d.made = [])) := by
          intro on st' v h0 h1 rid hw hst ha hneed hrid he
          obtain ⟨n2, tr, x, st2, t2, hd, hor⟩ := drawD_ok hn is _ _ k st' r h2 he ha hp'
          obtain ⟨n, hn'⟩ := drawD_step (pre := pre) (d := d) hn ho a hw hst hd
          refine ⟨n, _, x, st2, t2, hn', ?_⟩
          rcases hor with ⟨h3, h4, acc', h5, h6⟩ | h3
          · refine .inl ⟨h3, h4, ⟨i, on, h0, h1, rid⟩ :: acc', .cons ⟨rfl, rfl, hneed, ?_⟩ h5, ?_⟩
            · simp only [readOf, ho, hrid, hrd]
            · rw [List.append_assoc] at h6; exact h6
          · exact .inr h3
        have gopan : ∀ {v : AV} {h1 : AH}, wantedA ops st.tmps o = some true → OpRel P orc (evalA st.tmps) st.heap o.op (.pan v) h1 → d.conf = [] → d.made = [] → i ∈ d.pn → r = .pan v → h1 = h2 →
            ∃ n tr x st' t', drawA P orc n ops pre (i :: is) st = some (tr, x, st') ∧
              ((x = .normal ∧ Ag nt t' st' ∧ ∃ acc', All2 (Ent d ops) acc' tr ∧ confD d.conf (acc ++ acc') (madeD d.made (acc ++ acc') (k t')) st'.heap = some (r, h2)) ∨
               (∃ v, x = .pan v ∧ st'.defers = [] ∧ st'.rc = .off ∧ st'.nt = nt ∧ r = .pan v ∧ st'.heap = h2 ∧ d.conf = [] ∧ d.made = [])) := by
          intro v h1 hw hr hc hm hi e1 e2
          obtain ⟨n1, h3⟩ := oneA_of_pan hr
          refine ⟨n1 + 1, [], .pan v, { st with heap := h1 }, t, ?_, .inr ⟨v, rfl, a.ds, a.rc, a.nt, e1, e2, hc, hm⟩⟩
          rw [drawA, ho]
          simp only [hw, h3, tailOk_head (hp i hi), cond_true]
        have hpn : ∀ {b : Bool}, b = (d.conf.isEmpty && d.made.isEmpty && d.pn.contains i) → b = true → d.conf = [] ∧ d.made = [] ∧ i ∈ d.pn := by
          intro b hb hb'
          rw [hb', Eq.comm, Bool.and_eq_true, Bool.and_eq_true] at hb
          refine ⟨List.isEmpty_iff.1 hb.1.1, List.isEmpty_iff.1 hb.1.2, ?_⟩
          simpa using hb.2
        cases hg : o.guard with
        | none =>
          simp only [hg] at e
          have hw : wantedA ops st.tmps o = some true := by rw [wantedA, hg]
          obtain ⟨h0, e, hh0⟩ := ghB_some e
          cases hx : pureD P (evalA t) o.op with
          | some x =>
            simp only [hx] at e
            obtain ⟨v, rfl, e⟩ := lt_some e
            obtain ⟨h1, e, hh1⟩ := ghB_some e
            exact goon (st' := { st with heap := st.heap }.put o.dst v) hw (.inl ⟨rfl, oneA_of (OpRel.sub a.sub hev (.val (pureD_op hx st.heap)))⟩) (a.put _ _ _) (fun q => ⟨hh0 q, hh1 q⟩) rfl e
          | none =>
            simp only [hx] at e
            cases hb : (d.conf.isEmpty && d.made.isEmpty && d.pn.contains i) with
            | true =>
              rw [hb] at e
              simp only [cond_true] at e
              rcases bd_some e with ⟨v, h1', hm, e⟩ | ⟨v, hm, hr⟩
              · obtain ⟨h1, e, hh1⟩ := ghB_some e
                exact goon (st' := { st with heap := h1' }.put o.dst v) hw (.inl ⟨rfl, oneA_of (OpRel.sub a.sub hev (effD_ok (evalA_func t) hm))⟩) (a.put _ _ _) (fun q => ⟨hh0 q, hh1 q⟩) rfl e
              · obtain ⟨q1, q2, q3⟩ := hpn rfl hb
                exact gopan hw (OpRel.sub a.sub hev (effD_ok (evalA_func t) hm)) q1 q2 q3 hr rfl
            | false =>
              rw [hb] at e
              simp only [cond_false] at e
              obtain ⟨v, h1', hm, e⟩ := bq_some e
              obtain ⟨h1, e, hh1⟩ := ghB_some e
              exact goon (st' := { st with heap := h1' }.put o.dst v) hw (.inl ⟨rfl, oneA_of (OpRel.sub a.sub hev (effD_ok (evalA_func t) hm))⟩) (a.put _ _ _) (fun q => ⟨hh0 q, hh1 q⟩) rfl e
        | some jw =>
          obtain ⟨j, w⟩ := jw
          simp only [hg] at e
          cases hd : (ops[j]?).bind (·.dst) with
          | none => simp only [hd] at e; exact (no_false e).elim
          | some dd =>
            simp only [hd] at e
            cases hgt : t.get dd with
            | none => simp only [hgt] at e; exact (no_false e).elim
            | some g =>
              simp only [hgt] at e
              have hw := wanted_gon hg hd (a.sub _ _ hgt)
              obtain ⟨h0, e, hh0⟩ := ghB_some e
              have off : gon g w = false → ∀ {h1 : AH}, (needD d i = true → h1 = st.heap) →
                  drawD P orc nt ops d is (putT nt t o.dst undefA) (acc ++ [⟨i, gon g w, h0, h1, bif gon g w then readD (evalA t) o.op else none⟩]) k st.heap = some (r, h2) → _ :=
                fun hoff {h1} hh1 e => goon (on := gon g w) (st' := st.put o.dst undefA) hw (.inr ⟨hoff, rfl⟩) (a.put st.heap o.dst undefA) (fun q => ⟨hh0 q, hh1 q⟩) rfl e
              cases hx : pureD P (evalA t) o.op with
              | some x =>
                simp only [hx] at e
                obtain ⟨v, hv, e'⟩ := lt_some e
                obtain ⟨h1, e', hh1⟩ := ghB_some e'
                rcases gv_some hv with ⟨hon, rfl⟩ | ⟨hoff, rfl⟩
                · exact goon (st' := { st with heap := st.heap }.put o.dst v) hw (.inl ⟨hon, oneA_of (OpRel.sub a.sub hev (.val (pureD_op hx st.heap)))⟩) (a.put _ _ _) (fun q => ⟨hh0 q, hh1 q⟩) rfl e'
                · exact off hoff hh1 e'
              | none =>
                simp only [hx] at e
                cases hb : (d.conf.isEmpty && d.made.isEmpty && d.pn.contains i) with
                | true =>
                  rw [hb] at e
                  simp only [cond_true] at e
                  rcases bd_some e with ⟨v, h1', hm, e⟩ | ⟨v, hm, hr⟩
                  · obtain ⟨h1, e, hh1⟩ := ghB_some e
                    rcases gm_some hm with ⟨hon, hm⟩ | ⟨hoff, hm⟩
                    · exact goon (st' := { st with heap := h1' }.put o.dst v) hw (.inl ⟨hon, oneA_of (OpRel.sub a.sub hev (effD_ok (evalA_func t) hm))⟩) (a.put _ _ _) (fun q => ⟨hh0 q, hh1 q⟩) rfl e
                    · simp only [Prod.mk.injEq, Ex.ok.injEq] at hm
                      obtain ⟨rfl, rfl⟩ := hm
                      exact off hoff hh1 e
                  · obtain ⟨q1, q2, q3⟩ := hpn rfl hb
                    rcases gm_some hm with ⟨hon, hm⟩ | ⟨hoff, hm⟩
                    · rw [hon] at hw
                      exact gopan hw (OpRel.sub a.sub hev (effD_ok (evalA_func t) hm)) q1 q2 q3 hr rfl
                    · simp at hm
                | false =>
                  rw [hb] at e
                  simp only [cond_false] at e
                  obtain ⟨v, h1', hm, e⟩ := bq_some e
                  obtain ⟨h1, e, hh1⟩ := ghB_some e
                  rcases gm_some hm with ⟨hon, hm⟩ | ⟨hoff, hm⟩
                  · exact goon (st' := { st with heap := h1' }.put o.dst v) hw (.inl ⟨hon, oneA_of (OpRel.sub a.sub hev (effD_ok (evalA_func t) hm))⟩) (a.put _ _ _) (fun q => ⟨hh0 q, hh1 q⟩) rfl e
                  · simp only [Prod.mk.injEq, Ex.ok.injEq] at hm
                    obtain ⟨rfl, rfl⟩ := hm
                    exact off hoff hh1 e

end
end Go.Am

namespace Go.Am
open Go

section
variable {P : Program} {orc : Orc} {α : Type}

theorem pk_get : ∀ {L : List Tmp} {t : Tr AV} {vs : List AV}, pk t L = some vs → All2 (fun i v => t.get i = some v) L vs
  | [], t, vs, h => by simp [pk] at h; subst h; exact .nil
  | i :: is, t, vs, h => by
    rw [pk] at h
    split at h
    · rename_i v ws hv hws
      injection h with h
      subst h
      exact .cons hv (pk_get hws)
    · simp at h

theorem All2.sub {L : List Tmp} {vs : List AV} {t s : Tr AV} (h : All2 (fun i v => t.get i = some v) L vs) (hs : Sub t s) : All2 (fun i v => s.get i = some v) L vs := by
  induction h with
  | nil => exact .nil
  | cons hv _ ih => exact .cons (hs _ _ hv) ih

theorem pkM_some {t : Tr AV} {L : List Tmp} {k : List AV → M α} {h : AH} {r} (e : pkM t L k h = some r) : ∃ vs, pk t L = some vs ∧ k vs h = some r := by
  unfold pkM at e
  cases hp : pk t L with
  | none => simp only [hp] at e; exact (no_false e).elim
  | some vs => simp only [hp] at e; exact ⟨vs, rfl, e⟩

/-- What is bound to the values of temporaries. -/
theorem unL_some : ∀ {L : List Tmp} {vs : List AV} {t : Tr AV} {k : Tr AV → M α} {h : AH} {r} {s : Tr AV}, unL L vs t k h = some r → All2 (fun i v => s.get i = some v) L vs → Sub t s → ∃ t', Sub t' s ∧ k t' h = some r
  | [], vs, t, k, h, r, s, e, ha, hs => ⟨t, hs, e⟩
  | i :: is, vs, t, k, h, r, s, e, ha, hs => by
    cases ha with
    | cons hv hr =>
      refine unL_some (L := is) (t := t.put i _) e hr ?_
      intro j w hw
      rw [Tr.get_put] at hw
      split at hw
      · rename_i he; subst he; rw [← hw]; exact hv
      · exact hs _ _ hw

theorem delT_sub {l : List Tmp} {t s s' : Tr AV} (h : Sub t s) (hk : ∀ i, i ∉ l → s'.get i = s.get i) : Sub (delT l t) s' := by
  intro i v hv
  obtain ⟨h1, h2⟩ := delT_get l t i v hv
  rw [hk i h1]
  exact h _ _ h2

theorem findX_cons {id j : Nat} {k : Tr AV → M α} {l : List (Nat × (Tr AV → M α))} : findX j ((id, k) :: l) = if id = j then some k else findX j l := by
  rw [findX]
  cases hb : Nat.beq id j with
  | true => simp [Nat.eq_of_beq_eq_true hb]
  | false => rw [if_neg (fun e => by rw [e, beq_self] at hb; simp at hb)]; rfl

theorem findX_map {β : Type} (f : Nat × β → Tr AV → M α) (j : Nat) : ∀ (X : List (Nat × β)), findX j (X.map fun y => (y.1, f y)) = (X.find? fun y => Nat.beq y.1 j).map f
  | [] => rfl
  | y :: X => by
    rw [List.map_cons, findX, List.find?_cons]
    cases Nat.beq y.1 j with
    | true => rfl
    | false => exact findX_map f j X
theorem findK_map {β : Type} (f : Nat × β → List AV → M α) (j : Nat) : ∀ (X : List (Nat × β)), findK j (X.map fun y => (y.1, f y)) = (X.find? fun y => Nat.beq y.1 j).map f
  | [] => rfl
  | y :: X => by
    rw [List.map_cons, findK, List.find?_cons]
    cases Nat.beq y.1 j with
    | true => rfl
    | false => exact findK_map f j X

/-- What 'den' is to say. -/
def DenOk (P : Program) (orc : Orc) (nt : Nat) (c : Code) (x : An) : Prop := ∀ (α : Type) (t : Tr AV) (K : KK α) (st : ASt) (r : Ex α) (h2 : AH), den P orc nt c x α t K st.heap = some (r, h2) → Ag nt t st →
  ∃ n y st' t', codeA P orc n c st = some (y, st') ∧ KAt P K t' st'.heap r h2 y ∧ ((∃ v, y = .pan v ∧ st'.defers = [] ∧ st'.rc = .off ∧ st'.nt = nt) ∨ (∀ v, y ≠ .pan v) ∧ Ag nt t' st')

theorem den_seq {nt : Nat} {a b : Code} {x y : An} (ha : DenOk P orc nt a x) (hb : DenOk P orc nt b y) : DenOk P orc nt (.seq a b) (.two x y) := by
  intro α t K st r h2 e ag
  rw [den] at e
  obtain ⟨n1, z, st1, t1, h1, hK, hor⟩ := ha α t _ st r h2 e ag
  cases z with
  | normal =>
    rcases hor with ⟨v, hv, _⟩ | ⟨_, ag1⟩
    · simp at hv
    · obtain ⟨n2, z, st2, t2, h3, hK2, hor2⟩ := hb α t1 K st1 r h2 hK ag1
      refine ⟨max n1 n2 + 1, z, st2, t2, ?_, hK2, hor2⟩
      rw [codeA, codeA_mono (Nat.le_max_left n1 n2) h1]
      exact codeA_mono (Nat.le_max_right n1 n2) h3
  | exit id => exact ⟨n1 + 1, .exit id, st1, t1, by rw [codeA, h1], hK, hor⟩
  | ret => exact ⟨n1 + 1, .ret, st1, t1, by rw [codeA, h1], hK, hor⟩
  | pan v => exact ⟨n1 + 1, .pan v, st1, t1, by rw [codeA, h1], hK, hor⟩

theorem den_join {nt : Nat} {a b : Code} {x y : An} {L : List Tmp} (ha : DenOk P orc nt a x) (hb : DenOk P orc nt b y) : DenOk P orc nt (.seq a b) (.join L x y) := by
  intro α t K st r h2 e ag
  rw [den] at e
  unfold jn at e
  obtain ⟨n1, z, st1, t1, h1, hK, hor⟩ := ha α t _ st r h2 e ag
  cases z with
  | normal =>
    rcases hor with ⟨v, hv, _⟩ | ⟨_, ag1⟩
    · simp at hv
    · obtain ⟨vs, hvs, hk⟩ := pkM_some hK
      have hkeep := codeA_tmps h1
      have h3 := (pk_get hvs).sub ag1.sub
      obtain ⟨t2, hs2, hk2⟩ := unL_some hk h3 (delT_sub ag.sub hkeep.2)
      obtain ⟨n2, z, st2, t3, h4, hK2, hor2⟩ := hb α t2 K st1 r h2 hk2 ⟨ag1.nt, hs2, ag1.ds, ag1.rc⟩
      refine ⟨max n1 n2 + 1, z, st2, t3, ?_, hK2, hor2⟩
      rw [codeA, codeA_mono (Nat.le_max_left n1 n2) h1]
      exact codeA_mono (Nat.le_max_right n1 n2) h4
  | exit id => exact ⟨n1 + 1, .exit id, st1, t1, by rw [codeA, h1], hK, hor⟩
  | ret => exact ⟨n1 + 1, .ret, st1, t1, by rw [codeA, h1], hK, hor⟩
  | pan v => exact ⟨n1 + 1, .pan v, st1, t1, by rw [codeA, h1], hK, hor⟩

theorem den_cond {nt : Nat} {c : Operand} {a b : Code} {x y : An} (ha : DenOk P orc nt a x) (hb : DenOk P orc nt b y) : DenOk P orc nt (.cond c a b) (.two x y) := by
  intro α t K st r h2 e ag
  rw [den] at e
  cases hc : evalA t c with
  | none => simp only [hc] at e; exact (no_false e).elim
  | some v =>
    simp only [hc] at e
    have hc' := ag.sub.ev hc
    cases v with
    | bool q =>
      cases q with
      | true =>
        obtain ⟨n1, z, st1, t1, h1, hK, hor⟩ := ha α t _ st r h2 e ag
        exact ⟨n1 + 1, z, st1, t1, by rw [codeA, hc']; exact h1, hK, hor⟩
      | false =>
        obtain ⟨n1, z, st1, t1, h1, hK, hor⟩ := hb α t _ st r h2 e ag
        exact ⟨n1 + 1, z, st1, t1, by rw [codeA, hc']; exact h1, hK, hor⟩
    | _ => simp [cn, no] at e

theorem den_block {nt id : Nat} {b : Code} {x : An} (hb : DenOk P orc nt b x) : DenOk P orc nt (.block id b) (.one x) := by
  intro α t K st r h2 e ag
  rw [den] at e
  obtain ⟨n1, z, st1, t1, h1, hK, hor⟩ := hb α t _ st r h2 e ag
  cases z with
  | normal => exact ⟨n1 + 1, .normal, st1, t1, by rw [codeA, h1], hK, hor⟩
  | exit i =>
    obtain ⟨k, hk, hke⟩ := hK
    simp only [findX_cons] at hk
    have hag : Ag nt t1 st1 := by
      rcases hor with ⟨v, hv, _⟩ | ⟨_, h⟩
      · simp at hv
      · exact h
    by_cases hi : id = i
    · rw [if_pos hi] at hk
      injection hk with hk
      subst hk
      exact ⟨n1 + 1, .normal, st1, t1, by rw [codeA, h1]; simp [hi], hke, .inr ⟨by simp, hag⟩⟩
    · rw [if_neg hi] at hk
      exact ⟨n1 + 1, .exit i, st1, t1, by rw [codeA, h1]; show some (if i = id then AX.normal else AX.exit i, st1) = _; rw [if_neg (fun q => hi q.symm)], ⟨k, hk, hke⟩, .inr ⟨by simp, hag⟩⟩
  | ret => exact ⟨n1 + 1, .ret, st1, t1, by rw [codeA, h1], hK, hor⟩
  | pan v => exact ⟨n1 + 1, .pan v, st1, t1, by rw [codeA, h1], hK, hor⟩

theorem den_bjoin {nt id : Nat} {b : Code} {x : An} {L : List Tmp} (hb : DenOk P orc nt b x) : DenOk P orc nt (.block id b) (.bjoin L x) := by
  intro α t K st r h2 e ag
  rw [den] at e
  unfold jn at e
  obtain ⟨n1, z, st1, t1, h1, hK, hor⟩ := hb α t _ st r h2 e ag
  have hkeep := codeA_tmps h1
  have fin : Ag nt t1 st1 → (pkM t1 L (fun vs => unL L vs (delT (asg b) t) K.nrm) st1.heap = some (r, h2)) → ∃ t2, Ag nt t2 st1 ∧ K.nrm t2 st1.heap = some (r, h2) := by
    intro ag1 hp
    obtain ⟨vs, hvs, hk⟩ := pkM_some hp
    have h3 := (pk_get hvs).sub ag1.sub
    obtain ⟨t2, hs2, hk2⟩ := unL_some hk h3 (delT_sub ag.sub hkeep.2)
    exact ⟨t2, ⟨ag1.nt, hs2, ag1.ds, ag1.rc⟩, hk2⟩
  cases z with
  | normal =>
    rcases hor with ⟨v, hv, _⟩ | ⟨_, ag1⟩
    · simp at hv
    · obtain ⟨t2, a2, hk2⟩ := fin ag1 hK
      exact ⟨n1 + 1, .normal, st1, t2, by rw [codeA, h1], hk2, .inr ⟨by simp, a2⟩⟩
  | exit i =>
    obtain ⟨k, hk, hke⟩ := hK
    simp only [findX_cons] at hk
    have hag : Ag nt t1 st1 := by
      rcases hor with ⟨v, hv, _⟩ | ⟨_, h⟩
      · simp at hv
      · exact h
    by_cases hi : id = i
    · rw [if_pos hi] at hk
      injection hk with hk
      subst hk
      obtain ⟨t2, a2, hk2⟩ := fin hag hke
      exact ⟨n1 + 1, .normal, st1, t2, by rw [codeA, h1]; simp [hi], hk2, .inr ⟨by simp, a2⟩⟩
    · rw [if_neg hi] at hk
      exact ⟨n1 + 1, .exit i, st1, t1, by rw [codeA, h1]; show some (if i = id then AX.normal else AX.exit i, st1) = _; rw [if_neg (fun q => hi q.symm)], ⟨k, hk, hke⟩, .inr ⟨by simp, hag⟩⟩
  | ret => exact ⟨n1 + 1, .ret, st1, t1, by rw [codeA, h1], hK, hor⟩
  | pan v => exact ⟨n1 + 1, .pan v, st1, t1, by rw [codeA, h1], hK, hor⟩

theorem ld_ok {P : Program} {ty : TypeId} {d : TypeDesc} {n : Nat} (hd : P.underlying ty = some d) (hn : tsz P ty = some n) {p : AV} {h h1 : AH} {r : Ex AV} (e : (bif isAggD d then ldN n p else ld p) h = some (r, h1)) :
    ∃ i o v, p = .ptr (some (i, o)) ∧ loadA P ty h i o = some v ∧ r = .ok v ∧ h1 = h := by
  cases hag : isAggD d with
  | true =>
    rw [hag] at e
    simp only [cond_true] at e
    unfold ldN at e
    split at e
    · rename_i i o
      split at e
      · rename_i cs t' ro hg
        split at e
        · rename_i hle
          simp only [Option.some.injEq, Prod.mk.injEq] at e
          obtain ⟨rfl, rfl⟩ := e
          exact ⟨i, o, _, rfl, by simp only [loadA, hg, partA_eq hd hn, hag, partV, cond_true, if_pos hle], rfl, rfl⟩
        · simp at e
      · simp at e
    · simp at e
  | false =>
    rw [hag] at e
    simp only [cond_false] at e
    unfold ld at e
    split at e
    · rename_i i o
      split at e
      · rename_i cs t' ro hg
        split at e
        · rename_i v hv
          simp only [Option.some.injEq, Prod.mk.injEq] at e
          obtain ⟨rfl, rfl⟩ := e
          exact ⟨i, o, _, rfl, by simp only [loadA, hg, partA_eq hd hn, hag, partV, cond_false, hv], rfl, rfl⟩
        · simp at e
      · simp at e
    · simp at e

theorem resK_some {t : Tr AV} : ∀ {rs : List ResultVar} {acc : List AV} {k : List AV → M α} {h h2 : AH} {r : Ex α}, resK P t rs acc k h = some (r, h2) → ∃ vs, resV P t h rs = some vs ∧ k (acc.reverse ++ vs) h = some (r, h2)
  | [], acc, k, h, h2, r, e => ⟨[], rfl, by rw [List.append_nil]; exact e⟩
  | .tmp i :: rs, acc, k, h, h2, r, e => by
    rw [resK] at e
    cases hg : t.get i with
    | none => simp only [hg] at e; exact (no_false e).elim
    | some w =>
      simp only [hg] at e
      obtain ⟨vs, h3, h4⟩ := resK_some e
      refine ⟨w :: vs, by simp only [resV, hg, h3], ?_⟩
      rw [List.reverse_cons, List.append_assoc] at h4
      exact h4
  | .cell a ty :: rs, acc, k, h, h2, r, e => by
    rw [resK] at e
    cases hd : P.underlying ty with
    | none => simp only [hd] at e; exact (no_false e).elim
    | some d =>
      cases hn : tsz P ty with
      | none => simp only [hd, hn] at e; exact (no_false e).elim
      | some n =>
        cases hg : t.get a with
        | none => simp only [hd, hn, hg] at e; exact (no_false e).elim
        | some p =>
          simp only [hd, hn, hg] at e
          rcases bd_some e with ⟨w, h1, hm, e'⟩ | ⟨v, hm, _⟩
          · obtain ⟨i, o, v, rfl, hl, hr, rfl⟩ := ld_ok hd hn hm
            injection hr with hr
            subst hr
            obtain ⟨vs, h3, h4⟩ := resK_some e'
            refine ⟨w :: vs, by simp only [resV, hg, hl, h3], ?_⟩
            rw [List.reverse_cons, List.append_assoc] at h4
            exact h4
          · obtain ⟨i, o, v', rfl, hl, hr, _⟩ := ld_ok hd hn hm
            simp at hr

theorem resV_resultA {t : Tr AV} {h : AH} : ∀ {rs : List ResultVar} {vs : List AV}, resV P t h rs = some vs → ∀ {s : Tr AV}, Sub t s → resultA P s h rs = some vs
  | [], vs, e, s, hs => e
  | .tmp i :: rs, vs, e, s, hs => by
    rw [resV] at e
    split at e
    · rename_i v ws hv hws
      rw [resultA]
      simp only [hs _ _ hv, resV_resultA hws hs]
      exact e
    · simp at e
  | .cell a ty :: rs, vs, e, s, hs => by
    rw [resV] at e
    split at e
    · rename_i i o hv
      split at e
      · rename_i v ws hl hws
        rw [resultA]
        simp only [hs _ _ hv, hl, resV_resultA hws hs]
        exact e
      · simp at e
    · simp at e

theorem den_ret {nt : Nat} {x : An} : DenOk P orc nt .ret x := by
  intro α t K st r h2 e ag
  rw [den] at e
  obtain ⟨vs, h3, h4⟩ := resK_some e
  exact ⟨1, .ret, st, t, rfl, ⟨vs, h3, h4⟩, .inr ⟨by simp, ag⟩⟩

theorem den_exit {nt id : Nat} {x : An} : DenOk P orc nt (.exit id) x := by
  intro α t K st r h2 e ag
  rw [den] at e
  unfold goX at e
  cases hf : findX id K.ext with
  | none => simp only [hf] at e; exact (no_false e).elim
  | some k => simp only [hf] at e; exact ⟨1, .exit id, st, t, rfl, ⟨k, hf, e⟩, .inr ⟨by simp, ag⟩⟩

theorem den_loop {nt : Nat} {b : Code} {x : An} {L : List Tmp} {X : List (Nat × List Tmp)} (hb : DenOk P orc nt b x) : DenOk P orc nt (.loop b) (.loop L X x) := by
  intro α t K st r h2 e ag
  rw [den] at e
  obtain ⟨vs, hvs, e⟩ := pkM_some e
  have hr0 := (pk_get hvs).sub ag.sub
  -- the loop, from any state that has the same temporaries but for those that are written
  have key : ∀ (n : Nat) (vs : List AV) (st1 : ASt) (r1 : Ex Go1) (h3 : AH),
      loopN (fun vs => unL L vs (delT (asg b) t) fun t' => den P orc nt b x Go1 t' {
        nrm := fun t' => pkM t' L fun vs => rt (.again vs)
        ext := X.map fun y => (y.1, fun t' => pkM t' y.2 fun vs => rt (.out y.1 vs))
        rs := K.rs
        ret := fun v => rt (.done v) }) n vs st1.heap = some (r1, h3) →
      All2 (fun i v => st1.tmps.get i = some v) L vs → Sub (delT (asg b) t) st1.tmps → st1.nt = nt → st1.defers = [] → st1.rc = .off →
      ∃ n y st' t', codeA P orc n (.loop b) st1 = some (y, st') ∧ Sub (delT (asg b) t) st'.tmps ∧ st'.nt = nt ∧ st'.defers = [] ∧ st'.rc = .off ∧ st'.heap = h3 ∧ Sub t' st'.tmps ∧
        ((∃ v, y = .pan v ∧ r1 = .pan v) ∨ (∃ id ws L', y = .exit id ∧ r1 = .ok (.out id ws) ∧ X.find? (fun y => Nat.beq y.1 id) = some (id, L') ∧ All2 (fun i v => st'.tmps.get i = some v) L' ws) ∨
          ∃ ws, y = .ret ∧ resV P t' h3 K.rs = some ws ∧ r1 = .ok (.done (tupA ws))) := by
    intro n
    induction n with
    | zero => intro vs st1 r1 h3 e; simp [loopN] at e
    | succ n ih =>
      intro vs st1 r1 h3 e hr hs hnt hds hrc
      have hlp : ∃ q hq, (fun vs => unL L vs (delT (asg b) t) fun t' => den P orc nt b x Go1 t' {
        nrm := fun t' => pkM t' L fun vs => rt (.again vs)
        ext := X.map fun y => (y.1, fun t' => pkM t' y.2 fun vs => rt (.out y.1 vs))
        rs := K.rs
        ret := fun v => rt (.done v) }) vs st1.heap = some (q, hq) := by
        rw [loopN] at e
        split at e
        · rename_i s' h' he; exact ⟨_, _, he⟩
        · exact ⟨_, _, e⟩
      obtain ⟨q, hq, hqe⟩ := hlp
      obtain ⟨t1, hs1, hd⟩ := unL_some hqe hr hs
      obtain ⟨n1, z, st2, t2, h1, hK, hor⟩ := hb Go1 t1 _ st1 q hq hd ⟨hnt, hs1, hds, hrc⟩
      have hkeep := codeA_tmps h1
      have hs2 : Sub (delT (asg b) t) st2.tmps := by
        intro i v hv
        have h5 := (delT_get _ _ _ _ hv).1
        rw [hkeep.2 i h5]
        exact hs i v hv
      dsimp only at hqe
      rw [loopN, hqe] at e
      cases z with
      | normal =>
        rcases hor with ⟨v, hv, _⟩ | ⟨_, ag2⟩
        · simp at hv
        · obtain ⟨ws, hws, hrt⟩ := pkM_some hK
          simp only [rt, Option.some.injEq, Prod.mk.injEq] at hrt
          obtain ⟨rfl, rfl⟩ := hrt
          simp only [] at e
          obtain ⟨n2, y, st', t', h6, h7⟩ := ih ws st2 r1 h3 e ((pk_get hws).sub ag2.sub) hs2 ag2.nt ag2.ds ag2.rc
          refine ⟨max n1 n2 + 1, y, st', t', ?_, h7⟩
          rw [codeA, codeA_mono (Nat.le_max_left n1 n2) h1]
          exact codeA_mono (Nat.le_max_right n1 n2) h6
      | exit id =>
        rcases hor with ⟨v, hv, _⟩ | ⟨_, ag2⟩
        · simp at hv
        · obtain ⟨k, hk, hke⟩ := hK
          simp only [] at hk
          rw [findX_map (α := Go1) (fun (y : Nat × List Tmp) t' => pkM t' y.2 fun vs => rt (Go1.out y.1 vs)) id X] at hk
          simp only [Option.map_eq_some_iff] at hk
          obtain ⟨⟨id', L'⟩, hf, rfl⟩ := hk
          have hid : id' = id := by have := List.find?_some hf; simpa using this
          subst hid
          obtain ⟨ws, hws, hrt⟩ := pkM_some hke
          simp only [rt, Option.some.injEq, Prod.mk.injEq] at hrt
          obtain ⟨rfl, rfl⟩ := hrt
          simp only [Option.some.injEq, Prod.mk.injEq] at e
          obtain ⟨rfl, rfl⟩ := e
          refine ⟨n1 + 1, .exit id', st2, t2, by rw [codeA, h1], hs2, ag2.nt, ag2.ds, ag2.rc, rfl, ag2.sub, .inr (.inl ⟨id', ws, L', rfl, rfl, hf, (pk_get hws).sub ag2.sub⟩)⟩
      | ret =>
        rcases hor with ⟨v, hv, _⟩ | ⟨_, ag2⟩
        · simp at hv
        · obtain ⟨ws, hws, hrt⟩ := hK
          simp only [rt, Option.some.injEq, Prod.mk.injEq] at hrt
          obtain ⟨rfl, rfl⟩ := hrt
          simp only [Option.some.injEq, Prod.mk.injEq] at e
          obtain ⟨rfl, rfl⟩ := e
          exact ⟨n1 + 1, .ret, st2, t2, by rw [codeA, h1], hs2, ag2.nt, ag2.ds, ag2.rc, rfl, ag2.sub, .inr (.inr ⟨ws, rfl, hws, rfl⟩)⟩
      | pan v =>
        obtain ⟨rfl, rfl⟩ := hK
        simp only [Option.some.injEq, Prod.mk.injEq] at e
        obtain ⟨rfl, rfl⟩ := e
        rcases hor with ⟨v', hv, h6, h7, h8⟩ | ⟨h6, _⟩
        · exact ⟨n1 + 1, .pan v, st2, .nil, by rw [codeA, h1], hs2, h8, h6, h7, rfl, fun i w hw => by simp [Tr.get] at hw, .inl ⟨v, rfl, rfl⟩⟩
        · exact absurd rfl (h6 v)
  rcases bd_some e with ⟨q, h1, hl, e⟩ | ⟨v, hl, rfl⟩
  · obtain ⟨n, hn⟩ := of_lp hl
    obtain ⟨n1, y, st', t', h3, h4, h5, h6, h7, h8, h9, hor⟩ := key n vs st _ _ hn hr0 (fun i v hv => ag.sub _ _ (delT_get _ _ _ _ hv).2) ag.nt ag.ds ag.rc
    subst h8
    rcases hor with ⟨v, rfl, hv⟩ | ⟨id, ws, L', rfl, hq, hf, ha⟩ | ⟨ws, rfl, hws, hq⟩
    · simp at hv
    · injection hq with hq
      subst hq
      simp only [ou] at e
      rw [findK_map (α := α) (fun (y : Nat × List Tmp) vs => unL y.2 vs (delT (asg b) t) (goX y.1 K.ext)) id X, hf] at e
      simp only [Option.map_some] at e
      obtain ⟨t2, hs2, hk⟩ := unL_some e ha h4
      unfold goX at hk
      cases hx : findX id K.ext with
      | none => simp only [hx] at hk; exact (no_false hk).elim
      | some k =>
        simp only [hx] at hk
        exact ⟨n1, .exit id, st', t2, h3, ⟨k, hx, hk⟩, .inr ⟨by simp, ⟨h5, hs2, h6, h7⟩⟩⟩
    · injection hq with hq
      subst hq
      simp only [ou] at e
      exact ⟨n1, .ret, st', t', h3, ⟨ws, hws, e⟩, .inr ⟨by simp, ⟨h5, h9, h6, h7⟩⟩⟩
  · obtain ⟨n, hn⟩ := of_lp hl
    obtain ⟨n1, y, st', t', h3, h4, h5, h6, h7, h8, h9, hor⟩ := key n vs st _ _ hn hr0 (fun i v hv => ag.sub _ _ (delT_get _ _ _ _ hv).2) ag.nt ag.ds ag.rc
    rcases hor with ⟨v', rfl, hv⟩ | ⟨id, ws, L', rfl, hq, hf, ha⟩ | ⟨ws, rfl, hws, hq⟩
    · injection hv with hv
      exact ⟨n1, .pan v', st', t', h3, ⟨by rw [hv], h8⟩, .inl ⟨v', rfl, h6, h7, h5⟩⟩
    · simp at hq
    · simp at hq

theorem beqN_eq : ∀ {a b : List Nat}, beqN a b = true → a = b
  | [], [], _ => rfl
  | [], _ :: _, h => by simp [beqN] at h
  | _ :: _, [], h => by simp [beqN] at h
  | a :: x, b :: y, h => by
    rw [beqN, Bool.and_eq_true] at h
    rw [Nat.eq_of_beq_eq_true h.1, beqN_eq h.2]
theorem beqP_eq : ∀ {a b : List (Nat × Nat)}, beqP a b = true → a = b
  | [], [], _ => rfl
  | [], _ :: _, h => by simp [beqP] at h
  | _ :: _, [], h => by simp [beqP] at h
  | (a, a') :: x, (b, b') :: y, h => by
    rw [beqP, Bool.and_eq_true, Bool.and_eq_true] at h
    rw [Nat.eq_of_beq_eq_true h.1.1, Nat.eq_of_beq_eq_true h.1.2, beqP_eq h.2]

theorem den_region {nt id : Nat} {ops : Array Oper} {x : An} : DenOk P orc nt (.region id ops false) x := by
  intro α t K st r h2 e ag
  rw [den] at e
  obtain ⟨n, y, st', t', h1, hor⟩ := opsD_ok ops.toList t K.nrm st r h2 e ag
  rcases hor with ⟨rfl, h3, h4⟩ | ⟨v, rfl, h3, h4, h5, h6, h7⟩
  · exact ⟨n + 1, .normal, st', t', by rw [codeA]; exact h1, h4, .inr ⟨by simp, h3⟩⟩
  · exact ⟨n + 1, .pan v, st', t', by rw [codeA]; exact h1, ⟨h6, h7⟩, .inl ⟨v, rfl, h3, h4, h5⟩⟩

theorem den_draw (hn : OrcNext orc) {nt id : Nat} {ops : Array Oper} {d : DA} (hd : drOk P ops d (drawInfo P ops) = true) : DenOk P orc nt (.region id ops true) (.draw d) := by
  intro α t K st r h2 e ag
  rw [den] at e
  simp only [drOk, Bool.and_eq_true] at hd
  obtain ⟨⟨⟨⟨k1, k2⟩, k3⟩, k4⟩, k5⟩ := hd
  have k2 := beqN_eq k2
  have k3 := beqP_eq k3
  have k4 := beqP_eq k4
  rw [List.all_eq_true] at k5
  obtain ⟨n, tr, y, st', t', h1, hor⟩ := drawD_ok hn (pre := (Region.before ops).toList) d.order t [] K.nrm st r h2 e ag k5
  rcases hor with ⟨rfl, h3, acc, h4, h5⟩ | ⟨v, rfl, h3, h4, h5, h6, h7, h8, h9⟩
  · rw [List.nil_append] at h5
    obtain ⟨h6, h7⟩ := confD_ok h4 d.conf (fun _ h => h) h5
    obtain ⟨h8, h9⟩ := madeD_ok h4 d.made (fun _ h => h) h6
    refine ⟨n + 1, .normal, st', t', ?_, h8, .inr ⟨by simp, h3⟩⟩
    rw [codeA]
    simp only [cond_true, k1, k2, h1]
    have hc : confOk ops tr (drawInfo P ops).conf (drawInfo P ops).made = true := by
      rw [k3, k4, confOk, Bool.and_eq_true]
      exact ⟨h7, h9⟩
    rw [hc]; rfl
  · refine ⟨n + 1, .pan v, st', t', ?_, ⟨h6, h7⟩, .inl ⟨v, rfl, h3, h4, h5⟩⟩
    rw [codeA]
    simp only [cond_true, k1, k2, h1]
    have hc : confOk ops tr (drawInfo P ops).conf (drawInfo P ops).made = true := by
      rw [k3, k4, confOk, h8, h9]; rfl
    rw [hc]; rfl

theorem den_no {nt : Nat} {c : Code} {x : An} (h : ∀ (α : Type) (t : Tr AV) (K : KK α), den P orc nt c x α t K = no) : DenOk P orc nt c x := by
  intro α t K st r h2 e ag
  rw [h] at e
  exact (no_false e).elim

theorem den_ok (hn : OrcNext orc) {nt : Nat} : ∀ (c : Code) (x : An), anOk P c x = true → DenOk P orc nt c x := by
  intro c
  induction c with
  | skip =>
    intro x _ α t K st r h2 e ag
    rw [den] at e
    exact ⟨1, .normal, st, t, rfl, e, .inr ⟨by simp, ag⟩⟩
  | region id ops draw =>
    intro x hx
    cases draw with
    | false => exact den_region
    | true =>
      cases x with
      | draw d => exact den_draw hn hx
      | _ => exact den_no fun α t K => by rw [den] <;> simp
  | seq a b iha ihb =>
    intro x hx
    cases x with
    | two x y =>
      simp only [anOk, Bool.and_eq_true] at hx
      exact den_seq (iha x hx.1) (ihb y hx.2)
    | join L x y =>
      simp only [anOk, Bool.and_eq_true] at hx
      exact den_join (iha x hx.1) (ihb y hx.2)
    | _ => exact den_no fun α t K => by rw [den] <;> simp
  | cond c a b iha ihb =>
    intro x hx
    cases x with
    | two x y =>
      simp only [anOk, Bool.and_eq_true] at hx
      exact den_cond (iha x hx.1) (ihb y hx.2)
    | _ => exact den_no fun α t K => by rw [den] <;> simp
  | block id b ihb =>
    intro x hx
    cases x with
    | one x => exact den_block (ihb x hx)
    | bjoin L x => exact den_bjoin (ihb x hx)
    | _ => exact den_no fun α t K => by rw [den] <;> simp
  | loop b ihb =>
    intro x hx
    cases x with
    | loop L X x => exact den_loop (ihb x hx)
    | _ => exact den_no fun α t K => by rw [den] <;> simp
  | exit id => exact fun x _ => den_exit
  | ret => exact fun x _ => den_ret
  | _ => exact fun x _ => den_no fun α t K => by rw [den] <;> simp

/-- What a function's body says as a function, a call says. -/
theorem denF_ok (hn : OrcNext orc) {f : FuncId} {fn : Func} {c : Code} {x : An} (ho : orc f = none) (hf : P.funcs[f]? = some fn) (hb : fn.body = some c) (hx : anOk P c x = true)
    {l : List AV} {h h2 : AH} {r : Ex AV} (e : denF P orc fn c x l h = some (r, h2)) : ca P orc f l h = some (r, h2) := by
  rw [denF] at e
  obtain ⟨n, y, st', t', h1, hK, hor⟩ := den_ok hn c x hx AV (initT 0 l .nil) _ { nt := fn.ntmps, tmps := initT 0 l .nil, defers := [], rc := .off, heap := h } r h2 e ⟨rfl, Sub.refl _, rfl, rfl⟩
  have fin : ∀ {vs : List AV}, resV P t' st'.heap fn.results.toList = some vs → Ag fn.ntmps t' st' → (rt (tupA vs) : M AV) st'.heap = some (r, h2) → y = .normal ∨ y = .ret → ca P orc f l h = some (r, h2) := by
    intro vs hv ag hr hy
    simp only [rt, Option.some.injEq, Prod.mk.injEq] at hr
    obtain ⟨rfl, rfl⟩ := hr
    have hcall : callA P orc (n + 2) f l h = some (.ret (tupA vs), st'.heap) := by
      rw [callA, ho]
      simp only [hf, hb]
      rw [codeA_mono (Nat.le_succ n) h1]
      have hl : leaveA P orc (n + 1) fn st'.tmps st'.defers none st'.heap = some (.ret (tupA vs), st'.heap) := by
        rw [ag.ds, leaveA, resultsA, resV_resultA hv ag.sub]; rfl
      rcases hy with rfl | rfl <;> exact hl
    rw [ca, callX_of hcall]
  cases y with
  | normal =>
    rcases hor with ⟨v, hv, _⟩ | ⟨_, ag⟩
    · simp at hv
    · obtain ⟨vs, h3, h4⟩ := resK_some hK
      exact fin h3 ag h4 (.inl rfl)
  | exit id =>
    obtain ⟨k, hk, _⟩ := hK
    simp [findX] at hk
  | ret =>
    rcases hor with ⟨v, hv, _⟩ | ⟨_, ag⟩
    · simp at hv
    · obtain ⟨vs, h3, h4⟩ := hK
      exact fin h3 ag h4 (.inr rfl)
  | pan v =>
    obtain ⟨rfl, rfl⟩ := hK
    rcases hor with ⟨v', hv, h3, h4, h5⟩ | ⟨h3, _⟩
    · have hcall : callA P orc (n + 2) f l h = some (.pan v, st'.heap) := by
        rw [callA, ho]
        simp only [hf, hb]
        rw [codeA_mono (Nat.le_succ n) h1]
        show leaveA P orc (n + 1) fn st'.tmps st'.defers (some v) st'.heap = _
        rw [h3, leaveA]
      rw [ca, callX_of hcall]
    · exact absurd rfl (h3 v)

end
end Go.Am

namespace Go.Am
open Go

noncomputable def denB (P : Program) (orc : Orc) (fn : Func) (x : An) (l : List AV) : M AV := match fn.body with
  | some c => denF P orc fn c x l
  | none => no

def anB (P : Program) (fn : Func) (x : An) : Bool := match fn.body with
  | some c => anOk P c x
  | none => true

theorem denB_ok {P : Program} {orc : Orc} (hn : OrcNext orc) {f : FuncId} {fn : Func} {x : An} (ho : orc f = none) (hf : P.funcs[f]? = some fn) (hx : anB P fn x = true) {l : List AV} {t : M AV}
    (ht : denB P orc fn x l = t) {h : AH} {r : Ex AV × AH} (e : t h = some r) : ca P orc f l h = some r := by
  subst ht
  unfold denB at e
  unfold anB at hx
  cases hb : fn.body with
  | none => simp only [hb] at e; simp [no] at e
  | some c =>
    simp only [hb] at e hx
    obtain ⟨r, h2⟩ := r
    exact denF_ok hn ho hf hb hx e

end Go.Am
