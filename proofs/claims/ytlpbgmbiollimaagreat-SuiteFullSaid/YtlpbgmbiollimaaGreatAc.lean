/-
  What the abstract machine says of stores, appends, copies and maps is what the model does.
  Conditions: none.
-/
import Derived.Test.YtlpbgmbiollimaaGreatAb
set_option linter.unusedSimpArgs false
set_option linter.unusedVariables false
namespace Go.Am
open Go

theorem putV_length : ∀ (l C : List Value) (k : Nat), (putV C k l).length = C.length
  | [], _, _ => rfl
  | v :: l, C, k => by rw [putV, putV_length l]; simp

theorem putV_get : ∀ (l C : List Value) (k j : Nat), (putV C k l)[j]? = if k ≤ j ∧ j < k + l.length ∧ j < C.length then l[j - k]? else C[j]?
  | [], C, k, j => by rw [putV, if_neg (by simp; omega)]
  | v :: l, C, k, j => by
    rw [putV, putV_get l (C.set k v) (k + 1) j]
    by_cases h1 : j = k
    · subst h1
      rw [if_neg (by omega)]
      by_cases h2 : j < C.length
      · rw [if_pos ⟨by omega, by simp, h2⟩]; simp [h2]
      · rw [if_neg (by omega)]; simp [List.getElem?_eq_none (Nat.le_of_not_lt h2)]; omega
    · by_cases h2 : k + 1 ≤ j ∧ j < k + 1 + l.length ∧ j < (C.set k v).length
      · rw [if_pos h2, if_pos (by simp at h2 ⊢; omega)]
        have : j - k = (j - (k + 1)) + 1 := by omega
        rw [this]; simp
      · rw [if_neg h2, if_neg (by simp at h2 ⊢; omega), List.getElem?_set_ne (Ne.symm h1)]

theorem putV_window (C l : List Value) (s k m : Nat) (hk : k + l.length ≤ m) (hm : s + m ≤ C.length) : ((putV C (s + k) l).drop s).take m = putV ((C.drop s).take m) k l := by
  apply List.ext_getElem?
  intro j
  rw [putV_get]
  by_cases hj : j < m
  · rw [getElem?_drop_take _ _ _ _ hj, putV_get, getElem?_drop_take _ _ _ _ hj]
    by_cases h1 : k ≤ j ∧ j < k + l.length
    · rw [if_pos ⟨by omega, by omega, by omega⟩, if_pos ⟨h1.1, h1.2, by simp; omega⟩]
      congr 1; omega
    · rw [if_neg (by omega), if_neg (by omega)]
  · rw [List.getElem?_eq_none (by simp; omega), if_neg (by omega), List.getElem?_eq_none (by simp; omega)]

theorem putV_append (C l : List Value) (o a : Nat) (hb : o + a + l.length ≤ C.length) : ((putV C (o + a) l).drop o).take (a + l.length) = (C.drop o).take a ++ l := by
  apply List.ext_getElem?
  intro j
  have hl : ((C.drop o).take a).length = a := by simp; omega
  by_cases hj : j < a + l.length
  · rw [getElem?_drop_take _ _ _ _ hj, putV_get]
    by_cases h1 : j < a
    · rw [if_neg (by omega), List.getElem?_append_left (by omega), getElem?_drop_take _ _ _ _ h1]
    · rw [if_pos ⟨by omega, by omega, by omega⟩, List.getElem?_append_right (by omega), hl]
      congr 1; omega
  · rw [List.getElem?_eq_none (by simp; omega), List.getElem?_eq_none (by simp; omega)]

/-- One block holds another object; nothing else has turned. -/
structure Wr (w w' : World) (b : Nat) (o : Obj) : Prop where
  size : w'.heap.size = w.heap.size
  here : w'.heap[b]? = some o
  other : ∀ k, k ≠ b → w'.heap[k]? = w.heap[k]?
  os : w'.os = w.os
  tape : w'.tape = w.tape
  output : w'.output = w.output

section
variable {P : Program} {ρ : Ren} {h : AH} {w : World}

theorem vone_eq (v : Value) : v.oneCell' = vone v := by cases v <;> rfl

theorem heap_setCell {b o : Nat} {C : List Value} {t : TypeId} {fz : Nat × Nat} (hb : w.heap[b]? = some (.cells ⟨C⟩ t fz)) (v : Value) : Wr w (w.setCell ⟨b, o, none⟩ v) b (.cells ⟨C.set o v⟩ t fz) := by
  refine ⟨by simp, ?_, fun k hk => heap_setCell_other w ⟨b, o, none⟩ k v hk, rfl, rfl, rfl⟩
  simp only [World.setCell, Array.getElem?_modify, hb]
  simp

theorem run_storeCells : ∀ (vs : List Value) (i : Nat) (C : List Value) (w : World) {b o : Nat} {t : TypeId} {fz : Nat × Nat}, w.heap[b]? = some (.cells ⟨C⟩ t fz) → o + i + vs.length ≤ C.length →
    (∀ v ∈ vs, vone v = true) → (∀ j, j < C.length → ¬ (fz.1 ≤ j ∧ j < fz.2)) → ∃ w', (storeCells ⟨b, o, none⟩ vs i).run P w = .ok () w' ∧ Wr w w' b (.cells ⟨putV C (o + i) vs⟩ t fz)
  | [], i, C, w, b, o, t, fz, hb, _, _, _ => ⟨w, rfl, rfl, hb, fun _ _ => rfl, rfl, rfl, rfl⟩
  | v :: vs, i, C, w, b, o, t, fz, hb, hl, h1, hf => by
    simp at hl
    have hlt : o + i < C.length := by omega
    have hcell : w.cell? ⟨b, o + i, none⟩ = some C[o + i] := by
      rw [cell_of_row w b (o + i) ⟨C⟩ t fz hb]; simp [hlt]
    have hfr : w.frozen? ⟨b, o + i, none⟩ = false := by
      simp only [World.frozen?, hb]
      have := hf (o + i) hlt
      simpa using this
    have hw := heap_setCell (o := o + i) hb v
    obtain ⟨w', hr, hW⟩ := run_storeCells vs (i + 1) (C.set (o + i) v) (w.setCell ⟨b, o + i, none⟩ v) (b := b) (o := o) hw.here (by simp; omega) (fun u hu => h1 u (List.mem_cons_of_mem _ hu)) (by simpa using hf)
    refine ⟨w', ?_, hW.size.trans hw.size, ?_, fun k hk => (hW.other k hk).trans (hw.other k hk), hW.os.trans hw.os, hW.tape.trans hw.tape, hW.output.trans hw.output⟩
    · simp only [storeCells, addr_add, Sem.run_bind]
      rw [run_store P w ⟨b, o + i, none⟩ v .plain (by rw [vone_eq]; exact h1 v (List.mem_cons_self ..)), hcell]
      simp only [hfr, Bool.false_eq_true, if_false, Result.andThen_ok]
      exact hr
    · rw [hW.here]; rfl

/-- An object that may be written holds something else now. -/
theorem HR.setO (hh : HR ρ h w) {w' : World} {i b s z : Nat} {o o' : AO} {O : Obj} (hg : h.get i = some o) (hwr : o.wr = true) (hwr' : o'.wr = true) (hρ : ρ i = some (b, s, z)) (hW : Wr w w' b O)
    (ho : OR ρ i w' o') : HR ρ (h.set i o') w' ∧ Frm ρ h w ρ (h.set i o') w' := by
  have hget : ∀ j oj, (h.set i o').get j = some oj → ∃ ok, h.get j = some ok ∧ (oj.wr = true → ok.wr = true) ∧ (oj.live = true → ok.live = true) := by
    intro j oj hj
    rw [AH.get_set] at hj
    split at hj
    · rename_i e; subst e
      exact ⟨o, hg, fun _ => hwr, fun _ => AO.live_of_wr hwr⟩
    · exact ⟨oj, hj, id, id⟩
  refine ⟨⟨fun j x hx => by rw [hW.size]; exact hh.dom j x hx, fun j oj hj => ?_, fun j oj hj => ?_, fun j k oj ok x y hj hk hjk hwj hlk hx hy => ?_⟩,
    ⟨Ren.le_refl _, fun _ _ => rfl, by simp, hW.os, hW.tape, hW.output, by rw [hW.size]; exact Nat.le_refl _, fun c _ hm => ?_, fun c hc => ?_, fun j oj hj hl hw => ?_⟩⟩
  · obtain ⟨ok, hk, _⟩ := hget j oj hj; exact hh.new j ok hk
  · rw [AH.get_set] at hj
    split at hj
    · rename_i e; subst e; simp only [Option.some.injEq] at hj; subst hj; exact ho
    · rename_i e
      refine (hh.obj j oj hj).mono (Ren.le_refl _) fun hl x hx => hW.other _ ?_
      have := hh.inj i j o oj (b, s, z) x hg hj e hwr hl hρ hx
      exact fun e => this e.symm
  · obtain ⟨oj', hj', hj1, hj2⟩ := hget j oj hj
    obtain ⟨ok', hk', hk1, hk2⟩ := hget k ok hk
    exact hh.inj j k oj' ok' x y hj' hk' hjk (hj1 hwj) (hk2 hlk) hx hy
  · exact hW.other c fun e => hm ⟨i, o, (b, s, z), hg, hwr, hρ, e.symm⟩
  · obtain ⟨j, oj, x, hj, hwj, hx, rfl⟩ := hc
    obtain ⟨oj', hj', hj1, _⟩ := hget j oj hj
    exact .inl ⟨j, oj', x, hj', hj1 hwj, hx, rfl⟩
  · rw [AH.get_set] at hj
    split at hj
    · simp only [Option.some.injEq] at hj; subst hj; rw [hwr'] at hw; simp at hw
    · exact hj

theorem HR.kill (hh : HR ρ h w) {i : Nat} {o : AO} (hg : h.get i = some o) : HR ρ (h.set i .dead) w := by
  have hget : ∀ j oj, (h.set i .dead).get j = some oj → oj.live = true → h.get j = some oj := by
    intro j oj hj hl
    rw [AH.get_set] at hj
    split at hj
    · simp only [Option.some.injEq] at hj; subst hj; simp [AO.live] at hl
    · exact hj
  refine ⟨hh.dom, fun j oj hj => ?_, fun j oj hj => ?_, fun j k oj ok x y hj hk hjk hwj hlk hx hy => ?_⟩
  · rw [AH.get_set] at hj
    split at hj
    · rename_i e; subst e; exact hh.new i o hg
    · exact hh.new j oj hj
  · rw [AH.get_set] at hj
    split at hj
    · simp only [Option.some.injEq] at hj; subst hj; trivial
    · exact hh.obj j oj hj
  · exact hh.inj j k oj ok x y (hget j oj hj (AO.live_of_wr hwj)) (hget k ok hk hlk) hjk hwj hlk hx hy

theorem Frm.kill (h : AH) (i : Nat) (w : World) : Frm ρ h w ρ (h.set i .dead) w := by
  refine ⟨Ren.le_refl _, fun _ _ => rfl, by simp, rfl, rfl, rfl, Nat.le_refl _, fun _ _ _ => rfl, fun c hc => ?_, fun j oj hj hl hw => ?_⟩
  · obtain ⟨j, oj, x, hj, hwj, hx, rfl⟩ := hc
    rw [AH.get_set] at hj
    split at hj
    · simp only [Option.some.injEq] at hj; subst hj; simp [AO.wr] at hwj
    · exact .inl ⟨j, oj, x, hj, hwj, hx, rfl⟩
  · rw [AH.get_set] at hj
    split at hj
    · simp only [Option.some.injEq] at hj; subst hj; simp [AO.live] at hl
    · exact hj

/-- A row goes on in the block of another one, which is no more. -/
theorem HR.move (hh : HR ρ h w) {w' : World} {i b s z s' : Nat} {o o' : AO} {O : Obj} (hg : h.get i = some o) (hwr : o.wr = true) (hwo : o'.wr = true) (hρ : ρ i = some (b, s, z)) (hW : Wr w w' b O)
    (ho : OR (ρ.ext h.next (b, s', z)) h.next w' o') :
    HR (ρ.ext h.next (b, s', z)) ((h.set i .dead).add o') w' ∧ Frm ρ h w (ρ.ext h.next (b, s', z)) ((h.set i .dead).add o') w' := by
  have hle : ρ.le (ρ.ext h.next (b, s', z)) := Ren.le_ext (hh.none (Nat.le_refl _))
  have hsame : ∀ j, j < h.next → (ρ.ext h.next (b, s', z)) j = ρ j := fun j hj => Ren.ext_ne _ _ (by omega)
  have hget : ∀ j oj, ((h.set i .dead).add o').get j = some oj → oj.live = true → (j = h.next ∧ oj = o') ∨ (j < h.next ∧ j ≠ i ∧ h.get j = some oj) := by
    intro j oj hj hl
    rw [AH.get_add] at hj
    split at hj
    · rename_i e; simp only [Option.some.injEq] at hj; exact .inl ⟨by simpa using e.symm, hj.symm⟩
    · rw [AH.get_set] at hj
      split at hj
      · simp only [Option.some.injEq] at hj; subst hj; simp [AO.live] at hl
      · rename_i e1 e2; exact .inr ⟨hh.new j oj hj, fun e => e2 e.symm, hj⟩
  have hb := (hh.dom i _ hρ).2
  refine ⟨⟨fun j x hx => ?_, fun j oj hj => ?_, fun j oj hj => ?_, fun j k oj ok x y hj hk hjk hwj hlk hx hy => ?_⟩,
    ⟨hle, hsame, by simp, hW.os, hW.tape, hW.output, by rw [hW.size]; exact Nat.le_refl _, fun c _ hm => hW.other c fun e => hm ⟨i, o, (b, s, z), hg, hwr, hρ, e.symm⟩, fun c hc => ?_, fun j oj hj hl hw => ?_⟩⟩
  · by_cases e : j = h.next
    · subst e; rw [Ren.ext_self] at hx; simp only [Option.some.injEq] at hx; subst hx
      simp only [AH.next_add, AH.next_set, hW.size]; exact ⟨by omega, hb⟩
    · rw [Ren.ext_ne _ _ e] at hx
      have := hh.dom j x hx
      simp only [AH.next_add, AH.next_set, hW.size]; omega
  · rw [AH.get_add] at hj
    split at hj
    · rename_i e; simp at e; simp; omega
    · rw [AH.get_set] at hj
      split at hj
      · rename_i e; subst e; have := hh.new i o hg; simp; omega
      · have := hh.new j oj hj; simp; omega
  · rw [AH.get_add] at hj
    split at hj
    · rename_i e; simp only [Option.some.injEq] at hj; subst hj
      have : j = h.next := by simpa using e.symm
      subst this; exact ho
    · rw [AH.get_set] at hj
      split at hj
      · simp only [Option.some.injEq] at hj; subst hj; trivial
      · rename_i e
        refine (hh.obj j oj hj).mono hle fun hl x hx => hW.other _ ?_
        have := hh.inj i j o oj (b, s, z) x hg hj e hwr hl hρ hx
        exact fun e => this e.symm
  · rcases hget j oj hj (AO.live_of_wr hwj) with ⟨rfl, rfl⟩ | ⟨hj1, hj2, hj3⟩
    · rcases hget k ok hk hlk with ⟨rfl, rfl⟩ | ⟨hk1, hk2, hk3⟩
      · exact absurd rfl hjk
      · rw [Ren.ext_self] at hx; simp only [Option.some.injEq] at hx; subst hx
        rw [hsame k hk1] at hy
        exact hh.inj i k o ok (b, s, z) y hg hk3 (fun e => hk2 e.symm) hwr hlk hρ hy
    · rw [hsame j hj1] at hx
      rcases hget k ok hk hlk with ⟨rfl, rfl⟩ | ⟨hk1, hk2, hk3⟩
      · rw [Ren.ext_self] at hy; simp only [Option.some.injEq] at hy; subst hy
        have := hh.inj i j o oj (b, s, z) x hg hj3 (fun e => hj2 e.symm) hwr (AO.live_of_wr hwj) hρ hx
        exact fun e => this e.symm
      · rw [hsame k hk1] at hy
        exact hh.inj j k oj ok x y hj3 hk3 hjk hwj hlk hx hy
  · obtain ⟨j, oj, x, hj, hwj, hx, rfl⟩ := hc
    rcases hget j oj hj (AO.live_of_wr hwj) with ⟨rfl, rfl⟩ | ⟨hj1, hj2, hj3⟩
    · rw [Ren.ext_self] at hx; simp only [Option.some.injEq] at hx; subst hx
      exact .inl ⟨i, o, (b, s, z), hg, hwr, hρ, rfl⟩
    · rw [hsame j hj1] at hx; exact .inl ⟨j, oj, x, hj3, hwj, hx, rfl⟩
  · rcases hget j oj hj hl with ⟨rfl, rfl⟩ | ⟨_, _, h3⟩
    · rw [hwo] at hw; simp at hw
    · exact h3

theorem vone_of_ones : ∀ {l : List AV} {vs : List Value}, LR ρ l vs → ones l = true → ∀ v ∈ vs, vone v = true
  | [], _, hl, _, v, hv => by simp only [LR] at hl; subst hl; simp at hv
  | a :: l, _, hl, h1, v, hv => by
    simp only [LR] at hl; obtain ⟨u, us, rfl, hu, hus⟩ := hl
    simp only [ones, List.all_cons, Bool.and_eq_true] at h1
    rcases List.mem_cons.1 hv with rfl | hv
    · rw [hu.one]; exact h1.1
    · exact vone_of_ones hus h1.2 v hv

/-- Cells written into an object. -/
theorem writeA_ok (hh : HR ρ h w) {h' : AH} {i o b s z : Nat} {new : List AV} {newV : List Value} (hρ : ρ i = some (b, s, z)) (hl : LR ρ new newV) (hw : writeA h i o new = some h') :
    ∃ w', (storeCells ⟨b, s + o, none⟩ newV).run P w = .ok () w' ∧ HR ρ h' w' ∧ Frm ρ h w ρ h' w' := by
  unfold writeA at hw
  split at hw
  · rename_i cs t hg
    split at hw
    · rename_i hb
      obtain ⟨hb, h1⟩ := hb
      simp only [Option.some.injEq] at hw; subst hw
      have ho := hh.obj i _ hg
      simp only [OR] at ho
      obtain ⟨b', s', z', C, fz, hρ', hwb, hC, hle, hlr, hone, hf⟩ := ho
      rw [hρ] at hρ'; simp only [Option.some.injEq, Prod.mk.injEq] at hρ'; obtain ⟨rfl, rfl, rfl⟩ := hρ'
      have hnl := hl.length
      obtain ⟨w', hr, hW⟩ := run_storeCells (P := P) newV 0 C w (b := b) (o := s + o) hwb (by omega) (vone_of_ones hl h1) (by rw [hC]; exact hf trivial)
      rw [Nat.add_zero] at hW
      refine ⟨w', hr, HR.setO hh hg rfl rfl hρ hW ?_⟩
      simp only [OR]
      refine ⟨b, s, z, _, fz, hρ, hW.here, by rw [putV_length]; exact hC, by rw [putCells_length]; exact hle, ?_, ?_, fun _ => hf trivial⟩
      · rw [putCells_length, putV_window C newV s o cs.length (by omega) (by omega)]
        exact putCells_LR o hlr hl
      · intro c hc
        exact putCells_one hone h1 c hc
    · simp at hw
  · simp at hw
where
  putCells_one : ∀ {new cs : List AV} {o : Nat}, (∀ c ∈ cs, c.one = true) → ones new = true → ∀ c ∈ putCells cs o new, c.one = true
    | [], cs, o, hc, _, c, hm => hc c hm
    | a :: new, cs, o, hc, hn, c, hm => by
      simp only [ones, List.all_cons, Bool.and_eq_true] at hn
      refine putCells_one (new := new) (cs := cs.set o a) (o := o + 1) (fun x hx => ?_) hn.2 c hm
      rcases List.mem_or_eq_of_mem_set hx with hx | rfl
      · exact hc x hx
      · exact hn.1

theorem storeA_ok (hh : HR ρ h w) {h' : AH} {t : TypeId} {i o b s z : Nat} {v : AV} {u : Value} (hρ : ρ i = some (b, s, z)) (hv : VR ρ v u) (hw : storeA P t h i o v = some h') :
    ∃ w', (storeVar t ⟨b, s + o, none⟩ u).run P w = .ok () w' ∧ HR ρ h' w' ∧ Frm ρ h w ρ h' w' := by
  unfold storeA at hw
  split at hw
  · rename_i hs
    have hc := VR.cells hv
    obtain ⟨w', hr, h1, h2⟩ := writeA_ok (P := P) hh hρ hc hw
    refine ⟨w', ?_, h1, h2⟩
    have hlen : u.cells.size = v.cells.length := by simpa using hc.length
    simp only [storeVar, Sem.run_bind, run_sz hs, Result.andThen_ok]
    rw [if_neg (by omega)]
    exact hr
  · simp at hw

end
end Go.Am

namespace Go.Am
open Go

section
variable {P : Program} {ρ : Ren} {h : AH} {w : World}

theorem lenOfA_ok {a : AV} {u : Value} {n : Nat} (hx : VR ρ a u) (hl : lenOfA a = some n) (w : World) : (Builtin.lenOf u).run P w = .ok n w := by
  unfold lenOfA at hl
  split at hl
  · rename_i p n' c s
    simp only [Option.some.injEq] at hl; subst hl
    cases p with
    | none => simp only [VR] at hx; obtain ⟨rfl, rfl, rfl⟩ := hx; rfl
    | some p => obtain ⟨i, o⟩ := p; simp only [VR] at hx; obtain ⟨b, s', z, o', c', _, rfl, _⟩ := hx; rfl
  · simp only [Option.some.injEq] at hl; subst hl
    simp only [VR] at hx; subst hx; simp [Builtin.lenOf, ByteArray.size]
  · simp at hl

/-- The cells at the head of a slice or a string. -/
theorem firstA_ok (hh : HR ρ h w) {size n : Nat} {x : AV} {u : Value} {l : List AV} (hx : VR ρ x u) (hn : ∀ m, lenOfA x = some m → n ≤ m) (hl : firstA h size n x = some l) :
    ∃ vs, LR ρ l vs ∧ ∀ w', w'.heap = w.heap → (Builtin.firstCells size n u).run P w' = .ok ⟨vs⟩ w' := by
  unfold firstA at hl
  split at hl
  · simp only [VR] at hx; obtain ⟨_, _, rfl⟩ := hx
    simp only [Option.some.injEq] at hl; subst hl
    exact ⟨[], LR.nil, fun w' _ => rfl⟩
  · rename_i i o len cap sz
    simp only [VR] at hx; obtain ⟨b, s, z, o', c, hρ, rfl, h1, h2, h3, h4⟩ := hx
    obtain ⟨vs, hvs, hlen, hc, _⟩ := row_ok hh hρ hl
    refine ⟨vs, hvs, fun w' hw => ?_⟩
    have hc' : ∀ j v, vs[j]? = some v → w'.cell? ⟨b, s + o + j, none⟩ = some v := by
      intro j v hj
      have := hc j v hj
      simp only [World.cell?, hw] at this ⊢; exact this
    simp only [Builtin.firstCells]
    by_cases h0 : n * size = 0
    · rw [h0] at hlen ⊢
      have : vs = [] := List.length_eq_zero_iff.1 hlen
      subst this
      simp [loadCells, loadCellsFrom]
    · have hn0 : n ≠ 0 := fun e => h0 (by rw [e]; simp)
      have hnl := hn len rfl
      have ho : o' = s + o := by rcases h4 with h4 | h4 <;> omega
      subst ho
      rw [← hlen]; exact run_cells hc'
  · rename_i s
    simp only [Option.some.injEq] at hl; subst hl
    simp only [VR] at hx; subst hx
    refine ⟨(s.take n).map fun b => Value.int .u8 b.toNat, ?_, fun w' _ => ?_⟩
    · refine LR.of_get (by simp [u8s]) fun j a hj => ?_
      simp only [u8s, List.getElem?_map, Option.map_eq_some_iff] at hj ⊢
      obtain ⟨c, hc, rfl⟩ := hj
      exact ⟨_, ⟨c, hc, rfl⟩, VR.mkInt⟩
    · simp only [Builtin.firstCells, Sem.run_pure]
      congr 1
      apply Array.ext'
      simp [extract_data]
  · simp at hl

/-- What 'append' is to append: how many elements, their cells. -/
theorem newCells_ok (hh : HR ρ h w) {e : TypeId} {inf : TypeInfo} {zb : Bool} {x : AV} {u zv : Value} {n : Nat} {new : List AV} (hi : P.info? e = some inf) (hz : inf.zero = some zv) (hzs : zv.cells.size = inf.size) (hx : VR ρ x u)
    (hs : 0 < inf.size) (hn : newCells P h e inf.size zb x = some (n, new)) :
    ∃ newV, LR ρ new newV ∧ (zb = false → (∀ w' : World, (Builtin.lenOf u).run P w' = .ok n w') ∧ ∀ w' : World, w'.heap = w.heap → (Builtin.firstCells inf.size n u).run P w' = .ok ⟨newV⟩ w') ∧
      (zb = true → ∃ m, u = .int .i64 m ∧ IntKind.i64.wrap m = m ∧ ¬ (m < 0) ∧ ¬ (m * (inf.bytes : Int) > 281474976710656) ∧ n = m.toNat ∧ (n * inf.size = 0 → newV = []) ∧ Builtin.zeroCells zv.cells n = ⟨newV⟩) := by
  unfold newCells at hn
  cases zb with
  | false =>
    simp only [cond_false] at hn
    split at hn
    · rename_i m hm
      simp only [Option.map_eq_some_iff, Prod.mk.injEq] at hn
      obtain ⟨l, hl, rfl, rfl⟩ := hn
      obtain ⟨vs, hvs, hr⟩ := firstA_ok (P := P) hh hx (fun m' e' => by rw [hm] at e'; simp at e'; omega) hl
      exact ⟨vs, hvs, fun _ => ⟨fun w' => lenOfA_ok hx hm w', hr⟩, fun e => by simp at e⟩
    · simp at hn
  | true =>
    simp only [cond_true] at hn
    split at hn
    · rename_i m z inf' hza hinf
      rw [hi] at hinf; simp only [Option.some.injEq] at hinf; subst hinf
      split at hn
      · rename_i hc
        obtain ⟨h0, hb, h1, hzl⟩ := hc
        simp only [Option.some.injEq, Prod.mk.injEq] at hn; obtain ⟨rfl, rfl⟩ := hn
        have hzv : VR ρ z zv := by
          unfold zeroA at hza; rw [hi] at hza; simp only [hz, Option.bind_some] at hza; exact constA_ok hza
        have hzc := VR.cells hzv
        simp only [VR] at hx; subst hx
        have harr := zeros_eq zv (by omega) m.toNat
        refine ⟨replV m.toNat zv.cells.toList, replA_LR hzc _, fun e => by simp at e, fun _ => ⟨m, rfl, wrap_i64 h0 h1, by omega, ?_, rfl, fun hz0 => ?_, harr⟩⟩
        · have : (2 : Int) ^ 46 ≤ 281474976710656 := by decide
          omega
        · have hl0 : m.toNat = 0 := by rcases Nat.mul_eq_zero.1 hz0 with h | h <;> omega
          rw [hl0]; rfl
      · simp at hn
    · simp at hn

theorem growBy_le (newLen : Nat) : ∀ (rounds c : Nat), c < newLen → Builtin.growBy newLen rounds c ≤ 2 * newLen + 500
  | 0, c, h => by simp [Builtin.growBy]; omega
  | r + 1, c, h => by
    simp only [Builtin.growBy]
    rw [if_neg (by omega)]
    by_cases h1 : c + (c + 768) / 4 < newLen
    · exact growBy_le newLen r _ h1
    · have : ∀ r, Builtin.growBy newLen r (c + (c + 768) / 4) = c + (c + 768) / 4 := by
        intro r; cases r with
        | zero => rfl
        | succ r => simp only [Builtin.growBy]; rw [if_pos (by omega)]
      rw [this]; omega

theorem nextslicecap_le {need old : Nat} (h : old < need) : Builtin.nextslicecap need old ≤ 2 * need + 512 := by
  unfold Builtin.nextslicecap
  split
  · omega
  · split
    · omega
    · have := growBy_le need 4 old h; omega

theorem arr_app (a b : List Value) (Z : Array Value) : (⟨a⟩ : Array Value) ++ (⟨b⟩ ++ Z) = ⟨a ++ b⟩ ++ Z := by
  apply Array.ext'; simp

/-- The model's append, by how much room there is: a slice or a string is appended. -/
theorem append_plain {st xt e ty : TypeId} {rest : List TypeId} {dx : TypeDesc} {inf : TypeInfo} {zv xv : Value} {b' : Option Addr} {len capC n : Nat} {newV : List Value} (hst : P.underlying st = some (.slice e)) (hdx : P.underlying xt = some dx)
    (hi : P.info? e = some inf) (hz : inf.zero = some zv)
    (hni : isIntO (some dx) = false)
    (hn : ∀ w' : World, (Builtin.lenOf xv).run P w' = .ok n w') (hnew : ∀ w' : World, w'.heap = w.heap → (Builtin.firstCells inf.size n xv).run P w' = .ok ⟨newV⟩ w') :
    (len + n ≤ capC → b' = none → (Builtin.append_ ⟨st :: xt :: rest⟩ ty ⟨[.slice b' len capC, xv]⟩).run P w = .ok (.slice none (len + n) capC) w) ∧
    (len + n ≤ capC → ∀ a w', b' = some a → (storeCells (a.add (len * inf.size)) newV).run P w = .ok () w' → (Builtin.append_ ⟨st :: xt :: rest⟩ ty ⟨[.slice b' len capC, xv]⟩).run P w = .ok (.slice (some a) (len + n) capC) w') ∧
    (¬ (len + n ≤ capC) → 0 < inf.bytes → (2 * (len + n) + 512) * inf.bytes ≤ 2 ^ 47 → ∀ oldV, (∀ w' : World, w'.heap = w.heap → (Builtin.firstCells inf.size len (.slice b' len capC)).run P w' = .ok ⟨oldV⟩ w') →
      ∃ newCap, len + n ≤ newCap ∧ (Builtin.append_ ⟨st :: xt :: rest⟩ ty ⟨[.slice b' len capC, xv]⟩).run P w =
        .ok (.slice (some ⟨w.heap.size, 0, none⟩) (len + n) newCap) (w.drew.alloc (.cells (⟨oldV ++ newV⟩ ++ Builtin.zeroCells zv.cells (newCap - (len + n))) e))) := by
  have hsz : tsz P e = some inf.size := by simp [tsz, hi]
  have hzr : ∀ w, (zeroValue e).run P w = .ok zv w := fun w => by simp [zeroValue, run_inf hi, hz]
  refine ⟨fun hfit hb' => ?_, fun hfit a w' hb' hst' => ?_, fun hfit hb0 hbig oldV hold => ?_⟩
  · subst hb'
    simp only [Builtin.append_, List.getElem?_toArray, List.getElem?_cons_zero, List.getElem?_cons_succ, Sem.run_bind, run_und hst, run_und hdx, Result.andThen_ok, run_sz hsz, Sem.run_pure]
    cases dx <;> first | (simp [isIntO] at hni; done) | simp [hn, hfit, hnew w rfl]
  · subst hb'
    simp only [Builtin.append_, List.getElem?_toArray, List.getElem?_cons_zero, List.getElem?_cons_succ, Sem.run_bind, run_und hst, run_und hdx, Result.andThen_ok, run_sz hsz, Sem.run_pure]
    cases dx <;> first | (simp [isIntO] at hni; done) | simp [hn, hfit, hnew w rfl, hst']
  · have hcap := nextslicecap_le (need := len + n) (old := capC) (by omega)
    have hcap' : ¬ (Builtin.nextslicecap (len + n) capC * inf.bytes > 281474976710656) := by
      have := Nat.mul_le_mul_right inf.bytes hcap
      have e : (2 : Nat) ^ 47 ≤ 281474976710656 := by decide
      omega
    have hb0' : inf.bytes ≠ 0 := by omega
    refine ⟨len + n + w.tape w.drawn (.appendCap (len + n) capC e) % (2 ^ 63 - (len + n)), by omega, ?_⟩
    have ho := hold w.drew rfl
    have hw := hnew w.drew rfl
    simp only [Builtin.append_, List.getElem?_toArray, List.getElem?_cons_zero, List.getElem?_cons_succ, Sem.run_bind, run_und hst, run_und hdx, Result.andThen_ok, run_sz hsz, Sem.run_pure]
    cases dx <;> first | (simp [isIntO] at hni; done) | simp [hn, hfit, run_inf hi, hb0', hcap', Question.forced, Question.cut, ho, hw, hzr, newRow, arr_app]

/-- The model's append: so many zeros are appended. -/
theorem append_zeros {st xt e ty : TypeId} {rest : List TypeId} {dx : TypeDesc} {inf : TypeInfo} {zv xv : Value} {b' : Option Addr} {len capC n : Nat} {newV : List Value} (hst : P.underlying st = some (.slice e)) (hdx : P.underlying xt = some dx)
    (hi : P.info? e = some inf) (hz : inf.zero = some zv) {m : Int}
    (hni : isIntO (some dx) = true)
    (hx : xv = .int .i64 m) (hwm : IntKind.i64.wrap m = m) (hneg : ¬ (m < 0)) (hbm : ¬ (m * (inf.bytes : Int) > 281474976710656)) (hn : n = m.toNat) (hz0 : n * inf.size = 0 → newV = []) (hzc : Builtin.zeroCells zv.cells n = ⟨newV⟩) :
    (len + n ≤ capC → b' = none → (Builtin.append_ ⟨st :: xt :: rest⟩ ty ⟨[.slice b' len capC, xv]⟩).run P w = .ok (.slice none (len + n) capC) w) ∧
    (len + n ≤ capC → ∀ a w', b' = some a → (storeCells (a.add (len * inf.size)) newV).run P w = .ok () w' → (Builtin.append_ ⟨st :: xt :: rest⟩ ty ⟨[.slice b' len capC, xv]⟩).run P w = .ok (.slice (some a) (len + n) capC) w') ∧
    (¬ (len + n ≤ capC) → 0 < inf.bytes → (2 * (len + n) + 512) * inf.bytes ≤ 2 ^ 47 → ∀ oldV, (∀ w' : World, w'.heap = w.heap → (Builtin.firstCells inf.size len (.slice b' len capC)).run P w' = .ok ⟨oldV⟩ w') →
      ∃ newCap, len + n ≤ newCap ∧ (Builtin.append_ ⟨st :: xt :: rest⟩ ty ⟨[.slice b' len capC, xv]⟩).run P w =
        .ok (.slice (some ⟨w.heap.size, 0, none⟩) (len + n) newCap) (w.drew.alloc (.cells (⟨oldV ++ newV⟩ ++ Builtin.zeroCells zv.cells (newCap - (len + n))) e))) := by
  have hsz : tsz P e = some inf.size := by simp [tsz, hi]
  have hzr : ∀ w, (zeroValue e).run P w = .ok zv w := fun w => by simp [zeroValue, run_inf hi, hz]
  subst hx
  refine ⟨fun hfit hb' => ?_, fun hfit a w' hb' hst' => ?_, fun hfit hb0 hbig oldV hold => ?_⟩
  · subst hb'
    simp only [Builtin.append_, List.getElem?_toArray, List.getElem?_cons_zero, List.getElem?_cons_succ, Sem.run_bind, run_und hst, run_und hdx, Result.andThen_ok, run_sz hsz, Sem.run_pure]
    cases dx <;> first | (simp [isIntO] at hni; done) | skip
    by_cases h0 : n * inf.size = 0
    · simp [asInt, asIntOf, hwm, hneg, run_inf hi, hbm, ← hn, hfit, h0]
    · simp [asInt, asIntOf, hwm, hneg, run_inf hi, hbm, ← hn, hfit, h0, hzr, hzc]
  · subst hb'
    simp only [Builtin.append_, List.getElem?_toArray, List.getElem?_cons_zero, List.getElem?_cons_succ, Sem.run_bind, run_und hst, run_und hdx, Result.andThen_ok, run_sz hsz, Sem.run_pure]
    cases dx <;> first | (simp [isIntO] at hni; done) | skip
    by_cases h0 : n * inf.size = 0
    · have := hz0 h0; subst this
      simp [asInt, asIntOf, hwm, hneg, run_inf hi, hbm, ← hn, hfit, h0, hst']
    · simp [asInt, asIntOf, hwm, hneg, run_inf hi, hbm, ← hn, hfit, h0, hzr, hzc, hst']
  · have hcap := nextslicecap_le (need := len + n) (old := capC) (by omega)
    have hcap' : ¬ (Builtin.nextslicecap (len + n) capC * inf.bytes > 281474976710656) := by
      have := Nat.mul_le_mul_right inf.bytes hcap
      have e : (2 : Nat) ^ 47 ≤ 281474976710656 := by decide
      omega
    have hb0' : inf.bytes ≠ 0 := by omega
    refine ⟨len + n + w.tape w.drawn (.appendCap (len + n) capC e) % (2 ^ 63 - (len + n)), by omega, ?_⟩
    have ho := hold w.drew rfl
    simp only [Builtin.append_, List.getElem?_toArray, List.getElem?_cons_zero, List.getElem?_cons_succ, Sem.run_bind, run_und hst, run_und hdx, Result.andThen_ok, run_sz hsz, Sem.run_pure]
    cases dx <;> first | (simp [isIntO] at hni; done) | skip
    have hbig2 : ¬ (((len + n : Nat) : Int) > IntKind.i64.max) := by
      have : len + n ≤ (2 * (len + n) + 512) * inf.bytes := by
        have := Nat.mul_le_mul_left (2 * (len + n) + 512) hb0
        omega
      have e : (2 : Nat) ^ 47 ≤ 140737488355328 := by decide
      have e2 : IntKind.i64.max = 9223372036854775807 := rfl
      omega
    have hbig3 : (len : Int) + n ≤ 9223372036854775807 := by
      have e2 : IntKind.i64.max = 9223372036854775807 := rfl
      omega
    have hbig4 : (len : Int) + max m 0 ≤ 9223372036854775807 := by omega
    by_cases h0 : n * inf.size = 0
    · have := hz0 h0; subst this
      simp [asInt, asIntOf, hwm, hneg, run_inf hi, hbm, ← hn, hfit, h0, hb0', hcap', Question.forced, Question.cut, ho, hzr, newRow, hbig3, arr_app]
      intro hc; omega
    · simp [asInt, asIntOf, hwm, hneg, run_inf hi, hbm, ← hn, hfit, h0, hb0', hcap', Question.forced, Question.cut, ho, hzr, hzc, newRow, hbig3, arr_app]
      intro hc; omega

end
end Go.Am

namespace Go.Am
open Go

section
variable {P : Program} {ρ : Ren} {h : AH} {w : World}

theorem ones_append {a b : List AV} (ha : ones a = true) (hb : ones b = true) : ones (a ++ b) = true := by
  simp only [ones, List.all_append, Bool.and_eq_true] at *; exact ⟨ha, hb⟩

theorem zeroCells_length (zv : Value) (n : Nat) : (Builtin.zeroCells zv.cells n).toList.length = n * zv.cells.size := by
  simp [Builtin.zeroCells]

/-- A new row, in a world one draw on. -/
theorem grow_ok (hh : HR ρ h w) {e : TypeId} {cs : List AV} {V : List Value} {X : Array Value} {len cap sz : Nat} (hl : LR ρ cs V) (h1 : ones cs = true) (hlen : len ≤ cap) (hz : cap * sz ≤ V.length + X.toList.length) :
    ∃ ρ', HR ρ' (h.add (.cells cs e false)) (w.drew.alloc (.cells (⟨V⟩ ++ X) e)) ∧ Frm ρ h w ρ' (h.add (.cells cs e false)) (w.drew.alloc (.cells (⟨V⟩ ++ X) e)) ∧
      VR ρ' (.slice (some (h.next, 0)) len len sz) (.slice (some ⟨w.heap.size, 0, none⟩) len cap) := by
  have hn : New w (w.drew.alloc (.cells (⟨V⟩ ++ X) e)) := New.of_drawn (w1 := w.drew) rfl rfl rfl rfl (New.alloc _ _)
  have hle : ρ.le (ρ.ext h.next (w.heap.size, 0, V.length + X.toList.length)) := Ren.le_ext (hh.none (Nat.le_refl _))
  obtain ⟨a, b⟩ := HR.addO hh (z := V.length + X.toList.length) (o := .cells cs e false) hn rfl (OR.mk_cells (V := V) (X := X.toList) (fz := (0, 0)) (Ren.ext_self _ _ _) (by
      have := heap_alloc_new w.drew (.cells (⟨V⟩ ++ X) e)
      simp only [World.size_drew] at this
      rw [this]
      congr 2
      apply Array.ext'; simp) (LR.mono hle _ _ hl) (by simp) h1 (by simp))
  refine ⟨_, a, b, ?_⟩
  simp only [VR]
  exact ⟨_, _, _, 0, cap, Ren.ext_self _ _ _, rfl, Nat.le_refl _, hlen, by omega, .inr rfl⟩

set_option maxHeartbeats 1000000 in
theorem appendA_ok (hh : HR ρ h w) {ts : List TypeId} {as : List AV} {us : List Value} {ty : TypeId} {r : AV} {h' : AH} (hl : LR ρ as us) (ha : appendA P ts as h = some (r, h')) :
    ∃ v w' ρ', (Builtin.append_ ⟨ts⟩ ty ⟨us⟩).run P w = .ok v w' ∧ VR ρ' r v ∧ HR ρ' h' w' ∧ Frm ρ h w ρ' h' w' := by
  unfold appendA at ha
  split at ha
  rotate_left
  · simp at ha
  rename_i st xt rest base len cap sz x
  simp only [LR] at hl
  obtain ⟨sv, us', rfl, hsv, xv, us'', rfl, hxv, rfl⟩ := hl
  split at ha
  rotate_left
  · simp at ha
  rename_i e hst
  split at ha
  rotate_left
  · simp at ha
  rename_i inf hinf
  have hsz : tsz P e = some inf.size := by simp [tsz, hinf]
  split at ha
  · simp at ha
  rename_i n new hnew
  split at ha
  rotate_left
  · simp at ha
  rename_i hc
  obtain ⟨hs0, hb0, hnl, hones, hbase, hxt, hzf⟩ := hc
  obtain ⟨dx, hdx⟩ : ∃ d, P.underlying xt = some d := Option.isSome_iff_exists.1 hxt
  obtain ⟨zv, hzv, hzs⟩ : ∃ zv, inf.zero = some zv ∧ zv.cells.size = inf.size := by
    unfold zeroFits at hzf
    split at hzf
    · rename_i z hz; exact ⟨z, hz, by simpa using hzf⟩
    · simp at hzf
  obtain ⟨newV, hnV, hplain, hzeros⟩ := newCells_ok hh hinf hzv hzs hxv hs0 hnew
  have hnVl := hnV.length
  rw [hdx] at hplain hzeros
  -- the model's own text, by how much room there is
  have runs : ∀ (b' : Option Addr) (capC : Nat), sv = .slice b' len capC →
      (len + n ≤ capC → b' = none → (Builtin.append_ ⟨st :: xt :: rest⟩ ty ⟨[.slice b' len capC, xv]⟩).run P w = .ok (.slice none (len + n) capC) w) ∧
      (len + n ≤ capC → ∀ a w', b' = some a → (storeCells (a.add (len * inf.size)) newV).run P w = .ok () w' → (Builtin.append_ ⟨st :: xt :: rest⟩ ty ⟨[.slice b' len capC, xv]⟩).run P w = .ok (.slice (some a) (len + n) capC) w') ∧
      (¬ (len + n ≤ capC) → 0 < inf.bytes → (2 * (len + n) + 512) * inf.bytes ≤ 2 ^ 47 → ∀ oldV, (∀ w' : World, w'.heap = w.heap → (Builtin.firstCells inf.size len (.slice b' len capC)).run P w' = .ok ⟨oldV⟩ w') →
        ∃ newCap, len + n ≤ newCap ∧ (Builtin.append_ ⟨st :: xt :: rest⟩ ty ⟨[.slice b' len capC, xv]⟩).run P w =
          .ok (.slice (some ⟨w.heap.size, 0, none⟩) (len + n) newCap) (w.drew.alloc (.cells (⟨oldV ++ newV⟩ ++ Builtin.zeroCells zv.cells (newCap - (len + n))) e))) := by
    intro b' capC _
    cases hb : isIntO (some dx) with
    | false =>
      obtain ⟨h1, h2⟩ := hplain hb
      exact append_plain hst hdx hinf hzv hb h1 h2
    | true =>
      obtain ⟨m, h1, h2, h3, h4, h5, h6, h7⟩ := hzeros hb
      exact append_zeros hst hdx hinf hzv hb h1 h2 h3 h4 h5 h6 h7
  cases base with
  | none =>
    simp only [VR] at hsv
    obtain ⟨rfl, rfl, rfl⟩ := hsv
    obtain ⟨r1, r2, r3⟩ := runs none 0 rfl
    split at ha
    · rename_i hfit
      simp only [Option.some.injEq, Prod.mk.injEq] at ha; obtain ⟨rfl, rfl⟩ := ha
      have : n = 0 := by omega
      subst this
      exact ⟨_, w, ρ, r1 hfit rfl, by simp [VR], hh, Frm.refl _ _ _⟩
    · rename_i hfit
      split at ha
      · rename_i hbig
        simp only [Option.some.injEq, Prod.mk.injEq] at ha; obtain ⟨rfl, rfl⟩ := ha
        obtain ⟨newCap, hcap, hrun⟩ := r3 hfit hb0 hbig [] (fun w' _ => rfl)
        obtain ⟨ρ', h1, h2, h3⟩ := grow_ok (X := Builtin.zeroCells zv.cells (newCap - (0 + n))) (e := e) (len := 0 + n) (cap := newCap) (sz := inf.size) hh hnV hones hcap (by
          rw [zeroCells_length, hzs, hnVl, hnl, ← Nat.add_mul]
          exact Nat.mul_le_mul_right _ (by omega))
        exact ⟨_, _, ρ', hrun, h3, h1, h2⟩
      · simp at ha
  | some p =>
    obtain ⟨i, o⟩ := p
    have hsz' : sz = inf.size := by simpa using hbase
    subst hsz'
    have hsv0 := hsv
    simp only [VR] at hsv
    obtain ⟨b, s, z, o', capC, hρ, rfl, hlc, hcc, hzz, hoo⟩ := hsv
    obtain ⟨r1, r2, r3⟩ := runs (some ⟨b, o', none⟩) capC rfl
    split at ha
    · rename_i hfit
      simp only at ha
      split at ha
      · rename_i hn0; subst hn0
        simp only [Option.some.injEq, Prod.mk.injEq] at ha; obtain ⟨rfl, rfl⟩ := ha
        have hv0 : newV = [] := List.length_eq_zero_iff.1 (by rw [hnVl, hnl]; simp)
        subst hv0
        exact ⟨_, w, ρ, r2 (by omega) _ w rfl rfl, hsv0, hh, Frm.refl _ _ _⟩
      · rename_i hn0
        simp only [Option.map_eq_some_iff, Prod.mk.injEq] at ha
        obtain ⟨h1, hw1, rfl, rfl⟩ := ha
        have ho : o' = s + o := by rcases hoo with h | h <;> omega
        subst ho
        obtain ⟨w', hst', hh', hf'⟩ := writeA_ok (P := P) hh hρ hnV hw1
        refine ⟨_, w', ρ, r2 (by omega) _ w' rfl ?_, ?_, hh', hf'⟩
        · rw [addr_add, Nat.add_assoc]; exact hst'
        · simp only [VR]; exact ⟨b, s, z, s + o, capC, hρ, rfl, hfit, hcc, hzz, .inr rfl⟩
    · rename_i hfit
      split at ha
      rotate_left
      · simp at ha
      rename_i hbig
      simp only at ha
      split at ha
      rotate_left
      · simp at ha
      rename_i cs e' hg
      split at ha
      rotate_left
      · simp at ha
      rename_i hcs
      obtain ⟨rfl, hcs⟩ := hcs
      simp only [Option.some.injEq, Prod.mk.injEq] at ha; obtain ⟨rfl, rfl⟩ := ha
      have hrow : rowOf h i o (len * inf.size) = some ((cs.drop o).take (len * inf.size)) := by
        unfold rowOf; rw [hg]; simp only; rw [if_pos hcs]
      obtain ⟨_, _, _, _, _, hones'⟩ := row_ok hh hρ hrow
      by_cases hfitC : len + n ≤ capC
      · -- there is room: the row goes on in its block
        have ho := hh.obj i _ hg
        simp only [OR] at ho
        obtain ⟨b1, s1, z1, C, fz, hρ1, hwb, hC, hle, hlr, hone, hf⟩ := ho
        rw [hρ] at hρ1; simp only [Option.some.injEq, Prod.mk.injEq] at hρ1; obtain ⟨rfl, rfl, rfl⟩ := hρ1
        have hroom : o' + (len + n) * inf.size ≤ z := by
          have := Nat.mul_le_mul_right inf.size hfitC
          omega
        rw [Nat.add_mul] at hroom
        obtain ⟨w', hr, hW⟩ := run_storeCells (P := P) newV 0 C w (b := b) (o := o' + len * inf.size) hwb (by omega) (vone_of_ones hnV hones) (by rw [hC]; exact hf trivial)
        rw [Nat.add_zero] at hW
        have hle' : ρ.le (ρ.ext h.next (b, o', z)) := Ren.le_ext (hh.none (Nat.le_refl _))
        obtain ⟨hh', hf'⟩ := HR.move (s' := o') (o' := .cells ((cs.drop o).take (len * inf.size) ++ new) e' false) hh hg rfl rfl hρ hW (by
          simp only [OR]
          refine ⟨b, o', z, _, fz, Ren.ext_self _ _ _, hW.here, by rw [putV_length]; exact hC, ?_, ?_, ?_, fun _ => hf trivial⟩
          · simp; omega
          · have hlen : ((cs.drop o).take (len * inf.size) ++ new).length = len * inf.size + newV.length := by simp; omega
            rw [hlen, putV_append C newV o' (len * inf.size) (by omega)]
            refine LR.mono hle' _ _ (LR.append ?_ hnV)
            by_cases h0 : len = 0
            · subst h0; simp [LR]
            · have ho : o' = s + o := by rcases hoo with h | h <;> omega
              subst ho
              have := LR.take (len * inf.size) (LR.drop o hlr)
              rw [List.drop_take, List.drop_drop, List.take_take] at this
              rw [Nat.min_eq_left (by omega)] at this
              exact this
          · intro c hc
            have := ones_append hones' hones
            unfold ones at this; rw [List.all_eq_true] at this; exact this c hc)
        refine ⟨_, w', _, r2 hfitC _ w' rfl ?_, ?_, hh', hf'⟩
        · rw [addr_add]; exact hr
        · simp only [VR]
          exact ⟨b, o', z, o', capC, Ren.ext_self _ _ _, rfl, Nat.le_refl _, hfitC, hzz, .inr rfl⟩
      · -- there is none: a new row
        obtain ⟨oldV, hold, hrold⟩ := firstA_ok (P := P) (size := inf.size) (n := len) hh hsv0 (fun m hm => by simp [lenOfA] at hm; omega) (l := (cs.drop o).take (len * inf.size)) (by simp only [firstA]; exact hrow)
        obtain ⟨newCap, hcap, hrun⟩ := r3 hfitC hb0 hbig oldV hrold
        have hold' := hold.length
        have hol : oldV.length = len * inf.size := by rw [hold']; simp; omega
        obtain ⟨ρ', h1, h2, h3⟩ := grow_ok (X := Builtin.zeroCells zv.cells (newCap - (len + n))) (e := e') (len := len + n) (cap := newCap) (sz := inf.size) (HR.kill hh hg) (LR.append hold hnV) (ones_append hones' hones) hcap (by
          rw [zeroCells_length, hzs, List.length_append, hnVl, hnl, hol, ← Nat.add_mul, ← Nat.add_mul]
          exact Nat.mul_le_mul_right _ (by omega))
        exact ⟨_, _, ρ', hrun, h3, h1, (Frm.kill h i w).trans h2⟩

theorem copyA_ok (hh : HR ρ h w) {ts : List TypeId} {as : List AV} {us : List Value} {ty : TypeId} {r : AV} {h' : AH} (hl : LR ρ as us) (ha : copyA P ts as h = some (r, h')) :
    ∃ v w', (Builtin.copy_ ⟨ts⟩ ty ⟨us⟩).run P w = .ok v w' ∧ VR ρ r v ∧ HR ρ h' w' ∧ Frm ρ h w ρ h' w' := by
  unfold copyA at ha
  split at ha
  rotate_left
  · simp at ha
  rename_i st rest base dLen cap sz x
  simp only [LR] at hl
  obtain ⟨sv, us', rfl, hsv, xv, us'', rfl, hxv, rfl⟩ := hl
  split at ha
  rotate_left
  · simp at ha
  rename_i e m hst hm
  split at ha
  rotate_left
  · simp at ha
  rename_i size hsz
  simp only at ha
  split at ha
  · simp at ha
  rename_i cs hcs
  obtain ⟨vs, hvs, hrv⟩ := firstA_ok (P := P) hh hxv (fun m' e' => by rw [hm] at e'; simp at e'; subst e'; exact Nat.min_le_left _ _) hcs
  have hlenx := lenOfA_ok (P := P) hxv hm w
  cases base with
  | none =>
    simp only [Option.some.injEq, Prod.mk.injEq] at ha; obtain ⟨rfl, rfl⟩ := ha
    simp only [VR] at hsv; obtain ⟨rfl, rfl, rfl⟩ := hsv
    refine ⟨_, w, ?_, VR.mkInt, hh, Frm.refl _ _ _⟩
    simp only [Builtin.copy_, List.getElem?_toArray, List.getElem?_cons_zero, List.getElem?_cons_succ, Sem.run_bind, run_und hst, Result.andThen_ok, hlenx, run_sz hsz, hrv w rfl]
    rfl
  | some p =>
    obtain ⟨i, o⟩ := p
    simp only [VR] at hsv
    obtain ⟨b, s, z, o', capC, hρ, rfl, hlc, hcc, hzz, hoo⟩ := hsv
    simp only at ha
    split at ha
    · rename_i hemp
      simp only [Option.some.injEq, Prod.mk.injEq] at ha; obtain ⟨rfl, rfl⟩ := ha
      have hv0 : vs = [] := List.length_eq_zero_iff.1 (by rw [hvs.length]; simpa using hemp)
      subst hv0
      refine ⟨_, w, ?_, VR.mkInt, hh, Frm.refl _ _ _⟩
      simp only [Builtin.copy_, List.getElem?_toArray, List.getElem?_cons_zero, List.getElem?_cons_succ, Sem.run_bind, run_und hst, Result.andThen_ok, hlenx, run_sz hsz, hrv w rfl]
      rfl
    · rename_i hemp
      simp only [Option.map_eq_some_iff, Prod.mk.injEq] at ha
      obtain ⟨h1, hw1, rfl, rfl⟩ := ha
      have ho : o' = s + o := by
        rcases hoo with h0 | h0
        · exfalso
          have hd0 : dLen = 0 := by omega
          apply hemp
          have hl0 := firstA_zero hcs (by rw [hd0]; simp)
          rw [hl0]; rfl
        · exact h0
      subst ho
      obtain ⟨w', hst', hh', hf'⟩ := writeA_ok (P := P) hh hρ hvs hw1
      refine ⟨_, w', ?_, VR.mkInt, hh', hf'⟩
      simp only [Builtin.copy_, List.getElem?_toArray, List.getElem?_cons_zero, List.getElem?_cons_succ, Sem.run_bind, run_und hst, Result.andThen_ok, hlenx, run_sz hsz, hrv w rfl, hst']
      rfl
where
  firstA_zero {size n : Nat} {x : AV} {cs : List AV} (hcs : firstA h size n x = some cs) (hn : n = 0) : cs = [] := by
    subst hn
    unfold firstA at hcs
    split at hcs
    · simp at hcs; exact hcs
    · unfold rowOf at hcs
      split at hcs
      · split at hcs
        · simp at hcs; exact hcs
        · simp at hcs
      · simp at hcs
    · simp [u8s] at hcs; exact hcs
    · simp at hcs

end
end Go.Am

namespace Go.Am
open Go

section
variable {P : Program} {ρ : Ren} {h : AH} {w : World}

theorem sameBits_int (n : Nat) (k : IntKind) (a : Int) : Instr.sameBits n (.int k a) (.int k a) = true := by cases n <;> simp [Instr.sameBits]
theorem bytes_self (s : ByteArray) : (s == s) = true := by
  obtain ⟨x⟩ := s
  show (x == x) = true
  simp

theorem sameBits_str (n : Nat) (s : ByteArray) : Instr.sameBits n (.string s) (.string s) = true := by cases n <;> simp [Instr.sameBits, bytes_self]

theorem keyEq_true {kt : TypeId} {a b : AV} {u v : Value} (hx : VR ρ a u) (hy : VR ρ b v) (hk : keyEq P kt a b = some true) : v = u ∧ ∀ n, Instr.sameBits n v u = true := by
  unfold keyEq at hk
  split at hk
  · simp only [VR] at hx hy; subst hx hy
    split at hk
    · rename_i e; subst e
      simp at hk; subst hk
      exact ⟨rfl, fun n => sameBits_int n _ _⟩
    · simp at hk
  · simp only [VR] at hx hy; subst hx hy
    simp at hk; subst hk
    exact ⟨rfl, fun n => sameBits_str n _⟩
  · simp at hk

theorem ER.modify {k v : AV} {u x : Value} (hk : VR ρ k u) (hv : VR ρ v x) : ∀ {es : List (AV × AV × Nat)} {ES : List MapEntry} (j : Nat) {y z : AV} {n : Nat}, ER ρ es ES → es[j]? = some (y, z, n) →
    ER ρ (es.set j (k, v, n)) (ES.modify j fun e => { e with key := u, val := x })
  | [], _, j, _, _, _, _, hj => by simp at hj
  | (a, b, m) :: es, _, j, y, z, n, hE, hj => by
    simp only [ER] at hE; obtain ⟨e, ES', rfl, h1, h2, h3, h4⟩ := hE
    cases j with
    | zero =>
      simp at hj; obtain ⟨rfl, rfl, rfl⟩ := hj
      simp only [List.set_cons_zero, List.modify_zero_cons, ER]
      exact ⟨_, _, rfl, hk, hv, h3, h4⟩
    | succ j =>
      simp only [List.set_cons_succ, List.modify_succ_cons, ER]
      exact ⟨_, _, rfl, h1, h2, h3, ER.modify hk hv j h4 (by simpa using hj)⟩

theorem ER.push {k v : AV} {u x : Value} {n : Nat} (hk : VR ρ k u) (hv : VR ρ v x) : ∀ {es : List (AV × AV × Nat)} {ES : List MapEntry}, ER ρ es ES →
    ER ρ (es ++ [(k, v, n)]) (ES ++ [{ key := u, val := x, born := n }])
  | [], _, hE => by simp only [ER] at hE; subst hE; simp only [List.nil_append, ER]; exact ⟨_, _, rfl, hk, hv, rfl, rfl⟩
  | (a, b, m) :: es, _, hE => by
    simp only [ER] at hE; obtain ⟨e, ES', rfl, h1, h2, h3, h4⟩ := hE
    simp only [List.cons_append, ER]
    exact ⟨_, _, rfl, h1, h2, h3, ER.push hk hv h4⟩

theorem ER.erase : ∀ {es : List (AV × AV × Nat)} {ES : List MapEntry} (j : Nat), ER ρ es ES → ER ρ (es.eraseIdx j) (ES.eraseIdx j)
  | [], _, j, hE => by simp only [ER] at hE; subst hE; simp [ER]
  | (a, b, m) :: es, _, j, hE => by
    simp only [ER] at hE; obtain ⟨e, ES', rfl, h1, h2, h3, h4⟩ := hE
    cases j with
    | zero => simpa using h4
    | succ j => simp only [List.eraseIdx_cons_succ, ER]; exact ⟨_, _, rfl, h1, h2, h3, ER.erase j h4⟩

theorem setMap_ok (hh : HR ρ h w) {r b s z clock clock' : Nat} {es es' : List (AV × AV × Nat)} {ES' : List MapEntry} (hρ : ρ r = some (b, s, z)) (hg : h.get r = some (.map es clock)) (hE : ER ρ es' ES') :
    ∃ w', (setObj b (.map ⟨ES'⟩ clock')).run P w = .ok () w' ∧ HR ρ (h.set r (.map es' clock')) w' ∧ Frm ρ h w ρ (h.set r (.map es' clock')) w' := by
  obtain ⟨ES, hb, _⟩ := map_ok hh hρ hg
  have hlt : b < w.heap.size := (hh.dom r _ hρ).2
  refine ⟨{ w with heap := w.heap.setIfInBounds b (.map ⟨ES'⟩ clock') }, by simp [setObj, Sem.run, hb], ?_⟩
  have hW : Wr w { w with heap := w.heap.setIfInBounds b (.map ⟨ES'⟩ clock') } b (.map ⟨ES'⟩ clock') :=
    ⟨by simp, by simp [hlt], fun k hk => by simp only [Array.getElem?_setIfInBounds]; rw [if_neg (fun e => hk e.symm)], rfl, rfl, rfl⟩
  refine HR.setO hh hg rfl rfl hρ hW ?_
  simp only [OR]
  exact ⟨b, s, z, ES', hρ, hW.here, hE⟩

theorem arr_modify (ES : List MapEntry) (j : Nat) (f : MapEntry → MapEntry) : (⟨ES⟩ : Array MapEntry).modify j f = ⟨ES.modify j f⟩ := by
  apply Array.ext'; simp

theorem mapPutA_ok (hh : HR ρ h w) {t : TypeId} {m k v : AV} {um uk uv : Value} {h' : AH} (hm : VR ρ m um) (hk : VR ρ k uk) (hv : VR ρ v uv) (hp : mapPutA P t m k v h = some h') :
    ∃ w', (Instr.mapUpdate t um uk uv).run P w = .ok () w' ∧ HR ρ h' w' ∧ Frm ρ h w ρ h' w' := by
  unfold mapPutA at hp
  split at hp
  rotate_left
  · simp at hp
  rename_i kt et r ht
  split at hp
  rotate_left
  · simp at hp
  rename_i es clock hg
  cases hok : keyOk P kt k
  · rw [hok] at hp; simp at hp
  rw [hok] at hp; simp only [cond_true] at hp
  simp only [VR] at hm; obtain ⟨b, s, z, hρ, rfl⟩ := hm
  obtain ⟨ES, hb, hE⟩ := map_ok hh hρ hg
  obtain ⟨d, hd⟩ := keyOk_und hok
  split at hp
  · rename_i i v' n hf
    simp only [Option.some.injEq] at hp; subst hp
    rcases findA_ok hd hk hE hf with ⟨e, _⟩ | ⟨j, v1, n1, e, e1, hr, he, hv', hn', x, hx, hkx, hkq⟩
    · simp at e
    · simp only [Option.some.injEq, Prod.mk.injEq] at e1; obtain ⟨rfl, rfl, rfl⟩ := e1
      rw [Nat.zero_add] at *
      obtain ⟨hek, hsb⟩ := keyEq_true hk hkx hkq
      obtain ⟨w', hrun, h1, h2⟩ := setMap_ok (P := P) (clock' := clock) hh hρ hg (ER.modify hk hv j hE hx)
      refine ⟨w', ?_, h1, h2⟩
      simp only [Instr.mapUpdate, Sem.run_bind, run_und ht, Result.andThen_ok, run_getMap hb, checkKey_ok _ hk hok, run_findKey hd hr]
      have hge : (((⟨ES⟩ : Array MapEntry)[j]?).map (·.key)).getD uk = uk := by simp [he, hek]
      simp only [hge, Instr.keyThatStays]
      rw [if_pos (by rw [hek] at hsb; exact hsb _)]
      simp only [Sem.run_pure, Result.andThen_ok, arr_modify]
      exact hrun
  · rename_i hf
    simp only [Option.some.injEq] at hp; subst hp
    rcases findA_ok hd hk hE hf with ⟨_, hr⟩ | ⟨j, v1, n1, e, e1, _⟩
    rotate_left
    · simp at e1
    · obtain ⟨w', hrun, h1, h2⟩ := setMap_ok (P := P) (clock' := clock + 1) hh hρ hg (ER.push (n := clock) hk hv hE)
      refine ⟨w', ?_, h1, h2⟩
      simp only [Instr.mapUpdate, Sem.run_bind, run_und ht, Result.andThen_ok, run_getMap hb, checkKey_ok _ hk hok, run_findKey hd hr]
      rw [← hrun]; simp
  · simp at hp

theorem mapEntryA_ok (hh : HR ρ h w) {t : TypeId} {m k r : AV} {um uk : Value} {h' : AH} (hm : VR ρ m um) (hk : VR ρ k uk) (hp : mapEntryA P t m k h = some (r, h')) :
    ∃ v w', (Instr.mapEntry t um uk).run P w = .ok v w' ∧ VR ρ r v ∧ HR ρ h' w' ∧ Frm ρ h w ρ h' w' := by
  unfold mapEntryA at hp
  split at hp
  rotate_left
  · simp at hp
  rename_i kt et q ht
  split at hp
  rotate_left
  · simp at hp
  rename_i es clock hg
  cases hok : keyOk P kt k
  · rw [hok] at hp; simp at hp
  rw [hok] at hp; simp only [cond_true] at hp
  simp only [VR] at hm; obtain ⟨b, s, z, hρ, rfl⟩ := hm
  obtain ⟨ES, hb, hE⟩ := map_ok hh hρ hg
  obtain ⟨d, hd⟩ := keyOk_und hok
  split at hp
  · rename_i i v' n hf
    simp only [Option.some.injEq, Prod.mk.injEq] at hp; obtain ⟨rfl, rfl⟩ := hp
    rcases findA_ok hd hk hE hf with ⟨e, _⟩ | ⟨j, v1, n1, e, e1, hr, he, hv', hn', x, hx, hkx, hkq⟩
    · simp at e
    · simp only [Option.some.injEq, Prod.mk.injEq] at e1; obtain ⟨rfl, rfl, rfl⟩ := e1
      rw [Nat.zero_add] at *
      obtain ⟨hek, hsb⟩ := keyEq_true hk hkx hkq
      have hmod : (⟨ES⟩ : Array MapEntry).modify j (fun e => { e with key := uk }) = ⟨ES.modify j fun e' => { e' with key := uk, val := e.val }⟩ := by
        rw [arr_modify]
        congr 1
        apply List.ext_getElem?
        intro i
        simp only [List.getElem?_modify]
        split
        · rename_i e0; subst e0; simp [he]
        · rfl
      obtain ⟨w', hrun, h1, h2⟩ := setMap_ok (P := P) (clock' := clock) hh hρ hg (ER.modify hk hv' j hE hx)
      refine ⟨.tuple ⟨[e.val, .int .i64 n]⟩, w', ?_, VR.mkTuple (LR.cons hv' (LR.cons VR.mkInt LR.nil)), h1, h2⟩
      simp only [Instr.mapEntry, Sem.run_bind, run_und ht, Result.andThen_ok, run_getMap hb, checkKey_ok _ hk hok, run_findKey hd hr]
      have hge : (((⟨ES⟩ : Array MapEntry)[j]?).map (·.key)).getD uk = uk := by simp [he, hek]
      simp only [hge, Instr.keyThatStays]
      rw [if_pos (by rw [hek] at hsb; exact hsb _)]
      simp only [Sem.run_pure, Result.andThen_ok, hmod, hrun]
      simp [he, hn', goInt]
  · rename_i hf
    simp only [Option.map_eq_some_iff, Prod.mk.injEq] at hp
    obtain ⟨zz, hz, rfl, rfl⟩ := hp
    obtain ⟨zv, hzv, hzr⟩ := zeroA_ok (ρ := ρ) hz
    rcases findA_ok hd hk hE hf with ⟨_, hr⟩ | ⟨j, v1, n1, e, e1, _⟩
    rotate_left
    · simp at e1
    · obtain ⟨w', hrun, h1, h2⟩ := setMap_ok (P := P) (clock' := clock + 1) hh hρ hg (ER.push (n := clock) hk hzv hE)
      refine ⟨.tuple ⟨[zv, .int .i64 clock]⟩, w', ?_, VR.mkTuple (LR.cons hzv (LR.cons VR.mkInt LR.nil)), h1, h2⟩
      have hpush : (⟨ES⟩ : Array MapEntry).push { key := uk, val := zv, born := clock } = ⟨ES ++ [{ key := uk, val := zv, born := clock }]⟩ := by apply Array.ext'; simp
      simp only [Instr.mapEntry, Sem.run_bind, run_und ht, Result.andThen_ok, run_getMap hb, checkKey_ok _ hk hok, run_findKey hd hr, hzr, hpush, hrun, Sem.run_pure, goInt]
  · simp at hp

theorem findBorn_ok {n : Int} : ∀ {es : List (AV × AV × Nat)} {ES : List MapEntry} {i : Nat} {r : Nat × AV × Nat}, ER ρ es ES → findBorn n es i = some r →
    ∃ j e v, r = (i + j, r.2.1, r.2.2) ∧ ES.findIdx? (fun e => (e.born : Int) == n) = some j ∧ ES[j]? = some e ∧ es[j]? = some (r.2.1, v, r.2.2) ∧ VR ρ r.2.1 e.key
  | [], _, _, _, hE, hf => by simp [findBorn] at hf
  | (a, b, m) :: es, _, i, r, hE, hf => by
    simp only [ER] at hE; obtain ⟨e, ES', rfl, h1, h2, h3, h4⟩ := hE
    simp only [findBorn] at hf
    split at hf
    · rename_i hb
      simp only [Option.some.injEq] at hf; subst hf
      refine ⟨0, e, b, rfl, ?_, rfl, rfl, h1⟩
      rw [List.findIdx?_cons]; simp [h3, hb]
    · rename_i hb
      obtain ⟨j, e', v, hr, hj, he, hx, hv⟩ := findBorn_ok h4 hf
      refine ⟨j + 1, e', v, ?_, ?_, by simpa using he, by simpa using hx, hv⟩
      · rw [hr]; congr 1; omega
      · rw [List.findIdx?_cons]; simp [h3, hb, hj]

theorem entryStoreA_ok (hh : HR ρ h w) {t : TypeId} {m k v : AV} {um uk uv : Value} {h' : AH} (hm : VR ρ m um) (hk : VR ρ k uk) (hv : VR ρ v uv) (hp : entryStoreA m k v h = some h') :
    ∃ w', (Instr.entryStore t um uk uv).run P w = .ok () w' ∧ HR ρ h' w' ∧ Frm ρ h w ρ h' w' := by
  unfold entryStoreA at hp
  split at hp
  rotate_left
  · simp at hp
  rename_i r ik n
  split at hp
  rotate_left
  · simp at hp
  rename_i es clock hg
  split at hp
  rotate_left
  · simp at hp
  rename_i i key bn hf
  simp only [Option.some.injEq] at hp; subst hp
  simp only [VR] at hm hk; obtain ⟨b, s, z, hρ, rfl⟩ := hm; subst hk
  obtain ⟨ES, hb, hE⟩ := map_ok hh hρ hg
  obtain ⟨j, e, v', hr, hj, he, hx, hkv⟩ := findBorn_ok hE hf
  simp only [Prod.mk.injEq] at hr
  obtain ⟨hij, _, _⟩ := hr
  rw [Nat.zero_add] at hij
  have hij' : i = j := hij
  subst hij'
  have hmod : (⟨ES⟩ : Array MapEntry).modify i (fun e => { e with val := uv }) = ⟨ES.modify i fun e' => { e' with key := e.key, val := uv }⟩ := by
    rw [arr_modify]
    congr 1
    apply List.ext_getElem?
    intro q
    simp only [List.getElem?_modify]
    split
    · rename_i e0; subst e0; simp [he]
    · rfl
  obtain ⟨w', hrun, h1, h2⟩ := setMap_ok (P := P) (clock' := clock) hh hρ hg (ER.modify hkv hv i hE hx)
  refine ⟨w', ?_, h1, h2⟩
  have hfi : (⟨ES⟩ : Array MapEntry).findIdx? (fun e => (e.born : Int) == n) = some i := by simpa using hj
  simp only [Instr.entryStore, Sem.run_bind, run_getMap hb, Result.andThen_ok, asInt, asIntOf, pure_bind, Sem.run_pure, hfi, hmod]
  exact hrun

theorem deleteA_ok (hh : HR ρ h w) {ts : List TypeId} {as : List AV} {us : List Value} {ty : TypeId} {h' : AH} (hl : LR ρ as us) (ha : deleteA P ts as h = some h') :
    ∃ w', (Builtin.delete_ ⟨ts⟩ ty ⟨us⟩).run P w = .ok (.tuple #[]) w' ∧ HR ρ h' w' ∧ Frm ρ h w ρ h' w' := by
  unfold deleteA at ha
  split at ha
  rotate_left
  · simp at ha
  rename_i t rest r k
  simp only [LR] at hl
  obtain ⟨um, us', rfl, hm, uk, us'', rfl, hk, rfl⟩ := hl
  split at ha
  rotate_left
  · simp at ha
  rename_i kt et es clock ht hg
  cases hok : keyOk P kt k
  · rw [hok] at ha; simp at ha
  rw [hok] at ha; simp only [cond_true] at ha
  simp only [VR] at hm; obtain ⟨b, s, z, hρ, rfl⟩ := hm
  obtain ⟨ES, hb, hE⟩ := map_ok hh hρ hg
  obtain ⟨d, hd⟩ := keyOk_und hok
  split at ha
  · rename_i i v' n hf
    simp only [Option.some.injEq] at ha; subst ha
    rcases findA_ok hd hk hE hf with ⟨e, _⟩ | ⟨j, v1, n1, e, e1, hr, he, hv', hn', x, hx, hkx, hkq⟩
    · simp at e
    · simp only [Option.some.injEq, Prod.mk.injEq] at e1; obtain ⟨rfl, rfl, rfl⟩ := e1
      rw [Nat.zero_add] at *
      obtain ⟨w', hrun, h1, h2⟩ := setMap_ok (P := P) (clock' := clock) hh hρ hg (ER.erase j hE)
      refine ⟨w', ?_, h1, h2⟩
      have her : (⟨ES⟩ : Array MapEntry).eraseIdxIfInBounds j = ⟨ES.eraseIdx j⟩ := by apply Array.ext'; simp
      simp only [Builtin.delete_, List.getElem?_toArray, List.getElem?_cons_zero, List.getElem?_cons_succ, Sem.run_bind, run_und ht, Result.andThen_ok, run_getMap hb, checkKey_ok _ hk hok, run_findKey hd hr, her, hrun, Sem.run_pure]
  · rename_i hf
    simp only [Option.some.injEq] at ha; subst ha
    rcases findA_ok hd hk hE hf with ⟨_, hr⟩ | ⟨j, v1, n1, e, e1, _⟩
    rotate_left
    · simp at e1
    · obtain ⟨w', hrun, h1, h2⟩ := setMap_ok (P := P) (clock' := clock) hh hρ hg hE
      refine ⟨w', ?_, h1, h2⟩
      simp only [Builtin.delete_, List.getElem?_toArray, List.getElem?_cons_zero, List.getElem?_cons_succ, Sem.run_bind, run_und ht, Result.andThen_ok, run_getMap hb, checkKey_ok _ hk hok, run_findKey hd hr, hrun, Sem.run_pure]
  · simp at ha

end
end Go.Am

namespace Go.Am
open Go

section
variable {P : Program} {ρ : Ren} {h : AH} {w : World} {ev : Operand → Option AV} {ev' : Operand → Value}

/-- What an operation's run is, where the abstract machine says 'n'. -/
def NxR (P : Program) (ρ : Ren) (h : AH) (w : World) (h' : AH) (run : Result Next) : Nx → Prop
  | .val r => ∃ v w' ρ', run = .ok (.value v) w' ∧ VR ρ' r v ∧ HR ρ' h' w' ∧ Frm ρ h w ρ' h' w'
  | .skip => ∃ w', run = .ok .skip w' ∧ HR ρ h' w' ∧ Frm ρ h w ρ h' w'
  | .enter g l => h' = h ∧ ∃ us, LR ρ l us ∧ run = (callFunc g ⟨us⟩).run P w
  | .defer g l => h' = h ∧ ∃ as cs, LR ρ l (as ++ cs) ∧ run = .ok (.defer { target := .fn (.func g) ⟨cs⟩, args := ⟨as⟩ }) w
  | .recover => h' = h ∧ run = .ok .recover w

def OpR (P : Program) (ρ : Ren) (h : AH) (w : World) (run : Result Next) : R Nx → Prop
  | .ok n h' => NxR P ρ h w h' run n
  | .pan r h' => h' = h ∧ ∃ v, VR ρ r v ∧ run = .halt (.panic v) w
  | .no => True

theorem map_toList (xs : Array Operand) : (xs.map ev').toList = xs.toList.map ev' := by simp

theorem args_ok (he : EvR ρ ev ev') {xs : Array Operand} {l : List AV} (h : evs ev xs.toList = some l) : ∃ us, LR ρ l us ∧ xs.map ev' = ⟨us⟩ :=
  ⟨xs.toList.map ev', evs_ok he h, by apply Array.ext'; simp⟩

theorem effA_ok (hh : HR ρ h w) (he : EvR ρ ev ev') (o : Oper) : OpR P ρ h w ((execOp ev' o).run P w) (effA P ev h o.op) := by
  obtain ⟨dst, op, type, pos, after, guard⟩ := o
  simp only
  unfold effA
  split
  · rename_i t a x
    split
    · rename_i i o v ha hx
      have ra := he _ _ ha
      simp only [VR] at ra; obtain ⟨b, s, z, hρ, e⟩ := ra
      cases hs : storeA P t h i o v with
      | none => trivial
      | some h' =>
        obtain ⟨w', hr, h1, h2⟩ := storeA_ok hh hρ (he _ _ hx) hs
        refine ⟨w', ?_, h1, h2⟩
        simp [execOp, Instr.storeAt, Instr.sureAddr, e, hr]
    · trivial
  · rename_i t m k x
    split
    · rename_i a b c ha hb hc
      cases hs : mapPutA P t a b c h with
      | none => trivial
      | some h' =>
        obtain ⟨w', hr, h1, h2⟩ := mapPutA_ok hh (he _ _ ha) (he _ _ hb) (he _ _ hc) hs
        exact ⟨w', by simp [execOp, hr], h1, h2⟩
    · trivial
  · rename_i t m k x
    split
    · rename_i a b c ha hb hc
      cases hs : mapPutA P t a b c h with
      | none => trivial
      | some h' =>
        obtain ⟨w', hr, h1, h2⟩ := mapPutA_ok hh (he _ _ ha) (he _ _ hb) (he _ _ hc) hs
        exact ⟨w', by simp [execOp, hr], h1, h2⟩
    · trivial
  · rename_i t m k
    split
    · rename_i a b ha hb
      cases hs : mapEntryA P t a b h with
      | none => trivial
      | some x =>
        obtain ⟨r, h'⟩ := x
        obtain ⟨v, w', hr, h1, h2, h3⟩ := mapEntryA_ok hh (he _ _ ha) (he _ _ hb) hs
        exact ⟨v, w', ρ, by simp [execOp, hr], h1, h2, h3⟩
    · trivial
  · rename_i t m s x
    split
    · rename_i a b c ha hb hc
      cases hs : entryStoreA a b c h with
      | none => trivial
      | some h' =>
        obtain ⟨w', hr, h1, h2⟩ := entryStoreA_ok (P := P) (t := t) hh (he _ _ ha) (he _ _ hb) (he _ _ hc) hs
        exact ⟨w', by simp [execOp, hr], h1, h2⟩
    · trivial
  · rename_i args ats
    split
    · rename_i l hl
      obtain ⟨us, hus, ea⟩ := args_ok he hl
      cases hs : appendA P ats.toList l h with
      | none => trivial
      | some x =>
        obtain ⟨r, h'⟩ := x
        obtain ⟨v, w', ρ', hr, h1, h2, h3⟩ := appendA_ok (ty := type) hh hus hs
        exact ⟨v, w', ρ', by simp [execOp, resolve, invoke, builtin, ea, hr], h1, h2, h3⟩
    · trivial
  · rename_i args ats
    split
    · rename_i l hl
      obtain ⟨us, hus, ea⟩ := args_ok he hl
      cases hs : copyA P ats.toList l h with
      | none => trivial
      | some x =>
        obtain ⟨r, h'⟩ := x
        obtain ⟨v, w', hr, h1, h2, h3⟩ := copyA_ok (ty := type) hh hus hs
        exact ⟨v, w', ρ, by simp [execOp, resolve, invoke, builtin, ea, hr], h1, h2, h3⟩
    · trivial
  · rename_i args ats
    split
    · rename_i l hl
      obtain ⟨us, hus, ea⟩ := args_ok he hl
      cases hs : deleteA P ats.toList l h with
      | none => trivial
      | some h' =>
        obtain ⟨w', hr, h1, h2⟩ := deleteA_ok (ty := type) hh hus hs
        exact ⟨_, w', ρ, by simp [execOp, resolve, invoke, builtin, ea, hr], ⟨[], rfl, LR.nil⟩, h1, h2⟩
    · trivial
  · exact ⟨rfl, by simp [execOp, resolve, invoke, builtin]⟩
  · rename_i f args ats
    split
    · rename_i g first cap l hf hl
      obtain ⟨us, hus, ea⟩ := args_ok he hl
      have rf := he _ _ hf
      simp only [VR] at rf; obtain ⟨fs, cs, e, h1, h2⟩ := rf
      refine ⟨rfl, fs ++ us ++ cs, (h1.append hus).append h2, ?_⟩
      simp [execOp, resolve, invoke, Deferred.ofValue, e, ea]
    · trivial
  · rename_i f args ats
    split
    · rename_i g first cap l hf hl
      obtain ⟨us, hus, ea⟩ := args_ok he hl
      have rf := he _ _ hf
      simp only [VR] at rf; obtain ⟨fs, cs, e, h1, h2⟩ := rf
      refine ⟨rfl, fs ++ us, cs, (h1.append hus).append h2, ?_⟩
      simp [execOp, resolve, invoke, Deferred.ofValue, e, ea]
    · trivial
  · rename_i x
    split
    · rename_i t v hx
      refine ⟨rfl, ev' x, he _ _ hx, ?_⟩
      have rx := he _ _ hx
      simp only [VR] at rx; obtain ⟨y, e, hy⟩ := rx
      simp [execOp, Instr.panic, goPanic, e]
    · trivial
  · trivial

theorem allocA_wr {op : Op} {mk : Nat → AV} {obj : AO} (ha : allocA P ev op = some (mk, obj)) : obj.wr = true := by
  cases op <;> (try simp only [allocA] at ha)
  case makeMap t r =>
    cases r <;> simp only at ha
    · simp only [Option.some.injEq, Prod.mk.injEq] at ha; obtain ⟨_, rfl⟩ := ha; rfl
    · simp at ha
  case alloc e =>
    split at ha
    · split at ha
      · simp only [Option.some.injEq, Prod.mk.injEq] at ha; obtain ⟨_, rfl⟩ := ha; rfl
      · simp at ha
    · simp at ha
  case box e x =>
    split at ha
    · split at ha
      · simp only [Option.some.injEq, Prod.mk.injEq] at ha; obtain ⟨_, rfl⟩ := ha; rfl
      · simp at ha
    · simp at ha
  case buildSlice t n ps =>
    split at ha
    · split at ha
      · split at ha
        · split at ha
          · split at ha
            · simp only [Option.some.injEq, Prod.mk.injEq] at ha; obtain ⟨_, rfl⟩ := ha; rfl
            · simp at ha
          · simp at ha
        · simp at ha
      · simp at ha
    · simp at ha
  case makeSlice t l c =>
    split at ha
    · split at ha
      · split at ha
        · simp only [Option.some.injEq, Prod.mk.injEq] at ha; obtain ⟨_, rfl⟩ := ha; rfl
        · simp at ha
      · simp at ha
    · simp at ha
  case convert x y z =>
    split at ha
    · split at ha
      · simp only [Option.some.injEq, Prod.mk.injEq] at ha; obtain ⟨_, rfl⟩ := ha; rfl
      · simp at ha
    · simp at ha
  all_goals (simp at ha)

/-- EVERY OPERATION. -/
theorem opA_ok (hh : HR ρ h w) (he : EvR ρ ev ev') (o : Oper) : OpR P ρ h w ((execOp ev' o).run P w) (opA P ev h o.op) := by
  unfold opA
  split
  · split
    · rename_i v hv
      obtain ⟨u, hu, hr⟩ := pureA_ok he o hv
      exact ⟨u, w, ρ, hr w, hu, hh, .refl _ _ _⟩
    · trivial
  · split
    · rename_i v hv
      obtain ⟨u, hu, hr⟩ := readA_ok hh he o hv
      exact ⟨u, w, ρ, hr, hu, hh, .refl _ _ _⟩
    · trivial
  · split
    · rename_i mk obj ha
      obtain ⟨v, w', z, hr, hn, hi⟩ := allocA_ok (P := P) he o ha w
      have hle : ρ.le (ρ.ext h.next (w.heap.size, 0, z)) := Ren.le_ext (hh.none (Nat.le_refl _))
      obtain ⟨h1, h2⟩ := hi _ h.next hle (Ren.ext_self _ _ _)
      obtain ⟨h3, h4⟩ := hh.addO hn (allocA_wr ha) h2
      exact ⟨v, w', _, hr, h1, h3, h4⟩
    · trivial
  · exact effA_ok hh he o

end
end Go.Am

namespace Go.Am
open Go

section
variable {P : Program} {ev ev' : Operand → Option AV}

theorem evs_congr : ∀ {xs : List Operand}, (∀ x ∈ xs, ev x = ev' x) → evs ev xs = evs ev' xs
  | [], _ => rfl
  | x :: xs, h => by simp only [evs]; rw [h x (by simp), evs_congr fun y hy => h y (by simp [hy])]

theorem evParts_congr : ∀ {xs : List (Nat × Operand)}, (∀ x ∈ xs.map (·.2), ev x = ev' x) → evParts ev xs = evParts ev' xs
  | [], _ => rfl
  | (i, x) :: xs, h => by simp only [evParts]; rw [h x (by simp), evParts_congr fun y hy => h y (by simp only [List.map_cons, List.mem_cons]; exact .inr hy)]

theorem optA_congr {x : Option Operand} (h : ∀ y ∈ x.toArray, ev y = ev' y) : optA ev x = optA ev' x := by
  cases x with
  | none => rfl
  | some y => simp only [optA]; rw [h y (by simp)]

theorem pureA_congr (op : Op) (h : ∀ x ∈ op.operands, ev x = ev' x) : pureA P ev op = pureA P ev' op := by
  cases op <;> simp only [Op.operands] at h <;> simp only [pureA]
  case build t ps => rw [evParts_congr (ev' := ev') fun x hx => h x (by simpa using hx)]
  case makeFunc fn first captured =>
    rw [evs_congr (ev' := ev') (xs := first.toList) fun x hx => h x (by simp at hx ⊢; exact .inl hx), evs_congr (ev' := ev') (xs := captured.toList) fun x hx => h x (by simp at hx ⊢; exact .inr hx)]
  case slice t x lo hi mx =>
    rw [h x (by simp), optA_congr (ev' := ev') (x := lo) fun y hy => h y (by simp at hy ⊢; simp [hy]), optA_congr (ev' := ev') (x := hi) fun y hy => h y (by simp at hy ⊢; simp [hy]), optA_congr (ev' := ev') (x := mx) fun y hy => h y (by simp at hy ⊢; simp [hy])]
  case call c =>
    have hargs : evs ev c.args.toList = evs ev' c.args.toList := evs_congr fun x hx => h x (by simp at hx; simp [Call.operands, hx])
    obtain ⟨callee, args, ats⟩ := c
    cases callee <;> try rfl
    rename_i b
    cases b <;> simp only at hargs ⊢ <;> (first | rw [hargs] | skip)
    all_goals
      split
      · rename_i x t hx _
        rw [h x (by have : x ∈ args.toList := by rw [hx]; simp
                    simp at this; simp [Call.operands, this])]
      · rfl
  all_goals (first | rfl | (simp_all; done) | (simp only [h _ (List.mem_toArray.2 (by simp))]; done) | (simp at h; simp [h]; done))

theorem readA_congr (op : Op) (h : ∀ x ∈ op.operands, ev x = ev' x) (H : AH) : readA P ev H op = readA P ev' H op := by
  cases op <;> simp only [Op.operands] at h <;> simp only [readA]
  case slice t x lo hi mx =>
    rw [h x (by simp), optA_congr (ev' := ev') (x := lo) fun y hy => h y (by simp at hy ⊢; simp [hy]), optA_congr (ev' := ev') (x := hi) fun y hy => h y (by simp at hy ⊢; simp [hy]), optA_congr (ev' := ev') (x := mx) fun y hy => h y (by simp at hy ⊢; simp [hy])]
  case call c =>
    obtain ⟨callee, args, ats⟩ := c
    cases callee <;> try rfl
    rename_i b
    cases b <;> simp only
    split
    · rename_i x t hx _
      rw [h x (by have : x ∈ args.toList := by rw [hx]; simp
                  simp at this; simp [Call.operands, this])]
    · rfl
  all_goals (first | rfl | (simp_all; done))

theorem readId_congr (op : Op) (h : ∀ x ∈ op.operands, ev x = ev' x) : readId ev op = readId ev' op := by
  cases op <;> simp only [Op.operands] at h <;> simp only [readId]
  case call c =>
    obtain ⟨callee, args, ats⟩ := c
    cases callee <;> try rfl
    rename_i b
    cases b <;> simp only
    split
    · rename_i x hx
      rw [h x (by have : x ∈ args.toList := by rw [hx]; simp
                  simp at this; simp [Call.operands, this])]
    · rfl
  all_goals (first | rfl | (simp_all; done))

theorem allocA_congr (op : Op) (h : ∀ x ∈ op.operands, ev x = ev' x) : allocA P ev op = allocA P ev' op := by
  cases op <;> simp only [Op.operands] at h <;> simp only [allocA]
  case buildSlice t n ps => rw [evParts_congr (ev' := ev') fun x hx => h x (by simpa using hx)]
  case makeMap t r => cases r <;> rfl
  all_goals (first | rfl | (simp_all; done))

theorem effA_congr (op : Op) (h : ∀ x ∈ op.operands, ev x = ev' x) (H : AH) : effA P ev H op = effA P ev' H op := by
  cases op <;> simp only [Op.operands] at h <;> simp only [effA]
  case call c =>
    have hargs : evs ev c.args.toList = evs ev' c.args.toList := evs_congr fun x hx => h x (by simp at hx; simp [Call.operands, hx])
    obtain ⟨callee, args, ats⟩ := c
    cases callee with
    | builtin b => cases b <;> simp only at hargs ⊢ <;> (first | rw [hargs] | rfl)
    | invoke r m => rfl
    | value f => simp only at hargs ⊢; rw [hargs, h f (by simp [Call.operands])]
  case defer c =>
    have hargs : evs ev c.args.toList = evs ev' c.args.toList := evs_congr fun x hx => h x (by simp at hx; simp [Call.operands, hx])
    obtain ⟨callee, args, ats⟩ := c
    cases callee with
    | builtin b => rfl
    | invoke r m => rfl
    | value f => simp only at hargs ⊢; rw [hargs, h f (by simp [Call.operands])]
  all_goals (first | rfl | (simp_all; done))

theorem opA_congr (op : Op) (h : ∀ x ∈ op.operands, ev x = ev' x) (H : AH) : opA P ev H op = opA P ev' H op := by
  unfold opA
  rw [pureA_congr op h, readA_congr op h, allocA_congr op h, effA_congr op h]

theorem rowOf_congr {H H' : AH} {i : Nat} (h : H.get i = H'.get i) (o n : Nat) : rowOf H i o n = rowOf H' i o n := by
  simp only [rowOf, h]

theorem readA_heap (op : Op) {H H' : AH} (h : ∀ r, readId ev op = some r → H.get r = H'.get r) : readA P ev H op = readA P ev H' op := by
  cases op <;> simp only [readId] at h <;> simp only [readA]
  case slice t x lo hi mx =>
    split <;> try rfl
    rename_i v l k m hv _ _ _
    simp only [sliceArrA]
    split <;> try rfl
    rename_i n e i o _
    rw [hv] at h
    simp only [rowOf_congr (h i rfl)]
  case load t a =>
    split <;> try rfl
    rename_i i o hv
    rw [hv] at h
    simp only [loadA, h i rfl]
  case lookup t m k ok =>
    split <;> try rfl
    rename_i a b ha hb
    rw [ha] at h
    unfold lookupA
    cases a <;> try rfl
    rename_i r
    cases r <;> try rfl
    rename_i r
    simp only [entriesA, h r rfl]
  case convert s d x =>
    split <;> try rfl
    rename_i e a len c sz _ _ hv
    rw [hv] at h
    split <;> try rfl
    simp only [rowOf, h _ rfl]
  case call c =>
    obtain ⟨callee, args, ats⟩ := c
    cases callee <;> try rfl
    rename_i b
    cases b <;> try rfl
    simp only at h ⊢
    split <;> try rfl
    rename_i x t hx _
    rw [hx] at h
    split <;> try rfl
    rename_i m _ hv
    dsimp only at h
    rw [hv] at h
    cases m <;> try rfl
    rename_i r
    cases r <;> try rfl
    rename_i r
    simp only [entriesA, h r rfl]

/-! ### The test of equality -/

mutual
theorem beqV_eq : ∀ (a b : AV), beqV a b = true → a = b
  | .int k x, b, h => by cases b <;> simp_all [beqV]
  | .bool x, b, h => by cases b <;> simp_all [beqV]
  | .str x, b, h => by cases b <;> simp_all [beqV]
  | .ptr x, b, h => by cases b <;> simp_all [beqV]
  | .slice x l c s, b, h => by cases b <;> simp_all [beqV]
  | .map x, b, h => by cases b <;> simp_all [beqV]
  | .func f x y, b, h => by
    cases b <;> simp only [beqV, Bool.and_eq_true, decide_eq_true_eq, Bool.false_eq_true] at h
    obtain ⟨⟨h1, h2⟩, h3⟩ := h
    rw [h1, beqL_eq _ _ h2, beqL_eq _ _ h3]
  | .nilFunc, b, h => by cases b <;> simp_all [beqV]
  | .iface t x, b, h => by
    cases b <;> simp only [beqV, Bool.and_eq_true, beq_iff_eq, Bool.false_eq_true] at h
    rw [h.1, beqV_eq _ _ h.2]
  | .nilIface, b, h => by cases b <;> simp_all [beqV]
  | .agg x, b, h => by
    cases b <;> simp only [beqV, Bool.false_eq_true] at h
    rw [beqL_eq _ _ h]
  | .tuple x, b, h => by
    cases b <;> simp only [beqV, Bool.false_eq_true] at h
    rw [beqL_eq _ _ h]
theorem beqL_eq : ∀ (a b : List AV), beqL a b = true → a = b
  | [], b, h => by cases b <;> simp_all [beqL]
  | x :: xs, b, h => by
    cases b with
    | nil => simp [beqL] at h
    | cons y ys =>
      simp only [beqL, Bool.and_eq_true] at h
      rw [beqV_eq _ _ h.1, beqL_eq _ _ h.2]
end

theorem beqE_eq : ∀ (a b : List (AV × AV × Nat)), beqE a b = true → a = b
  | [], b, h => by cases b <;> simp_all [beqE]
  | (x, y, n) :: xs, b, h => by
    cases b with
    | nil => simp [beqE] at h
    | cons z zs =>
      obtain ⟨z1, z2, m⟩ := z
      simp only [beqE, Bool.and_eq_true, beq_iff_eq] at h
      obtain ⟨⟨⟨h1, h2⟩, h3⟩, h4⟩ := h
      rw [beqV_eq _ _ h1, beqV_eq _ _ h2, h3, beqE_eq _ _ h4]

theorem beqO_eq {a b : Option AO} (h : beqO a b = true) : a = b := by
  unfold beqO at h
  split at h
  · simp only [Bool.and_eq_true, beq_iff_eq] at h
    rw [beqL_eq _ _ h.1.1, h.1.2, h.2]
  · simp only [Bool.and_eq_true, beq_iff_eq] at h
    rw [beqE_eq _ _ h.1, h.2]
  · simp at h

end
end Go.Am
