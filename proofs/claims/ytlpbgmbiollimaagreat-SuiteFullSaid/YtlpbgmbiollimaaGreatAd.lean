/-
  The abstract machine is sound for a region whose order is drawn.
  Conditions: none.
-/
import Derived.Test.YtlpbgmbiollimaaGreatAc
set_option linter.unusedSimpArgs false
set_option linter.unusedVariables false
namespace Go.Am
open Go

/-! ### The relation of states -/

def TR (ρ : Ren) (t : Tr AV) (a : Array Value) : Prop := ∀ i v, t.get i = some v → i < a.size ∧ VR ρ v (a.getD i undef)

def DR (ρ : Ren) : List (FuncId × List AV) → List Deferred → Prop
  | [], ds => ds = []
  | (f, l) :: r, ds => ∃ as cs ds', ds = { target := .fn (.func f) ⟨cs⟩, args := ⟨as⟩ } :: ds' ∧ LR ρ l (as ++ cs) ∧ DR ρ r ds'

/-- The caller's mode, as a deferred call sees it. -/
def RcM (ρ : Ren) : Rc → FrameMode → Prop
  | .off, _ => False
  | .idle, u => u = .returning
  | .armed v, u => ∃ x, VR ρ v x ∧ u = .panicking [{ v := x, recovered := false }]
  | .done, u => ∃ x, u = .panicking [{ v := x, recovered := true }]

def RcR (ρ : Ren) (c₀ : Frame) (rest cs0 : List Frame) : Rc → List Frame → Prop
  | .off, cs => cs = cs0
  | rc, cs => ∃ u, RcM ρ rc u ∧ cs = { c₀ with mode := u } :: rest

def Base : Rc → Frame → Prop
  | .off, _ => True
  | _, b => b.kind = .deferred ∧ b.roundOf = none

theorem RcM.mono {ρ ρ' : Ren} (hle : ρ.le ρ') {rc : Rc} {u : FrameMode} (h : RcM ρ rc u) : RcM ρ' rc u := by
  cases rc with
  | off => exact h
  | idle => exact h
  | armed v => obtain ⟨x, hx, e⟩ := h; exact ⟨x, VR.mono hle _ _ hx, e⟩
  | done => exact h

theorem RcR.mono {ρ ρ' : Ren} (hle : ρ.le ρ') {c₀ : Frame} {rest cs0 : List Frame} {rc : Rc} {cs : List Frame} (h : RcR ρ c₀ rest cs0 rc cs) : RcR ρ' c₀ rest cs0 rc cs := by
  cases rc with
  | off => exact h
  | idle => obtain ⟨u, hu, e⟩ := h; exact ⟨u, hu.mono hle, e⟩
  | armed v => obtain ⟨u, hu, e⟩ := h; exact ⟨u, hu.mono hle, e⟩
  | done => obtain ⟨u, hu, e⟩ := h; exact ⟨u, hu.mono hle, e⟩

theorem DR.mono {ρ ρ' : Ren} (hle : ρ.le ρ') : ∀ {l : List (FuncId × List AV)} {ds : List Deferred}, DR ρ l ds → DR ρ' l ds
  | [], _, h => h
  | (f, l) :: r, _, h => by
    obtain ⟨as, cs, ds', e, h1, h2⟩ := h
    exact ⟨as, cs, ds', e, LR.mono hle _ _ h1, DR.mono hle h2⟩

theorem TR.mono {ρ ρ' : Ren} (hle : ρ.le ρ') {t : Tr AV} {a : Array Value} (h : TR ρ t a) : TR ρ' t a :=
  fun i v hi => ⟨(h i v hi).1, VR.mono hle _ _ (h i v hi).2⟩

/-- What stands beside the temporaries. -/
structure Beside (ρ : Ren) (c₀ : Frame) (rest cs0 : List Frame) (st : ASt) (a : Act) (cs : List Frame) (w : World) : Prop where
  heap : HR ρ st.heap w
  defers : DR ρ st.defers a.defers
  rc : RcR ρ c₀ rest cs0 st.rc cs

structure SR (ρ : Ren) (c₀ : Frame) (rest cs0 : List Frame) (st : ASt) (a : Act) (cs : List Frame) (w : World) : Prop extends Beside ρ c₀ rest cs0 st a cs w where
  tmps : TR ρ st.tmps a.tmps
  size : st.nt ≤ a.tmps.size

theorem TR.put {ρ : Ren} {t : Tr AV} {a : Array Value} (h : TR ρ t a) {nt : Nat} (hn : nt ≤ a.size) (dst : Option Tmp) {v : AV} {u : Value} (hv : VR ρ v u) (ds ds' : List Deferred) :
    TR ρ (putT nt t dst v) ((Act.put { tmps := a, defers := ds } dst u).tmps) := by
  cases dst with
  | none => exact h
  | some d =>
    intro i x hi
    simp only [putT] at hi
    by_cases hd : d < nt
    · rw [show Nat.blt d nt = true by simpa [Nat.blt_eq] using hd, cond_true] at hi
      rw [Tr.get_put] at hi
      by_cases e : d = i
      · subst e
        rw [if_pos rfl] at hi
        simp only [Option.some.injEq] at hi; subst hi
        have : d < a.size := Nat.lt_of_lt_of_le hd hn
        exact ⟨by simpa [Act.put] using this, by simp [Act.put, this]; exact hv⟩
      · rw [if_neg e] at hi
        obtain ⟨h1, h2⟩ := h i x hi
        exact ⟨by simpa [Act.put] using h1, by simpa [Act.put, Array.getElem?_setIfInBounds_ne e] using h2⟩
    · rw [show Nat.blt d nt = false from Bool.eq_false_iff.2 fun e => hd (by simpa [Nat.blt_eq] using e), cond_false] at hi
      by_cases e : d = i
      · subst e; rw [Tr.get_del_eq] at hi; simp at hi
      · rw [Tr.get_del_ne _ e] at hi
        obtain ⟨h1, h2⟩ := h i x hi
        exact ⟨by simpa [Act.put] using h1, by simpa [Act.put, Array.getElem?_setIfInBounds_ne e] using h2⟩

theorem put_size (a : Act) (dst : Option Tmp) (u : Value) : (a.put dst u).tmps.size = a.tmps.size := by
  cases dst <;> simp [Act.put]

theorem put_defers (a : Act) (dst : Option Tmp) (u : Value) : (a.put dst u).defers = a.defers := by
  cases dst <;> rfl

theorem undef_VR (ρ : Ren) : VR ρ undefA undef := by simp only [undefA, undef, VR]; exact ⟨[], rfl, LR.nil⟩

theorem SR.put {ρ : Ren} {c₀ : Frame} {rest cs0 : List Frame} {st : ASt} {a : Act} {cs : List Frame} {w : World} (h : SR ρ c₀ rest cs0 st a cs w) (dst : Option Tmp) {v : AV} {u : Value} (hv : VR ρ v u) :
    SR ρ c₀ rest cs0 (st.put dst v) (a.put dst u) cs w :=
  { heap := h.heap, defers := by rw [put_defers]; exact h.defers, rc := h.rc, tmps := h.tmps.put h.size dst hv a.defers a.defers, size := by rw [put_size]; exact h.size }

theorem TR.ev {P : Program} {ρ : Ren} {t : Tr AV} {a : Act} (h : TR ρ t a.tmps) : EvR ρ (evalA t) a.eval := by
  intro x v hx
  cases x with
  | tmp i => exact (h i v hx).2
  | const c => exact constA_ok hx
  | func f => simp only [evalA, Option.some.injEq] at hx; subst hx; simp only [VR, Act.eval]; exact ⟨[], [], rfl, LR.nil, LR.nil⟩
  | global g => simp [evalA] at hx

/-! ### What calls are -/

def CallR (ρ : Ren) (h : AH) (w : World) (r : CR) (h' : AH) : Ending → World → Prop := fun e w' => ∃ ρ', HR ρ' h' w' ∧ Frm ρ h w ρ' h' w' ∧ match r with
  | .ret v => ∃ u, e = .returned u ∧ VR ρ' v u
  | .pan v => ∃ u, e = .panicked [{ v := u, recovered := false }] ∧ VR ρ' v u

def CallSpec (P : Program) (f : FuncId) (args : Array Value) (w : World) (R : Ending → World → Prop) : Prop :=
  ((callFunc f args).run P w = .ok (.enter f args) w ∧ Calls P f args w R) ∨ ∃ v w', (callFunc f args).run P w = .ok (.value v) w' ∧ R (.returned v) w'

def OrcOk (P : Program) (orc : Orc) : Prop := ∀ f g, orc f = some g → ∀ l h v h', g l h = some (v, h') → ∀ ρ w us, LR ρ l us → HR ρ h w → CallSpec P f ⟨us⟩ w (CallR ρ h w (.ret v) h')

def CallOk (P : Program) (orc : Orc) (n : Nat) : Prop := ∀ f l h r h', callA P orc n f l h = some (r, h') → ∀ ρ w us, LR ρ l us → HR ρ h w → CallSpec P f ⟨us⟩ w (CallR ρ h w r h')

/-! ### One operation -/

section
variable {P : Program} {orc : Orc}

/-- What has happened where one operation has been carried out. -/
def OneR (P : Program) (ρ : Ren) (c₀ : Frame) (rest cs0 : List Frame) (st : ASt) (a : Act) (w : World) (o : Oper) (b : Frame) (k : List Item) (ops : Array Oper) (is : List Nat) (m : Machine) (cs : List Frame) (st' : ASt) : AX → Prop
  | .normal => ∃ r u ρ' ds' cs' w', st'.tmps = putT st.nt st.tmps o.dst r ∧ VR ρ' r u ∧ Beside ρ' c₀ rest cs0 st' { tmps := a.tmps, defers := ds' } cs' w' ∧ Frm ρ st.heap w ρ' st'.heap w' ∧
      Steps P m (lone (b.at (Act.put { tmps := a.tmps, defers := ds' } o.dst u) (.inRegion ops is :: k)) cs' w')
  | .pan v => ∃ u ρ' w' todo, st' = { st with heap := st'.heap } ∧ VR ρ' v u ∧ HR ρ' st'.heap w' ∧ Frm ρ st.heap w ρ' st'.heap w' ∧
      Steps P m (lone { b.at a todo with mode := .panicking [{ v := u, recovered := false }] } cs w')
  | _ => False

def OneOk (P : Program) (orc : Orc) (n : Nat) : Prop := ∀ (o : Oper) (st : ASt) (x : AX) (st' : ASt), oneA P orc n o st = some (x, st') →
  ∀ ρ (a : Act) (w : World) c₀ rest cs0 cs, Beside ρ c₀ rest cs0 st a cs w → (∀ y ∈ o.op.operands, ∀ v, evalA st.tmps y = some v → VR ρ v (a.eval y)) →
  ∀ (b : Frame) (k : List Item) (ops : Array Oper) (i : Nat) (is : List Nat), Base st.rc b → ops[i]? = some o → Region.wanted o (yielded ops a.tmps) = true →
    st'.nt = st.nt ∧ (∀ b, Base st.rc b → Base st'.rc b) ∧ OneR P ρ c₀ rest cs0 st a w o b k ops is (lone (b.at a (.inRegion ops (i :: is) :: k)) cs w) cs st' x

theorem opA_at {st : ASt} {a : Act} {w : World} {ρ : Ren} {o : Oper} (hh : HR ρ st.heap w) (he : ∀ y ∈ o.op.operands, ∀ v, evalA st.tmps y = some v → VR ρ v (a.eval y)) :
    OpR P ρ st.heap w ((execOp a.eval o).run P w) (opA P (evalA st.tmps) st.heap o.op) := by
  classical
  rw [opA_congr (ev' := fun y => if y ∈ o.op.operands then evalA st.tmps y else none) o.op (fun y hy => by simp [hy])]
  refine opA_ok hh ?_ o
  intro y v hy
  by_cases hm : y ∈ o.op.operands
  · simp only [hm, if_true] at hy; exact he y hm v hy
  · simp [hm] at hy

theorem finish_eq (b : Frame) (a : Act) (ops : Array Oper) (i : Nat) (is : List Nat) (k : List Item) (v : Value) {o : Oper} (ho : ops[i]? = some o) :
    (b.at a (.inRegion ops (i :: is) :: k)).finish v = b.at (a.put o.dst v) (.inRegion ops is :: k) := by
  rw [Frame.finish_at, ho]; rfl

section
variable {b : Frame} {a : Act} {k : List Item} {cs : List Frame} {w w' : World} {ops : Array Oper} {i : Nat} {is : List Nat} {o : Oper}

theorem step_value (ho : ops[i]? = some o) (hw : Region.wanted o (yielded ops a.tmps) = true) {v : Value} (hr : (execOp a.eval o).run P w = .ok (.value v) w') :
    step P (lone (b.at a (.inRegion ops (i :: is) :: k)) cs w) = .next (lone (b.at (a.put o.dst v) (.inRegion ops is :: k)) cs w') :=
  step_lone_go (by rw [stepG_op ho hw, ← finish_eq b a ops i is k v ho]; simp [stepG.apply, hr])

theorem step_skipped (ho : ops[i]? = some o) (hw : Region.wanted o (yielded ops a.tmps) = true) (hr : (execOp a.eval o).run P w = .ok .skip w') :
    step P (lone (b.at a (.inRegion ops (i :: is) :: k)) cs w) = .next (lone (b.at (a.put o.dst undef) (.inRegion ops is :: k)) cs w') :=
  step_lone_go (by rw [stepG_op ho hw, ← finish_eq b a ops i is k undef ho]; simp [stepG.apply, hr])

theorem step_deferred (ho : ops[i]? = some o) (hw : Region.wanted o (yielded ops a.tmps) = true) {d : Deferred} (hr : (execOp a.eval o).run P w = .ok (.defer d) w') :
    step P (lone (b.at a (.inRegion ops (i :: is) :: k)) cs w) = .next (lone (b.at (Act.put { tmps := a.tmps, defers := d :: a.defers } o.dst undef) (.inRegion ops is :: k)) cs w') := by
  refine step_lone_go ?_
  have h : ({ b.at a (.inRegion ops (i :: is) :: k) with defers := d :: a.defers } : Frame).finish undef =
      b.at ({ a with defers := d :: a.defers }.put o.dst undef) (.inRegion ops is :: k) := by
    have := Frame.finish_at b { a with defers := d :: a.defers } ops i is k undef
    rw [ho] at this; exact this
  rw [stepG_op ho hw]; simp only [stepG.apply, Sem.runT_eq, hr, GStep.bare_after]
  exact congrArg (fun fr => GStep.go { frame := fr, callers := cs, status := .running, dying := none } w') h

theorem step_recover_some (ho : ops[i]? = some o) (hw : Region.wanted o (yielded ops a.tmps) = true) (hr : (execOp a.eval o).run P w = .ok .recover w')
    (hk : b.kind = .deferred) (hro : b.roundOf = none) {v : Value} {cs' : List Frame} (hrec : recoverD cs = some (v, cs')) :
    step P (lone (b.at a (.inRegion ops (i :: is) :: k)) cs w) = .next (lone (b.at (a.put o.dst v) (.inRegion ops is :: k)) cs' w') := by
  have hkk : (b.at a (.inRegion ops (i :: is) :: k)).kind = .deferred := hk
  have htr := tryRecover_deferred hkk cs
  refine step_lone_go ?_
  rw [stepG_op ho hw, ← finish_eq b a ops i is k v ho]
  simp only [Frame.at] at htr ⊢
  simp [stepG.apply, hr, htr, hrec]

theorem step_recover_none (ho : ops[i]? = some o) (hw : Region.wanted o (yielded ops a.tmps) = true) (hr : (execOp a.eval o).run P w = .ok .recover w')
    (hk : b.kind = .deferred) (hro : b.roundOf = none) (hrec : recoverD cs = none) :
    step P (lone (b.at a (.inRegion ops (i :: is) :: k)) cs w) = .next (lone (b.at (a.put o.dst .nilIface) (.inRegion ops is :: k)) cs w') := by
  have hkk : (b.at a (.inRegion ops (i :: is) :: k)).kind = .deferred := hk
  have htr := tryRecover_deferred hkk cs
  refine step_lone_go ?_
  rw [stepG_op ho hw, ← finish_eq b a ops i is k .nilIface ho]
  simp only [Frame.at] at htr ⊢
  simp [stepG.apply, hr, htr, hrec]

theorem step_panicked (ho : ops[i]? = some o) (hw : Region.wanted o (yielded ops a.tmps) = true) {v : Value} (hr : (execOp a.eval o).run P w = .halt (.panic v) w') :
    step P (lone (b.at a (.inRegion ops (i :: is) :: k)) cs w) = .next (lone { b.at a (.inRegion ops (i :: is) :: k) with mode := .panicking [{ v, recovered := false }] } cs w') :=
  step_lone_go (by rw [stepG_op ho hw, ← Frame.raise_at]; simp [stepG.apply, hr])

theorem step_entered (ho : ops[i]? = some o) (hw : Region.wanted o (yielded ops a.tmps) = true) {f : FuncId} {args : Array Value} (hr : (execOp a.eval o).run P w = .ok (.enter f args) w') :
    step P (lone (b.at a (.inRegion ops (i :: is) :: k)) cs w) = .next (lone (Frame.enter P f args .normal) (b.at a (.inRegion ops (i :: is) :: k) :: cs) w') :=
  step_lone_go (by rw [stepG_op ho hw]; simp [stepG.apply, hr, Frame.at])
end

theorem oneA_ok {n : Nat} (hc : CallOk P orc n) : OneOk P orc (n + 1) := by
  intro o st x st' h ρ a w c₀ rest cs0 cs hb he b k ops i is hB ho hw
  have hop := opA_at (P := P) hb.heap he
  simp only [oneA] at h
  split at h
  · -- a value
    rename_i v h1 hv
    rw [hv] at hop
    simp only [Option.some.injEq, Prod.mk.injEq] at h; obtain ⟨rfl, rfl⟩ := h
    obtain ⟨u, w', ρ', hr, h2, h3, h4⟩ := hop
    exact ⟨rfl, fun b hb => hb, v, u, ρ', a.defers, cs, w', rfl, h2, ⟨h3, hb.defers.mono h4.le, hb.rc.mono h4.le⟩, h4, .one (step_value ho hw hr)⟩
  · rename_i h1 hv
    rw [hv] at hop
    simp only [Option.some.injEq, Prod.mk.injEq] at h; obtain ⟨rfl, rfl⟩ := h
    obtain ⟨w', hr, h3, h4⟩ := hop
    exact ⟨rfl, fun b hb => hb, undefA, undef, ρ, a.defers, cs, w', rfl, undef_VR ρ, ⟨h3, hb.defers, hb.rc⟩, h4, .one (step_skipped ho hw hr)⟩
  · rename_i f args h1 hv
    rw [hv] at hop
    simp only [Option.some.injEq, Prod.mk.injEq] at h; obtain ⟨rfl, rfl⟩ := h
    obtain ⟨rfl, as, cs1, hl, hr⟩ := hop
    exact ⟨rfl, fun b hb => hb, undefA, undef, ρ, _, cs, w, rfl, undef_VR ρ, ⟨hb.heap, ⟨as, cs1, a.defers, rfl, hl, hb.defers⟩, hb.rc⟩, .refl _ _ _, .one (step_deferred ho hw hr)⟩
  · rename_i h1 hv
    rw [hv] at hop
    obtain ⟨rfl, hr⟩ := hop
    split at h
    · simp at h
    · rename_i v hrc
      simp only [Option.some.injEq, Prod.mk.injEq] at h; obtain ⟨rfl, rfl⟩ := h
      have hrr := hb.rc
      rw [hrc] at hrr hB
      obtain ⟨u, ⟨y, hy, rfl⟩, rfl⟩ := hrr
      refine ⟨rfl, fun b hb => by rw [hrc] at hb; exact hb, v, y, ρ, a.defers, _, w, rfl, hy, ⟨hb.heap, hb.defers, ?_⟩, .refl _ _ _, .one (step_recover_some ho hw hr hB.1 hB.2 (cs' := { c₀ with mode := .panicking [{ v := y, recovered := true }] } :: rest) rfl)⟩
      exact ⟨_, ⟨y, rfl⟩, rfl⟩
    · rename_i hoff harm
      simp only [Option.some.injEq, Prod.mk.injEq] at h; obtain ⟨rfl, rfl⟩ := h
      have hB' : b.kind = .deferred ∧ b.roundOf = none := by
        cases hrc : st.rc with
        | off => exact absurd hrc hoff
        | armed v => exact absurd hrc (harm v)
        | idle => rw [hrc] at hB; exact hB
        | done => rw [hrc] at hB; exact hB
      have hrec : recoverD cs = none := by
        have hrr := hb.rc
        cases hrc : st.rc with
        | off => exact absurd hrc hoff
        | armed v => exact absurd hrc (harm v)
        | idle => rw [hrc] at hrr; obtain ⟨u, rfl, rfl⟩ := hrr; rfl
        | done => rw [hrc] at hrr; obtain ⟨u, ⟨y, rfl⟩, rfl⟩ := hrr; rfl
      exact ⟨rfl, fun b hb => hb, .nilIface, .nilIface, ρ, a.defers, cs, w, rfl, by simp only [VR], ⟨hb.heap, hb.defers, hb.rc⟩, .refl _ _ _, .one (step_recover_none ho hw hr hB'.1 hB'.2 hrec)⟩
  · rename_i f args h1 hv
    rw [hv] at hop
    obtain ⟨rfl, us, hl, hr⟩ := hop
    have hcall : ∀ r h', callA P orc n f args st.heap = some (r, h') → CallSpec P f ⟨us⟩ w (CallR ρ st.heap w r h') := fun r h' hq => hc f args st.heap r h' hq ρ w us hl hb.heap
    split at h
    · rename_i v h' hq
      simp only [Option.some.injEq, Prod.mk.injEq] at h; obtain ⟨rfl, rfl⟩ := h
      rcases hcall _ _ hq with ⟨hen, hcl⟩ | ⟨y, w', hva, ρ', h2, h3, u, e, h4⟩
      · rw [hen] at hr
        obtain ⟨e, w', fr, ⟨ρ', h2, h3, u, rfl, h4⟩, hsteps, _, hleave⟩ := hcl (b.at a (.inRegion ops (i :: is) :: k) :: cs)
        refine ⟨rfl, fun b hb => hb, v, u, ρ', a.defers, cs, w', rfl, h4, ⟨h2, hb.defers.mono h3.le, hb.rc.mono h3.le⟩, h3, .head (step_entered ho hw hr) (Steps.trans hsteps (.one ?_))⟩
        rw [← finish_eq b _ ops i is k u ho]
        exact step_leave_returned hleave
      · simp only [Ending.returned.injEq] at e; subst e
        rw [hva] at hr
        exact ⟨rfl, fun b hb => hb, v, y, ρ', a.defers, cs, w', rfl, h4, ⟨h2, hb.defers.mono h3.le, hb.rc.mono h3.le⟩, h3, .one (step_value ho hw hr)⟩
    · rename_i v h' hq
      simp only [Option.some.injEq, Prod.mk.injEq] at h; obtain ⟨rfl, rfl⟩ := h
      rcases hcall _ _ hq with ⟨hen, hcl⟩ | ⟨y, w', hva, ρ', h2, h3, u, e, h4⟩
      · rw [hen] at hr
        obtain ⟨e, w', fr, ⟨ρ', h2, h3, u, rfl, h4⟩, hsteps, _, hleave⟩ := hcl (b.at a (.inRegion ops (i :: is) :: k) :: cs)
        refine ⟨rfl, fun b hb => hb, u, ρ', w', .inRegion ops (i :: is) :: k, rfl, h4, h2, h3, .head (step_entered ho hw hr) (Steps.trans hsteps (.one ?_))⟩
        rw [← Frame.raise_at]
        exact step_leave_panicked hleave
      · simp at e
    · simp at h
  · rename_i v h1 hv
    rw [hv] at hop
    simp only [Option.some.injEq, Prod.mk.injEq] at h; obtain ⟨rfl, rfl⟩ := h
    obtain ⟨rfl, u, hu, hr⟩ := hop
    exact ⟨rfl, fun b hb => hb, u, ρ, w, _, rfl, hu, hb.heap, .refl _ _ _, .one (step_panicked ho hw hr)⟩
  · simp at h

/-! ### Guards and results -/

theorem wantedA_ok {ρ : Ren} {tmps : Tr AV} {a : Array Value} {ops : Array Oper} {o : Oper} {t : Bool} (h : wantedA ops tmps o = some t)
    (ht : ∀ g want d v, o.guard = some (g, want) → (ops[g]?).bind (·.dst) = some d → tmps.get d = some v → d < a.size ∧ VR ρ v (a.getD d undef)) : Region.wanted o (yielded ops a) = t := by
  unfold wantedA at h
  unfold Region.wanted
  split at h
  · rename_i hg
    simp only [Option.some.injEq] at h; subst h
    rw [hg]
  · rename_i g want hg
    rw [hg]
    simp only
    split at h
    · rename_i d hd
      split at h
      · rename_i x hx
        simp only [Option.some.injEq] at h; subst h
        obtain ⟨h1, h2⟩ := ht g want d _ hg hd hx
        simp only [VR] at h2
        have : yielded ops a g = some x := by
          unfold yielded
          rw [hd]
          simp only [Option.bind_some]
          have e : a[d]? = some (.bool x) := by
            rw [Array.getElem?_eq_getElem h1]; simpa [h1] using h2
          rw [e]
        rw [this]
        simp
      · rename_i x hnb hx
        simp only [Option.some.injEq] at h; subst h
        obtain ⟨h1, h2⟩ := ht g want d _ hg hd hx
        have : yielded ops a g = none := by
          unfold yielded
          rw [hd]
          simp only [Option.bind_some]
          have e : a[d]? = some (a.getD d undef) := by
            rw [Array.getElem?_eq_getElem h1]; simp [h1]
          rw [e]
          cases x <;> try simp only [VR] at h2
          case bool y => exact absurd rfl (hnb y)
          case ptr q => cases q with
            | none => simp only [VR] at h2; rw [h2]
            | some q => obtain ⟨q1, q2⟩ := q; simp only [VR] at h2; obtain ⟨_, _, _, _, e⟩ := h2; rw [e]
          case slice q l c s => cases q with
            | none => simp only [VR] at h2; rw [h2.2.2]
            | some q => obtain ⟨q1, q2⟩ := q; simp only [VR] at h2; obtain ⟨_, _, _, _, _, _, e, _⟩ := h2; rw [e]
          case map q => cases q with
            | none => simp only [VR] at h2; rw [h2]
            | some q => simp only [VR] at h2; obtain ⟨_, _, _, _, e⟩ := h2; rw [e]
          case func f x y => obtain ⟨_, _, e, _⟩ := h2; rw [e]
          case iface t y => obtain ⟨_, e, _⟩ := h2; rw [e]
          case agg y => obtain ⟨_, e, _⟩ := h2; rw [e]
          case tuple y => obtain ⟨_, e, _⟩ := h2; rw [e]
          all_goals rw [h2]
        rw [this]
        rfl
      · simp at h
    · simp at h

def resStep (a : Array Value) : ResultVar → Sem Value
  | .tmp t => pure (a.getD t undef)
  | .cell a' t => do loadVar t (← asAddr (a.getD a' undef))

theorem results_eq (fn : Func) (a : Array Value) : results fn a = (fn.results.mapM (resStep a) >>= fun vs => pure (if h : vs.size = 1 then vs[0] else .tuple vs)) := rfl

theorem resultA_ok {ρ : Ren} {h : AH} {w : World} {tmps : Tr AV} {a : Array Value} (hh : HR ρ h w) (ht : TR ρ tmps a) : ∀ {rs : List ResultVar} {vs : List AV}, resultA P tmps h rs = some vs →
    ∃ us, LR ρ vs us ∧ (rs.mapM (m := Sem) (resStep a)).run P w = .ok us w
  | [], _, hr => by simp only [resultA, Option.some.injEq] at hr; subst hr; exact ⟨[], LR.nil, by simp⟩
  | r :: rs, _, hr => by
    simp only [resultA] at hr
    split at hr
    · rename_i v vs hv hvs
      simp only [Option.some.injEq] at hr; subst hr
      obtain ⟨us, hus, hrun⟩ := resultA_ok hh ht hvs
      cases r with
      | tmp t =>
        obtain ⟨h1, h2⟩ := ht t v hv
        refine ⟨a.getD t undef :: us, LR.cons h2 hus, ?_⟩
        simp only [List.mapM_cons, resStep, Sem.run_bind, Sem.run_pure, Result.andThen_ok]
        rw [hrun]; simp
      | cell a' t =>
        simp only at hv
        split at hv
        · rename_i i o hi
          obtain ⟨h1, h2⟩ := ht a' _ hi
          simp only [VR] at h2
          obtain ⟨b, s, z, hρ, e⟩ := h2
          obtain ⟨u, hu, hl⟩ := loadVar_ok (P := P) hh hρ hv
          refine ⟨u :: us, LR.cons hu hus, ?_⟩
          have ea : asAddr (.pointer (some ⟨b, s + o, none⟩)) = pure ⟨b, s + o, none⟩ := rfl
          simp only [List.mapM_cons, resStep, Sem.run_bind, Sem.run_pure, Result.andThen_ok, e, ea, hl]
          rw [hrun]; simp
        · simp at hv
    · simp at hr

theorem resultsA_ok {ρ : Ren} {h : AH} {w : World} {tmps : Tr AV} {a : Array Value} (hh : HR ρ h w) (ht : TR ρ tmps a) {fn : Func} {v : AV} (hr : resultsA P fn tmps h = some v) :
    ∃ u, VR ρ v u ∧ (results fn a).run P w = .ok u w := by
  simp only [resultsA, Option.map_eq_some_iff] at hr
  obtain ⟨vs, hvs, rfl⟩ := hr
  obtain ⟨us, hus, hrun⟩ := resultA_ok (P := P) hh ht hvs
  have hm : (fn.results.mapM (m := Sem) (resStep a)).run P w = .ok ⟨us⟩ w := by
    rw [Array.mapM_eq_mapM_toList]
    show Sem.run P (List.mapM (m := Sem) _ fn.results.toList >>= fun l => (pure l.toArray : Sem (Array Value))) w = _
    rw [Sem.run_bind, hrun]
    simp
  rw [results_eq, Sem.run_bind, hm]
  simp only [Result.andThen_ok, Sem.run_pure]
  cases hus' : us with
  | nil =>
    subst hus'
    have : vs = [] := by have := hus.length; simpa using this.symm
    subst this
    exact ⟨_, by simp only [tupA, VR]; exact ⟨[], rfl, LR.nil⟩, by simp⟩
  | cons u us' =>
    subst hus'
    cases vs with
    | nil => have := hus.length; simp at this
    | cons x xs =>
      cases us' with
      | nil =>
        cases xs with
        | nil => simp only [LR] at hus; obtain ⟨_, _, e, h1, _⟩ := hus; simp only [List.cons.injEq] at e; obtain ⟨rfl, _⟩ := e; exact ⟨u, by simpa [tupA] using h1, by simp⟩
        | cons y ys => have := hus.length; simp at this
      | cons u2 us2 =>
        cases xs with
        | nil => have := hus.length; simp at this
        | cons y ys => exact ⟨_, by simp only [tupA, VR]; exact ⟨_, rfl, hus⟩, by simp⟩

end
end Go.Am

namespace Go.Am
open Go

/-! ### What is ahead -/

def bef (acc : Array Nat) (o : Oper) : Nat := o.after.foldl (fun s e => if Region.binds .any e then s ||| 2 ^ e.on ||| acc.getD e.on 0 else s) 0

theorem before_eq (ops : Array Oper) : Region.before ops = ops.toList.foldl (fun acc o => acc.push (bef acc o)) #[] := by
  rw [Array.foldl_toList]; rfl

theorem bef_fold (acc : Array Nat) (j : Nat) : ∀ (l : List Edge) (s : Nat), (l.foldl (fun s e => if Region.binds .any e then s ||| 2 ^ e.on ||| acc.getD e.on 0 else s) s).testBit j = true ↔
    s.testBit j = true ∨ ∃ e ∈ l, Region.binds .any e = true ∧ (e.on = j ∨ (acc.getD e.on 0).testBit j = true)
  | [], s => by simp
  | e :: l, s => by
    rw [List.foldl_cons, bef_fold acc j l]
    by_cases hb : Region.binds .any e = true
    · rw [if_pos hb]
      simp only [Nat.testBit_or, Bool.or_eq_true, Nat.testBit_two_pow, decide_eq_true_eq, List.mem_cons, exists_eq_or_imp, hb, true_and]
      constructor
      · rintro (((h | h) | h) | h)
        · exact .inl h
        · exact .inr (.inl (.inl h))
        · exact .inr (.inl (.inr h))
        · exact .inr (.inr h)
      · rintro (h | (h | h) | h)
        · exact .inl (.inl (.inl h))
        · exact .inl (.inl (.inr h))
        · exact .inl (.inr h)
        · exact .inr h
    · rw [if_neg hb]
      simp only [List.mem_cons, exists_eq_or_imp, hb, false_and, false_or, Bool.false_eq_true]

theorem bef_bit (acc : Array Nat) (o : Oper) (j : Nat) : (bef acc o).testBit j = true ↔ ∃ e ∈ o.after, Region.binds .any e = true ∧ (e.on = j ∨ (acc.getD e.on 0).testBit j = true) := by
  unfold bef
  rw [← Array.foldl_toList, bef_fold]
  simp

theorem before_inv : ∀ (rest done : List Oper) (acc : Array Nat), acc.size = done.length →
    (∀ i o, done[i]? = some o → ∃ A, acc[i]? = some (bef A o) ∧ ∀ j, A.getD j 0 = if j < i then acc.getD j 0 else 0) →
    ∀ i o, (done ++ rest)[i]? = some o → ∃ A, (rest.foldl (fun acc o => acc.push (bef acc o)) acc)[i]? = some (bef A o) ∧
      ∀ j, A.getD j 0 = if j < i then (rest.foldl (fun acc o => acc.push (bef acc o)) acc).getD j 0 else 0
  | [], done, acc, hs, h => by simpa using h
  | x :: rest, done, acc, hs, h => by
    intro i o hi
    rw [List.foldl_cons]
    have e : done ++ x :: rest = (done ++ [x]) ++ rest := by simp
    rw [e] at hi
    refine before_inv rest (done ++ [x]) (acc.push (bef acc x)) (by simp [hs]) ?_ i o hi
    intro i o hi
    by_cases hlt : i < done.length
    · rw [List.getElem?_append_left hlt] at hi
      obtain ⟨A, h1, h2⟩ := h i o hi
      refine ⟨A, ?_, fun j => ?_⟩
      · rw [Array.getElem?_push_lt (by omega)]
        rw [Array.getElem?_eq_getElem (by omega)] at h1
        exact h1
      · rw [h2 j]
        by_cases hj : j < i
        · rw [if_pos hj, if_pos hj]
          simp only [Array.getD_eq_getD_getElem?]
          rw [Array.getElem?_push_lt (by omega), Array.getElem?_eq_getElem (by omega)]
        · rw [if_neg hj, if_neg hj]
    · have hi' : i = done.length := by
        rw [List.getElem?_append_right (by omega)] at hi
        have := (List.getElem?_eq_some_iff.1 hi).1
        simp at this; omega
      subst hi'
      rw [List.getElem?_append_right (by omega)] at hi
      simp at hi; subst hi
      refine ⟨acc, ?_, fun j => ?_⟩
      · rw [← hs]; simp
      · by_cases hj : j < done.length
        · rw [if_pos hj]
          simp only [Array.getD_eq_getD_getElem?]
          rw [Array.getElem?_push_lt (by omega), Array.getElem?_eq_getElem (by omega)]
        · rw [if_neg hj]
          simp only [Array.getD_eq_getD_getElem?]
          rw [Array.getElem?_eq_none (by omega)]; rfl

theorem ahead_iff {ops : Array Oper} {i j : Nat} {o : Oper} (ho : ops[i]? = some o) : ahead (Region.before ops).toList j i = true ↔
    ∃ e ∈ o.after, Region.binds .any e = true ∧ (e.on = j ∨ (e.on < i ∧ ahead (Region.before ops).toList j e.on = true)) := by
  have h := before_inv ops.toList [] #[] rfl (by simp) i o (by simpa using ho)
  rw [← before_eq] at h
  obtain ⟨A, h1, h2⟩ := h
  have hg : (Region.before ops).toList.getD i 0 = bef A o := by
    rw [List.getD_eq_getElem?_getD, Array.getElem?_toList, h1]; rfl
  have hg2 : ∀ k, (Region.before ops).toList.getD k 0 = (Region.before ops).getD k 0 := fun k => by
    rw [List.getD_eq_getElem?_getD, Array.getElem?_toList]; simp
  unfold ahead
  rw [hg, bef_bit]
  constructor
  · rintro ⟨e, he, hb, h | h⟩
    · exact ⟨e, he, hb, .inl h⟩
    · rw [h2] at h
      by_cases hlt : e.on < i
      · rw [if_pos hlt] at h; exact ⟨e, he, hb, .inr ⟨hlt, by rw [hg2]; exact h⟩⟩
      · rw [if_neg hlt] at h; simp at h
  · rintro ⟨e, he, hb, h | ⟨hlt, h⟩⟩
    · exact ⟨e, he, hb, .inl h⟩
    · exact ⟨e, he, hb, .inr (by rw [h2, if_pos hlt, ← hg2]; exact h)⟩

theorem ahead_lt {ops : Array Oper} {i j : Nat} (h : ahead (Region.before ops).toList j i = true) : ∃ o, ops[i]? = some o := by
  cases ho : ops[i]? with
  | some o => exact ⟨o, rfl⟩
  | none =>
    exfalso
    have hs : (Region.before ops).size = ops.size := by
      unfold Region.before
      rw [← Array.foldl_toList]
      have : ∀ (l : List Oper) (acc : Array Nat), (l.foldl (fun acc o => acc.push (o.after.foldl (fun s e => if Region.binds .any e then s ||| 2 ^ e.on ||| acc.getD e.on 0 else s) 0)) acc).size = acc.size + l.length := by
        intro l
        induction l with
        | nil => simp
        | cons x l ih => intro acc; rw [List.foldl_cons, ih]; simp; omega
      have := this ops.toList #[]
      simpa using this
    unfold ahead at h
    rw [List.getD_eq_getElem?_getD, Array.getElem?_toList, Array.getElem?_eq_none (by rw [hs]; simpa using ho)] at h
    simp at h

/-- What is ahead of an operation all of whose edges lead into a closed set is in it. -/
theorem ahead_in {ops : Array Oper} {X : Nat → Prop} (hX : ∀ j oj, ops[j]? = some oj → X j → ∀ e ∈ oj.after, Region.binds .any e = true → X e.on) :
    ∀ (n i : Nat) (o : Oper), i < n → ops[i]? = some o → (∀ e ∈ o.after, Region.binds .any e = true → X e.on) → ∀ j, ahead (Region.before ops).toList j i = true → X j
  | 0, i, _, hi, _, _, _, _ => by omega
  | n + 1, i, o, hi, ho, he, j, hj => by
    obtain ⟨e, hm, hb, rfl | ⟨hlt, h⟩⟩ := (ahead_iff ho).1 hj
    · exact he e hm hb
    · obtain ⟨oe, hoe⟩ := ahead_lt h
      exact ahead_in hX n e.on oe (by omega) hoe (fun e' he' hb' => hX e.on oe hoe (he e hm hb) e' he' hb') j h

/-! ### The order -/

theorem topo_at {pre chain : List Nat} : ∀ {order : List Nat}, topo pre chain order = true → ∀ {k k' i j : Nat}, k < k' → order[k]? = some i → order[k']? = some j →
    ahead pre j i = false ∧ i ≠ j ∧ (j ∈ chain → ahead pre i j = true)
  | [], _, k, k', i, j, _, hi, _ => by simp at hi
  | x :: order, h, k, k', i, j, hk, hi, hj => by
    simp only [topo, Bool.and_eq_true, List.all_eq_true] at h
    obtain ⟨h1, h2⟩ := h
    cases k' with
    | zero => omega
    | succ k' =>
      cases k with
      | succ k => exact topo_at h2 (k := k) (k' := k') (by omega) (by simpa using hi) (by simpa using hj)
      | zero =>
        simp at hi hj; subst hi
        have := h1 j (List.mem_of_getElem? hj)
        simp only [Bool.and_eq_true, Bool.not_eq_true', Bool.or_eq_true] at this
        obtain ⟨⟨h3, h4⟩, h5⟩ := this
        refine ⟨h3, fun e => ?_, fun hc => ?_⟩
        · subst e; rw [Nat.beq_refl] at h4; simp at h4
        · rcases h5 with h5 | h5
          · simp at h5; exact absurd hc h5
          · exact h5

theorem length_le_of_nodup : ∀ {l l' : List Nat}, l.Nodup → (∀ x ∈ l, x ∈ l') → l.length ≤ l'.length
  | [], _, _, _ => by simp
  | x :: l, l', hn, h => by
    rw [List.nodup_cons] at hn
    have hx := h x (by simp)
    have := length_le_of_nodup (l := l) (l' := l'.erase x) hn.2 (fun y hy => (List.mem_erase_of_ne (fun e => hn.1 (by rw [← e]; exact hy))).2 (h y (by simp [hy])))
    rw [List.length_erase_of_mem hx] at this
    have : 0 < l'.length := List.length_pos_of_mem hx
    simp; omega

theorem topo_nodup {pre chain : List Nat} : ∀ {order : List Nat}, topo pre chain order = true → order.Nodup
  | [], _ => by simp
  | x :: order, h => by
    simp only [topo, Bool.and_eq_true, List.all_eq_true] at h
    refine List.nodup_cons.2 ⟨fun hm => ?_, topo_nodup h.2⟩
    have := h.1 x hm
    simp at this

theorem order_all {n : Nat} {order : List Nat} (hl : order.length = n) (hlt : ∀ i ∈ order, i < n) (hn : order.Nodup) {i : Nat} (hi : i < n) : ∃ k : Nat, order[k]? = some i := by
  have hm : i ∈ order := by
    refine Classical.byContradiction fun hc => ?_
    have h1 := length_le_of_nodup (l := i :: order) (l' := List.range n) (List.nodup_cons.2 ⟨hc, hn⟩) (fun x hx => by
      rcases List.mem_cons.1 hx with rfl | hx
      · simpa using hi
      · simpa using hlt x hx)
    simp at h1; omega
  obtain ⟨k, hk⟩ := List.getElem?_of_mem hm
  exact ⟨k, hk⟩

/-! ### The steps -/

section
variable {P : Program} {orc : Orc}

def StepF (P : Program) (orc : Orc) (n : Nat) (ops : Array Oper) (x : Stp) : Prop := ∃ o, ops[x.i]? = some o ∧ x.s.heap.next ≤ x.t.heap.next ∧
  ((x.on = false ∧ wantedA ops x.s.tmps o = some false ∧ x.t = x.s.put o.dst undefA) ∨ (x.on = true ∧ wantedA ops x.s.tmps o = some true ∧ ∃ m, m < n ∧ oneA P orc m o x.s = some (.normal, x.t)))

def Chained : ASt → List Stp → ASt → Prop
  | s, [], t => s = t
  | s, x :: xs, t => x.s = s ∧ Chained x.t xs t

theorem drawA_steps : ∀ (n : Nat) (ops : Array Oper) (pre is : List Nat) (st : ASt) (tr : List Stp) (x : AX) (st' : ASt), drawA P orc n ops pre is st = some (tr, x, st') →
    (∀ y ∈ tr, StepF P orc n ops y) ∧ ∃ mid, Chained st tr mid ∧
      ((x = .normal ∧ tr.map (·.i) = is ∧ st' = mid) ∨
       (∃ i rest v o m, x = .pan v ∧ is = tr.map (·.i) ++ i :: rest ∧ (∀ j ∈ rest, ahead pre i j = true) ∧ ops[i]? = some o ∧ wantedA ops mid.tmps o = some true ∧ m < n ∧ oneA P orc m o mid = some (.pan v, st')))
  | 0, _, _, _, _, _, _, _, h => by simp [drawA] at h
  | n + 1, ops, pre, [], st, tr, x, st', h => by
    simp only [drawA, Option.some.injEq, Prod.mk.injEq] at h
    obtain ⟨rfl, rfl, rfl⟩ := h
    exact ⟨by simp, st, rfl, .inl ⟨rfl, rfl, rfl⟩⟩
  | n + 1, ops, pre, i :: is, st, tr, x, st', h => by
    simp only [drawA] at h
    split at h
    · simp at h
    · rename_i o ho
      have lift : ∀ {y : Stp}, StepF P orc n ops y → StepF P orc (n + 1) ops y := by
        rintro y ⟨o, h1, h2, h3 | ⟨h3, h4, m, hm, h5⟩⟩
        · exact ⟨o, h1, h2, .inl h3⟩
        · exact ⟨o, h1, h2, .inr ⟨h3, h4, m, by omega, h5⟩⟩
      have key : ∀ (y : Stp) (tr' : List Stp) (x : AX) (st' : ASt), y.i = i → y.s = st → StepF P orc (n + 1) ops y → drawA P orc n ops pre is y.t = some (tr', x, st') →
          (∀ z ∈ y :: tr', StepF P orc (n + 1) ops z) ∧ ∃ mid, Chained st (y :: tr') mid ∧
          ((x = .normal ∧ (y :: tr').map (·.i) = i :: is ∧ st' = mid) ∨
           (∃ i' rest v o m, x = .pan v ∧ i :: is = (y :: tr').map (·.i) ++ i' :: rest ∧ (∀ j ∈ rest, ahead pre i' j = true) ∧ ops[i']? = some o ∧ wantedA ops mid.tmps o = some true ∧ m < n + 1 ∧ oneA P orc m o mid = some (.pan v, st'))) := by
        intro y tr' x st' hi hs hy hd
        obtain ⟨h1, mid, h2, h3⟩ := drawA_steps n ops pre is y.t tr' x st' hd
        refine ⟨fun z hz => ?_, mid, ⟨hs, h2⟩, ?_⟩
        · rcases List.mem_cons.1 hz with rfl | hz
          · exact hy
          · exact lift (h1 z hz)
        · rcases h3 with ⟨e1, e2, e3⟩ | ⟨i', rest, v, o, m, e1, e2, e3, e4, e5, e6, e7⟩
          · exact .inl ⟨e1, by simp [e2, hi], e3⟩
          · exact .inr ⟨i', rest, v, o, m, e1, by simp [e2, hi], e3, e4, e5, by omega, e7⟩
      split at h
      · simp at h
      · rename_i hw
        split at h
        · rename_i tr' r hd
          simp only [Option.some.injEq, Prod.mk.injEq] at h; obtain ⟨rfl, rfl⟩ := h
          exact key ⟨i, false, st, st.put o.dst undefA⟩ tr' x st' rfl rfl ⟨o, ho, Nat.le_refl _, .inl ⟨rfl, hw, rfl⟩⟩ hd
        · simp at h
      · rename_i hw
        split at h
        · rename_i st1 h1
          cases hb : Nat.ble st.heap.next st1.heap.next with
          | false => rw [hb] at h; simp at h
          | true =>
            rw [hb] at h; simp only [cond_true] at h
            split at h
            · rename_i tr' r hd
              simp only [Option.some.injEq, Prod.mk.injEq] at h; obtain ⟨rfl, rfl⟩ := h
              exact key ⟨i, true, st, st1⟩ tr' x st' rfl rfl ⟨o, ho, Nat.le_of_ble_eq_true hb, .inr ⟨rfl, hw, n, by omega, h1⟩⟩ hd
            · simp at h
        · rename_i v st1 h1
          cases hall : is.all (fun j => ahead pre i j) with
          | false => rw [hall] at h; simp at h
          | true =>
            rw [hall] at h
            simp only [cond_true, Option.some.injEq, Prod.mk.injEq] at h; obtain ⟨rfl, rfl, rfl⟩ := h
            refine ⟨by simp, st, rfl, .inr ⟨i, is, v, o, n, rfl, by simp, ?_, ho, hw, by omega, h1⟩⟩
            simpa using hall
        · simp at h

end
end Go.Am

namespace Go.Am
open Go

def Ren.cut (ρ : Ren) (n : Nat) : Ren := fun i => if i < n then ρ i else none

theorem Ren.cut_lt (ρ : Ren) {n i : Nat} (h : i < n) : ρ.cut n i = ρ i := by simp [Ren.cut, h]
theorem Ren.cut_ge (ρ : Ren) {n i : Nat} (h : n ≤ i) : ρ.cut n i = none := by simp [Ren.cut, Nat.not_lt.2 h]
theorem Ren.cut_some {ρ : Ren} {n i : Nat} {x : Nat × Nat × Nat} (h : ρ.cut n i = some x) : i < n ∧ ρ i = some x := by
  by_cases e : i < n
  · rw [Ren.cut_lt ρ e] at h; exact ⟨e, h⟩
  · rw [Ren.cut_ge ρ (by omega)] at h; simp at h
theorem Ren.cut_mono {ρ ρ' : Ren} {n n' : Nat} (h : ρ.le ρ') (hn : n ≤ n') : (ρ.cut n).le (ρ'.cut n') := by
  intro i x hi
  obtain ⟨h1, h2⟩ := Ren.cut_some hi
  rw [Ren.cut_lt ρ' (by omega)]; exact h i x h2
theorem Ren.cut_le {ρ : Ren} {n : Nat} : (ρ.cut n).le ρ := fun _ _ h => (Ren.cut_some h).2

def lis (L : Array Bool) (i : Nat) : Prop := L.getD i false = true

theorem lis_set_self {L : Array Bool} {i : Nat} (h : i < L.size) : lis (L.setIfInBounds i true) i := by simp [lis, h]
theorem lis_set_ne {L : Array Bool} {i j : Nat} (h : i ≠ j) : lis (L.setIfInBounds i true) j ↔ lis L j := by unfold lis; rw [getD_set_ne false h]
theorem lis_set {L : Array Bool} {i j : Nat} (h : lis L j) : lis (L.setIfInBounds i true) j := getD_set_true h

theorem put_get_ne {a : Act} {dst : Option Tmp} {u : Value} {t : Nat} (h : dst ≠ some t) : (a.put dst u).tmps.getD t undef = a.tmps.getD t undef := by
  cases dst with
  | none => rfl
  | some d =>
    have : d ≠ t := fun e => h (by rw [e])
    simp [Act.put, Array.getElem?_setIfInBounds_ne this]
theorem put_get_eq {a : Act} {u : Value} {t : Nat} (h : t < a.tmps.size) : (a.put (some t) u).tmps.getD t undef = u := by simp [Act.put, h]

theorem putT_ne {nt : Nat} {tm : Tr AV} {dst : Option Tmp} {r : AV} {t : Nat} (h : dst ≠ some t) : (putT nt tm dst r).get t = tm.get t := by
  cases dst with
  | none => rfl
  | some d =>
    have : d ≠ t := fun e => h (by rw [e])
    simp only [putT]
    cases Nat.blt d nt
    · exact Tr.get_del_ne _ this
    · exact Tr.get_put_ne _ _ this
theorem putT_eq {nt : Nat} {tm : Tr AV} {r v : AV} {t : Nat} (h : (putT nt tm (some t) r).get t = some v) : t < nt ∧ v = r := by
  simp only [putT] at h
  cases hb : Nat.blt t nt with
  | false => rw [hb, cond_false, Tr.get_del_eq] at h; simp at h
  | true =>
    rw [hb, cond_true, Tr.get_put_eq] at h
    simp only [Option.some.injEq] at h
    exact ⟨by simpa [Nat.blt_eq] using hb, h.symm⟩

theorem oneA_tmps {P : Program} {orc : Orc} : ∀ {m : Nat} {o : Oper} {s t : ASt}, oneA P orc m o s = some (.normal, t) → t.nt = s.nt ∧ ∃ r, t.tmps = putT s.nt s.tmps o.dst r
  | 0, _, _, _, h => by simp [oneA] at h
  | m + 1, o, s, t, h => by
    simp only [oneA] at h
    split at h
    · simp only [Option.some.injEq, Prod.mk.injEq, true_and] at h; subst h; exact ⟨rfl, _, rfl⟩
    · simp only [Option.some.injEq, Prod.mk.injEq, true_and] at h; subst h; exact ⟨rfl, _, rfl⟩
    · simp only [Option.some.injEq, Prod.mk.injEq, true_and] at h; subst h; exact ⟨rfl, _, rfl⟩
    · split at h
      · simp at h
      · simp only [Option.some.injEq, Prod.mk.injEq, true_and] at h; subst h; exact ⟨rfl, _, rfl⟩
      · simp only [Option.some.injEq, Prod.mk.injEq, true_and] at h; subst h; exact ⟨rfl, _, rfl⟩
    · split at h
      · simp only [Option.some.injEq, Prod.mk.injEq, true_and] at h; subst h; exact ⟨rfl, _, rfl⟩
      · simp at h
      · simp at h
    · simp at h
    · simp at h

/-- What is known of a region and of the abstract machine's way through it. -/
structure Tra (P : Program) (orc : Orc) (n : Nat) (ops : Array Oper) (order chain : List Nat) (m : Nat) (S : Nat → ASt) (on : Nat → Bool) : Prop where
  len : order.length = ops.size
  lt : ∀ i ∈ order, i < ops.size
  nodup : order.Nodup
  topo : ∀ {k k' i j : Nat}, k < k' → order[k]? = some i → order[k']? = some j → ahead (Region.before ops).toList j i = false ∧ i ≠ j ∧ (j ∈ chain → ahead (Region.before ops).toList i j = true)
  dst1 : ∀ {i j : Nat} {o oj : Oper} {d : Tmp}, ops[i]? = some o → ops[j]? = some oj → o.dst = some d → oj.dst = some d → i = j
  edge : ∀ {i : Nat} {o : Oper} {e : Edge}, ops[i]? = some o → e ∈ o.after → Region.binds .any e = true → e.on < ops.size ∧ e.on ≠ i
  looks : ∀ {i j : Nat} {o oj : Oper} {t : Tmp}, ops[i]? = some o → t ∈ looks ops o → ops[j]? = some oj → oj.dst = some t →
    ahead (Region.before ops).toList j i = true ∨ ahead (Region.before ops).toList i j = true ∨ i = j
  noeff : ∀ {i : Nat} {o : Oper}, ops[i]? = some o → i ∉ chain → kindA P o.op ≠ .eff
  mle : m ≤ order.length
  step : ∀ {k i : Nat}, k < m → order[k]? = some i → StepF P orc n ops ⟨i, on k, S k, S (k + 1)⟩
  conf : ∀ {k e i j : Nat} {oi : Oper} {r : Nat}, k < m → e < m → order[k]? = some i → order[e]? = some j → ops[i]? = some oi → kindA P oi.op = .read → j ∈ chain →
    apartB (Region.before ops).toList i j = true → on k = true → on e = true → readId (evalA (S k).tmps) oi.op = some r → (S e).heap.get r = (S (e + 1)).heap.get r
  made : ∀ {k f i j : Nat} {oi oj : Oper} {r : Nat}, k < m → f < m → order[k]? = some i → order[f]? = some j → ops[i]? = some oi → ops[j]? = some oj → kindA P oi.op = .read → kindA P oj.op = .alloc → j ∉ chain →
    on k = true → on f = true → readId (evalA (S k).tmps) oi.op = some r → r ≠ (S f).heap.next

section
variable {P : Program} {orc : Orc} {n : Nat} {ops : Array Oper} {order chain : List Nat} {m : Nat} {S : Nat → ASt} {on : Nat → Bool}

theorem Tra.op (T : Tra P orc n ops order chain m S on) {k i : Nat} (hk : order[k]? = some i) : ∃ o, ops[i]? = some o := by
  have := T.lt i (List.mem_of_getElem? hk)
  exact ⟨ops[i], Array.getElem?_eq_getElem this⟩

theorem Tra.pos (T : Tra P orc n ops order chain m S on) {i : Nat} {o : Oper} (ho : ops[i]? = some o) : ∃ k : Nat, order[k]? = some i :=
  order_all T.len T.lt T.nodup (Array.getElem?_eq_some_iff.1 ho).1

theorem Tra.inj (T : Tra P orc n ops order chain m S on) {k k' i : Nat} (h : order[k]? = some i) (h' : order[k']? = some i) : k = k' := by
  rcases Nat.lt_trichotomy k k' with e | e | e
  · exact absurd rfl (T.topo e h h').2.1
  · exact e
  · exact absurd rfl (T.topo e h' h).2.1

theorem Tra.nth (T : Tra P orc n ops order chain m S on) {k : Nat} (hk : k < m) : ∃ i o, order[k]? = some i ∧ ops[i]? = some o := by
  have : k < order.length := Nat.lt_of_lt_of_le hk T.mle
  obtain ⟨o, ho⟩ := T.op (List.getElem?_eq_getElem this)
  exact ⟨_, o, List.getElem?_eq_getElem this, ho⟩

/-- What a step does to the temporaries. -/
theorem Tra.tm (T : Tra P orc n ops order chain m S on) {k i : Nat} {o : Oper} (hk : k < m) (hi : order[k]? = some i) (ho : ops[i]? = some o) :
    (S (k + 1)).nt = (S k).nt ∧ ∃ r, (S (k + 1)).tmps = putT (S k).nt (S k).tmps o.dst r := by
  obtain ⟨o', ho', _, h | ⟨_, _, m', _, h⟩⟩ := T.step hk hi
  · simp only at ho' h; rw [ho] at ho'; simp only [Option.some.injEq] at ho'; subst ho'
    rw [h.2.2]; exact ⟨rfl, _, rfl⟩
  · simp only at ho' h; rw [ho] at ho'; simp only [Option.some.injEq] at ho'; subst ho'
    exact oneA_tmps h

theorem Tra.next (T : Tra P orc n ops order chain m S on) {k : Nat} (hk : k < m) : (S k).heap.next ≤ (S (k + 1)).heap.next := by
  obtain ⟨i, o, hi, _⟩ := T.nth hk
  obtain ⟨_, _, h, _⟩ := T.step hk hi
  exact h

theorem Tra.next_le (T : Tra P orc n ops order chain m S on) : ∀ {k k' : Nat}, k ≤ k' → k' ≤ m → (S k).heap.next ≤ (S k').heap.next
  | k, 0, h, _ => by have : k = 0 := by omega
                     subst this; exact Nat.le_refl _
  | k, k' + 1, h, hm => by
    rcases Nat.eq_or_lt_of_le h with e | e
    · subst e; exact Nat.le_refl _
    · exact Nat.le_trans (T.next_le (k := k) (k' := k') (by omega) (by omega)) (T.next (by omega))

theorem Tra.nt (T : Tra P orc n ops order chain m S on) : ∀ {k : Nat}, k ≤ m → (S k).nt = (S 0).nt
  | 0, _ => rfl
  | k + 1, hk => by
    obtain ⟨i, o, hi, ho⟩ := T.nth (k := k) (by omega)
    exact (T.tm (by omega) hi ho).1.trans (T.nt (by omega))

theorem Tra.keep (T : Tra P orc n ops order chain m S on) {t : Nat} {k1 : Nat} : ∀ {k2 : Nat}, k1 ≤ k2 → k2 ≤ m →
    (∀ k i o, k1 ≤ k → k < k2 → order[k]? = some i → ops[i]? = some o → o.dst ≠ some t) → (S k2).tmps.get t = (S k1).tmps.get t
  | 0, h, _, _ => by have : k1 = 0 := by omega
                     subst this; rfl
  | k2 + 1, h, hm, hd => by
    rcases Nat.eq_or_lt_of_le h with e | e
    · subst e; rfl
    · obtain ⟨i, o, hi, ho⟩ := T.nth (k := k2) (by omega)
      obtain ⟨_, r, hr⟩ := T.tm (by omega) hi ho
      rw [hr, putT_ne (hd k2 i o (by omega) (by omega) hi ho)]
      exact T.keep (by omega) (by omega) fun k i o h1 h2 => hd k i o h1 (by omega)

/-- What an operation beside the chain does. -/
theorem Tra.plain (T : Tra P orc n ops order chain m S on) {k i : Nat} {o : Oper} (hk : k < m) (hi : order[k]? = some i) (ho : ops[i]? = some o) (hc : i ∉ chain) :
    (S (k + 1)).defers = (S k).defers ∧ (S (k + 1)).rc = (S k).rc ∧ ∃ r, (S (k + 1)).tmps = putT (S k).nt (S k).tmps o.dst r ∧ wantedA ops (S k).tmps o = some (on k) ∧
      ((on k = false ∧ r = undefA ∧ (S (k + 1)).heap = (S k).heap) ∨
       (on k = true ∧ kindA P o.op = .pure ∧ (S (k + 1)).heap = (S k).heap ∧ pureA P (evalA (S k).tmps) o.op = some r) ∨
       (on k = true ∧ kindA P o.op = .read ∧ (S (k + 1)).heap = (S k).heap ∧ readA P (evalA (S k).tmps) (S k).heap o.op = some r) ∨
       (on k = true ∧ kindA P o.op = .alloc ∧ ∃ mk obj, allocA P (evalA (S k).tmps) o.op = some (mk, obj) ∧ (S (k + 1)).heap = (S k).heap.add obj ∧ r = mk (S k).heap.next)) := by
  obtain ⟨o', ho', _, h | ⟨h1, h2, m', _, h⟩⟩ := T.step hk hi
  · simp only at ho' h; rw [ho] at ho'; simp only [Option.some.injEq] at ho'; subst ho'
    rw [h.2.2]; exact ⟨rfl, rfl, undefA, rfl, by rw [h.2.1, h.1], .inl ⟨h.1, rfl, rfl⟩⟩
  · simp only at ho' h h1 h2; rw [ho] at ho'; simp only [Option.some.injEq] at ho'; subst ho'
    have hk' := T.noeff ho hc
    cases m' with
    | zero => simp [oneA] at h
    | succ m' =>
      simp only [oneA, opA] at h
      cases hkd : kindA P o.op with
      | eff => exact absurd hkd hk'
      | pure =>
        rw [hkd] at h
        simp only at h
        cases hp : pureA P (evalA (S k).tmps) o.op with
        | none => rw [hp] at h; simp at h
        | some v =>
          rw [hp] at h; simp only [Option.some.injEq, Prod.mk.injEq, true_and] at h
          rw [← h]
          exact ⟨rfl, rfl, v, rfl, by rw [h2, h1], .inr (.inl ⟨h1, rfl, rfl, rfl⟩)⟩
      | read =>
        rw [hkd] at h
        simp only at h
        cases hp : readA P (evalA (S k).tmps) (S k).heap o.op with
        | none => rw [hp] at h; simp at h
        | some v =>
          rw [hp] at h; simp only [Option.some.injEq, Prod.mk.injEq, true_and] at h
          rw [← h]
          exact ⟨rfl, rfl, v, rfl, by rw [h2, h1], .inr (.inr (.inl ⟨h1, rfl, rfl, rfl⟩))⟩
      | alloc =>
        rw [hkd] at h
        simp only at h
        cases hp : allocA P (evalA (S k).tmps) o.op with
        | none => rw [hp] at h; simp at h
        | some x =>
          obtain ⟨mk, obj⟩ := x
          rw [hp] at h; simp only [Option.some.injEq, Prod.mk.injEq, true_and] at h
          rw [← h]
          exact ⟨rfl, rfl, _, rfl, by rw [h2, h1], .inr (.inr (.inr ⟨h1, rfl, mk, obj, rfl, rfl, rfl⟩))⟩

/-! ### The temporaries, whichever operations have come up -/

structure J1 (ops : Array Oper) (order chain : List Nat) (m : Nat) (S : Nat → ASt) (a0 : Act) (p : Nat) (L : Array Bool) (R : Ren) (a : Act) : Prop where
  size : L.size = ops.size
  closed : ∀ {i : Nat} {o : Oper}, ops[i]? = some o → lis L i → ∀ e ∈ o.after, Region.binds .any e = true → lis L e.on
  pm : p ≤ m
  low : ∀ {k i : Nat}, k < p → order[k]? = some i → lis L i
  high : ∀ {k i : Nat}, p ≤ k → order[k]? = some i → lis L i → k < m ∧ i ∉ chain
  tsize : a.tmps.size = a0.tmps.size
  old : ∀ {t : Nat}, (∀ i o, ops[i]? = some o → lis L i → o.dst ≠ some t) → a.tmps.getD t undef = a0.tmps.getD t undef
  val : ∀ {k i : Nat} {o : Oper} {d : Nat} {v : AV}, order[k]? = some i → ops[i]? = some o → lis L i → o.dst = some d → (S (k + 1)).tmps.get d = some v →
    d < a.tmps.size ∧ VR (R.cut (S (k + 1)).heap.next) v (a.tmps.getD d undef)

variable {a0 : Act} {p : Nat} {L : Array Bool} {R : Ren} {a : Act}

theorem J1.lism (T : Tra P orc n ops order chain m S on) (J : J1 ops order chain m S a0 p L R a) {k i : Nat} (hi : order[k]? = some i) (h : lis L i) : k < m := by
  rcases Nat.lt_or_ge k p with e | e
  · exact Nat.lt_of_lt_of_le e J.pm
  · exact (J.high e hi h).1

/-- What is ahead of one that may come up has come up; so has what is ahead of one that has. -/
theorem J1.up (J : J1 ops order chain m S a0 p L R a) {i : Nat} {o : Oper} (ho : ops[i]? = some o) (he : ∀ e ∈ o.after, Region.binds .any e = true → lis L e.on) {j : Nat}
    (h : ahead (Region.before ops).toList j i = true) : lis L j :=
  ahead_in (X := lis L) (fun j oj hoj hj e hm hb => J.closed hoj hj e hm hb) (i + 1) i o (by omega) ho he j h

theorem J1.upd (T : Tra P orc n ops order chain m S on) (J : J1 ops order chain m S a0 p L R a) (hnt : (S 0).nt ≤ a0.tmps.size) {k i : Nat} {o : Oper} (hk : k < m) (hi : order[k]? = some i) (ho : ops[i]? = some o)
    (he : ∀ e ∈ o.after, Region.binds .any e = true → lis L e.on) (hu : ¬ lis L i) {R' : Ren} (hR : R.le R') {r : AV} {u : Value} (hr : (S (k + 1)).tmps = putT (S k).nt (S k).tmps o.dst r)
    (hv : VR (R'.cut (S (k + 1)).heap.next) r u) {p' : Nat} (hp : (p' = p ∧ i ∉ chain) ∨ (p' = p + 1 ∧ k = p)) {a' : Act} (ha : a'.tmps = (a.put o.dst u).tmps) :
    J1 ops order chain m S a0 p' (L.setIfInBounds i true) R' a' := by
  have hlt : i < L.size := by rw [J.size]; exact (Array.getElem?_eq_some_iff.1 ho).1
  have hset : ∀ {j}, lis (L.setIfInBounds i true) j → j = i ∨ lis L j := fun {j} h => by
    by_cases e : i = j
    · exact .inl e.symm
    · exact .inr ((lis_set_ne e).1 h)
  have hpk : p ≤ k := by
    rcases Nat.lt_or_ge k p with e | e
    · exact absurd (J.low e hi) hu
    · exact e
  refine ⟨by simpa using J.size, fun {j oj} hoj hj e hm hb => ?_, ?_, fun {k' j} hk' hj => ?_, fun {k' j} hk' hj hl => ?_, by rw [ha, put_size]; exact J.tsize, fun {t} ht => ?_, fun {k' j oj d v} hj hoj hl hd hg => ?_⟩
  · rcases hset hj with rfl | hj
    · rw [ho] at hoj; simp only [Option.some.injEq] at hoj; subst hoj
      exact lis_set (he e hm hb)
    · exact lis_set (J.closed hoj hj e hm hb)
  · rcases hp with ⟨rfl, _⟩ | ⟨rfl, rfl⟩
    · exact J.pm
    · omega
  · rcases hp with ⟨rfl, _⟩ | ⟨rfl, rfl⟩
    · exact lis_set (J.low hk' hj)
    · rcases Nat.lt_or_ge k' k with e | e
      · exact lis_set (J.low e hj)
      · have : k' = k := by omega
        subst this; rw [hi] at hj; simp only [Option.some.injEq] at hj; subst hj
        exact lis_set_self hlt
  · rcases hset hl with rfl | hl
    · have := T.inj hi hj; subst this
      refine ⟨hk, ?_⟩
      rcases hp with ⟨_, h⟩ | ⟨rfl, rfl⟩
      · exact h
      · omega
    · rcases hp with ⟨rfl, _⟩ | ⟨rfl, rfl⟩
      · exact J.high hk' hj hl
      · exact J.high (by omega) hj hl
  · rw [ha, put_get_ne (ht i o ho (lis_set_self hlt))]
    exact J.old fun j oj hoj hj => ht j oj hoj (lis_set hj)
  · rcases hset hl with rfl | hl
    · have := T.inj hi hj; subst this
      rw [ho] at hoj; simp only [Option.some.injEq] at hoj; subst hoj
      rw [hr, hd] at hg
      obtain ⟨h1, rfl⟩ := putT_eq hg
      have : d < a.tmps.size := by rw [J.tsize]; rw [T.nt (by omega)] at h1; omega
      refine ⟨by rw [ha, put_size]; exact this, ?_⟩
      rw [ha, hd, put_get_eq this]; exact hv
    · obtain ⟨h1, h2⟩ := J.val hj hoj hl hd hg
      refine ⟨by rw [ha, put_size]; exact h1, ?_⟩
      rw [ha, put_get_ne (fun e => hu (by rw [T.dst1 ho hoj e hd]; exact hl))]
      exact VR.mono (Ren.cut_mono hR (Nat.le_refl _)) _ _ h2

/-- What stands in the temporary that an operation looks at. -/
theorem J1.look (T : Tra P orc n ops order chain m S on) (J : J1 ops order chain m S a0 p L R a) {ρ0 : Ren} (h0 : TR ρ0 (S 0).tmps a0.tmps) (hρ : ρ0.le (R.cut (S p).heap.next))
    {k i : Nat} {o : Oper} (hk : k ≤ m) (hi : order[k]? = some i) (ho : ops[i]? = some o) (he : ∀ e ∈ o.after, Region.binds .any e = true → lis L e.on) (hu : ¬ lis L i)
    {t : Nat} (ht : t ∈ looks ops o) {v : AV} (hv : (S k).tmps.get t = some v) : t < a.tmps.size ∧ VR (R.cut (S k).heap.next) v (a.tmps.getD t undef) := by
  have hpk : p ≤ k := by
    rcases Nat.lt_or_ge k p with e | e
    · exact absurd (J.low e hi) hu
    · exact e
  have hfirst : (∀ k' j oj, k' < k → order[k']? = some j → ops[j]? = some oj → oj.dst ≠ some t) → (∀ j oj, ops[j]? = some oj → lis L j → oj.dst ≠ some t) →
      t < a.tmps.size ∧ VR (R.cut (S k).heap.next) v (a.tmps.getD t undef) := by
    intro h1 h2
    rw [T.keep (k1 := 0) (k2 := k) (Nat.zero_le _) hk fun k' j oj _ hlt => h1 k' j oj hlt] at hv
    obtain ⟨h3, h4⟩ := h0 t v hv
    rw [J.tsize, J.old h2]
    exact ⟨h3, VR.mono (Ren.le_trans hρ (Ren.cut_mono (Ren.le_refl _) (T.next_le hpk hk))) _ _ h4⟩
  by_cases hw : ∃ (j : Nat) (oj : Oper), ops[j]? = some oj ∧ oj.dst = some t
  · obtain ⟨j, oj, hoj, hd⟩ := hw
    obtain ⟨kj, hj⟩ := T.pos hoj
    have huniq : ∀ k' j' oj', order[k']? = some j' → ops[j']? = some oj' → oj'.dst = some t → k' = kj := fun k' j' oj' h1 h2 h3 => by
      have := T.dst1 h2 hoj h3 hd; subst this; exact T.inj h1 hj
    rcases T.looks ho ht hoj hd with h | h | h
    · have hlj := J.up ho he h
      have hkj : kj < k := by
        rcases Nat.lt_trichotomy kj k with e | e | e
        · exact e
        · subst e; rw [hi] at hj; simp only [Option.some.injEq] at hj; subst hj; exact absurd hlj hu
        · rw [(T.topo e hi hj).1] at h; simp at h
      rw [T.keep (k1 := kj + 1) (k2 := k) (by omega) hk fun k' j' oj' h1 h2 h3 h4 h5 => by have := huniq k' j' oj' h3 h4 h5; omega] at hv
      obtain ⟨h1, h2⟩ := J.val hj hoj hlj hd hv
      exact ⟨h1, VR.mono (Ren.cut_mono (Ren.le_refl _) (T.next_le (by omega) hk)) _ _ h2⟩
    · have hlj : ¬ lis L j := fun hl => hu (J.up hoj (fun e hm hb => J.closed hoj hl e hm hb) h)
      have hkj : k < kj := by
        rcases Nat.lt_trichotomy kj k with e | e | e
        · rw [(T.topo e hj hi).1] at h; simp at h
        · subst e
          rw [hi] at hj; simp only [Option.some.injEq] at hj; subst hj
          exact absurd (J.up ho he h) hu
        · exact e
      refine hfirst (fun k' j' oj' h1 h2 h3 h4 => ?_) fun j' oj' h1 h2 h3 => ?_
      · have := huniq k' j' oj' h2 h3 h4; omega
      · have := T.dst1 h1 hoj h3 hd; subst this; exact hlj h2
    · subst h
      have hkj := T.inj hi hj
      refine hfirst (fun k' j' oj' h1 h2 h3 h4 => ?_) fun j' oj' h1 h2 h3 => ?_
      · have := huniq k' j' oj' h2 h3 h4; omega
      · have := T.dst1 h1 hoj h3 hd; subst this; exact hu h2
  · exact hfirst (fun k' j oj _ _ h1 h2 => hw ⟨j, oj, h1, h2⟩) fun j oj h1 _ h2 => hw ⟨j, oj, h1, h2⟩

theorem tmp_looks {o : Oper} {t : Tmp} (h : .tmp t ∈ o.op.operands) : t ∈ looks ops o := by
  unfold looks
  exact List.mem_append_left _ (List.mem_filterMap.2 ⟨.tmp t, by simpa using h, rfl⟩)

theorem guard_looks {o : Oper} {g : Nat} {w : Bool} {d : Tmp} (hg : o.guard = some (g, w)) (hd : (ops[g]?).bind (·.dst) = some d) : d ∈ looks ops o := by
  unfold looks
  rw [hg]
  simp only
  rw [hd]
  exact List.mem_append_right _ (by simp)

/-- The operands of one that may come up. -/
theorem J1.ev (T : Tra P orc n ops order chain m S on) (J : J1 ops order chain m S a0 p L R a) {ρ0 : Ren} (h0 : TR ρ0 (S 0).tmps a0.tmps) (hρ : ρ0.le (R.cut (S p).heap.next))
    {k i : Nat} {o : Oper} (hk : k ≤ m) (hi : order[k]? = some i) (ho : ops[i]? = some o) (he : ∀ e ∈ o.after, Region.binds .any e = true → lis L e.on) (hu : ¬ lis L i) :
    ∀ y ∈ o.op.operands, ∀ v, evalA (S k).tmps y = some v → VR (R.cut (S k).heap.next) v (a.eval y) := by
  intro y hy v hv
  cases y with
  | tmp t => exact (J.look T h0 hρ hk hi ho he hu (tmp_looks hy) hv).2
  | const c => exact constA_ok hv
  | func f => simp only [evalA, Option.some.injEq] at hv; subst hv; simp only [VR, Act.eval]; exact ⟨[], [], rfl, LR.nil, LR.nil⟩
  | global g => simp [evalA] at hv

theorem J1.wanted (T : Tra P orc n ops order chain m S on) (J : J1 ops order chain m S a0 p L R a) {ρ0 : Ren} (h0 : TR ρ0 (S 0).tmps a0.tmps) (hρ : ρ0.le (R.cut (S p).heap.next))
    {k i : Nat} {o : Oper} (hk : k ≤ m) (hi : order[k]? = some i) (ho : ops[i]? = some o) (he : ∀ e ∈ o.after, Region.binds .any e = true → lis L e.on) (hu : ¬ lis L i) {t : Bool}
    (hw : wantedA ops (S k).tmps o = some t) : Region.wanted o (yielded ops a.tmps) = t :=
  wantedA_ok (ρ := R.cut (S k).heap.next) hw fun g want d v hg hd hv => J.look T h0 hρ hk hi ho he hu (guard_looks hg hd) hv

/-- Behind the last one. -/
theorem J1.done (T : Tra P orc n ops order chain m S on) (J : J1 ops order chain m S a0 p L R a) {ρ0 : Ren} (h0 : TR ρ0 (S 0).tmps a0.tmps) (hρ : ρ0.le (R.cut (S m).heap.next))
    (hall : ∀ i, i < ops.size → lis L i ∨ ∃ k, order[k]? = some i ∧ m ≤ k) : TR (R.cut (S m).heap.next) (S m).tmps a.tmps := by
  intro t v hv
  by_cases hw : ∃ (j : Nat) (oj : Oper), ops[j]? = some oj ∧ oj.dst = some t
  · obtain ⟨j, oj, hoj, hd⟩ := hw
    obtain ⟨kj, hj⟩ := T.pos hoj
    have huniq : ∀ k' j' oj', order[k']? = some j' → ops[j']? = some oj' → oj'.dst = some t → k' = kj := fun k' j' oj' h1 h2 h3 => by
      have := T.dst1 h2 hoj h3 hd; subst this; exact T.inj h1 hj
    rcases hall j (Array.getElem?_eq_some_iff.1 hoj).1 with hl | ⟨k, hk, hm⟩
    · have hkm := J.lism T hj hl
      rw [T.keep (k1 := kj + 1) (k2 := m) (by omega) (Nat.le_refl _) fun k' j' oj' h1 h2 h3 h4 h5 => by have := huniq k' j' oj' h3 h4 h5; omega] at hv
      obtain ⟨h1, h2⟩ := J.val hj hoj hl hd hv
      exact ⟨h1, VR.mono (Ren.cut_mono (Ren.le_refl _) (T.next_le (by omega) (Nat.le_refl _))) _ _ h2⟩
    · have := T.inj hk hj; subst this
      rw [T.keep (k1 := 0) (k2 := m) (Nat.zero_le _) (Nat.le_refl _) fun k' j' oj' h1 h2 h3 h4 h5 => by have := huniq k' j' oj' h3 h4 h5; omega] at hv
      obtain ⟨h3, h4⟩ := h0 t v hv
      rw [J.tsize, J.old fun j' oj' h1 h2 h3 => by
        have := T.dst1 h1 hoj h3 hd; subst this
        have := J.lism T hj h2; omega]
      exact ⟨h3, VR.mono hρ _ _ h4⟩
  · rw [T.keep (k1 := 0) (k2 := m) (Nat.zero_le _) (Nat.le_refl _) fun k' j' oj' _ _ h3 h4 h5 => hw ⟨j', oj', h4, h5⟩] at hv
    obtain ⟨h3, h4⟩ := h0 t v hv
    rw [J.tsize, J.old fun j' oj' h1 h2 h3 => hw ⟨j', oj', h1, h3⟩]
    exact ⟨h3, VR.mono hρ _ _ h4⟩

end
end Go.Am

namespace Go.Am
open Go

section
variable {P : Program} {orc : Orc} {n : Nat} {ops : Array Oper} {order chain : List Nat} {m : Nat} {S : Nat → ASt} {on : Nat → Bool}

/-- An object beside the chain has been made: its step. -/
def MadeAt (P : Program) (ops : Array Oper) (order : List Nat) (on : Nat → Bool) (p : Nat) (L : Array Bool) (k : Nat) : Prop :=
  p ≤ k ∧ ∃ i o, order[k]? = some i ∧ ops[i]? = some o ∧ lis L i ∧ on k = true ∧ kindA P o.op = .alloc

def MadeOk (S : Nat → ASt) (w0 : World) (p : Nat) (R : Ren) (w : World) (k : Nat) : Prop := ∃ obj b z, (S (k + 1)).heap = (S k).heap.add obj ∧ obj.wr = true ∧ R (S k).heap.next = some (b, 0, z) ∧
  w0.heap.size ≤ b ∧ b < w.heap.size ∧ OR (R.cut (S (k + 1)).heap.next) (S k).heap.next w obj ∧ ∀ id o x, (S p).heap.get id = some o → o.live = true → R id = some x → x.1 ≠ b

structure J2 (P : Program) (ops : Array Oper) (order : List Nat) (S : Nat → ASt) (on : Nat → Bool) (ρ0 : Ren) (w0 : World) (c₀ : Frame) (rest cs0 : List Frame) (p : Nat) (L : Array Bool) (R : Ren) (ds : List Deferred) (cs : List Frame) (w : World) : Prop where
  heap : HR (R.cut (S p).heap.next) (S p).heap w
  frm : Frm ρ0 (S 0).heap w0 (R.cut (S p).heap.next) (S p).heap w
  made : ∀ k, MadeAt P ops order on p L k → MadeOk S w0 p R w k
  apart : ∀ k k' x y, MadeAt P ops order on p L k → MadeAt P ops order on p L k' → k ≠ k' → R (S k).heap.next = some x → R (S k').heap.next = some y → x.1 ≠ y.1
  dom : ∀ id x, R id = some x → x.1 < w.heap.size ∧ (id < (S p).heap.next ∨ ∃ k, MadeAt P ops order on p L k ∧ id = (S k).heap.next)
  defers : DR (R.cut (S p).heap.next) (S p).defers ds
  rc : RcR (R.cut (S p).heap.next) c₀ rest cs0 (S p).rc cs

variable {ρ0 : Ren} {w0 : World} {c₀ : Frame} {rest cs0 : List Frame} {a0 : Act} {p : Nat} {L : Array Bool} {R : Ren} {a : Act} {ds : List Deferred} {cs : List Frame} {w : World}

theorem OR.at_block {ρ : Ren} {i : Nat} {o : AO} {w' : World} {x : Nat × Nat × Nat} (h : OR ρ i w o) (hi : ρ i = Option.some x) (hw : w'.heap[x.1]? = w.heap[x.1]?) {ρ' : Ren} (hle : ρ.le ρ') : OR ρ' i w' o :=
  h.mono hle fun _ y hy => by rw [hi] at hy; simp only [Option.some.injEq] at hy; subst hy; exact hw

/-- The next operation of the order has come up, and is none of the chain. -/
theorem J2.absorb (T : Tra P orc n ops order chain m S on) (J1 : J1 ops order chain m S a0 p L R a) (J : J2 P ops order S on ρ0 w0 c₀ rest cs0 p L R ds cs w) {i : Nat} (hp : p < m) (hi : order[p]? = some i) (hl : lis L i) (hc : i ∉ chain) :
    J2 P ops order S on ρ0 w0 c₀ rest cs0 (p + 1) L R ds cs w := by
  obtain ⟨o, ho⟩ := T.op hi
  obtain ⟨hd, hrc, r, _, _, hcase⟩ := T.plain hp hi ho hc
  have hsub : ∀ {k}, MadeAt P ops order on (p + 1) L k → MadeAt P ops order on p L k := fun {k} h => ⟨by have := h.1; omega, h.2⟩
  have hsplit : ∀ {k}, MadeAt P ops order on p L k → k = p ∨ MadeAt P ops order on (p + 1) L k := fun {k} h => by
    rcases Nat.eq_or_lt_of_le h.1 with e | e
    · exact .inl e.symm
    · exact .inr ⟨e, h.2⟩
  have hsame : (S (p + 1)).heap = (S p).heap → (∀ k, MadeAt P ops order on p L k → k ≠ p) → J2 P ops order S on ρ0 w0 c₀ rest cs0 (p + 1) L R ds cs w := fun hh hne =>
    ⟨by rw [hh]; exact J.heap, by rw [hh]; exact J.frm, fun k hk => by
      obtain ⟨obj, b, z, h1, h2, h3, h4, h5, h6, h7⟩ := J.made k (hsub hk)
      exact ⟨obj, b, z, h1, h2, h3, h4, h5, h6, by rw [hh]; exact h7⟩, fun k k' x y hk hk' => J.apart k k' x y (hsub hk) (hsub hk'), fun id x hx => by
      obtain ⟨h1, h2⟩ := J.dom id x hx
      refine ⟨h1, ?_⟩
      rw [hh]
      rcases h2 with h2 | ⟨k, hk, e⟩
      · exact .inl h2
      · exact .inr ⟨k, (hsplit hk).resolve_left (hne k hk), e⟩, by rw [hh, hd]; exact J.defers, by rw [hh, hrc]; exact J.rc⟩
  have hkind : ∀ k, MadeAt P ops order on p L k → k = p → on p = true ∧ kindA P o.op = .alloc := fun k hk e => by
    subst e
    obtain ⟨_, i', o', h1, h2, _, h3, h4⟩ := hk
    rw [hi] at h1; simp only [Option.some.injEq] at h1; subst h1
    rw [ho] at h2; simp only [Option.some.injEq] at h2; subst h2
    exact ⟨h3, h4⟩
  rcases hcase with ⟨h1, _, hh⟩ | ⟨h1, hk, hh, _⟩ | ⟨h1, hk, hh, _⟩ | ⟨h1, hk, _, _, _, _, _⟩
  · exact hsame hh fun k hk e => by have := (hkind k hk e).1; rw [h1] at this; simp at this
  · exact hsame hh fun k hk' e => by have := (hkind k hk' e).2; rw [hk] at this; simp at this
  · exact hsame hh fun k hk' e => by have := (hkind k hk' e).2; rw [hk] at this; simp at this
  · have hat : MadeAt P ops order on p L p := ⟨Nat.le_refl _, i, o, hi, ho, hl, h1, hk⟩
    obtain ⟨obj, b, z, hadd, hwr, hR, hb0, hb1, hor, hsep⟩ := J.made p hat
    have hN : (S (p + 1)).heap.next = (S p).heap.next + 1 := by rw [hadd]; rfl
    have hcut : (R.cut (S p).heap.next).le (R.cut (S (p + 1)).heap.next) := Ren.cut_mono (Ren.le_refl _) (by omega)
    have hget : ∀ {id o}, (S (p + 1)).heap.get id = some o → (id = (S p).heap.next ∧ o = obj) ∨ (id < (S p).heap.next ∧ (S p).heap.get id = some o) := fun {id o} h => by
      rw [hadd, AH.get_add] at h
      split at h
      · rename_i e; simp only [Option.some.injEq] at h; exact .inl ⟨e.symm, h.symm⟩
      · exact .inr ⟨J.heap.new id o h, h⟩
    have hRn : R.cut (S (p + 1)).heap.next (S p).heap.next = some (b, 0, z) := by rw [Ren.cut_lt _ (by omega)]; exact hR
    refine ⟨⟨fun id x hx => ?_, fun id o' hg => ?_, fun id o' hg => ?_, fun id id' oi oj x y hgi hgj hne hwi hlj hx hy => ?_⟩, ⟨Ren.le_trans J.frm.le hcut, fun id hid => ?_, Nat.le_trans J.frm.next (by omega), J.frm.os, J.frm.tape, J.frm.output, J.frm.size, J.frm.block, fun c hc => ?_, fun id o' hg hlv hw => ?_⟩,
      fun k hk => ?_, fun k k' x y hk hk' => J.apart k k' x y (hsub hk) (hsub hk'), fun id x hx => ?_, ?_, ?_⟩
    · obtain ⟨h1, h2⟩ := Ren.cut_some hx
      exact ⟨h1, (J.dom id x h2).1⟩
    · rcases hget hg with ⟨rfl, _⟩ | ⟨h1, _⟩ <;> omega
    · rcases hget hg with ⟨rfl, rfl⟩ | ⟨h1, h2⟩
      · exact hor
      · exact (J.heap.obj id o' h2).mono hcut fun _ _ _ => rfl
    · obtain ⟨hx1, hx2⟩ := Ren.cut_some hx
      obtain ⟨hy1, hy2⟩ := Ren.cut_some hy
      rcases hget hgi with ⟨rfl, rfl⟩ | ⟨hi1, hi2⟩
      · rcases hget hgj with ⟨rfl, _⟩ | ⟨hj1, hj2⟩
        · exact absurd rfl hne
        · rw [hR] at hx2; simp only [Option.some.injEq] at hx2; subst hx2
          exact fun e => hsep id' oj y hj2 hlj hy2 e.symm
      · rcases hget hgj with ⟨rfl, rfl⟩ | ⟨hj1, hj2⟩
        · rw [hR] at hy2; simp only [Option.some.injEq] at hy2; subst hy2
          exact hsep id oi x hi2 (AO.live_of_wr hwi) hx2
        · exact J.heap.inj id id' oi oj x y hi2 hj2 hne hwi hlj (by rw [Ren.cut_lt _ hi1]; exact hx2) (by rw [Ren.cut_lt _ hj1]; exact hy2)
    · rw [← J.frm.old id hid]
      have := J.frm.next
      rw [Ren.cut_lt _ (by omega), Ren.cut_lt _ (by omega)]
    · obtain ⟨id, o', x, hg, hw', hx, rfl⟩ := hc
      rcases hget hg with ⟨rfl, rfl⟩ | ⟨h1, h2⟩
      · rw [hRn] at hx; simp only [Option.some.injEq] at hx; subst hx
        exact .inr hb0
      · exact J.frm.mine _ ⟨id, o', x, h2, hw', by rw [Ren.cut_lt _ h1]; exact (Ren.cut_some hx).2, rfl⟩
    · rcases hget hg with ⟨rfl, rfl⟩ | ⟨h1, h2⟩
      · rw [hwr] at hw; simp at hw
      · exact J.frm.ro id o' h2 hlv hw
    · obtain ⟨obj', b', z', h1', h2', h3', h4', h5', h6', h7'⟩ := J.made k (hsub hk)
      refine ⟨obj', b', z', h1', h2', h3', h4', h5', h6', fun id o' x hg hlv hx => ?_⟩
      rcases hget hg with ⟨rfl, rfl⟩ | ⟨h1, h2⟩
      · have := J.apart p k x (b', 0, z') hat (hsub hk) (by have := hk.1; omega) hx h3'
        exact this
      · exact h7' id o' x h2 hlv hx
    · obtain ⟨h1', h2'⟩ := J.dom id x hx
      refine ⟨h1', ?_⟩
      rcases h2' with h2' | ⟨k, hk, e⟩
      · exact .inl (by omega)
      · rcases hsplit hk with rfl | hk
        · exact .inl (by omega)
        · exact .inr ⟨k, hk, e⟩
    · rw [hd]; exact J.defers.mono hcut
    · rw [hrc]; exact J.rc.mono hcut

theorem J1.absorb (J : J1 ops order chain m S a0 p L R a) {i : Nat} (hp : p < m) (hi : order[p]? = some i) (hl : lis L i) : J1 ops order chain m S a0 (p + 1) L R a :=
  ⟨J.size, J.closed, hp, fun {k j} hk hj => by
    rcases Nat.lt_or_ge k p with e | e
    · exact J.low e hj
    · have : k = p := by omega
      subst this; rw [hi] at hj; simp only [Option.some.injEq] at hj; subst hj; exact hl, fun {k j} hk hj hl' => J.high (by omega) hj hl', J.tsize, J.old, J.val⟩

/-- As far as 'k', if all ahead of it in the order have come up. -/
theorem absorb_to (T : Tra P orc n ops order chain m S on) : ∀ {q p : Nat}, p ≤ q → q ≤ m → J1 ops order chain m S a0 p L R a → J2 P ops order S on ρ0 w0 c₀ rest cs0 p L R ds cs w →
    (∀ k i, k < q → order[k]? = some i → lis L i) → J1 ops order chain m S a0 q L R a ∧ J2 P ops order S on ρ0 w0 c₀ rest cs0 q L R ds cs w
  | 0, p, hpq, _, j1, j2, _ => by have : p = 0 := by omega
                                  subst this; exact ⟨j1, j2⟩
  | q + 1, p, hpq, hq, j1, j2, hl => by
    rcases Nat.eq_or_lt_of_le hpq with e | e
    · subst e; exact ⟨j1, j2⟩
    · obtain ⟨j1', j2'⟩ := absorb_to T (q := q) (by omega) (by omega) j1 j2 fun k i hk => hl k i (by omega)
      obtain ⟨i, o, hi, ho⟩ := T.nth (k := q) (by omega)
      have hli := hl q i (by omega) hi
      exact ⟨j1'.absorb (by omega) hi hli, j2'.absorb T j1' (by omega) hi hli (j1'.high (Nat.le_refl _) hi hli).2⟩

/-- One beside the chain, that makes nothing, has come up. -/
theorem J2.quiet (T : Tra P orc n ops order chain m S on) (J : J2 P ops order S on ρ0 w0 c₀ rest cs0 p L R ds cs w) {k i : Nat} {o : Oper} (hi : order[k]? = some i) (ho : ops[i]? = some o)
    (hq : on k = true → kindA P o.op = .alloc → False) : J2 P ops order S on ρ0 w0 c₀ rest cs0 p (L.setIfInBounds i true) R ds cs w := by
  have hm : ∀ {k'}, MadeAt P ops order on p (L.setIfInBounds i true) k' → MadeAt P ops order on p L k' := fun {k'} h => by
    obtain ⟨h1, i', o', h2, h3, h4, h5, h6⟩ := h
    refine ⟨h1, i', o', h2, h3, ?_, h5, h6⟩
    by_cases e : i = i'
    · subst e
      have := T.inj hi h2; subst this
      rw [ho] at h3; simp only [Option.some.injEq] at h3; subst h3
      exact (hq h5 h6).elim
    · exact (lis_set_ne e).1 h4
  have hm' : ∀ {k'}, MadeAt P ops order on p L k' → MadeAt P ops order on p (L.setIfInBounds i true) k' := fun {k'} h => by
    obtain ⟨h1, i', o', h2, h3, h4, h5, h6⟩ := h
    exact ⟨h1, i', o', h2, h3, lis_set h4, h5, h6⟩
  exact ⟨J.heap, J.frm, fun k' hk' => J.made k' (hm hk'), fun k1 k2 x y h1 h2 => J.apart k1 k2 x y (hm h1) (hm h2), fun id x hx => by
    obtain ⟨h1, h2⟩ := J.dom id x hx
    exact ⟨h1, h2.imp (fun h => h) fun ⟨k', hk', e⟩ => ⟨k', hm' hk', e⟩⟩, J.defers, J.rc⟩

theorem HR.newWorld {ρ : Ren} {h : AH} {w w' : World} (hh : HR ρ h w) (hn : New w w') : HR ρ h w' :=
  ⟨fun i x hx => ⟨(hh.dom i x hx).1, by have := (hh.dom i x hx).2; rw [hn.size]; omega⟩, hh.new, fun i o hg => (hh.obj i o hg).mono (Ren.le_refl _) fun _ x hx => hn.old _ (hh.dom i x hx).2, hh.inj⟩

theorem Frm.newWorld {ρ : Ren} {h : AH} {w w' : World} (hn : New w w') : Frm ρ h w ρ h w' :=
  ⟨Ren.le_refl _, fun _ _ => rfl, Nat.le_refl _, hn.os, hn.tape, hn.output, by rw [hn.size]; omega, fun b hb _ => hn.old b hb, fun _ hb => .inl hb, fun _ _ h _ _ => h⟩

/-- One beside the chain, that makes an object, has come up. -/
theorem J2.makes (T : Tra P orc n ops order chain m S on) (J1 : J1 ops order chain m S a0 p L R a) (J : J2 P ops order S on ρ0 w0 c₀ rest cs0 p L R ds cs w) {k i : Nat} {o : Oper} (hk : k < m) (hi : order[k]? = some i) (ho : ops[i]? = some o) (hu : ¬ lis L i)
    (hc : i ∉ chain) (hon : on k = true) (hkd : kindA P o.op = .alloc) {obj : AO} (hadd : (S (k + 1)).heap = (S k).heap.add obj) (hwr : obj.wr = true) {w' : World} (hn : New w w') {z : Nat}
    (hor : ∀ (ρ' : Ren), (R.cut (S k).heap.next).le ρ' → ρ' (S k).heap.next = some (w.heap.size, 0, z) → OR ρ' (S k).heap.next w' obj) :
    R.le (R.ext (S k).heap.next (w.heap.size, 0, z)) ∧ ((R.ext (S k).heap.next (w.heap.size, 0, z)).cut (S (k + 1)).heap.next) (S k).heap.next = some (w.heap.size, 0, z) ∧
      (R.cut (S k).heap.next).le ((R.ext (S k).heap.next (w.heap.size, 0, z)).cut (S (k + 1)).heap.next) ∧
      J2 P ops order S on ρ0 w0 c₀ rest cs0 p (L.setIfInBounds i true) (R.ext (S k).heap.next (w.heap.size, 0, z)) ds cs w' := by
  have hpk : p ≤ k := by
    rcases Nat.lt_or_ge k p with e | e
    · exact absurd (J1.low e hi) hu
    · exact e
  have hpn := T.next_le hpk (Nat.le_of_lt hk)
  have hN : (S (k + 1)).heap.next = (S k).heap.next + 1 := by rw [hadd]; rfl
  have hnext : ∀ {k'}, MadeAt P ops order on p L k' → k' ≠ k ∧ (S k').heap.next ≠ (S k).heap.next := fun {k'} h => by
    obtain ⟨h1, i', o', h2, h3, h4, h5, h6⟩ := h
    have hne : k' ≠ k := fun e => by subst e; rw [hi] at h2; simp only [Option.some.injEq] at h2; subst h2; exact hu h4
    refine ⟨hne, ?_⟩
    have hkm := J1.lism T h2 h4
    obtain ⟨obj', _, _, hadd', _⟩ := J.made k' ⟨h1, i', o', h2, h3, h4, h5, h6⟩
    have hN' : (S (k' + 1)).heap.next = (S k').heap.next + 1 := by rw [hadd']; rfl
    rcases Nat.lt_or_gt_of_ne hne with e | e
    · have := T.next_le (k := k' + 1) (k' := k) (by omega) (by omega); omega
    · have := T.next_le (k := k + 1) (k' := k') (by omega) (by omega); omega
  have hnone : R (S k).heap.next = none := by
    cases e : R (S k).heap.next with
    | none => rfl
    | some x =>
      rcases (J.dom _ x e).2 with h | ⟨k', hk', h⟩
      · omega
      · exact absurd h.symm (hnext hk').2
  have hle : R.le (R.ext (S k).heap.next (w.heap.size, 0, z)) := Ren.le_ext hnone
  have hle' : (R.cut (S k).heap.next).le ((R.ext (S k).heap.next (w.heap.size, 0, z)).cut (S (k + 1)).heap.next) := Ren.cut_mono hle (by omega)
  have hself : ((R.ext (S k).heap.next (w.heap.size, 0, z)).cut (S (k + 1)).heap.next) (S k).heap.next = some (w.heap.size, 0, z) := by
    rw [Ren.cut_lt _ (by omega), Ren.ext_self]
  have hcut : (R.ext (S k).heap.next (w.heap.size, 0, z)).cut (S p).heap.next = R.cut (S p).heap.next := by
    funext id
    by_cases e : id < (S p).heap.next
    · rw [Ren.cut_lt _ e, Ren.cut_lt _ e, Ren.ext_ne _ _ (by omega)]
    · rw [Ren.cut_ge _ (by omega), Ren.cut_ge _ (by omega)]
  have hm : ∀ {k'}, MadeAt P ops order on p (L.setIfInBounds i true) k' → k' = k ∨ MadeAt P ops order on p L k' := fun {k'} h => by
    obtain ⟨h1, i', o', h2, h3, h4, h5, h6⟩ := h
    by_cases e : i = i'
    · subst e; exact .inl (T.inj h2 hi)
    · exact .inr ⟨h1, i', o', h2, h3, (lis_set_ne e).1 h4, h5, h6⟩
  have hlt : i < L.size := by rw [J1.size]; exact (Array.getElem?_eq_some_iff.1 ho).1
  have hsz := J.frm.size
  refine ⟨hle, hself, hle', ⟨by rw [hcut]; exact J.heap.newWorld hn, by rw [hcut]; exact J.frm.trans (Frm.newWorld hn), fun k' hk' => ?_, fun k1 k2 x y h1 h2 hne hx hy => ?_, fun id x hx => ?_, by rw [hcut]; exact J.defers, by rw [hcut]; exact J.rc⟩⟩
  · rcases hm hk' with rfl | hk'
    · refine ⟨obj, w.heap.size, z, hadd, hwr, Ren.ext_self _ _ _, hsz, by rw [hn.size]; omega, hor _ hle' hself, fun id o' x hg hlv hx => ?_⟩
      have hid := J.heap.new id o' hg
      rw [Ren.ext_ne _ _ (by omega)] at hx
      have := (J.dom id x hx).1; omega
    · obtain ⟨obj', b', z', h1', h2', h3', h4', h5', h6', h7'⟩ := J.made k' hk'
      have hkm : k' < m := by obtain ⟨_, _, _, h2, _, h4, _⟩ := hk'; exact J1.lism T h2 h4
      have hN' : (S (k' + 1)).heap.next = (S k').heap.next + 1 := by rw [h1']; rfl
      refine ⟨obj', b', z', h1', h2', by rw [Ren.ext_ne _ _ (hnext hk').2]; exact h3', h4', by rw [hn.size]; omega, ?_, fun id o' x hg hlv hx => ?_⟩
      · exact h6'.at_block (x := (b', 0, z')) (by rw [Ren.cut_lt _ (by omega)]; exact h3') (hn.old _ h5') (Ren.cut_mono hle (Nat.le_refl _))
      · have hid := J.heap.new id o' hg
        rw [Ren.ext_ne _ _ (by omega)] at hx
        exact h7' id o' x hg hlv hx
  · rcases hm h1 with rfl | h1
    · rcases hm h2 with rfl | h2
      · exact absurd rfl hne
      · rw [Ren.ext_self] at hx; simp only [Option.some.injEq] at hx; subst hx
        rw [Ren.ext_ne _ _ (hnext h2).2] at hy
        have := (J.dom _ y hy).1
        simp only; omega
    · rw [Ren.ext_ne _ _ (hnext h1).2] at hx
      rcases hm h2 with rfl | h2
      · rw [Ren.ext_self] at hy; simp only [Option.some.injEq] at hy; subst hy
        have := (J.dom _ x hx).1
        simp only; omega
      · rw [Ren.ext_ne _ _ (hnext h2).2] at hy
        exact J.apart k1 k2 x y h1 h2 hne hx hy
  · by_cases e : id = (S k).heap.next
    · subst e
      rw [Ren.ext_self] at hx; simp only [Option.some.injEq] at hx; subst hx
      exact ⟨by rw [hn.size]; simp, .inr ⟨k, ⟨hpk, i, o, hi, ho, lis_set_self hlt, hon, hkd⟩, rfl⟩⟩
    · rw [Ren.ext_ne _ _ e] at hx
      obtain ⟨h1, h2⟩ := J.dom id x hx
      refine ⟨by rw [hn.size]; omega, h2.imp (fun h => h) fun ⟨k', hk', e'⟩ => ⟨k', ?_, e'⟩⟩
      obtain ⟨g1, i', o', g2, g3, g4, g5, g6⟩ := hk'
      exact ⟨g1, i', o', g2, g3, lis_set g4, g5, g6⟩

/-- The next one of the chain has come up. -/
theorem J2.chained (T : Tra P orc n ops order chain m S on) (J1 : J1 ops order chain m S a0 p L R a) (J : J2 P ops order S on ρ0 w0 c₀ rest cs0 p L R ds cs w) {i : Nat} {o : Oper} (hk : p < m) (hi : order[p]? = some i) (ho : ops[i]? = some o) (hu : ¬ lis L i)
    {ρ' : Ren} {ds' : List Deferred} {cs' : List Frame} {w' : World} (hh : HR ρ' (S (p + 1)).heap w') (hf : Frm (R.cut (S p).heap.next) (S p).heap w ρ' (S (p + 1)).heap w') (hd : DR ρ' (S (p + 1)).defers ds') (hrc : RcR ρ' c₀ rest cs0 (S (p + 1)).rc cs') :
    ∃ R', R.le R' ∧ R'.cut (S (p + 1)).heap.next = ρ' ∧ J2 P ops order S on ρ0 w0 c₀ rest cs0 (p + 1) (L.setIfInBounds i true) R' ds' cs' w' := by
  have hm : ∀ {k'}, MadeAt P ops order on (p + 1) (L.setIfInBounds i true) k' → MadeAt P ops order on p L k' ∧ p + 1 ≤ k' ∧ k' < m := fun {k'} h => by
    obtain ⟨h1, i', o', h2, h3, h4, h5, h6⟩ := h
    have h4' : lis L i' := (lis_set_ne (fun e => by subst e; have := T.inj h2 hi; omega)).1 h4
    exact ⟨⟨by omega, i', o', h2, h3, h4', h5, h6⟩, h1, J1.lism T h2 h4'⟩
  have hm' : ∀ {k'}, MadeAt P ops order on p L k' → p + 1 ≤ k' ∧ k' < m ∧ MadeAt P ops order on (p + 1) (L.setIfInBounds i true) k' := fun {k'} h => by
    obtain ⟨h1, i', o', h2, h3, h4, h5, h6⟩ := h
    have hne : k' ≠ p := fun e => by subst e; rw [hi] at h2; simp only [Option.some.injEq] at h2; subst h2; exact hu h4
    exact ⟨by omega, J1.lism T h2 h4, by omega, i', o', h2, h3, lis_set h4, h5, h6⟩
  have hge : ∀ {k'}, p + 1 ≤ k' → k' < m → (S (p + 1)).heap.next ≤ (S k').heap.next := fun {k'} h1 h2 => T.next_le h1 (by omega)
  obtain ⟨R', hRl, hR⟩ : ∃ R' : Ren, (∀ {id}, id < (S (p + 1)).heap.next → R' id = ρ' id) ∧ (∀ {id}, (S (p + 1)).heap.next ≤ id → R' id = R id) :=
    ⟨fun id => if id < (S (p + 1)).heap.next then ρ' id else R id, fun {id} h => if_pos h, fun {id} h => if_neg (by omega)⟩
  have hle : R.le R' := by
    intro id x hx
    by_cases hlt : id < (S (p + 1)).heap.next
    · rw [hRl hlt]
      rcases (J.dom id x hx).2 with h | ⟨k', hk', rfl⟩
      · rw [hf.old id h, Ren.cut_lt _ h]; exact hx
      · obtain ⟨h1, h2, _⟩ := hm' hk'
        have := hge h1 h2; omega
    · rw [hR (by omega)]; exact hx
  have hcut : R'.cut (S (p + 1)).heap.next = ρ' := by
    funext id
    by_cases e : id < (S (p + 1)).heap.next
    · rw [Ren.cut_lt _ e, hRl e]
    · rw [Ren.cut_ge _ (by omega), hh.none (by omega)]
  refine ⟨R', hle, hcut, ?_⟩
  · skip
    refine ⟨by rw [hcut]; exact hh, by rw [hcut]; exact J.frm.trans hf, fun k' hk' => ?_, fun k1 k2 x y h1 h2 hne hx hy => ?_, fun id x hx => ?_, by rw [hcut]; exact hd, by rw [hcut]; exact hrc⟩
    · obtain ⟨hk1, hk2, hk3⟩ := hm hk'
      obtain ⟨obj, b, z, h1, h2, h3, h4, h5, h6, h7⟩ := J.made k' hk1
      have hn := hge hk2 hk3
      have hN' : (S (k' + 1)).heap.next = (S k').heap.next + 1 := by rw [h1]; rfl
      have hnm : ¬ Mine (R.cut (S p).heap.next) (S p).heap b := by
        rintro ⟨id, o', x, hg, hw', hx, rfl⟩
        exact h7 id o' x hg (AO.live_of_wr hw') (Ren.cut_some hx).2 rfl
      have hbl := hf.block b h5 hnm
      have hsz := hf.size
      refine ⟨obj, b, z, h1, h2, by rw [hR hn]; exact h3, h4, by omega, ?_, fun id o' x hg hlv hx => ?_⟩
      · exact h6.at_block (x := (b, 0, z)) (by rw [Ren.cut_lt _ (by omega)]; exact h3) hbl (Ren.cut_mono hle (Nat.le_refl _))
      · have hid := hh.new id o' hg
        rw [hRl hid] at hx
        cases hwr' : o'.wr with
        | true =>
          rcases hf.mine x.1 ⟨id, o', x, hg, hwr', hx, rfl⟩ with hmi | hmi
          · exact fun e => hnm (e ▸ hmi)
          · omega
        | false =>
          have hg' := hf.ro id o' hg hlv hwr'
          have hid' := J.heap.new id o' hg'
          rw [hf.old id hid', Ren.cut_lt _ hid'] at hx
          exact h7 id o' x hg' hlv hx
    · obtain ⟨hk1, hk2, hk3⟩ := hm h1
      obtain ⟨hk1', hk2', hk3'⟩ := hm h2
      rw [hR (hge hk2 hk3)] at hx
      rw [hR (hge hk2' hk3')] at hy
      exact J.apart k1 k2 x y hk1 hk1' hne hx hy
    · by_cases e : id < (S (p + 1)).heap.next
      · rw [hRl e] at hx
        exact ⟨(hh.dom id x hx).2, .inl e⟩
      · rw [hR (by omega)] at hx
        obtain ⟨h1, h2⟩ := J.dom id x hx
        have hsz := hf.size
        refine ⟨by omega, ?_⟩
        rcases h2 with h2 | ⟨k', hk', rfl⟩
        · have := T.next hk; omega
        · exact .inr ⟨k', (hm' hk').2.2, rfl⟩

end
end Go.Am
