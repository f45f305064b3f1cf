/-
  The abstract machine is sound: a call's run gives the model's call.
  Conditions: the program is under 'wide'.
-/
import Derived.Test.YtlpbgmbiollimaaGreatAd
set_option linter.unusedSimpArgs false
set_option linter.unusedVariables false
namespace Go.Am
open Go

/-- How the panic that a deferred call may recover goes on. -/
def RcK (r r' : Rc) : Prop := r' = r ∨ ∃ v, r = .armed v ∧ r' = .done

theorem RcK.refl (r : Rc) : RcK r r := .inl rfl
theorem RcK.trans {r r1 r2 : Rc} (h : RcK r r1) (k : RcK r1 r2) : RcK r r2 := by
  rcases h with rfl | ⟨v, rfl, rfl⟩
  · exact k
  · rcases k with rfl | ⟨v', h, _⟩
    · exact .inr ⟨v, rfl, rfl⟩
    · simp at h
theorem RcK.base {r r' : Rc} (h : RcK r r') {b : Frame} (hb : Base r b) : Base r' b := by
  rcases h with rfl | ⟨v, rfl, rfl⟩
  · exact hb
  · exact hb
theorem RcK.off {r r' : Rc} (h : RcK r r') : r' = .off ↔ r = .off := by
  rcases h with rfl | ⟨v, rfl, rfl⟩
  · exact Iff.rfl
  · simp

def XR (ρ : Ren) : AX → Exit → Prop
  | .normal, e => e = .normal
  | .exit i, e => e = .exit i
  | .ret, e => e = .ret
  | .pan v, e => ∃ u, VR ρ v u ∧ e = .panic [{ v := u, recovered := false }]

/-- What a piece of code comes to. -/
def Out (P : Program) (ρ : Ren) (c₀ : Frame) (rest cs0 : List Frame) (st : ASt) (w : World) (b : Frame) (k : List Item) (M : Machine) (x : AX) (st' : ASt) : Prop :=
  ∃ ρ' e a' cs' w', XR ρ' x e ∧ SR ρ' c₀ rest cs0 st' a' cs' w' ∧ Frm ρ st.heap w ρ' st'.heap w' ∧ st'.nt = st.nt ∧ RcK st.rc st'.rc ∧ Arrives P M b k cs' e a' w'

theorem oneA_rck {P : Program} {orc : Orc} : ∀ {m : Nat} {o : Oper} {s t : ASt} {x : AX}, oneA P orc m o s = some (x, t) → RcK s.rc t.rc
  | 0, _, _, _, _, h => by simp [oneA] at h
  | m + 1, o, s, t, x, h => by
    simp only [oneA] at h
    split at h
    · simp only [Option.some.injEq, Prod.mk.injEq] at h; obtain ⟨_, rfl⟩ := h; exact .refl _
    · simp only [Option.some.injEq, Prod.mk.injEq] at h; obtain ⟨_, rfl⟩ := h; exact .refl _
    · simp only [Option.some.injEq, Prod.mk.injEq] at h; obtain ⟨_, rfl⟩ := h; exact .refl _
    · split at h
      · simp at h
      · rename_i v hv
        simp only [Option.some.injEq, Prod.mk.injEq] at h; obtain ⟨_, rfl⟩ := h; exact .inr ⟨v, hv, rfl⟩
      · simp only [Option.some.injEq, Prod.mk.injEq] at h; obtain ⟨_, rfl⟩ := h; exact .refl _
    · split at h
      · simp only [Option.some.injEq, Prod.mk.injEq] at h; obtain ⟨_, rfl⟩ := h; exact .refl _
      · simp only [Option.some.injEq, Prod.mk.injEq] at h; obtain ⟨_, rfl⟩ := h; exact .refl _
      · simp at h
    · simp only [Option.some.injEq, Prod.mk.injEq] at h; obtain ⟨_, rfl⟩ := h; exact .refl _
    · simp at h

section
variable {P : Program} {orc : Orc} {n : Nat} {ops : Array Oper} {order chain : List Nat} {m : Nat} {S : Nat → ASt} {on : Nat → Bool}

theorem Tra.rck (T : Tra P orc n ops order chain m S on) : ∀ {k : Nat}, k ≤ m → RcK (S 0).rc (S k).rc
  | 0, _ => .refl _
  | k + 1, hk => by
    have ih := T.rck (k := k) (by omega)
    obtain ⟨i, o, hi, ho⟩ := T.nth (k := k) (by omega)
    obtain ⟨o', ho', _, h | ⟨_, _, m', _, h⟩⟩ := T.step (k := k) (by omega) hi
    · simp only at h; rw [h.2.2]; exact ih
    · simp only at h; exact ih.trans (oneA_rck h)

theorem Tra.base (T : Tra P orc n ops order chain m S on) {k : Nat} (hk : k ≤ m) (b : Frame) (hb : Base (S 0).rc b) : Base (S k).rc b := (T.rck hk).base hb

/-! ### How many have not come up -/

def left (ops : Array Oper) (L : Array Bool) : List Nat := (List.range ops.size).filter fun i => !L.getD i false

theorem left_set {L : Array Bool} {i : Nat} (hi : i < ops.size) (hs : L.size = ops.size) (hu : ¬ lis L i) : (left ops (L.setIfInBounds i true)).length < (left ops L).length := by
  have e : left ops (L.setIfInBounds i true) = (left ops L).filter fun j => !(j == i) := by
    unfold left
    rw [List.filter_filter]
    apply List.filter_congr
    intro j _
    by_cases h : i = j
    · subst h
      have : (L.setIfInBounds i true).getD i false = true := lis_set_self (by omega)
      simp [this]
    · rw [getD_set_ne false h]
      have : (j == i) = false := by simpa using fun e => h e.symm
      simp [this]
  rw [e]
  refine List.length_filter_lt_length_iff_exists.2 ⟨i, ?_, by simp⟩
  unfold left
  refine List.mem_filter.2 ⟨by simpa using hi, ?_⟩
  unfold lis at hu
  simpa using hu

theorem left_nil {L : Array Bool} (h : (left ops L).length = 0) {i : Nat} (hi : i < ops.size) : lis L i := by
  have h0 : left ops L = [] := List.length_eq_zero_iff.1 h
  refine Classical.byContradiction fun hu => ?_
  have : i ∈ left ops L := List.mem_filter.2 ⟨by simpa using hi, by unfold lis at hu; simpa using hu⟩
  rw [h0] at this; simp at this

variable {a0 : Act} {p : Nat} {L : Array Bool} {R : Ren} {a : Act}

theorem ready_none (T : Tra P orc n ops order chain m S on) (J : J1 ops order chain m S a0 p L R a) (h : Region.ready .any ops L = []) : ∀ {i : Nat}, i < ops.size → lis L i := by
  have key : ∀ (k : Nat) (i : Nat), order[k]? = some i → lis L i := by
    intro k
    induction k using Nat.strongRecOn with
    | _ k ih =>
      intro i hi
      refine Classical.byContradiction fun hu => ?_
      obtain ⟨o, ho⟩ := T.op hi
      have : i ∈ Region.ready .any ops L := by
        refine mem_ready.2 ⟨?_, o, ho, fun e hm hb => ?_⟩
        · have hlt : i < L.size := by rw [J.size]; exact (Array.getElem?_eq_some_iff.1 ho).1
          unfold lis at hu
          simp [hlt] at hu ⊢
          exact hu
        · obtain ⟨h1, h2⟩ := T.edge ho hm hb
          obtain ⟨k', hk'⟩ := order_all T.len T.lt T.nodup h1
          have hah : ahead (Region.before ops).toList e.on i = true := (ahead_iff ho).2 ⟨e, hm, hb, .inl rfl⟩
          rcases Nat.lt_trichotomy k' k with e' | e' | e'
          · exact ih k' e' _ hk'
          · subst e'; rw [hi] at hk'; simp only [Option.some.injEq] at hk'; exact absurd hk'.symm h2
          · rw [(T.topo e' hi hk').1] at hah; simp at hah
      rw [h] at this; simp at this
  intro i hi
  obtain ⟨k, hk⟩ := order_all T.len T.lt T.nodup hi
  exact key k i hk

/-- What the abstract machine's way ends with. -/
def EndR (P : Program) (orc : Orc) (n : Nat) (ops : Array Oper) (order chain : List Nat) (m : Nat) (S : Nat → ASt) (x : AX) (st' : ASt) : Prop :=
  (x = .normal ∧ m = order.length ∧ st' = S m) ∨
  (∃ i v o j, x = .pan v ∧ order[m]? = some i ∧ (∀ k' i', m < k' → order[k']? = some i' → ahead (Region.before ops).toList i i' = true) ∧ ops[i]? = some o ∧ i ∈ chain ∧ wantedA ops (S m).tmps o = some true ∧ j < n ∧ oneA P orc j o (S m) = some (.pan v, st'))

theorem HR.next_up {ρ : Ren} {h : AH} {w : World} {N N' : Nat} (hh : HR (ρ.cut N) h w) (hN : h.next = N) (hle : N ≤ N') (hd : ∀ id x, ρ id = some x → x.1 < w.heap.size) : HR (ρ.cut N') { h with next := N' } w := by
  have hget : ∀ i, ({ h with next := N' } : AH).get i = h.get i := fun _ => rfl
  have hlt : ∀ {i o}, h.get i = some o → i < N := fun {i o} hg => by rw [← hN]; exact hh.new i o hg
  refine ⟨fun i x hx => ?_, fun i o hg => ?_, fun i o hg => ?_, fun i j oi oj x y hi hj hne hwi hlj hx hy => ?_⟩
  · obtain ⟨h1, h2⟩ := Ren.cut_some hx
    exact ⟨h1, hd i x h2⟩
  · rw [hget] at hg; have := hlt hg; show i < N'; omega
  · rw [hget] at hg
    exact (hh.obj i o hg).mono (Ren.cut_mono (Ren.le_refl _) hle) fun _ _ _ => rfl
  · rw [hget] at hi hj
    exact hh.inj i j oi oj x y hi hj hne hwi hlj (by rw [Ren.cut_lt _ (hlt hi)]; exact (Ren.cut_some hx).2) (by rw [Ren.cut_lt _ (hlt hj)]; exact (Ren.cut_some hy).2)

theorem draw_loop (T : Tra P orc n ops order chain m S on) (hone : ∀ j, j < n → OneOk P orc j) {ρ0 : Ren} {w0 : World} {c₀ : Frame} {rest cs0 : List Frame} (h0 : TR ρ0 (S 0).tmps a0.tmps) (hnt : (S 0).nt ≤ a0.tmps.size)
    {b : Frame} (hB : Base (S 0).rc b) (k : List Item) {x : AX} {st' : ASt} (hend : EndR P orc n ops order chain m S x st') :
    ∀ (fuel t : Nat) (L : Array Bool) (p : Nat) (R : Ren) (a : Act) (cs : List Frame) (w : World), J1 ops order chain m S a0 p L R a → J2 P ops order S on ρ0 w0 c₀ rest cs0 p L R a.defers cs w → (left ops L).length ≤ fuel →
      Out P ρ0 c₀ rest cs0 (S 0) w0 b k (lone (b.at a (.inRegion ops (Region.linearise.go .any ops fuel t L []) :: k)) cs w) x st' := by
  classical
  have finish : ∀ (L : Array Bool) (p : Nat) (R : Ren) (a : Act) (cs : List Frame) (w : World), J1 ops order chain m S a0 p L R a → J2 P ops order S on ρ0 w0 c₀ rest cs0 p L R a.defers cs w → (∀ i, i < ops.size → lis L i) →
      Out P ρ0 c₀ rest cs0 (S 0) w0 b k (lone (b.at a (.inRegion ops [] :: k)) cs w) x st' := by
    intro L p R a cs w j1 j2 hall
    rcases hend with ⟨rfl, hm, rfl⟩ | ⟨i, v, o, j, rfl, hi, _⟩
    · obtain ⟨j1, j2⟩ := absorb_to T j1.pm (Nat.le_refl _) j1 j2 fun k' i' _ hi' => hall i' (T.lt i' (List.mem_of_getElem? hi'))
      refine ⟨_, .normal, a, cs, w, rfl, ⟨⟨j2.heap, j2.defers, j2.rc⟩, ?_, ?_⟩, j2.frm, T.nt (Nat.le_refl _), T.rck (Nat.le_refl _), .one step_region_end⟩
      · exact j1.done T h0 j2.frm.le fun i hi => .inl (hall i hi)
      · rw [T.nt (Nat.le_refl _), j1.tsize]; exact hnt
    · exact absurd (j1.lism T hi (hall i (T.lt i (List.mem_of_getElem? hi)))) (Nat.lt_irrefl _)
  intro fuel
  induction fuel with
  | zero =>
    intro t L p R a cs w j1 j2 hl
    simp only [Region.linearise.go, List.reverse_nil]
    exact finish L p R a cs w j1 j2 fun i hi => left_nil (by omega) hi
  | succ fuel ih =>
    intro t L p R a cs w j1 j2 hl
    simp only [Region.linearise.go]
    change Out P ρ0 c₀ rest cs0 (S 0) w0 b k (lone (b.at a (.inRegion ops (match (Region.ready .any ops L)[t % (Region.ready .any ops L).length]? with
      | some i => Region.linearise.go .any ops fuel (t / (Region.ready .any ops L).length) (L.setIfInBounds i true) [i]
      | none => [].reverse) :: k)) cs w) x st'
    cases hr : (Region.ready .any ops L)[t % (Region.ready .any ops L).length]? with
    | none =>
      have hnil : Region.ready .any ops L = [] := by
        cases hq : Region.ready .any ops L with
        | nil => rfl
        | cons y ys =>
          rw [hq] at hr
          have hlt : t % (y :: ys).length < (y :: ys).length := Nat.mod_lt _ (by simp)
          simp at hr
          simp at hlt
          omega
      exact finish L p R a cs w j1 j2 fun i hi => ready_none T j1 hnil hi
    | some i =>
      simp only []
      rw [linearise_go_acc, List.reverse_singleton, List.singleton_append]
      generalize hrest : Region.linearise.go .any ops fuel (t / (Region.ready .any ops L).length) (L.setIfInBounds i true) [] = is
      obtain ⟨hun, o, ho, hed⟩ := mem_ready.1 (List.mem_of_getElem? hr)
      have hlt : i < ops.size := (Array.getElem?_eq_some_iff.1 ho).1
      have hu : ¬ lis L i := by unfold lis; have : i < L.size := by rw [j1.size]; exact hlt
                                simp [this] at hun ⊢; exact hun
      have hed' : ∀ e ∈ o.after, Region.binds .any e = true → lis L e.on := hed
      obtain ⟨q, hq⟩ := T.pos ho
      have hleft : (left ops (L.setIfInBounds i true)).length ≤ fuel := by
        have := left_set (ops := ops) hlt j1.size hu; omega
      -- it goes on by the hypothesis, behind one step
      have go : ∀ (p' : Nat) (R' : Ren) (a' : Act) (cs' : List Frame) (w' : World), J1 ops order chain m S a0 p' (L.setIfInBounds i true) R' a' → J2 P ops order S on ρ0 w0 c₀ rest cs0 p' (L.setIfInBounds i true) R' a'.defers cs' w' →
          Steps P (lone (b.at a (.inRegion ops (i :: is) :: k)) cs w) (lone (b.at a' (.inRegion ops is :: k)) cs' w') → Out P ρ0 c₀ rest cs0 (S 0) w0 b k (lone (b.at a (.inRegion ops (i :: is) :: k)) cs w) x st' := by
        intro p' R' a' cs' w' j1' j2' hs
        obtain ⟨ρ', e, a1, cs1, w1, h1, h2, h3, h4, h5, h6⟩ := ih (t / (Region.ready .any ops L).length) _ p' R' a' cs' w' j1' j2' hleft
        rw [hrest] at h6
        exact ⟨ρ', e, a1, cs1, w1, h1, h2, h3, h4, h5, .of_steps hs h6⟩
      have hskip : Region.wanted o (yielded ops a.tmps) = false → Steps P (lone (b.at a (.inRegion ops (i :: is) :: k)) cs w) (lone (b.at (a.put o.dst undef) (.inRegion ops is :: k)) cs w) := fun hw => by
        have hs := step_op_skip (P := P) (b := b) (a := a) (k := k) (cs := cs) (w := w) (ops := ops) (i := i) (rest := is) (by simp [ho, hw])
        simp only [ho, Option.bind_some] at hs
        exact .one hs
      have earlier : i ∈ chain → ∀ k' i', k' < q → order[k']? = some i' → lis L i' := fun hc k' i' hk' hi' => j1.up ho hed' ((T.topo hk' hi' hq).2.2 hc)
      rcases Nat.lt_trichotomy q m with hqm | hqm | hqm
      · by_cases hc : i ∈ chain
        · -- the next one of the chain
          have hpq : p ≤ q := by
            rcases Nat.lt_or_ge q p with e | e
            · exact absurd (j1.low e hq) hu
            · exact e
          obtain ⟨k1, k2⟩ := absorb_to T hpq (Nat.le_of_lt hqm) j1 j2 (earlier hc)
          obtain ⟨o', ho', _, h | ⟨h1, h2, j, hj, h⟩⟩ := T.step hqm hq
          · simp only at ho' h; rw [ho] at ho'; simp only [Option.some.injEq] at ho'; subst ho'
            obtain ⟨hoff, hw, hput⟩ := h
            have hwant := k1.wanted T h0 k2.frm.le (Nat.le_of_lt hqm) hq ho hed' hu hw
            have hheap : (S (q + 1)).heap = (S q).heap := by rw [hput]; rfl
            obtain ⟨R', hR, hcut, k2'⟩ := k2.chained T k1 hqm hq ho hu (ρ' := R.cut (S q).heap.next) (ds' := a.defers) (cs' := cs) (w' := w) (by rw [hheap]; exact k2.heap) (by rw [hheap]; exact .refl _ _ _)
              (by rw [hput]; exact k2.defers) (by rw [hput]; exact k2.rc)
            refine go (q + 1) R' (a.put o.dst undef) cs w ?_ (by rw [put_defers]; exact k2') (hskip hwant)
            exact k1.upd T hnt hqm hq ho hed' hu hR (r := undefA) (u := undef) (by rw [hput]; rfl) (undef_VR _) (.inr ⟨rfl, rfl⟩) rfl
          · simp only at ho' h1 h2 h; rw [ho] at ho'; simp only [Option.some.injEq] at ho'; subst ho'
            have hwant := k1.wanted T h0 k2.frm.le (Nat.le_of_lt hqm) hq ho hed' hu h2
            obtain ⟨_, _, r, u, ρ', ds', cs', w', e1, e2, e3, e4, e5⟩ := hone j hj o _ _ _ h (R.cut (S q).heap.next) a w c₀ rest cs0 cs ⟨k2.heap, k2.defers, k2.rc⟩ (k1.ev T h0 k2.frm.le (Nat.le_of_lt hqm) hq ho hed' hu) b k ops i is
              (T.base (Nat.le_of_lt hqm) b hB) ho hwant
            obtain ⟨R', hR, hcut, k2'⟩ := k2.chained T k1 hqm hq ho hu e3.heap e4 e3.defers e3.rc
            refine go (q + 1) R' _ cs' w' ?_ (by rw [put_defers]; exact k2') e5
            exact k1.upd T hnt hqm hq ho hed' hu hR (r := r) (u := u) e1 (by rw [hcut]; exact e2) (.inr ⟨rfl, rfl⟩) (by cases o.dst <;> rfl)
        · -- one beside the chain
          have hpq : p ≤ q := by
            rcases Nat.lt_or_ge q p with e | e
            · exact absurd (j1.low e hq) hu
            · exact e
          obtain ⟨_, _, r, htm, hw, hcase⟩ := T.plain hqm hq ho hc
          have hwant := j1.wanted T h0 j2.frm.le (Nat.le_of_lt hqm) hq ho hed' hu hw
          have hop := j1.ev T h0 j2.frm.le (Nat.le_of_lt hqm) hq ho hed' hu
          have hcong : ∀ y ∈ o.op.operands, evalA (S q).tmps y = (fun y => if y ∈ o.op.operands then evalA (S q).tmps y else none) y := fun y hy => by simp [hy]
          have hev : EvR (R.cut (S q).heap.next) (fun y => if y ∈ o.op.operands then evalA (S q).tmps y else none) a.eval := by
            intro y v hy
            by_cases hm : y ∈ o.op.operands
            · simp only [hm, if_true] at hy; exact hop y hm v hy
            · simp [hm] at hy
          rcases hcase with ⟨hoff, rfl, hheap⟩ | ⟨hon, hkd, hheap, hp⟩ | ⟨hon, hkd, hheap, hrd⟩ | ⟨hon, hkd, mk, obj, hal, hheap, hrv⟩
          · rw [hoff] at hwant
            exact go p R _ cs w (j1.upd T hnt hqm hq ho hed' hu (Ren.le_refl _) htm (undef_VR _) (.inl ⟨rfl, hc⟩) rfl) (by rw [put_defers]; exact j2.quiet T hq ho (fun h => by rw [hoff] at h; simp at h)) (hskip hwant)
          · rw [hon] at hwant
            rw [pureA_congr o.op hcong] at hp
            obtain ⟨u, hu1, hrun⟩ := pureA_ok hev o hp
            exact go p R (a.put o.dst u) cs w (j1.upd T hnt hqm hq ho hed' hu (Ren.le_refl _) htm (by rw [hheap]; exact hu1) (.inl ⟨rfl, hc⟩) rfl) (by rw [put_defers]; exact j2.quiet T hq ho (fun _ h => by rw [hkd] at h; simp at h)) (.one (step_value ho hwant (hrun w)))
          · rw [hon] at hwant
            have hsame : ∀ rr, readId (evalA (S q).tmps) o.op = some rr → ∀ q', p ≤ q' → q' ≤ q → (S q).heap.get rr = (S q').heap.get rr := by
              intro rr hrr
              have : ∀ d q', p ≤ q' → q' + d = q → (S q).heap.get rr = (S q').heap.get rr := by
                intro d
                induction d with
                | zero => intro q' _ e; have : q = q' := by omega
                          rw [this]
                | succ d ihd =>
                  intro q' h1 h2
                  rw [ihd (q' + 1) (by omega) (by omega)]
                  have hq'm : q' < m := by omega
                  obtain ⟨i', o', hi', ho'⟩ := T.nth hq'm
                  by_cases hc' : i' ∈ chain
                  · cases hon' : on q' with
                    | false =>
                      obtain ⟨o2, ho2, _, h | ⟨h3, _⟩⟩ := T.step hq'm hi'
                      · simp only at h; rw [h.2.2]; rfl
                      · simp only at h3; rw [hon'] at h3; simp at h3
                    | true =>
                      refine (T.conf hqm hq'm hq hi' ho hkd hc' ?_ hon hon' hrr).symm
                      have hnl : ¬ lis L i' := fun hl => (j1.high h1 hi' hl).2 hc'
                      have hne : ahead (Region.before ops).toList i' i = false := by
                        cases e : ahead (Region.before ops).toList i' i with
                        | false => rfl
                        | true => exact absurd (j1.up ho hed' e) hnl
                      have := (T.topo (k := q') (k' := q) (by omega) hi' hq).1
                      simp [apartB, hne, this]
                  · obtain ⟨_, _, _, _, _, hcase'⟩ := T.plain hq'm hi' ho' hc'
                    rcases hcase' with ⟨_, _, hh⟩ | ⟨_, _, hh, _⟩ | ⟨_, _, hh, _⟩ | ⟨hon', hkd', _, obj', _, hh, _⟩
                    · rw [hh]
                    · rw [hh]
                    · rw [hh]
                    · rw [hh, AH.get_add, if_neg]
                      exact fun e => T.made hqm hq'm hq hi' ho ho' hkd hkd' hc' hon hon' hrr e.symm
              intro q' h1 h2
              exact this (q - q') q' h1 (by omega)
            have hNN := T.next_le hpq (Nat.le_of_lt hqm)
            have hHR := j2.heap.next_up rfl hNN fun id y hy => (j2.dom id y hy).1
            have hrd' : readA P (evalA (S q).tmps) { (S p).heap with next := (S q).heap.next } o.op = some r := by
              rw [← hrd]
              exact readA_heap o.op fun rr hrr => (hsame rr hrr p (Nat.le_refl _) hpq).symm
            rw [readA_congr o.op hcong] at hrd'
            obtain ⟨u, hu1, hrun⟩ := readA_ok hHR hev o hrd'
            exact go p R (a.put o.dst u) cs w (j1.upd T hnt hqm hq ho hed' hu (Ren.le_refl _) htm (by rw [hheap]; exact hu1) (.inl ⟨rfl, hc⟩) rfl) (by rw [put_defers]; exact j2.quiet T hq ho (fun _ h => by rw [hkd] at h; simp at h)) (.one (step_value ho hwant hrun))
          · rw [hon] at hwant
            have hwr := allocA_wr hal
            rw [allocA_congr o.op hcong] at hal
            obtain ⟨u, w', z, hrun, hnew, hboth⟩ := allocA_ok (P := P) hev o hal w
            obtain ⟨hle, hself, hle', j2'⟩ := j2.makes T j1 hqm hq ho hu hc hon hkd hheap hwr hnew fun ρ' h1 h2 => (hboth ρ' _ h1 h2).2
            exact go p _ (a.put o.dst u) cs w' (j1.upd T hnt hqm hq ho hed' hu hle htm (by rw [hrv]; exact (hboth _ _ hle' hself).1) (.inl ⟨rfl, hc⟩) rfl) (by rw [put_defers]; exact j2') (.one (step_value ho hwant hrun))
      · -- the one that panics
        subst hqm
        rcases hend with ⟨rfl, hm, rfl⟩ | ⟨i', v, o', j, rfl, hi', haft, ho', hc, hw, hj, h⟩
        · rw [hm] at hq; simp at hq
        · rw [hq] at hi'; simp only [Option.some.injEq] at hi'; subst hi'
          rw [ho] at ho'; simp only [Option.some.injEq] at ho'; subst ho'
          obtain ⟨k1, k2⟩ := absorb_to T j1.pm (Nat.le_refl _) j1 j2 (earlier hc)
          have hwant := k1.wanted T h0 k2.frm.le (Nat.le_refl _) hq ho hed' hu hw
          obtain ⟨_, hbase, u, ρ', w', todo, e1, e2, e3, e4, e5⟩ := hone j hj o _ _ _ h (R.cut (S q).heap.next) a w c₀ rest cs0 cs ⟨k2.heap, k2.defers, k2.rc⟩ (k1.ev T h0 k2.frm.le (Nat.le_refl _) hq ho hed' hu) b k ops i is
            (T.base (Nat.le_refl _) b hB) ho hwant
          have htr : TR (R.cut (S q).heap.next) (S q).tmps a.tmps := k1.done T h0 k2.frm.le fun i' hi' => by
            obtain ⟨k', hk'⟩ := order_all T.len T.lt T.nodup hi'
            rcases Nat.lt_or_ge k' q with e | e
            · exact .inl (k1.low e hk')
            · exact .inr ⟨k', hk', e⟩
          refine ⟨ρ', _, a, cs, w', ⟨u, e2, rfl⟩, ⟨⟨e3, ?_, ?_⟩, ?_, ?_⟩, k2.frm.trans e4, ?_, (T.rck (Nat.le_refl _)).trans (oneA_rck h), todo, e5⟩
          · rw [e1]; exact k2.defers.mono e4.le
          · rw [e1]; exact k2.rc.mono e4.le
          · rw [e1]; exact htr.mono e4.le
          · rw [e1]; show (S q).nt ≤ _; rw [T.nt (Nat.le_refl _), k1.tsize]; exact hnt
          · rw [e1]; exact T.nt (Nat.le_refl _)
      · rcases hend with ⟨rfl, hm, rfl⟩ | ⟨i', v, o', j, rfl, hi', haft, ho', hc, hw, hj, h⟩
        · have := (List.getElem?_eq_some_iff.1 hq).1; omega
        · exact absurd (j1.lism T hi' (j1.up ho hed' (haft q i hqm hq))) (Nat.lt_irrefl _)

end
end Go.Am

namespace Go.Am
open Go

def stAt (tr : List Stp) (t : ASt) (k : Nat) : ASt := match tr[k]? with
  | some y => y.s
  | none => t

def onAt (tr : List Stp) (k : Nat) : Bool := match tr[k]? with
  | some y => y.on
  | none => false

theorem stAt_end (tr : List Stp) (t : ASt) : stAt tr t tr.length = t := by simp [stAt]

theorem stAt_zero : ∀ {tr : List Stp} {s t : ASt}, Chained s tr t → stAt tr t 0 = s
  | [], _, _, h => h.symm
  | y :: tr, _, _, h => h.1

theorem chained_at : ∀ {tr : List Stp} {s t : ASt}, Chained s tr t → ∀ {k : Nat} {y : Stp}, tr[k]? = some y → stAt tr t k = y.s ∧ stAt tr t (k + 1) = y.t
  | [], _, _, _, k, y, hy => by simp at hy
  | z :: tr, s, t, h, 0, y, hy => by
    simp at hy; subst hy
    refine ⟨rfl, ?_⟩
    exact stAt_zero h.2
  | z :: tr, s, t, h, k + 1, y, hy => by
    simp at hy
    exact chained_at h.2 hy

theorem stepOf_at : ∀ {tr : List Stp}, (tr.map (·.i)).Nodup → ∀ {k : Nat} {y : Stp}, tr[k]? = some y → stepOf tr y.i = some y
  | [], _, k, y, hy => by simp at hy
  | z :: tr, hn, 0, y, hy => by
    simp at hy; subst hy
    simp [stepOf]
  | z :: tr, hn, k + 1, y, hy => by
    simp at hy
    rw [List.map_cons, List.nodup_cons] at hn
    have hne : Nat.beq z.i y.i = false := by
      cases e : Nat.beq z.i y.i with
      | false => rfl
      | true =>
        have := Nat.eq_of_beq_eq_true e
        exact absurd (List.mem_map.2 ⟨y, List.mem_of_getElem? hy, this.symm⟩) hn.1
    have := stepOf_at hn.2 hy
    simpa [stepOf, hne] using this

theorem nodupB_ok : ∀ {l : List Nat}, nodupB l = true → l.Nodup
  | [], _ => by simp
  | x :: l, h => by
    simp only [nodupB, Bool.and_eq_true, List.all_eq_true] at h
    refine List.nodup_cons.2 ⟨fun hm => ?_, nodupB_ok h.2⟩
    have := h.1 x hm
    simp at this

theorem filterMap_inj {α : Type} {f : α → Option Nat} : ∀ {l : List α}, (l.filterMap f).Nodup → ∀ {i j : Nat} {x y : α} {d : Nat}, l[i]? = some x → l[j]? = some y → f x = some d → f y = some d → i = j
  | [], _, i, j, x, y, d, hi, _, _, _ => by simp at hi
  | z :: l, hn, i, j, x, y, d, hi, hj, hx, hy => by
    have htail : (l.filterMap f).Nodup := by
      rw [List.filterMap_cons] at hn
      split at hn
      · exact hn
      · exact (List.nodup_cons.1 hn).2
    have hz : f z = some d → ∀ (q : Nat) (u : α), l[q]? = some u → f u = some d → False := fun hz q u hu hd => by
      rw [List.filterMap_cons, hz] at hn
      exact (List.nodup_cons.1 hn).1 (List.mem_filterMap.2 ⟨u, List.mem_of_getElem? hu, hd⟩)
    cases i with
    | zero =>
      cases j with
      | zero => rfl
      | succ j => simp at hi hj; subst hi; exact (hz hx j y hj hy).elim
    | succ i =>
      cases j with
      | zero => simp at hi hj; subst hj; exact (hz hy i x hi hx).elim
      | succ j => simp at hi hj; rw [filterMap_inj htail hi hj hx hy]

section
variable {P : Program} {orc : Orc} {ops : Array Oper}

theorem tmpsOk_dst {pre : List Nat} (h : tmpsOk ops pre = true) {i j : Nat} {o oj : Oper} {d : Tmp} (ho : ops[i]? = some o) (hj : ops[j]? = some oj) (hd : o.dst = some d) (hdj : oj.dst = some d) : i = j := by
  simp only [tmpsOk, Bool.and_eq_true] at h
  exact filterMap_inj (nodupB_ok h.1) (by simpa using ho) (by simpa using hj) hd hdj

theorem tmpsOk_at {pre : List Nat} (h : tmpsOk ops pre = true) {i : Nat} {o : Oper} (ho : ops[i]? = some o) :
    (∀ e ∈ o.after, Region.binds .any e = true → e.on < ops.size ∧ e.on ≠ i) ∧
    ∀ t ∈ looks ops o, ∀ j oj, ops[j]? = some oj → oj.dst = some t → ahead pre j i = true ∨ ahead pre i j = true ∨ i = j := by
  simp only [tmpsOk, Bool.and_eq_true, List.all_eq_true] at h
  have hi := h.2 i (by simpa using (Array.getElem?_eq_some_iff.1 ho).1)
  rw [ho] at hi
  simp only [Bool.and_eq_true, List.all_eq_true, Array.all_eq_true_iff_forall_mem, Bool.or_eq_true, Bool.not_eq_true'] at hi
  obtain ⟨h1, h2⟩ := hi
  refine ⟨fun e he hb => ?_, fun t ht j oj hj hd => ?_⟩
  · rcases h1 e he with h | ⟨h3, h4⟩
    · rw [hb] at h; simp at h
    · refine ⟨by simpa [Nat.blt_eq] using h3, fun e' => ?_⟩
      rw [e', Nat.beq_refl] at h4; simp at h4
  · have := h2 t ht j (by simpa using (Array.getElem?_eq_some_iff.1 hj).1)
    rw [hj] at this
    simp only [Option.bind_some, hd, Bool.or_eq_true, Bool.not_eq_true'] at this
    rcases this with ((h | h) | h) | h
    · rw [Nat.beq_refl] at h; simp at h
    · exact .inl h
    · exact .inr (.inl h)
    · exact .inr (.inr (Nat.eq_of_beq_eq_true h))

theorem kinds_at {i : Nat} {o : Oper} (ho : ops[i]? = some o) : (ops.toList.map fun o => kindA P o.op)[i]? = some (kindA P o.op) := by
  rw [List.getElem?_map, Array.getElem?_toList, ho]; rfl

theorem chain_eff {pre : List Nat} {i : Nat} {o : Oper} (ho : ops[i]? = some o) (hk : kindA P o.op = .eff) : i ∈ chainOf (ops.toList.map fun o => kindA P o.op) pre := by
  unfold chainOf
  refine List.mem_filter.2 ⟨?_, ?_⟩
  · simpa using (Array.getElem?_eq_some_iff.1 ho).1
  · rw [kinds_at ho, hk]

theorem isKind_at {k : K} {i : Nat} {o : Oper} (ho : ops[i]? = some o) (hk : kindA P o.op = k) : i ∈ (List.range ops.size).filter fun i => isKind (ops.toList.map fun o => kindA P o.op) k i := by
  refine List.mem_filter.2 ⟨by simpa using (Array.getElem?_eq_some_iff.1 ho).1, ?_⟩
  simp only [isKind, kinds_at ho, hk, decide_true]

theorem oneA_pan_eff : ∀ {m : Nat} {o : Oper} {s t : ASt} {v : AV}, oneA P orc m o s = some (.pan v, t) → kindA P o.op = .eff
  | 0, _, _, _, _, h => by simp [oneA] at h
  | m + 1, o, s, t, v, h => by
    simp only [oneA, opA] at h
    cases hk : kindA P o.op with
    | eff => rfl
    | pure => rw [hk] at h; simp only at h; cases hp : pureA P (evalA s.tmps) o.op <;> rw [hp] at h <;> simp at h
    | read => rw [hk] at h; simp only at h; cases hp : readA P (evalA s.tmps) s.heap o.op <;> rw [hp] at h <;> simp at h
    | alloc => rw [hk] at h; simp only at h; cases hp : allocA P (evalA s.tmps) o.op <;> rw [hp] at h <;> simp at h

theorem draw_tra {n : Nat} {st : ASt} {tr : List Stp} {x : AX} {st' : ASt} (hok : (drawInfo P ops).ok = true)
    (hd : drawA P orc n ops (Region.before ops).toList (drawInfo P ops).order st = some (tr, x, st')) (hconf : confOk ops tr (drawInfo P ops).conf (drawInfo P ops).made = true) :
    ∃ mid, stAt tr mid 0 = st ∧ Tra P orc n ops (drawInfo P ops).order (chainOf (ops.toList.map fun o => kindA P o.op) (Region.before ops).toList) tr.length (stAt tr mid) (onAt tr) ∧
      EndR P orc n ops (drawInfo P ops).order (chainOf (ops.toList.map fun o => kindA P o.op) (Region.before ops).toList) tr.length (stAt tr mid) x st' := by
  obtain ⟨hstep, mid, hch, hend⟩ := drawA_steps n ops _ _ st tr x st' hd
  simp only [drawInfo, Bool.and_eq_true, List.all_eq_true, beq_iff_eq] at hok
  obtain ⟨⟨⟨⟨hlen, hlt⟩, htopo⟩, htmps⟩, _⟩ := hok
  have hpre : ∃ rest, (drawInfo P ops).order = tr.map (·.i) ++ rest := by
    rcases hend with ⟨_, h, _⟩ | ⟨i, rest, _, _, _, _, h, _⟩
    · exact ⟨[], by simp [h]⟩
    · exact ⟨_, h⟩
  obtain ⟨rest, hpre⟩ := hpre
  have hord : ∀ {k : Nat} {i : Nat}, k < tr.length → (drawInfo P ops).order[k]? = some i → ∃ y, tr[k]? = some y ∧ y.i = i := by
    intro k i hk hi
    rw [hpre, List.getElem?_append_left (by simpa using hk), List.getElem?_map] at hi
    cases hy : tr[k]? with
    | none => rw [hy] at hi; simp at hi
    | some y => rw [hy] at hi; simp at hi; exact ⟨y, rfl, hi⟩
  have hnd : (drawInfo P ops).order.Nodup := topo_nodup htopo
  have hndt : (tr.map (·.i)).Nodup := by rw [hpre] at hnd; exact (List.nodup_append.1 hnd).1
  simp only [confOk, Bool.and_eq_true, List.all_eq_true] at hconf
  obtain ⟨hc1, hc2⟩ := hconf
  refine ⟨mid, stAt_zero hch, ⟨hlen, fun i hi => by have := hlt i hi; simpa [Nat.blt_eq] using this, hnd, fun {k k' i j} => topo_at htopo, fun {i j o oj d} => tmpsOk_dst htmps, fun {i o e} ho he hb => (tmpsOk_at htmps ho).1 e he hb,
    fun {i j o oj t} ho ht hj hdd => (tmpsOk_at htmps ho).2 t ht j oj hj hdd, fun {i o} ho hc hk => hc (chain_eff ho hk), by rw [hpre]; simp, fun {k i} hk hi => ?_, fun {k e i j oi r} hk he hi hj hoi hkd hjc hap hon hoe hr => ?_,
    fun {k f i j oi oj r} hk hf hi hj hoi hoj hkd hkf hjc hon hof hr => ?_⟩, ?_⟩
  · obtain ⟨y, hy, rfl⟩ := hord hk hi
    obtain ⟨e1, e2⟩ := chained_at hch hy
    have e3 : onAt tr k = y.on := by simp [onAt, hy]
    rw [e1, e2, e3]
    exact hstep y (List.mem_of_getElem? hy)
  · obtain ⟨y, hy, rfl⟩ := hord hk hi
    obtain ⟨z, hz, rfl⟩ := hord he hj
    obtain ⟨e1, e2⟩ := chained_at hch hy
    obtain ⟨f1, f2⟩ := chained_at hch hz
    have e3 : y.on = true := by simpa [onAt, hy] using hon
    have f3 : z.on = true := by simpa [onAt, hz] using hoe
    have hm : (y.i, z.i) ∈ (drawInfo P ops).conf := by
      simp only [drawInfo, List.mem_flatMap, List.mem_map]
      exact ⟨y.i, isKind_at hoi hkd, z.i, List.mem_filter.2 ⟨hjc, hap⟩, rfl⟩
    have := hc1 _ hm
    simp only at this
    rw [stepOf_at hndt hy, stepOf_at hndt hz] at this
    have hro : readOf ops y = some r := by
      simp only [readOf, e3, cond_true, hoi]
      rw [e1] at hr; exact hr
    simp only [f3, hro, Bool.not_true, Bool.false_or] at this
    rw [f1, f2]
    exact beqO_eq this
  · obtain ⟨y, hy, rfl⟩ := hord hk hi
    obtain ⟨z, hz, rfl⟩ := hord hf hj
    obtain ⟨e1, e2⟩ := chained_at hch hy
    obtain ⟨f1, f2⟩ := chained_at hch hz
    have e3 : y.on = true := by simpa [onAt, hy] using hon
    have f3 : z.on = true := by simpa [onAt, hz] using hof
    have hm : (y.i, z.i) ∈ (drawInfo P ops).made := by
      simp only [drawInfo, List.mem_flatMap, List.mem_map]
      refine ⟨y.i, isKind_at hoi hkd, z.i, List.mem_filter.2 ⟨by simpa using (Array.getElem?_eq_some_iff.1 hoj).1, ?_⟩, rfl⟩
      have h1 : isKind (ops.toList.map fun o => kindA P o.op) .alloc z.i = true := by simp only [isKind, kinds_at hoj, hkf, decide_true]
      rw [h1]
      simpa using hjc
    have := hc2 _ hm
    simp only at this
    rw [stepOf_at hndt hy, stepOf_at hndt hz] at this
    have hro : readOf ops y = some r := by
      simp only [readOf, e3, cond_true, hoi]
      rw [e1] at hr; exact hr
    simp only [f3, hro, Bool.not_true, Bool.false_or, Bool.not_eq_true'] at this
    rw [f1]
    intro e
    rw [e, Nat.beq_refl] at this
    simp at this
  · rcases hend with ⟨h1, h2, h3⟩ | ⟨i, rest', v, o, j, h1, h2, h3, h4, h5, h6, h7⟩
    · exact .inl ⟨h1, by rw [← h2]; simp, by rw [stAt_end]; exact h3⟩
    · refine .inr ⟨i, v, o, j, h1, ?_, fun k' i' hk' hi' => ?_, h4, chain_eff h4 (oneA_pan_eff h7), by rw [stAt_end]; exact h5, h6, by rw [stAt_end]; exact h7⟩
      · rw [h2, List.getElem?_append_right (by simp)]; simp
      · rw [h2, List.getElem?_append_right (by simp; omega)] at hi'
        refine h3 i' ?_
        simp only [List.length_map] at hi'
        have : k' - tr.length = (k' - tr.length - 1) + 1 := by omega
        rw [this, List.getElem?_cons_succ] at hi'
        exact List.mem_of_getElem? hi'

/-- A REGION WHOSE ORDER IS DRAWN. -/
theorem draw_ok {n : Nat} (hone : ∀ j, j < n → OneOk P orc j) {st : ASt} {tr : List Stp} {x : AX} {st' : ASt} (hok : (drawInfo P ops).ok = true)
    (hd : drawA P orc n ops (Region.before ops).toList (drawInfo P ops).order st = some (tr, x, st')) (hconf : confOk ops tr (drawInfo P ops).conf (drawInfo P ops).made = true)
    {ρ : Ren} {c₀ : Frame} {rest cs0 cs : List Frame} {a : Act} {w w1 : World} (hs : SR ρ c₀ rest cs0 st a cs w) {b : Frame} (k : List Item) (hB : Base st.rc b) (t : Nat)
    (hh : w1.heap = w.heap) (ho : w1.os = w.os) (ht : w1.tape = w.tape) (hu : w1.output = w.output) :
    Out P ρ c₀ rest cs0 st w b k (lone (b.at a (.inRegion ops (Region.linearise .any ops t) :: k)) cs w1) x st' := by
  obtain ⟨mid, h0, T, hend⟩ := draw_tra hok hd hconf
  have hcut : ρ.cut st.heap.next = ρ := by
    funext i
    by_cases e : i < st.heap.next
    · rw [Ren.cut_lt _ e]
    · rw [Ren.cut_ge _ (by omega), hs.heap.none (by omega)]
  have hno : ∀ i, ¬ lis (Array.replicate ops.size false) i := by
    intro i h
    unfold lis at h
    by_cases e : i < ops.size
    · simp [e] at h
    · simp [e] at h
  have j1 : J1 ops (drawInfo P ops).order (chainOf (ops.toList.map fun o => kindA P o.op) (Region.before ops).toList) tr.length (stAt tr mid) a 0 (Array.replicate ops.size false) ρ a :=
    ⟨by simp, fun {i o} _ h => (hno i h).elim, Nat.zero_le _, fun {k i} h => by omega, fun {k i} _ _ h => (hno i h).elim, rfl, fun {t} _ => rfl, fun {k i o d v} _ _ h => (hno i h).elim⟩
  have j2 : J2 P ops (drawInfo P ops).order (stAt tr mid) (onAt tr) ρ w c₀ rest cs0 0 (Array.replicate ops.size false) ρ a.defers cs w1 := by
    refine ⟨by rw [h0, hcut]; exact hs.heap.heap hh, by rw [h0, hcut]; exact .drawn hh ho ht hu, fun k h => ?_, fun k k' x y h => ?_, fun id x hx => ?_, by rw [h0, hcut]; exact hs.defers, by rw [h0, hcut]; exact hs.rc⟩
    · obtain ⟨_, i, o, _, _, h, _⟩ := h; exact (hno i h).elim
    · obtain ⟨_, i, o, _, _, h, _⟩ := h; exact (hno i h).elim
    · rw [h0, hh]; exact ⟨(hs.heap.dom id x hx).2, .inl (hs.heap.dom id x hx).1⟩
  have := draw_loop T hone (ρ0 := ρ) (w0 := w) (c₀ := c₀) (rest := rest) (cs0 := cs0) (a0 := a) (by rw [h0]; exact hs.tmps) (by rw [h0]; exact hs.size) (b := b) (by rw [h0]; exact hB) k hend ops.size t (Array.replicate ops.size false) 0 ρ a cs w1 j1 j2
    (by unfold left; refine Nat.le_trans (List.length_filter_le _ _) (by simp))
  rw [h0] at this
  exact this

end
end Go.Am

namespace Go.Am
open Go

section
variable {P : Program} {orc : Orc}

theorem Out.after {ρ0 ρ : Ren} {c₀ : Frame} {rest cs0 : List Frame} {st0 st : ASt} {w0 w : World} {b : Frame} {k : List Item} {M0 M : Machine} {x : AX} {st' : ASt}
    (hf : Frm ρ0 st0.heap w0 ρ st.heap w) (hn : st.nt = st0.nt) (hr : RcK st0.rc st.rc) (hs : Steps P M0 M) (h : Out P ρ c₀ rest cs0 st w b k M x st') : Out P ρ0 c₀ rest cs0 st0 w0 b k M0 x st' := by
  obtain ⟨ρ', e, a', cs', w', h1, h2, h3, h4, h5, h6⟩ := h
  exact ⟨ρ', e, a', cs', w', h1, h2, hf.trans h3, h4.trans hn, hr.trans h5, .of_steps hs h6⟩

theorem Out.steps {ρ : Ren} {c₀ : Frame} {rest cs0 : List Frame} {st : ASt} {w : World} {b : Frame} {k : List Item} {M0 M : Machine} {x : AX} {st' : ASt} (hs : Steps P M0 M) (h : Out P ρ c₀ rest cs0 st w b k M x st') : Out P ρ c₀ rest cs0 st w b k M0 x st' := by
  obtain ⟨ρ', e, a', cs', w', h1, h2, h3, h4, h5, h6⟩ := h
  exact ⟨ρ', e, a', cs', w', h1, h2, h3, h4, h5, .of_steps hs h6⟩

def CodeOk (P : Program) (orc : Orc) (n : Nat) : Prop := ∀ c st x st', codeA P orc n c st = some (x, st') → ∀ ρ c₀ rest cs0 a cs w, SR ρ c₀ rest cs0 st a cs w → ∀ b k, Base st.rc b →
  Out P ρ c₀ rest cs0 st w b k (lone (b.at a (.code c :: k)) cs w) x st'

def LoopOk (P : Program) (orc : Orc) (n : Nat) : Prop := ∀ c st x st', codeA P orc n (.loop c) st = some (x, st') → ∀ ρ c₀ rest cs0 a cs w, SR ρ c₀ rest cs0 st a cs w → ∀ b k, Base st.rc b →
  Out P ρ c₀ rest cs0 st w b k (lone (b.at a (.code c :: .inLoop c :: k)) cs w) x st'

def OpsOk (P : Program) (orc : Orc) (n : Nat) : Prop := ∀ ops os st x st', opsA P orc n ops os st = some (x, st') → ∀ i, ops.toList.drop i = os → ∀ ρ c₀ rest cs0 a cs w, SR ρ c₀ rest cs0 st a cs w → ∀ b k, Base st.rc b →
  Out P ρ c₀ rest cs0 st w b k (lone (b.at a (.inRegion ops (List.range' i (ops.size - i)) :: k)) cs w) x st'

def ModeR (ρ : Ren) : Option AV → FrameMode → Prop
  | none, u => u = .returning
  | some v, u => ∃ x, VR ρ v x ∧ u = .panicking [{ v := x, recovered := false }]

def LeaveOk (P : Program) (orc : Orc) (n : Nat) : Prop := ∀ fn tmps ds mode h r h', leaveA P orc n fn tmps ds mode h = some (r, h') → ∀ ρ w tm dfs u, TR ρ tmps tm → DR ρ ds dfs → HR ρ h w → ModeR ρ mode u →
  ∀ R, (∀ e w', CallR ρ h w r h' e w' → R e w') → Leaves P fn tm R dfs u w

def LateOk (P : Program) (orc : Orc) (n : Nat) : Prop := ∀ f args rc h rc' h', lateA P orc n f args rc h = some (rc', h') → ∀ ρ w us u, LR ρ args us → HR ρ h w → RcM ρ rc u →
  (callFunc f ⟨us⟩).run P w = .ok (.enter f ⟨us⟩) w ∧ CallsD P f ⟨us⟩ u w fun e u' w' => ∃ v ρ', e = .returned v ∧ HR ρ' h' w' ∧ Frm ρ h w ρ' h' w' ∧ RcM ρ' rc' u' ∧ RcK rc rc'

/-- No function of a body bears the name that the model keeps for itself. -/
def Named (P : Program) : Prop := ∀ (f : FuncId) (fn : Func), P.funcs[f]? = some fn → fn.body.isSome = true → (fn.name == "runtime.NumGoroutine") = false

theorem run_callFunc (hn : Named P) {f : FuncId} {fn : Func} {c : Code} (hf : P.funcs[f]? = some fn) (hb : fn.body = some c) (args : Array Value) (w : World) : (callFunc f args).run P w = .ok (.enter f args) w := by
  have h1 := hn f fn hf (by rw [hb]; rfl)
  have h2 : fn.name ≠ "runtime.NumGoroutine" := by simpa using h1
  simp [callFunc, hf, h2, hb]

theorem initT_get : ∀ (l : List AV) (i : Nat) (t : Tr AV) (j : Nat), (initT i l t).get j = if i ≤ j ∧ j < i + l.length then l[j - i]? else t.get j
  | [], i, t, j => by simp [initT]; omega
  | v :: l, i, t, j => by
    rw [initT, initT_get l (i + 1) (t.put i v) j, Tr.get_put]
    by_cases h : i + 1 ≤ j ∧ j < i + 1 + l.length
    · rw [if_pos h, if_pos (by simp; omega)]
      have : j - i = (j - (i + 1)) + 1 := by omega
      rw [this, List.getElem?_cons_succ]
    · rw [if_neg h]
      by_cases e : i = j
      · subst e; rw [if_pos rfl, if_pos (by simp)]; simp
      · rw [if_neg e, if_neg (by simp; omega)]

theorem TR.init {ρ : Ren} {l : List AV} {us : List Value} (hl : LR ρ l us) (n : Nat) : TR ρ (initT 0 l .nil) ((⟨us⟩ : Array Value) ++ Array.replicate n undef) := by
  intro i v hi
  rw [initT_get] at hi
  have hlen := hl.length
  by_cases h : 0 ≤ i ∧ i < 0 + l.length
  · rw [if_pos h] at hi
    obtain ⟨u, hu, hv⟩ := hl.get (j := i) (a := v) (by simpa using hi)
    have hlt : i < us.length := (List.getElem?_eq_some_iff.1 hu).1
    refine ⟨by simp; omega, ?_⟩
    have : ((⟨us⟩ : Array Value) ++ Array.replicate n undef).getD i undef = u := by
      rw [Array.getD_eq_getD_getElem?, Array.getElem?_append_left (by simpa using hlt)]
      simp [hu]
    rw [this]; exact hv
  · rw [if_neg h] at hi; simp [Tr.get] at hi

theorem SR.init {ρ : Ren} {l : List AV} {us : List Value} (hl : LR ρ l us) {h : AH} {w : World} (hh : HR ρ h w) {rc : Rc} {c₀ : Frame} {rest cs0 cs : List Frame} (hrc : RcR ρ c₀ rest cs0 rc cs) (n : Nat) :
    SR ρ c₀ rest cs0 { nt := n, tmps := initT 0 l .nil, defers := [], rc, heap := h } { tmps := (⟨us⟩ : Array Value) ++ Array.replicate (n - (⟨us⟩ : Array Value).size) undef, defers := [] } cs w :=
  { heap := hh, defers := rfl, rc := hrc, tmps := TR.init hl _, size := by simp; omega }

theorem ops_ok {n : Nat} (h1 : OneOk P orc n) (h2 : OpsOk P orc n) : OpsOk P orc (n + 1) := by
  intro ops os st x st' h i hi ρ c₀ rest cs0 a cs w hs b k hB
  cases os with
  | nil =>
    simp only [opsA, Option.some.injEq, Prod.mk.injEq] at h; obtain ⟨rfl, rfl⟩ := h
    have : ops.size - i = 0 := by have := List.drop_eq_nil_iff.1 hi; simp at this; omega
    rw [this]
    exact ⟨ρ, .normal, a, cs, w, rfl, hs, .refl _ _ _, rfl, .refl _, .one step_region_end⟩
  | cons o os =>
    have hlt : i < ops.size := by
      have : i < ops.toList.length := by
        refine Classical.byContradiction fun hc => ?_
        rw [List.drop_of_length_le (by omega)] at hi; simp at hi
      simpa using this
    have hcons : ops.toList.drop i = ops[i] :: ops.toList.drop (i + 1) := by
      rw [List.drop_eq_getElem_cons (by simpa using hlt)]; simp
    rw [hcons] at hi
    simp only [List.cons.injEq] at hi
    obtain ⟨rfl, hi⟩ := hi
    have ho : ops[i]? = some ops[i] := Array.getElem?_eq_getElem hlt
    have hr : List.range' i (ops.size - i) = i :: List.range' (i + 1) (ops.size - (i + 1)) := by
      have : ops.size - i = (ops.size - (i + 1)) + 1 := by omega
      rw [this, List.range'_succ]
    rw [hr]
    simp only [opsA] at h
    have hwant : ∀ {t}, wantedA ops st.tmps ops[i] = some t → Region.wanted ops[i] (yielded ops a.tmps) = t := fun hw => wantedA_ok hw fun g want d v hg hd hv => hs.tmps d v hv
    split at h
    · simp at h
    · rename_i hw
      have hsk := step_op_skip (P := P) (b := b) (a := a) (k := k) (cs := cs) (w := w) (ops := ops) (i := i) (rest := List.range' (i + 1) (ops.size - (i + 1))) (by simp [ho, hwant hw])
      simp only [ho, Option.bind_some] at hsk
      exact (h2 ops os _ x st' h (i + 1) hi ρ c₀ rest cs0 _ cs w (hs.put ops[i].dst (undef_VR ρ)) b k hB).after (st := st.put ops[i].dst undefA) (.refl _ _ _) rfl (.refl _) (.one hsk)
    · rename_i hw
      split at h
      · rename_i st1 hone
        obtain ⟨hnt, _, r, u, ρ', ds', cs', w', e1, e2, e3, e4, e5⟩ := h1 _ _ _ _ hone ρ a w c₀ rest cs0 cs hs.toBeside (fun y _ v hv => hs.tmps.ev (P := P) y v hv) b k ops i (List.range' (i + 1) (ops.size - (i + 1))) hB ho (hwant hw)
        have hrk := oneA_rck hone
        refine (h2 ops os st1 x st' h (i + 1) hi ρ' c₀ rest cs0 _ cs' w' ?_ b k (hrk.base hB)).after e4 hnt hrk e5
        refine { heap := e3.heap, defers := by rw [put_defers]; exact e3.defers, rc := e3.rc, tmps := ?_, size := ?_ }
        · rw [e1]; exact (hs.tmps.mono e4.le).put hs.size _ e2 ds' ds'
        · rw [put_size, hnt]; exact hs.size
      · rename_i hne
        cases hone : oneA P orc n ops[i] st with
        | none => rw [hone] at h; simp at h
        | some y =>
          obtain ⟨y, st1⟩ := y
          rw [hone] at h
          simp only [Option.some.injEq, Prod.mk.injEq] at h; obtain ⟨rfl, rfl⟩ := h
          have hq := h1 _ _ _ _ hone ρ a w c₀ rest cs0 cs hs.toBeside (fun y _ v hv => hs.tmps.ev (P := P) y v hv) b k ops i (List.range' (i + 1) (ops.size - (i + 1))) hB ho (hwant hw)
          cases y with
          | normal => exact absurd hone (hne st1)
          | exit id => exact hq.2.2.elim
          | ret => exact hq.2.2.elim
          | pan v =>
            obtain ⟨hnt, _, u, ρ', w', todo, e1, e2, e3, e4, e5⟩ := hq
            refine ⟨ρ', _, a, cs, w', ⟨u, e2, rfl⟩, ⟨⟨e3, ?_, ?_⟩, ?_, ?_⟩, e4, hnt, oneA_rck hone, todo, e5⟩
            · rw [e1]; exact hs.defers.mono e4.le
            · rw [e1]; exact hs.rc.mono e4.le
            · rw [e1]; exact hs.tmps.mono e4.le
            · rw [e1]; exact hs.size

theorem Out.pass {ρ : Ren} {c₀ : Frame} {rest cs0 : List Frame} {st : ASt} {w : World} {b : Frame} {k : List Item} {M : Machine} {x : AX} {st' : ASt} {it : Item} (hit : it.plain = true) (hx : x ≠ .normal)
    (h : Out P ρ c₀ rest cs0 st w b (it :: k) M x st') : Out P ρ c₀ rest cs0 st w b k M x st' := by
  obtain ⟨ρ', e, a', cs', w', h1, h2, h3, h4, h5, h6⟩ := h
  refine ⟨ρ', e, a', cs', w', h1, h2, h3, h4, h5, h6.pass hit fun _ _ => .inl fun he => ?_⟩
  subst he
  cases x <;> simp [XR] at h1
  exact hx rfl

theorem loop_ok {n : Nat} (h1 : CodeOk P orc n) (h2 : LoopOk P orc n) : LoopOk P orc (n + 1) := by
  intro c st x st' h ρ c₀ rest cs0 a cs w hs b k hB
  simp only [codeA] at h
  split at h
  · rename_i st1 hc
    obtain ⟨ρ', e, a', cs', w', rfl, g2, g3, g4, g5, g6⟩ := h1 c st _ st1 hc ρ c₀ rest cs0 a cs w hs b (.inLoop c :: k) hB
    exact (h2 c st1 x st' h ρ' c₀ rest cs0 a' cs' w' g2 b k (g5.base hB)).after g3 g4 g5 (Steps.trans g6 (.one step_inLoop))
  · rename_i hne
    refine (h1 c st x st' h ρ c₀ rest cs0 a cs w hs b (.inLoop c :: k) hB).pass rfl fun e => ?_
    subst e; exact hne st' h

theorem code_ok (hm : P.follows .mixedOrders = true) {n : Nat} (h1 : ∀ j, j ≤ n → OneOk P orc j) (h2 : OpsOk P orc n) (h3 : CodeOk P orc n) (h4 : LoopOk P orc (n + 1)) : CodeOk P orc (n + 1) := by
  intro c st x st' h ρ c₀ rest cs0 a cs w hs b k hB
  cases c with
  | skip =>
    simp only [codeA, Option.some.injEq, Prod.mk.injEq] at h; obtain ⟨rfl, rfl⟩ := h
    exact ⟨ρ, .normal, a, cs, w, rfl, hs, .refl _ _ _, rfl, .refl _, .one step_skip⟩
  | region id ops draw =>
    simp only [codeA] at h
    cases draw with
    | false =>
      simp only [cond_false] at h
      have := h2 ops ops.toList st x st' h 0 rfl ρ c₀ rest cs0 a cs w hs b k hB
      rw [Nat.sub_zero, ← List.range_eq_range'] at this
      exact this.steps (.one step_region)
    | true =>
      simp only [cond_true] at h
      cases hok : (drawInfo P ops).ok with
      | false => rw [hok] at h; simp at h
      | true =>
        rw [hok] at h; simp only [cond_true] at h
        split at h
        · rename_i tr r hd
          obtain ⟨y, st1⟩ := r
          cases hcf : confOk ops tr (drawInfo P ops).conf (drawInfo P ops).made with
          | false => rw [hcf] at h; simp at h
          | true =>
            rw [hcf] at h; simp only [cond_true, Option.some.injEq, Prod.mk.injEq] at h; obtain ⟨rfl, rfl⟩ := h
            have := draw_ok (w1 := { w with drawn := w.drawn + 1 }) (fun j hj => h1 j (by omega)) hok hd hcf hs k hB (w.tape w.drawn (.order b.fn id)) rfl rfl rfl rfl
            refine this.steps (.one ?_)
            have hst := step_region_draw (P := P) (b := b) (a := a) (k := k) (cs := cs) (w := w) (ops := ops) (id := id)
            simp only [Region.schedule, hm, Bool.true_or, if_true] at hst
            exact hst
        · simp at h
  | seq c d =>
    simp only [codeA] at h
    split at h
    · rename_i st1 hc
      obtain ⟨ρ', e, a', cs', w', rfl, g2, g3, g4, g5, g6⟩ := h3 c st _ st1 hc ρ c₀ rest cs0 a cs w hs b (.code d :: k) hB
      exact (h3 d st1 x st' h ρ' c₀ rest cs0 a' cs' w' g2 b k (g5.base hB)).after g3 g4 g5 (.head step_seq g6)
    · rename_i hne
      refine ((h3 c st x st' h ρ c₀ rest cs0 a cs w hs b (.code d :: k) hB).pass rfl fun e => ?_).steps (.one step_seq)
      subst e; exact hne st' h
  | cond y c d =>
    simp only [codeA] at h
    split at h
    · rename_i t hy
      have hv := hs.tmps.ev (P := P) y _ hy
      simp only [VR] at hv
      have h' : codeA P orc n (if t then c else d) st = some (x, st') := by cases t <;> simpa using h
      exact (h3 _ st x st' h' ρ c₀ rest cs0 a cs w hs b k hB).steps (.one (step_cond hv))
    · simp at h
  | block id c =>
    simp only [codeA] at h
    split at h
    · rename_i i st1 hc
      simp only [Option.some.injEq, Prod.mk.injEq] at h; obtain ⟨rfl, rfl⟩ := h
      obtain ⟨ρ', e, a', cs', w', rfl, g2, g3, g4, g5, g6⟩ := h3 c st _ st1 hc ρ c₀ rest cs0 a cs w hs b (.inBlock id :: k) hB
      by_cases hid : i = id
      · rw [if_pos hid]
        exact ⟨ρ', .normal, a', cs', w', rfl, g2, g3, g4, g5, .head step_block (g6 k (by simp [exitTo, hid]))⟩
      · rw [if_neg hid]
        refine ⟨ρ', .exit i, a', cs', w', rfl, g2, g3, g4, g5, fun k' hk => .head step_block (g6 k' ?_)⟩
        have : (id == i) = false := by simp; exact fun h => hid h.symm
        simp [exitTo, this, hk]
    · rename_i hne
      obtain ⟨ρ', e, a', cs', w', g1, g2, g3, g4, g5, g6⟩ := h3 c st x st' h ρ c₀ rest cs0 a cs w hs b (.inBlock id :: k) hB
      cases x with
      | normal => simp only [XR] at g1; subst g1; exact ⟨ρ', .normal, a', cs', w', rfl, g2, g3, g4, g5, .head step_block (Steps.trans g6 (.one step_inBlock))⟩
      | exit i => exact absurd h (hne i st')
      | ret =>
        simp only [XR] at g1; subst g1
        obtain ⟨todo, g6⟩ := g6
        exact ⟨ρ', .ret, a', cs', w', rfl, g2, g3, g4, g5, todo, .head step_block g6⟩
      | pan v =>
        obtain ⟨u, g1, rfl⟩ := g1
        obtain ⟨todo, g6⟩ := g6
        exact ⟨ρ', _, a', cs', w', ⟨u, g1, rfl⟩, g2, g3, g4, g5, todo, .head step_block g6⟩
  | loop c => exact (h4 c st x st' h ρ c₀ rest cs0 a cs w hs b k hB).steps (.one step_loop)
  | exit id =>
    simp only [codeA, Option.some.injEq, Prod.mk.injEq] at h; obtain ⟨rfl, rfl⟩ := h
    exact ⟨ρ, .exit id, a, cs, w, rfl, hs, .refl _ _ _, rfl, .refl _, fun _ hk => .one (step_exit hk)⟩
  | ret =>
    simp only [codeA, Option.some.injEq, Prod.mk.injEq] at h; obtain ⟨rfl, rfl⟩ := h
    exact ⟨ρ, .ret, a, cs, w, rfl, hs, .refl _ _ _, rfl, .refl _, _, .one step_ret⟩
  | _ => simp [codeA] at h

def modeRc : Option AV → Rc
  | none => .idle
  | some v => .armed v

theorem leaveA_cons {n : Nat} {fn : Func} {tmps : Tr AV} {f : FuncId} {args : List AV} {ds : List (FuncId × List AV)} {mode : Option AV} {h : AH} :
    leaveA P orc (n + 1) fn tmps ((f, args) :: ds) mode h = match lateA P orc n f args (modeRc mode) h with
      | some (.done, h') => leaveA P orc n fn tmps ds none h'
      | some (_, h') => leaveA P orc n fn tmps ds mode h'
      | none => none := by
  cases mode <;> rfl

theorem leave_ok {n : Nat} (h1 : LateOk P orc n) (h2 : LeaveOk P orc n) : LeaveOk P orc (n + 1) := by
  intro fn tmps ds mode h r h' hl ρ w tm dfs u ht hd hh hm R hR
  cases ds with
  | nil =>
    simp only [DR] at hd; subst hd
    cases mode with
    | none =>
      simp only [leaveA, Option.map_eq_some_iff, Prod.mk.injEq] at hl
      obtain ⟨v, hv, rfl, rfl⟩ := hl
      simp only [ModeR] at hm; subst hm
      obtain ⟨y, hy, hrun⟩ := resultsA_ok hh ht hv
      exact ⟨y, hrun, hR _ _ ⟨ρ, hh, .refl _ _ _, y, rfl, hy⟩⟩
    | some v =>
      simp only [leaveA, Option.some.injEq, Prod.mk.injEq] at hl
      obtain ⟨rfl, rfl⟩ := hl
      obtain ⟨y, hy, rfl⟩ := hm
      exact hR _ _ ⟨ρ, hh, .refl _ _ _, y, rfl, hy⟩
  | cons d ds =>
    obtain ⟨f, args⟩ := d
    obtain ⟨as, cap, dfs', rfl, hlr, hd'⟩ := hd
    rw [leaveA_cons] at hl
    have hu : u ≠ .run := by
      cases mode with
      | none => simp only [ModeR] at hm; subst hm; simp
      | some v => obtain ⟨y, _, rfl⟩ := hm; simp
    have hrc : RcM ρ (modeRc mode) u := by
      cases mode with
      | none => exact hm
      | some v => exact hm
    have hboth : ∀ rc' h1', lateA P orc n f args (modeRc mode) h = some (rc', h1') →
        (∀ ρ' w' u', HR ρ' h1' w' → Frm ρ h w ρ' h1' w' → RcM ρ' rc' u' → RcK (modeRc mode) rc' → Leaves P fn tm R dfs' (settle u') w') →
        Leaves P fn tm R ({ target := .fn (.func f) ⟨cap⟩, args := ⟨as⟩ } :: dfs') u w := by
      intro rc' h1' hlt hk
      obtain ⟨hcall, hD⟩ := h1 f args _ h rc' h1' hlt ρ w (as ++ cap) u hlr hh hrc
      refine leaves_cons (f := f) (args := ⟨as ++ cap⟩) hu ?_ (hD.mono ?_)
      · simp only [invoke]
        have : (⟨as⟩ : Array Value) ++ ⟨cap⟩ = ⟨as ++ cap⟩ := by simp
        rw [this]; exact hcall
      · rintro e u' w' ⟨v, ρ', rfl, g1, g2, g3, g4⟩
        exact hk ρ' w' u' g1 g2 g3 g4
    split at hl
    · rename_i h1' hlt
      refine hboth _ _ hlt fun ρ' w' u' g1 g2 g3 g4 => ?_
      obtain ⟨y, rfl⟩ := g3
      refine h2 fn tmps ds none h1' r h' hl ρ' w' tm dfs' _ (ht.mono g2.le) (hd'.mono g2.le) g1 rfl R fun e w'' he => hR e w'' ?_
      obtain ⟨ρ2, k1, k2, k3⟩ := he
      exact ⟨ρ2, k1, g2.trans k2, k3⟩
    · rename_i rc' h1' hnd hlt
      refine hboth _ _ hlt fun ρ' w' u' g1 g2 g3 g4 => ?_
      have hrest : ModeR ρ' mode (settle u') := by
        rcases g4 with e | ⟨v, _, e⟩
        · subst e
          cases mode with
          | none => simp only [RcM] at g3; subst g3; rfl
          | some v => obtain ⟨y, hy, rfl⟩ := g3; exact ⟨y, hy, rfl⟩
        · exact absurd e hnd
      refine h2 fn tmps ds mode h1' r h' hl ρ' w' tm dfs' _ (ht.mono g2.le) (hd'.mono g2.le) g1 hrest R fun e w'' he => hR e w'' ?_
      obtain ⟨ρ2, k1, k2, k3⟩ := he
      exact ⟨ρ2, k1, g2.trans k2, k3⟩
    · simp at hl

theorem late_ok (hn : Named P) {n : Nat} (h1 : CodeOk P orc n) : LateOk P orc (n + 1) := by
  intro f args rc h rc' h' hl ρ w us u hlr hh hrc
  simp only [lateA] at hl
  split at hl
  · simp at hl
  · rename_i fn hf
    split at hl
    · simp at hl
    · rename_i c hb
      refine ⟨run_callFunc hn hf hb _ _, callsD_of_wpS hf hb fun c₀ cs hc₀ b k hkd hro => ?_⟩
      have hRc : RcR ρ c₀ cs [] rc (c₀ :: cs) := by
        have e : c₀ :: cs = { c₀ with mode := u } :: cs := by subst hc₀; rfl
        cases rc with
        | off => exact hrc.elim
        | idle => exact ⟨u, hrc, e⟩
        | armed v => exact ⟨u, hrc, e⟩
        | done => exact ⟨u, hrc, e⟩
      have hBase : Base rc b := by
        cases rc with
        | off => trivial
        | idle => exact ⟨hkd, hro⟩
        | armed v => exact ⟨hkd, hro⟩
        | done => exact ⟨hkd, hro⟩
      have hoff : rc ≠ .off := fun e => by subst e; exact hrc
      have key : ∀ (x : AX) (st : ASt), (x = .normal ∨ x = .ret) → codeA P orc n c { nt := fn.ntmps, tmps := initT 0 args .nil, defers := [], rc, heap := h } = some (x, st) → st.defers = [] → (∃ v, resultsA P fn st.tmps st.heap = some v) → st.rc = rc' → st.heap = h' →
          ∃ e a' cs' w', bodyPostS P fn c₀ cs (fun e u' w' => ∃ v ρ', e = .returned v ∧ HR ρ' h' w' ∧ Frm ρ h w ρ' h' w' ∧ RcM ρ' rc' u' ∧ RcK rc rc') e a' cs' w' ∧
            Arrives P (lone (b.at { tmps := (⟨us⟩ : Array Value) ++ Array.replicate (fn.ntmps - (⟨us⟩ : Array Value).size) undef, defers := [] } (.code c :: k)) (c₀ :: cs) w) b k cs' e a' w' := by
        rintro x st hx hc hd ⟨v, hv⟩ rfl rfl
        obtain ⟨ρ', e, a', cs', w', g1, g2, g3, g4, g5, g6⟩ := h1 c _ x st hc ρ c₀ cs [] _ (c₀ :: cs) w (SR.init hlr hh hRc fn.ntmps) b k hBase
        have hd' : a'.defers = [] := by have := g2.defers; rw [hd] at this; exact this
        obtain ⟨y, _, hrun⟩ := resultsA_ok g2.heap g2.tmps hv
        have hne : st.rc ≠ .off := fun e' => hoff ((g5.off).1 e')
        have hcs : ∃ u', RcM ρ' st.rc u' ∧ cs' = { c₀ with mode := u' } :: cs := by
          have := g2.rc
          cases hq : st.rc with
          | off => exact absurd hq hne
          | idle => rw [hq] at this; exact this
          | armed v => rw [hq] at this; exact this
          | done => rw [hq] at this; exact this
        obtain ⟨u', hu', rfl⟩ := hcs
        have hpost : a'.defers = [] ∧ ∃ u'', ({ c₀ with mode := u' } :: cs : List Frame) = { c₀ with mode := u'' } :: cs ∧ ∃ v, (results fn a'.tmps).run P w' = .ok v w' ∧ ∃ v' ρ', Ending.returned v = .returned v' ∧ HR ρ' st.heap w' ∧ Frm ρ h w ρ' st.heap w' ∧ RcM ρ' st.rc u'' ∧ RcK rc st.rc :=
          ⟨hd', u', rfl, y, hrun, y, ρ', rfl, g2.heap, g3, hu', g5⟩
        rcases hx with rfl | rfl
        · simp only [XR] at g1; subst g1; exact ⟨.normal, a', _, w', hpost, g6⟩
        · simp only [XR] at g1; subst g1; exact ⟨.ret, a', _, w', hpost, g6⟩
      split at hl
      · rename_i st hc
        split at hl
        · rename_i v hd hv
          simp only [Option.some.injEq, Prod.mk.injEq] at hl
          exact key .normal st (.inl rfl) hc hd ⟨_, hv⟩ hl.1 hl.2
        · simp at hl
      · rename_i st hc
        split at hl
        · rename_i v hd hv
          simp only [Option.some.injEq, Prod.mk.injEq] at hl
          exact key .ret st (.inr rfl) hc hd ⟨_, hv⟩ hl.1 hl.2
        · simp at hl
      · simp at hl

theorem call_ok (hn : Named P) (ho : OrcOk P orc) {n : Nat} (h1 : CodeOk P orc n) (h2 : LeaveOk P orc n) : CallOk P orc (n + 1) := by
  intro f l h r h' hl ρ w us hlr hh
  simp only [callA] at hl
  split at hl
  · rename_i g hg
    simp only [Option.map_eq_some_iff, Prod.mk.injEq] at hl
    obtain ⟨⟨v, h1'⟩, hgv, rfl, rfl⟩ := hl
    exact ho f g hg l h v h1' hgv ρ w us hlr hh
  · split at hl
    · simp at hl
    · rename_i fn hf
      split at hl
      · simp at hl
      · rename_i c hb
        refine .inl ⟨run_callFunc hn hf hb _ _, calls_of_wp_defers hf hb fun b k cs => ?_⟩
        have key : ∀ (x : AX) (st : ASt) (mode : Option AV), (mode = none ∧ (x = .normal ∨ x = .ret) ∨ ∃ v, mode = some v ∧ x = .pan v) → codeA P orc n c { nt := fn.ntmps, tmps := initT 0 l .nil, defers := [], rc := .off, heap := h } = some (x, st) →
            leaveA P orc n fn st.tmps st.defers mode st.heap = some (r, h') →
            ∃ e a' w', bodyPostD P fn (CallR ρ h w r h') e a' w' ∧ Arrives P (lone (b.at { tmps := (⟨us⟩ : Array Value) ++ Array.replicate (fn.ntmps - (⟨us⟩ : Array Value).size) undef, defers := [] } (.code c :: k)) cs w) b k cs e a' w' := by
          intro x st mode hx hc hlv
          obtain ⟨ρ', e, a', cs', w', g1, g2, g3, g4, g5, g6⟩ := h1 c _ x st hc ρ b [] cs _ cs w (SR.init hlr hh (rc := .off) rfl fn.ntmps) b k trivial
          have hoff : st.rc = .off := (g5.off).2 rfl
          have hcs : cs' = cs := by have := g2.rc; rw [hoff] at this; exact this
          subst hcs
          have hleave : ∀ u, ModeR ρ' mode u → Leaves P fn a'.tmps (CallR ρ h w r h') a'.defers u w' := fun u hu => h2 fn st.tmps st.defers mode st.heap r h' hlv ρ' w' a'.tmps a'.defers u g2.tmps g2.defers g2.heap hu _ fun e w'' he => by
            obtain ⟨ρ2, k1, k2, k3⟩ := he
            exact ⟨ρ2, k1, g3.trans k2, k3⟩
          rcases hx with ⟨rfl, rfl | rfl⟩ | ⟨v, rfl, rfl⟩
          · simp only [XR] at g1; subst g1; exact ⟨.normal, a', w', hleave .returning rfl, g6⟩
          · simp only [XR] at g1; subst g1; exact ⟨.ret, a', w', hleave .returning rfl, g6⟩
          · obtain ⟨y, hy, rfl⟩ := g1
            exact ⟨.panic _, a', w', hleave _ ⟨y, hy, rfl⟩, g6⟩
        split at hl
        · rename_i st hc; exact key _ st none (.inl ⟨rfl, .inl rfl⟩) hc hl
        · rename_i st hc; exact key _ st none (.inl ⟨rfl, .inr rfl⟩) hc hl
        · rename_i v st hc; exact key _ st (some v) (.inr ⟨v, rfl, rfl⟩) hc hl
        · simp at hl

/-- THE ABSTRACT MACHINE IS SOUND. -/
theorem all_ok (hm : P.follows .mixedOrders = true) (hn : Named P) (ho : OrcOk P orc) : ∀ n, (∀ j, j ≤ n → OneOk P orc j) ∧ OpsOk P orc n ∧ CodeOk P orc n ∧ LoopOk P orc n ∧ CallOk P orc n ∧ LeaveOk P orc n ∧ LateOk P orc n
  | 0 => by
    refine ⟨fun j hj => ?_, fun _ _ _ _ _ h => ?_, fun _ _ _ _ h => ?_, fun _ _ _ _ h => ?_, fun _ _ _ _ _ h => ?_, fun _ _ _ _ _ _ _ h => ?_, fun _ _ _ _ _ _ h => ?_⟩
    · have : j = 0 := by omega
      subst this; intro o st x st' h; simp [oneA] at h
    all_goals simp [opsA, codeA, callA, leaveA, lateA] at h
  | n + 1 => by
    obtain ⟨h1, h2, h3, h4, h5, h6, h7⟩ := all_ok hm hn ho n
    have hloop := loop_ok h3 h4
    refine ⟨fun j hj => ?_, ops_ok (h1 n (Nat.le_refl _)) h2, code_ok hm h1 h2 h3 hloop, hloop, call_ok hn ho h3 h6, leave_ok h7 h6, late_ok hn h3⟩
    rcases Nat.lt_or_ge j (n + 1) with e | e
    · exact h1 j (by omega)
    · have : j = n + 1 := by omega
      subst this; exact oneA_ok h5

/-- What a run of the abstract machine says of a call. -/
theorem call_sound (hm : P.follows .mixedOrders = true) (hn : Named P) (ho : OrcOk P orc) {n : Nat} {f : FuncId} {l : List AV} {h h' : AH} {r : CR} (hr : callA P orc n f l h = some (r, h')) {ρ : Ren} {w : World} {us : List Value}
    (hl : LR ρ l us) (hh : HR ρ h w) : CallSpec P f ⟨us⟩ w (CallR ρ h w r h') := (all_ok hm hn ho n).2.2.2.2.1 f l h r h' hr ρ w us hl hh

end
end Go.Am

namespace Go.Am
open Go Go.RowKit

section
variable {P : Program} {orc : Orc}

/-- Nothing of the heap may be written. -/
def AH.still (h : AH) : Prop := ∀ i o, h.get i = some o → o.wr = false

theorem AH.empty_get (i : Nat) : AH.empty.get i = none := by simp [AH.get, AH.empty, Tr.get]

theorem AH.empty_still : AH.empty.still := fun i o h => by rw [AH.empty_get] at h; simp at h

theorem HR.empty (w : World) : HR (fun _ => Option.none) AH.empty w :=
  ⟨fun i x h => by simp at h, fun i o h => by rw [AH.empty_get] at h; simp at h, fun i o h => by rw [AH.empty_get] at h; simp at h, fun i j oi oj x y h => by rw [AH.empty_get] at h; simp at h⟩

theorem entry (hm : P.follows .mixedOrders = true) (hn : Named P) (ho : OrcOk P orc) {n : Nat} {f : FuncId} {fn : Func} {c : Code} (hf : P.funcs[f]? = some fn) (hb : fn.body = some c) {l : List AV} {h h' : AH} {v : AV}
    (hr : callA P orc n f l h = some (.ret v, h')) (hs : h.still) {ρ : Ren} {w : World} {us : List Value} (hl : LR ρ l us) (hh : HR ρ h w) :
    Calls P f ⟨us⟩ w fun e w' => (∃ u ρ', e = .returned u ∧ VR ρ' v u) ∧ Below w.heap.size w w' := by
  have hfin : ∀ {e w'}, CallR ρ h w (.ret v) h' e w' → (∃ u ρ', e = .returned u ∧ VR ρ' v u) ∧ Below w.heap.size w w' := by
    rintro e w' ⟨ρ', _, hfr, u, rfl, hv⟩
    refine ⟨⟨u, ρ', rfl, hv⟩, hfr.os, hfr.tape, hfr.output, hfr.size, fun k hk => hfr.block k hk ?_⟩
    rintro ⟨i, o, x, hg, hw, _, _⟩
    rw [hs i o hg] at hw; simp at hw
  rcases call_sound hm hn ho hr hl hh with ⟨_, hc⟩ | ⟨u, w', hrun, _⟩
  · exact hc.mono fun e w' he => hfin he
  · rw [run_callFunc hn hf hb] at hrun; simp at hrun

/-- A law of integers, bools and strings. -/
theorem entry_true (hm : P.follows .mixedOrders = true) (hn : Named P) (ho : OrcOk P orc) {n : Nat} {f : FuncId} {fn : Func} {c : Code} (hf : P.funcs[f]? = some fn) (hb : fn.body = some c) {l : List AV} {h' : AH}
    (hr : callA P orc n f l AH.empty = some (.ret (.bool true), h')) {us : List Value} (hl : LR (fun _ => Option.none) l us) (w : World) :
    Calls P f ⟨us⟩ w fun e w' => e = .returned (.bool true) ∧ Below w.heap.size w w' := by
  refine (entry hm hn ho hf hb hr AH.empty_still hl (HR.empty w)).mono ?_
  rintro e w' ⟨⟨u, ρ', rfl, hv⟩, hbl⟩
  simp only [VR] at hv; subst hv
  exact ⟨rfl, hbl⟩

end
end Go.Am
