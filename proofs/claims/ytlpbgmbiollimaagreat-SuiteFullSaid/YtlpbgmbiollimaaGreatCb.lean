/-
  The law of the full suite answers true, in the abstract machine.
  Conditions: the numbers are of their kinds.
-/
import Derived.Test.YtlpbgmbiollimaaGreatCa
set_option linter.unusedVariables false
set_option linter.unusedSimpArgs false
namespace Go.Proofs.YtlpbgmbiollimaaGreat
open Go Go.Am _root_.Go.Proofs.Tryz

variable {h : AH} {Q : AV → AH → Prop}
variable {p : Nat} {es : List (AV × AV × Nat)} {clk : Nat} {xs : List AV} {m : Nat} {v : AV}

/-- All but results stays. -/
structure Tw (h h' : AH) : Prop where
  wf : Wf h'
  next : h.next ≤ h'.next
  get : ∀ i o, h.get i = some o → (∀ cs ro, o ≠ .cells cs 36 ro) → h'.get i = some o

theorem Ex.tw {h h' : AH} (e : Ex h h') (w : Wf h) : Tw h h' := ⟨e.wf, e.next, fun i o g _ => e.get w g⟩
theorem Tw.trans {h h1 h2 : AH} (a : Tw h h1) (b : Tw h1 h2) : Tw h h2 := ⟨b.wf, Nat.le_trans a.next b.next, fun i o g n => b.get i o (a.get i o g n) n⟩
theorem Tw.set {h : AH} (w : Wf h) {i : Nat} {cs cs' : List AV} (g : h.get i = some (.cells cs 36 false)) : Tw h (h.set i (.cells cs' 36 false)) :=
  ⟨w.set (w.lt g), Nat.le_refl _, fun j o e n => by
    by_cases hj : i = j
    · subst hj; rw [g] at e; injection e with e; exact absurd e.symm (n _ _)
    · rw [get_set_ne hj]; exact e⟩

/-- A statement on a heap that stays true where only results change. -/
def Stable (S : AH → Prop) : Prop := ∀ h h', S h → Tw h h' → S h'

theorem Su.tw {p : Nat} {es : List (AV × AV × Nat)} {clk : Nat} {xs : List AV} {m : Nat} {v : AV} {h : AH} (s : Su p es clk xs h m v) {h' : AH} (e : Tw h h') : Su p es clk xs h' m v :=
  ⟨e.wf, e.get _ _ s.su (by simp), e.get _ _ s.mp (by simp), by
    rcases s.sx with ⟨a, b⟩ | ⟨a, i, b, c⟩
    · exact .inl ⟨a, b⟩
    · exact .inr ⟨a, i, b, e.get _ _ c (by simp)⟩, s.pt⟩

theorem doL_get {kind : Nat} (h : kind ≤ 11) : ∃ g, doL[kind]? = some g := ⟨_, List.getElem?_eq_getElem (by simp [doL]; omega)⟩

theorem do_gen (s : Su p es clk xs h m v) {kind : Nat} {hd e : Int} {sp : List AV} (hs : sp.length = 7) (hso : ones sp = true) (hk1 : 1 ≤ kind) (hk2 : kind ≤ 11) {g : FuncId} (hg : doL[kind]? = some (fnV g)) {t28 : AV} {ok : Bool}
    (hfind : ∀ h1 (Q : AV → AH → Prop), Su p es clk xs h1 m v → Q (.tuple [t28, .bool ok]) h1 → W (C 10 [.ptr (some (p, 0)), .int .u32 hd]) h1 Q)
    (hal : ok = true ∨ aloneL[kind]? = some (.bool true)) (S' : AH → Prop) (hS : Stable S')
    (hc : ∀ h1 (Q : AV → AH → Prop), Su p es clk xs h1 m v → (∀ h', S' h' → Wf h' → Kp h1 h' → Q (resErr e) h') → W (C g [.ptr (some (p, 0)), t28, .agg (actL kind hd sp)]) h1 Q)
    (q : ∀ h', S' h' → Wf h' → Kp h h' → Q (resErr e) h') : W (C 6 [.ptr (some (p, 0)), .agg (actL kind hd sp)]) h Q := by
  apply w6
  unfold s6
  have wf := s.wf
  have hone : ones (AV.agg (actL kind hd sp)).cells = true := by simp [actL, hso, Am.ones] at hso ⊢; exact hso
  have hlen : (AV.agg (actL kind hd sp)).cells.length = 19 := by simp [actL, hs]
  simp only [↓ww]
  rw [W_bx]
  refine ⟨hone, ?_⟩
  simp only [↓ww]
  generalize hAe : (h.add (.cells (AV.agg (actL kind hd sp)).cells 40 false)).add
    (.cells [.int .i64 0, .int .i64 0, .bool false, .int .u64 0, .int .u64 0, .int .u64 0, .int .u64 0, .slice none 0 0 0] 36 false) = hA
  simp only [AH.next_add]
  have eA : Ex h hA := by rw [← hAe]; exact ((Ex.refl wf).add _).add _
  have gA : hA.get (h.next + 1) = some (.cells [.int .i64 0, .int .i64 0, .bool false, .int .u64 0, .int .u64 0, .int .u64 0, .int .u64 0, .slice none 0 0 0] 36 false) := by rw [← hAe]; simp (disch := ((try simp only [AH.next_add, AH.next_set]); omega)) [fillL, W_nw, W_ld_eq, W_st_eq, W_ldN_eq, W_bx, W_mkM, get_set_ne, get_add_ne, get_add_at, get_set_at, List.getElem?_cons_zero, List.getElem?_cons_succ]
  have gB : hA.get h.next = some (.cells (AV.agg (actL kind hd sp)).cells 40 false) := by rw [← hAe]; simp (disch := ((try simp only [AH.next_add, AH.next_set]); omega)) [fillL, W_nw, W_ld_eq, W_st_eq, W_ldN_eq, W_bx, W_mkM, get_set_ne, get_add_ne, get_add_at, get_set_at, List.getElem?_cons_zero, List.getElem?_cons_succ]
  have g0 : (AV.agg (actL kind hd sp)).cells[0]? = some (.int .u8 kind) := rfl
  have g1 : (AV.agg (actL kind hd sp)).cells[1]? = some (.int .u32 hd) := rfl
  rw [W_ld_eq, gB]
  simp only [ldQ_cells, Nat.zero_add, g0, cellQ_some]
  simp only [↓ww]
  rw [decide_eq_false (show ¬ ((kind : Int) < 1) by omega)]
  simp only [↓ww]
  rw [W_ld_eq, gB]
  simp only [ldQ_cells, Nat.zero_add, g0, cellQ_some]
  simp only [↓ww]
  rw [decide_eq_false (show ¬ (11 < (kind : Int)) by omega)]
  simp only [↓ww]
  refine acts eA.wf fun h2 e2 => ?_
  have s2 := (s.ex eA).ex e2
  have gA2 := e2.get eA.wf gA
  have gB2 := e2.get eA.wf gB
  have n2 := e2.wf.lt gA2
  simp only [↓ww]
  generalize hBe : (h2.add (.cells (List.replicate 12 .nilFunc) 51 false)).add (.cells (List.replicate 12 (.bool false)) 52 false) = hB
  simp only [AH.next_add]
  have eB : Ex h2 hB := by rw [← hBe]; exact ((Ex.refl e2.wf).add _).add _
  have b1 : hB.get h2.next = some (.cells (List.replicate 12 .nilFunc) 51 false) := by rw [← hBe]; simp (disch := ((try simp only [AH.next_add, AH.next_set]); omega)) [fillL, W_nw, W_ld_eq, W_st_eq, W_ldN_eq, W_bx, W_mkM, get_set_ne, get_add_ne, get_add_at, get_set_at, List.getElem?_cons_zero, List.getElem?_cons_succ]
  have b2 : hB.get (h2.next + 1) = some (.cells (List.replicate 12 (.bool false)) 52 false) := by rw [← hBe]; simp (disch := ((try simp only [AH.next_add, AH.next_set]); omega)) [fillL, W_nw, W_ld_eq, W_st_eq, W_ldN_eq, W_bx, W_mkM, get_set_ne, get_add_ne, get_add_at, get_set_at, List.getElem?_cons_zero, List.getElem?_cons_succ]
  have lb := eB.wf.lt b2
  rw [W_st_eq, b1]
  simp only [stQ_cells, cells_agg]
  refine ⟨rfl, by simp, rfl, ?_⟩
  rw [putCells_all (by rfl)]
  rw [W_st_eq, get_set_ne (by omega), b2]
  simp only [stQ_cells, cells_agg]
  refine ⟨rfl, by simp, rfl, ?_⟩
  rw [putCells_all (by rfl)]
  generalize hDe : (hB.set h2.next (.cells doL 51 false)).set (h2.next + 1) (.cells aloneL 52 false) = hD
  have eD : Ex h2 hD := by rw [← hDe]; exact (eB.set _ (Nat.le_refl _) (by omega)).set _ (by omega) (by simpa using lb)
  have d1 : hD.get h2.next = some (.cells doL 51 false) := by rw [← hDe]; simp (disch := ((try simp only [AH.next_add, AH.next_set]); omega)) [fillL, W_nw, W_ld_eq, W_st_eq, W_ldN_eq, W_bx, W_mkM, get_set_ne, get_add_ne, get_add_at, get_set_at, List.getElem?_cons_zero, List.getElem?_cons_succ]
  have d2 : hD.get (h2.next + 1) = some (.cells aloneL 52 false) := by rw [← hDe]; simp (disch := ((try simp only [AH.next_add, AH.next_set]); omega)) [fillL, W_nw, W_ld_eq, W_st_eq, W_ldN_eq, W_bx, W_mkM, get_set_ne, get_add_ne, get_add_at, get_set_at, List.getElem?_cons_zero, List.getElem?_cons_succ]
  have s3 := s2.ex eD
  have gA3 := eD.get e2.wf gA2
  have gB3 := eD.get e2.wf gB2
  rw [W_ld_eq, gB3]
  simp only [ldQ_cells, Nat.zero_add, g1, cellQ_some]
  refine hfind hD _ s3 ?_
  simp only [↓ww]
  have hkl : (kind : Int).toNat = kind := by simp
  -- behind the look at whether the sketch must be there
  have fin : W (lt (fldA 0 (.ptr (some (h.next, 0)))) fun t40 =>
      bq (ld t40) fun t41 =>
      lt (ixR 12 1 (.ptr (some (h2.next, 0))) t41) fun t42 =>
      bq (ld t42) fun t43 =>
      bq (ldN 19 (.ptr (some (h.next, 0)))) fun t46 =>
      bq (V t43 [.ptr (some (p, 0)), t28, t46]) fun t47 =>
      gh fun u_6 => bq (nw [(.int .i64 0), (.int .i64 0), (.bool false), (.int .u64 0), (.int .u64 0), (.int .u64 0), (.int .u64 0), (.slice none 0 0 0)] 36) fun t9 =>
      gh fun u_7 =>
      bq (st 8 t9 t47) fun u_8 =>
      chk (mf true (rdP t40) u_6) (chk (mf true (rdP t42) u_6) (chk (mf true (rdP (.ptr (some (h.next, 0)))) u_6) (lt (fldA 0 t9) fun t48 =>
      bd (ld t48) fun t49 =>
      lt (eqI true t49 (.int .i64 0)) fun t50 =>
      cn t50 (lt (fldA 0 t9) fun t51 =>
      bd (ld t51) fun t52 =>
      bd (C 8 [t52]) fun t53 =>
      bd (st 8 (.ptr (some (h.next + 1, 0))) t53) fun u_9 =>
      bd (ldN 8 (.ptr (some (h.next + 1, 0)))) fun u_10 => rt u_10) (
      bd (ldN 8 t9) fun t54 =>
      bd (st 8 (.ptr (some (h.next + 1, 0))) t54) fun u_11 =>
      bd (ldN 8 (.ptr (some (h.next + 1, 0)))) fun u_12 => rt u_12))))) hD Q := by
    simp only [↓ww]
    rw [W_ld_eq, gB3]
    simp only [ldQ_cells, Nat.zero_add, g0, cellQ_some]
    simp (disch := omega) only [↓ww]
    rw [W_ld_eq, d1]
    simp only [ldQ_cells, Nat.zero_add, hkl, Nat.mul_one, hg, cellQ_some]
    rw [W_ldN_eq, gB3]
    simp only [ldNQ_cells]
    refine ⟨by omega, ?_⟩
    have htake : List.take 19 (List.drop 0 (AV.agg (actL kind hd sp)).cells) = actL kind hd sp := by rw [List.drop_zero, ← hlen, List.take_length]; rfl
    rw [htake]
    show W (V (fnV g) _) _ _
    rw [fnV, V_func, List.nil_append, List.append_nil]
    refine hc hD _ s3 fun h4 S4 w4 k4 => ?_
    try simp only [↓ww]
    have n4 := k4.next
    have gA4 := k4.get _ _ _ _ gA3 (by decide) (by decide)
    have l4 := w4.lt gA4
    have nD := eD.next
    have l3 := s3.wf.lt d2
    have k04 : Kp h h4 := ((eA.kp wf).trans (e2.kp eA.wf)).trans ((eD.kp e2.wf).trans k4)
    generalize hEe : h4.add (.cells [.int .i64 0, .int .i64 0, .bool false, .int .u64 0, .int .u64 0, .int .u64 0, .int .u64 0, .slice none 0 0 0] 36 false) = hE
    have e1 : hE.get h4.next = some (.cells [.int .i64 0, .int .i64 0, .bool false, .int .u64 0, .int .u64 0, .int .u64 0, .int .u64 0, .slice none 0 0 0] 36 false) := by rw [← hEe]; exact get_add_eq
    have eE : Ex h4 hE := by rw [← hEe]; exact (Ex.refl w4).add _
    have l5 := eE.wf.lt e1
    rw [W_st_eq, e1]
    simp only [stQ_cells, resErr, cells_agg]
    refine ⟨rfl, by simp, rfl, ?_⟩
    rw [putCells_all (by rfl)]
    generalize hGe : hE.set h4.next (.cells [.int .i64 e, .int .i64 0, .bool false, .int .u64 0, .int .u64 0, .int .u64 0, .int .u64 0, .slice none 0 0 0] 36 false) = hG
    have eG : Ex h4 hG := by rw [← hGe]; exact eE.set _ (Nat.le_refl _) l5
    have e2' : hG.get h4.next = some (.cells [.int .i64 e, .int .i64 0, .bool false, .int .u64 0, .int .u64 0, .int .u64 0, .int .u64 0, .slice none 0 0 0] 36 false) := by rw [← hGe]; exact get_set_eq
    have gA6 := eG.get w4 gA4
    have hm1 : mf true (some h.next) h4 = true := mf_lt (by omega)
    have hm2 : mf true (some h2.next) h4 = true := mf_lt (by omega)
    simp only [rdP_ptr, hm1, hm2, ↓ww]
    rw [W_ld_eq, e2']
    simp only [ldQ_cells, Nat.zero_add, List.getElem?_cons_zero, cellQ_some]
    simp only [↓ww]
    have last : ∀ (h6 : AH), Ex h4 h6 → h6.get (h.next + 1) = some (.cells [.int .i64 0, .int .i64 0, .bool false, .int .u64 0, .int .u64 0, .int .u64 0, .int .u64 0, .slice none 0 0 0] 36 false) →
        W (st 8 (.ptr (some (h.next + 1, 0))) (.agg [.int .i64 e, .int .i64 0, .bool false, .int .u64 0, .int .u64 0, .int .u64 0, .int .u64 0, .slice none 0 0 0])) h6 fun a h' => W (ldN 8 (.ptr (some (h.next + 1, 0)))) h' fun a h' => Q a h' := by
      intro h6 e6 g6
      rw [W_st_eq, g6]
      simp only [stQ_cells, cells_agg]
      refine ⟨rfl, by simp, rfl, ?_⟩
      rw [putCells_all (by rfl), W_ldN_eq, get_set_eq]
      simp only [ldNQ_cells]
      refine ⟨by simp, ?_⟩
      have l6 := e6.wf.lt g6
      refine q _ (hS h6 _ (hS h4 h6 S4 (e6.tw w4)) (Tw.set e6.wf g6)) (e6.wf.set l6) ?_
      have k06 := k04.trans (e6.kp w4)
      refine ⟨k06.next, fun i cs t ro g n1 n2 => ?_⟩
      have := wf.lt g
      rw [get_set_ne (by omega)]
      exact k06.get i cs t ro g n1 n2
    refine W_ite (fun hne => ?_) (fun hne => ?_)
    · simp only [↓ww]
      rw [W_ld_eq, e2']
      simp only [ldQ_cells, Nat.zero_add, List.getElem?_cons_zero, cellQ_some]
      refine fail eG.wf fun h7 e7 => ?_
      simp only [resErr]
      exact last h7 (eG.trans e7) (e7.get eG.wf gA6)
    · simp only [↓ww]
      rw [W_ldN_eq, e2']
      simp only [ldNQ_cells]
      refine ⟨by simp, ?_⟩
      exact last hG eG gA6
  cases ok with
  | true =>
    simp only [↓ww, Bool.not_true]
    simp only [↓ww] at fin
    exact fin
  | false =>
    have hal' : aloneL[kind]? = some (.bool true) := by rcases hal with h | h; exact absurd h (by simp); exact h
    simp only [↓ww, Bool.not_false]
    rw [W_ld_eq, gB3]
    simp only [ldQ_cells, Nat.zero_add, g0, cellQ_some]
    simp (disch := omega) only [↓ww]
    rw [W_ld_eq, d2]
    simp only [ldQ_cells, Nat.zero_add, hkl, Nat.mul_one, hal', cellQ_some]
    simp only [↓ww, Bool.not_true]
    simp only [↓ww] at fin
    exact fin

/-- An act that wants a sketch, where there is none. -/
theorem do_none (s : Su p es clk xs h m v) {kind : Nat} {hd : Int} {sp : List AV} (hs : sp.length = 7) (hso : ones sp = true) (hk1 : 1 ≤ kind) (hk2 : kind ≤ 11) (hf : findA prog 38 (.int .u32 hd) es 0 = some none)
    (hal : aloneL[kind]? = some (.bool false)) (q : ∀ h', Su p es clk xs h' m v → Kp h h' → Q (resErr 2) h') : W (C 6 [.ptr (some (p, 0)), .agg (actL kind hd sp)]) h Q := by
  apply w6
  unfold s6
  have wf := s.wf
  have hone : ones (AV.agg (actL kind hd sp)).cells = true := by simp [actL, hso, Am.ones] at hso ⊢; exact hso
  simp only [↓ww]
  rw [W_bx]
  refine ⟨hone, ?_⟩
  simp only [↓ww]
  generalize hAe : (h.add (.cells (AV.agg (actL kind hd sp)).cells 40 false)).add
    (.cells [.int .i64 0, .int .i64 0, .bool false, .int .u64 0, .int .u64 0, .int .u64 0, .int .u64 0, .slice none 0 0 0] 36 false) = hA
  simp only [AH.next_add]
  have eA : Ex h hA := by rw [← hAe]; exact ((Ex.refl wf).add _).add _
  have gA : hA.get (h.next + 1) = some (.cells [.int .i64 0, .int .i64 0, .bool false, .int .u64 0, .int .u64 0, .int .u64 0, .int .u64 0, .slice none 0 0 0] 36 false) := by rw [← hAe]; simp (disch := ((try simp only [AH.next_add, AH.next_set]); omega)) [fillL, W_nw, W_ld_eq, W_st_eq, W_ldN_eq, W_bx, W_mkM, get_set_ne, get_add_ne, get_add_at, get_set_at, List.getElem?_cons_zero, List.getElem?_cons_succ]
  have gB : hA.get h.next = some (.cells (AV.agg (actL kind hd sp)).cells 40 false) := by rw [← hAe]; simp (disch := ((try simp only [AH.next_add, AH.next_set]); omega)) [fillL, W_nw, W_ld_eq, W_st_eq, W_ldN_eq, W_bx, W_mkM, get_set_ne, get_add_ne, get_add_at, get_set_at, List.getElem?_cons_zero, List.getElem?_cons_succ]
  have g0 : (AV.agg (actL kind hd sp)).cells[0]? = some (.int .u8 kind) := rfl
  have g1 : (AV.agg (actL kind hd sp)).cells[1]? = some (.int .u32 hd) := rfl
  rw [W_ld_eq, gB]
  simp only [ldQ_cells, Nat.zero_add, g0, cellQ_some]
  simp only [↓ww]
  rw [decide_eq_false (show ¬ ((kind : Int) < 1) by omega)]
  simp only [↓ww]
  rw [W_ld_eq, gB]
  simp only [ldQ_cells, Nat.zero_add, g0, cellQ_some]
  simp only [↓ww]
  rw [decide_eq_false (show ¬ (11 < (kind : Int)) by omega)]
  simp only [↓ww]
  refine acts eA.wf fun h2 e2 => ?_
  have s2 := (s.ex eA).ex e2
  have gA2 := e2.get eA.wf gA
  have gB2 := e2.get eA.wf gB
  have n2 := e2.wf.lt gA2
  simp only [↓ww]
  generalize hBe : (h2.add (.cells (List.replicate 12 .nilFunc) 51 false)).add (.cells (List.replicate 12 (.bool false)) 52 false) = hB
  simp only [AH.next_add]
  have eB : Ex h2 hB := by rw [← hBe]; exact ((Ex.refl e2.wf).add _).add _
  have b1 : hB.get h2.next = some (.cells (List.replicate 12 .nilFunc) 51 false) := by rw [← hBe]; simp (disch := ((try simp only [AH.next_add, AH.next_set]); omega)) [fillL, W_nw, W_ld_eq, W_st_eq, W_ldN_eq, W_bx, W_mkM, get_set_ne, get_add_ne, get_add_at, get_set_at, List.getElem?_cons_zero, List.getElem?_cons_succ]
  have b2 : hB.get (h2.next + 1) = some (.cells (List.replicate 12 (.bool false)) 52 false) := by rw [← hBe]; simp (disch := ((try simp only [AH.next_add, AH.next_set]); omega)) [fillL, W_nw, W_ld_eq, W_st_eq, W_ldN_eq, W_bx, W_mkM, get_set_ne, get_add_ne, get_add_at, get_set_at, List.getElem?_cons_zero, List.getElem?_cons_succ]
  have lb := eB.wf.lt b2
  rw [W_st_eq, b1]
  simp only [stQ_cells, cells_agg]
  refine ⟨rfl, by simp, rfl, ?_⟩
  rw [putCells_all (by rfl)]
  rw [W_st_eq, get_set_ne (by omega), b2]
  simp only [stQ_cells, cells_agg]
  refine ⟨rfl, by simp, rfl, ?_⟩
  rw [putCells_all (by rfl)]
  generalize hDe : (hB.set h2.next (.cells doL 51 false)).set (h2.next + 1) (.cells aloneL 52 false) = hD
  have eD : Ex h2 hD := by rw [← hDe]; exact (eB.set _ (Nat.le_refl _) (by omega)).set _ (by omega) (by simpa using lb)
  have d2 : hD.get (h2.next + 1) = some (.cells aloneL 52 false) := by rw [← hDe]; simp (disch := ((try simp only [AH.next_add, AH.next_set]); omega)) [fillL, W_nw, W_ld_eq, W_st_eq, W_ldN_eq, W_bx, W_mkM, get_set_ne, get_add_ne, get_add_at, get_set_at, List.getElem?_cons_zero, List.getElem?_cons_succ]
  have s3 := s2.ex eD
  have gA3 := eD.get e2.wf gA2
  have gB3 := eD.get e2.wf gB2
  rw [W_ld_eq, gB3]
  simp only [ldQ_cells, Nat.zero_add, g1, cellQ_some]
  refine find_none s3 hf ?_
  simp only [↓ww, Bool.not_false]
  have hkl : (kind : Int).toNat = kind := by simp
  rw [W_ld_eq, gB3]
  simp only [ldQ_cells, Nat.zero_add, g0, cellQ_some]
  simp (disch := omega) only [↓ww]
  rw [W_ld_eq, d2]
  simp only [ldQ_cells, Nat.zero_add, hkl, Nat.mul_one, hal, cellQ_some]
  simp only [↓ww, Bool.not_false]
  refine fail s3.wf fun h7 e7 => ?_
  have g7 := e7.get s3.wf gA3
  rw [W_st_eq, g7]
  simp only [stQ_cells, cells_agg, resErr]
  refine ⟨rfl, by simp, rfl, ?_⟩
  rw [putCells_all (by rfl), W_ldN_eq, get_set_eq]
  simp only [ldNQ_cells]
  refine ⟨by simp, ?_⟩
  have l7 := e7.wf.lt g7
  refine q _ ((s3.ex e7).tw (Tw.set e7.wf g7)) ?_
  have k07 : Kp h h7 := ((eA.kp wf).trans (e2.kp eA.wf)).trans ((eD.kp e2.wf).trans (e7.kp s3.wf))
  refine ⟨k07.next, fun i cs t ro g n1 n2 => ?_⟩
  have := wf.lt g
  rw [get_set_ne (by omega)]
  exact k07.get i cs t ro g n1 n2

end Go.Proofs.YtlpbgmbiollimaaGreat

namespace Go.Proofs.YtlpbgmbiollimaaGreat
open Go Go.Am _root_.Go.Proofs.Tryz

/-! ### Looking for a handle -/

theorem findA_cons {hd k : Int} {v : AV} {b : Nat} {es : List (AV × AV × Nat)} {i : Nat} :
    findA prog 38 (.int .u32 hd) ((.int .u32 k, v, b) :: es) i = if hd = k then some (some (i, v, b)) else findA prog 38 (.int .u32 hd) es (i + 1) := by
  have hk : keyEq prog 38 (.int .u32 hd) (.int .u32 k) = some (hd == k) := by
    have hu := underlying38
    simp [keyEq, hu]
  rw [findA, hk]
  by_cases h : hd = k
  · subst h; simp
  · rw [if_neg h]
    have : (hd == k) = false := by simpa using h
    rw [this]

theorem findA_none {hd : Int} : ∀ (es : List (AV × AV × Nat)) (i : Nat), (∀ e ∈ es, ∃ k, e.1 = AV.int .u32 k ∧ k ≠ hd) → findA prog 38 (.int .u32 hd) es i = some none
  | [], i, _ => rfl
  | (k, v, b) :: es, i, h => by
    obtain ⟨k', hk, hne⟩ := h _ (List.mem_cons_self ..)
    simp only [] at hk
    subst hk
    rw [findA_cons, if_neg (fun e => hne e.symm)]
    exact findA_none es (i + 1) fun e he => h e (List.mem_cons_of_mem _ he)

theorem findA_at {hd : Int} {v : AV} {b : Nat} {es : List (AV × AV × Nat)} : ∀ (l : List (AV × AV × Nat)) (i : Nat), (∀ e ∈ l, ∃ k, e.1 = AV.int .u32 k ∧ k ≠ hd) →
    findA prog 38 (.int .u32 hd) (l ++ (.int .u32 hd, v, b) :: es) i = some (some (i + l.length, v, b))
  | [], i, _ => by rw [List.nil_append, findA_cons, if_pos rfl]; rfl
  | (k, v', b') :: l, i, h => by
    obtain ⟨k', hk, hne⟩ := h _ (List.mem_cons_self ..)
    simp only [] at hk
    subst hk
    rw [List.cons_append, findA_cons, if_neg (fun e => hne e.symm), findA_at l (i + 1) fun e he => h e (List.mem_cons_of_mem _ he)]
    simp; omega

/-- The entries of handles 0, 7, 14, .. -/
def ent (j : Nat) : AV × AV × Nat := (.int .u32 (7 * j : Nat), .int .i64 j, j)
def ents (c : Nat) : List (AV × AV × Nat) := (List.range c).map ent

theorem ents_succ (c : Nat) : ents (c + 1) = ents c ++ [ent c] := by simp [ents, List.range_succ]
@[simp] theorem ents_length (c : Nat) : (ents c).length = c := by simp [ents]
theorem ents_mem {c : Nat} {e : AV × AV × Nat} (h : e ∈ ents c) : ∃ j, j < c ∧ e = ent j := by
  simp only [ents, List.mem_map, List.mem_range] at h
  obtain ⟨j, h1, h2⟩ := h
  exact ⟨j, h1, h2.symm⟩

theorem find_ents_none {c : Nat} {hd : Int} (h : ∀ j, j < c → hd ≠ (7 * j : Nat)) : findA prog 38 (.int .u32 hd) (ents c) 0 = some none :=
  findA_none _ _ fun e he => by
    obtain ⟨j, h1, rfl⟩ := ents_mem he
    exact ⟨_, rfl, fun q => h j h1 q.symm⟩

theorem ents_split (d r : Nat) : ents (d + (r + 1)) = ents d ++ ent d :: (List.range' (d + 1) r).map ent := by
  have : List.range (d + (r + 1)) = List.range d ++ d :: List.range' (d + 1) r := by
    rw [List.range_eq_range', List.range_eq_range', ← List.range'_append_1, Nat.zero_add, List.range'_succ]
  simp only [ents]
  rw [this]
  simp

theorem find_ents_at {c d : Nat} (h : d < c) : findA prog 38 (.int .u32 (7 * d : Nat)) (ents c) 0 = some (some (d, .int .i64 d, d)) := by
  obtain ⟨r, rfl⟩ : ∃ r, c = d + (r + 1) := ⟨c - d - 1, by omega⟩
  rw [ents_split, ent, findA_at (ents d) 0 fun e he => by
    obtain ⟨j, h1, rfl⟩ := ents_mem he
    exact ⟨_, rfl, by omega⟩]
  simp

theorem bornOk_of {clk : Nat} : ∀ (es : List (AV × AV × Nat)), (∀ e ∈ es, e.2.2 < clk) → (es.map (·.2.2)).Nodup → bornOk clk es = true
  | [], _, _ => rfl
  | (k, v, n) :: es, h, hn => by
    rw [List.map_cons, List.nodup_cons] at hn
    rw [bornOk, bornOk_of es (fun e he => h e (List.mem_cons_of_mem _ he)) hn.2, Bool.and_true, Bool.and_eq_true]
    refine ⟨?_, ?_⟩
    · have := h _ (List.mem_cons_self ..); simpa [Nat.blt_eq] using this
    · rw [List.all_eq_true]
      intro e he
      have : e.2.2 ≠ n := fun q => hn.1 (List.mem_map.2 ⟨e, he, q⟩)
      cases hb : Nat.beq e.2.2 n with
      | true => exact absurd (Nat.eq_of_beq_eq_true hb) this
      | false => rfl

variable {h : AH} {Q : AV → AH → Prop}
variable {p : Nat} {es : List (AV × AV × Nat)} {clk : Nat} {xs : List AV} {m : Nat} {v : AV}

theorem handles (s : Su p es clk xs h m v) (hk : ∀ e ∈ es, ∃ k, e.1 = AV.int .u32 k) (hb : ∀ e ∈ es, e.2.2 < clk) (hn : (es.map (·.2.2)).Nodup) (hl : es.length ≤ 1000000)
    (q : ∀ h' b c z, Ex h h' → Q (.slice b es.length c z) h') : W (C 7 [.ptr (some (p, 0))]) h Q := by
  have ho : orc 7 = some orcHandles := by kernel_rfl
  have hc : (es.all (fun e => isU32 e.1) && bornOk clk es && Nat.ble es.length 1000000) = true := by
    rw [bornOk_of es hb hn, Nat.ble_eq_true_of_le hl, Bool.and_true, Bool.and_true, List.all_eq_true]
    intro e he
    obtain ⟨k, hk⟩ := hk e he
    rw [hk]; rfl
  have key : ∀ (r : AV × AH), orcHandles [.ptr (some (p, 0))] h = some r → Q r.1 r.2 → W (C 7 [.ptr (some (p, 0))]) h Q := by
    intro r hr q
    have : callA prog orc 1 7 [.ptr (some (p, 0))] h = some (.ret r.1, r.2) := by
      rw [callA, ho]; simp only [hr, Option.map_some]
    exact ⟨r.1, r.2, by rw [C, ca, callX_of this], q⟩
  cases es with
  | nil =>
    refine key (.slice none 0 0 0, h) ?_ (q h _ _ _ (Ex.refl s.wf))
    simp only [orcHandles, s.su, s.mp, hc, cond_true]
  | cons e es =>
    refine key (.slice (some (h.next, 0)) (e :: es).length (e :: es).length 1, h.add (.cells ((sortedU ((e :: es).map fun e => u32of e.1)).map (AV.int .u32)) 38 false)) ?_ (q _ _ _ _ ((Ex.refl s.wf).add _))
    simp only [orcHandles, s.su, s.mp, hc, cond_true]

/-! ### The acts of this law -/

/-- A suite of sketches with these handles, beside a specification. -/
structure St (p m t8 : Nat) (k : Int) (es : List (AV × AV × Nat)) (clk : Nat) (xs : List AV) (h : AH) : Prop where
  su : ∃ v, Su p es clk xs h m v
  sp : h.get t8 = some (.cells (specK k) 29 false)

variable {t8 : Nat} {k : Int}

theorem St.kp (s : St p m t8 k es clk xs h) {h' : AH} {es' : List (AV × AV × Nat)} {clk' : Nat} {xs' : List AV} {v' : AV} (s' : Su p es' clk' xs' h' m v') (kp : Kp h h') : St p m t8 k es' clk' xs' h' :=
  ⟨⟨v', s'⟩, kp.get _ _ _ _ s.sp (by decide) (by decide)⟩

theorem St.ex (s : St p m t8 k es clk xs h) {h' : AH} (e : Ex h h') : St p m t8 k es clk xs h' := by
  obtain ⟨v, s1⟩ := s.su
  exact ⟨⟨v, s1.ex e⟩, e.get s1.wf s.sp⟩

theorem St.wf (s : St p m t8 k es clk xs h) : Wf h := by obtain ⟨v, s1⟩ := s.su; exact s1.wf

theorem create_new (s : St p m t8 k es clk xs h) {hd : Int} (hk1 : 8 ≤ k) (hk2 : k ≤ 4096) (hl : es.length < 64) (hf : findA prog 38 (.int .u32 hd) es 0 = some none) (hb : ∀ e ∈ es, e.2.2 < clk)
    (hn : ∀ x ∈ xs, ∃ q, x = AV.ptr (some q)) (hxl : xs.length < 1000)
    (q : ∀ h' x, St p m t8 k (es ++ [(.int .u32 hd, .int .i64 xs.length, clk)]) (clk + 1) (xs ++ [.ptr (some x)]) h' → Q (resErr 0) h') :
    W (C 6 [.ptr (some (p, 0)), .agg (actL 1 hd (specK k))]) h Q := by
  obtain ⟨v, s1⟩ := s.su
  refine do_gen (e := 0) (kind := 1) s1 rfl rfl (by omega) (by omega) (g := 12) rfl (t28 := .ptr none) (ok := false) (fun h1 Q s2 q => find_none s2 hf q) (.inr rfl)
    (fun h' => ∃ x v', Su p (es ++ [(.int .u32 hd, .int .i64 xs.length, clk)]) (clk + 1) (xs ++ [.ptr (some x)]) h' m v') ?_ ?_ ?_
  · rintro h1 h2 ⟨x, v', s2⟩ t; exact ⟨x, v', s2.tw t⟩
  · intro h1 Q' s2 q2
    refine create_ok (es' := es ++ [(.int .u32 hd, .int .i64 xs.length, clk)]) (xs' := fun x => xs ++ [.ptr (some x)]) s2 hk1 hk2 hl hf ?_ ?_
    · intro h3 v3 x Q3 s3 q3
      exact name_new s3 hb hn hxl hf q3
    · intro x h3 v3 s3 k3
      exact q2 h3 ⟨x, v3, s3⟩ s3.wf k3
  · rintro h1 ⟨x, v', s2⟩ w1 k1
    exact q h1 x (s.kp s2 k1)

theorem create_again (s : St p m t8 k es clk xs h) {hd : Int} {j : Nat} (hk1 : 8 ≤ k) (hk2 : k ≤ 4096) (hl : es.length < 64) (hf : findA prog 38 (.int .u32 hd) es 0 = some none) (hb : ∀ e ∈ es, e.2.2 < clk)
    (hj : xs[j]? = some (.ptr none)) (hn : ∀ i x, i < j → xs[i]? = some x → ∃ q, x = AV.ptr (some q)) (hxl : xs.length < 1000)
    (q : ∀ h' x, St p m t8 k (es ++ [(.int .u32 hd, .int .i64 j, clk)]) (clk + 1) (xs.set j (.ptr (some x))) h' → Q (resErr 0) h') :
    W (C 6 [.ptr (some (p, 0)), .agg (actL 1 hd (specK k))]) h Q := by
  obtain ⟨v, s1⟩ := s.su
  refine do_gen (e := 0) (kind := 1) s1 rfl rfl (by omega) (by omega) (g := 12) rfl (t28 := .ptr none) (ok := false) (fun h1 Q s2 q => find_none s2 hf q) (.inr rfl)
    (fun h' => ∃ x v', Su p (es ++ [(.int .u32 hd, .int .i64 j, clk)]) (clk + 1) (xs.set j (.ptr (some x))) h' m v') ?_ ?_ ?_
  · rintro h1 h2 ⟨x, v', s2⟩ t; exact ⟨x, v', s2.tw t⟩
  · intro h1 Q' s2 q2
    refine create_ok (es' := es ++ [(.int .u32 hd, .int .i64 j, clk)]) (xs' := fun x => xs.set j (.ptr (some x))) s2 hk1 hk2 hl hf ?_ ?_
    · intro h3 v3 x Q3 s3 q3
      exact name_at s3 hb hj hn hxl hf q3
    · intro x h3 v3 s3 k3
      exact q2 h3 ⟨x, v3, s3⟩ s3.wf k3
  · rintro h1 ⟨x, v', s2⟩ w1 k1
    exact q h1 x (s.kp s2 k1)

theorem create_not (s : St p m t8 k es clk xs h) {hd : Int} (hl : 64 ≤ es.length) (hf : findA prog 38 (.int .u32 hd) es 0 = some none) (q : ∀ h', St p m t8 k es clk xs h' → Q (resErr 2) h') :
    W (C 6 [.ptr (some (p, 0)), .agg (actL 1 hd (specK k))]) h Q := by
  obtain ⟨v, s1⟩ := s.su
  refine do_gen (e := 2) (kind := 1) s1 rfl rfl (by omega) (by omega) (g := 12) rfl (t28 := .ptr none) (ok := false) (fun h1 Q s2 q => find_none s2 hf q) (.inr rfl)
    (fun h' => Su p es clk xs h' m v) ?_ ?_ ?_
  · intro h1 h2 s2 t; exact s2.tw t
  · intro h1 Q' s2 q2
    exact create_full s2 hl hf fun h' e => q2 h' (s2.ex e) e.wf (e.kp s2.wf)
  · intro h1 s2 w1 k1
    exact q h1 (s.kp s2 k1)

theorem delete_ok (s : St p m t8 k es clk xs h) {hd : Int} {j j' b : Nat} {x : AV} (hxl : xs.length < 1000) (hf : findA prog 38 (.int .u32 hd) es 0 = some (some (j', .int .i64 j, b))) (hx : xs[j]? = some x)
    (q : ∀ h', St p m t8 k (es.eraseIdx j') clk (xs.set j (.ptr none)) h' → Q (resErr 0) h') : W (C 6 [.ptr (some (p, 0)), .agg (actL 11 hd spec0)]) h Q := by
  obtain ⟨v, s1⟩ := s.su
  have hj : j < xs.length := by
    rcases Nat.lt_or_ge j xs.length with k | k
    · exact k
    · rw [List.getElem?_eq_none k] at hx; simp at hx
  refine do_gen (e := 0) (kind := 11) s1 rfl rfl (by omega) (by omega) (g := 22) rfl (t28 := x) (ok := true) (fun h1 Q s2 q => find_some s2 hf hx q) (.inl rfl)
    (fun h' => ∃ v', Su p (es.eraseIdx j') clk (xs.set j (.ptr none)) h' m v') ?_ ?_ ?_
  · rintro h1 h2 ⟨v', s2⟩ t; exact ⟨v', s2.tw t⟩
  · intro h1 Q' s2 q2
    exact remove_ok s2 rfl rfl hxl hf hj fun h3 v3 s3 k3 => q2 h3 ⟨v3, s3⟩ s3.wf k3
  · rintro h1 ⟨v', s2⟩ w1 k1
    exact q h1 (s.kp s2 k1)

theorem delete_not (s : St p m t8 k es clk xs h) {hd : Int} (hf : findA prog 38 (.int .u32 hd) es 0 = some none) (q : ∀ h', St p m t8 k es clk xs h' → Q (resErr 2) h') :
    W (C 6 [.ptr (some (p, 0)), .agg (actL 11 hd spec0)]) h Q := by
  obtain ⟨v, s1⟩ := s.su
  exact do_none (kind := 11) s1 rfl rfl (by omega) (by omega) hf rfl fun h' s2 k2 => q h' (s.kp s2 k2)

end Go.Proofs.YtlpbgmbiollimaaGreat

namespace Go.Proofs.YtlpbgmbiollimaaGreat
open Go Go.Am _root_.Go.Proofs.Tryz

def isTrueA : Option (CR × AH) → Bool
  | some (.ret (.bool true), _) => true
  | _ => false

theorem alive_run : isTrueA (callA prog orc 1000 4 [] AH.empty) = true := by kernel_rfl

theorem orcW : OrcWf orc := by
  intro f g e l h v h' hg w
  unfold orc at e
  cases hb : Nat.beq f 7 with
  | false => rw [hb] at e; simp at e
  | true =>
    rw [hb] at e
    simp only [cond_true, Option.some.injEq] at e
    subst e
    unfold orcHandles at hg
    split at hg
    · split at hg
      · split at hg
        · rename_i es clk _
          cases hc : (es.all (fun e => isU32 e.1) && bornOk clk es && Nat.ble es.length 1000000) with
          | false => rw [hc] at hg; simp at hg
          | true =>
            rw [hc] at hg
            simp only [cond_true] at hg
            split at hg
            · simp only [Option.some.injEq, Prod.mk.injEq] at hg; obtain ⟨-, rfl⟩ := hg; exact w
            · simp only [Option.some.injEq, Prod.mk.injEq] at hg; obtain ⟨-, rfl⟩ := hg; exact w.add _
        · simp at hg
      · simp at hg
    · simp at hg

theorem wf_empty : Wf AH.empty := fun i _ => by simp [AH.get, AH.empty, Tr.get]

theorem alive_ok {Q : AV → AH → Prop} (q : ∀ h, Wf h → Q (.bool true) h) : W (C 4 []) AH.empty Q := by
  have := alive_run
  cases e : callA prog orc 1000 4 [] AH.empty with
  | none => rw [e] at this; simp [isTrueA] at this
  | some r =>
    rw [e] at this
    obtain ⟨cr, h'⟩ := r
    cases cr with
    | pan v => simp [isTrueA] at this
    | ret v =>
      cases v with
      | bool b =>
        cases b with
        | false => simp [isTrueA] at this
        | true => exact ⟨.bool true, h', by rw [C, ca, callX_of e], q h' (callX_wf orcW (callX_of e) wf_empty)⟩
      | _ => simp [isTrueA] at this

end Go.Proofs.YtlpbgmbiollimaaGreat

namespace Go.Proofs.YtlpbgmbiollimaaGreat
open Go Go.Am _root_.Go.Proofs.Tryz

variable {h : AH}

/-- The act that creates, that deletes: as the law's text lays it. -/
theorem act_create (hd k : Int) : fillL [(.int .u8 0), (.int .u32 0), (.int .u32 0), (.int .u8 0), (.int .i64 0), (.int .i64 0), (.int .i64 0), (.bool false), (.int .i64 0), (.int .i64 0), (.int .i64 0), (.int .u64 0), (.int .u64 0), (.int .u64 0), (.slice none 0 0 0), (.slice none 0 0 0), (.int .i64 0), (.int .i64 0), (.slice none 0 0 0)]
    [(0, 1, (.int .u8 1)), (1, 1, (.int .u32 hd)), (3, 7, .agg (specK k))] = some (actL 1 hd (specK k)) := rfl
theorem act_delete (hd : Int) : fillL [(.int .u8 0), (.int .u32 0), (.int .u32 0), (.int .u8 0), (.int .i64 0), (.int .i64 0), (.int .i64 0), (.bool false), (.int .i64 0), (.int .i64 0), (.int .i64 0), (.int .u64 0), (.int .u64 0), (.int .u64 0), (.slice none 0 0 0), (.slice none 0 0 0), (.int .i64 0), (.int .i64 0), (.slice none 0 0 0)]
    [(0, 1, (.int .u8 11)), (1, 1, (.int .u32 hd))] = some (actL 11 hd spec0) := rfl
theorem spec_laid (k : Int) : fillL [(.int .u8 0), (.int .i64 0), (.int .i64 0), (.int .i64 0), (.bool false), (.int .i64 0), (.int .i64 0)] [(0, 1, (.int .u8 4)), (6, 1, (.int .i64 k))] = some (specK k) := rfl

def z8 : List AV := [.int .i64 0, .int .i64 0, .bool false, .int .u64 0, .int .u64 0, .int .u64 0, .int .u64 0, .slice none 0 0 0]

/-- A result is laid into a variable of its own. -/
theorem result_read {e : Int} {Q : AV → AH → Prop} (w : Wf h) (q : ∀ h', Ex h h' → h'.get h.next = some (.cells [.int .i64 e, .int .i64 0, .bool false, .int .u64 0, .int .u64 0, .int .u64 0, .int .u64 0, .slice none 0 0 0] 36 false) → Q undefA h') :
    W (st 8 (.ptr (some (h.next, 0))) (resErr e)) (h.add (.cells [(.int .i64 0), (.int .i64 0), (.bool false), (.int .u64 0), (.int .u64 0), (.int .u64 0), (.int .u64 0), (.slice none 0 0 0)] 36 false)) Q := by
  rw [W_st_eq, get_add_eq]
  simp only [stQ_cells, resErr, cells_agg]
  refine ⟨rfl, by simp, rfl, ?_⟩
  rw [putCells_all (by rfl)]
  exact q _ (((Ex.refl w).add _).set _ (Nat.le_refl _) (Nat.lt_succ_self _)) get_set_eq

theorem ptrs_all {xs : List AV} (hn : ∀ x ∈ xs, ∃ q, x = AV.ptr (some q)) : ∀ (i : Nat) (x : AV), xs[i]? = some x → ∃ q, x = AV.ptr (some q) := fun i x hx => hn x (List.mem_of_getElem? hx)

theorem law {n size drop : Nat} (hn : n < 256) (hs : size < 65536) (hd : drop < 256) :
    W (C 3 [.int .u8 n, .int .u16 size, .int .u8 drop]) AH.empty fun v _ => v = .bool true := by
  apply w3
  unfold s3
  rw [W_bd]
  refine alive_ok fun h0 w0 => ?_
  simp only [↓ww, Bool.not_true]
  refine newSuite w0 fun h1 p m e1 gp gmm hp => ?_
  rw [binV_rem (by decide)]
  have hsz : (size : Int).tmod 100 = ((size % 100 : Nat) : Int) := rfl
  rw [hsz]
  try simp (disch := omega) only [↓ww]
  generalize hk : (8 : Int) + ((size % 100 : Nat) : Int) = k
  have hk1 : 8 ≤ k := by omega
  have hk2 : k ≤ 4096 := by omega
  rw [spec_laid]
  try simp only [↓ww]
  rw [W_st_eq, get_add_eq]
  simp only [stQ_cells, cells_agg]
  refine ⟨rfl, by simp, rfl, ?_⟩
  rw [putCells_all (by rfl)]
  have w1 := e1.wf
  generalize ht8 : h1.next = t8 at *
  have e2 : Ex h1 ((h1.add (.cells [(.int .u8 0), (.int .i64 0), (.int .i64 0), (.int .i64 0), (.bool false), (.int .i64 0), (.int .i64 0)] 29 false)).set t8 (.cells (specK k) 29 false)) :=
    ((Ex.refl w1).add _).set _ (by omega) (by simp; omega)
  have g8 : ((h1.add (.cells [(.int .u8 0), (.int .i64 0), (.int .i64 0), (.int .i64 0), (.bool false), (.int .i64 0), (.int .i64 0)] 29 false)).set t8 (.cells (specK k) 29 false)).get t8 = some (.cells (specK k) 29 false) := get_set_eq
  generalize (h1.add (.cells [(.int .u8 0), (.int .i64 0), (.int .i64 0), (.int .i64 0), (.bool false), (.int .i64 0), (.int .i64 0)] 29 false)).set t8 (.cells (specK k) 29 false) = h2 at *
  have st0 : St p m t8 k (ents 0) 0 [] h2 := ⟨⟨.slice none 0 0 0, e2.wf, e2.get w1 gp, e2.get w1 gmm, .inl ⟨rfl, rfl⟩, by simp⟩, g8⟩
  refine (W_lp (fun s h => ∃ (i : Nat) (xs : List AV), s = [.int .i64 i] ∧ i ≤ n ∧ xs.length = min i 64 ∧ (∀ x ∈ xs, ∃ q, x = AV.ptr (some q)) ∧ St p m t8 k (ents (min i 64)) (min i 64) xs h) (fun s _ => n - i1 s)
    (Q := fun r h => r = .out 0 [] ∧ ∃ xs : List AV, xs.length = min n 64 ∧ (∀ x ∈ xs, ∃ q, x = AV.ptr (some q)) ∧ St p m t8 k (ents (min n 64)) (min n 64) xs h) ?_ ⟨0, [], rfl, by omega, rfl, by simp, st0⟩).mono ?_
  · rintro s h3 ⟨i, xs, rfl, hi, hxl, hxp, st3⟩
    try simp (disch := omega) only [↓ww]
    refine W_ite (fun hc => ?_) (fun hc => ?_)
    · simp (disch := omega) only [↓ww]
      rw [binV_mul, show ((i : Int) * 7) = ((7 * i : Nat) : Int) by omega, wr_u32 (by omega) (by omega)]
      try simp only [↓ww]
      rw [W_ldN_eq, st3.sp]
      simp only [ldNQ_cells]
      refine ⟨by simp [specK], ?_⟩
      rw [show List.take 7 (List.drop 0 (specK k)) = specK k by rfl, act_create]
      try simp only [↓ww]
      have hfn : findA prog 38 (.int .u32 ((7 * i : Nat) : Int)) (ents (min i 64)) 0 = some none := find_ents_none fun j hj => by omega
      have hbn : ∀ e ∈ ents (min i 64), e.2.2 < min i 64 := fun e he => by obtain ⟨j, h1, rfl⟩ := ents_mem he; exact h1
      -- behind the act
      have fin : ∀ (e : Int) (h4 : AH) (xs' : List AV), xs'.length = min (i + 1) 64 → (∀ x ∈ xs', ∃ q, x = AV.ptr (some q)) → St p m t8 k (ents (min (i + 1) 64)) (min (i + 1) 64) xs' h4 → (e = 0 ∧ i < 64 ∨ e = 2 ∧ 64 ≤ i) →
          W (bd (nw [(.int .i64 0), (.int .i64 0), (.bool false), (.int .u64 0), (.int .u64 0), (.int .u64 0), (.int .u64 0), (.slice none 0 0 0)] 36) fun t10 =>
  bd (st 8 t10 (resErr e)) fun u_3 =>
  lt (fldA 0 t10) fun t37 =>
  bd (ld t37) fun t38 =>
  lt (eqI false t38 (.int .i64 0)) fun t39 =>
  lt (binV .lss (.int .i64 i) (.int .i64 64)) fun t41 =>
  lt (eqB true t39 t41) fun t42 =>
  lt (gv t42 false (some (.int .i64 i))) fun t44 =>
  lt (gv t42 false (binV .geq t44 (.int .i64 64))) fun t45 =>
  lt (gv t42 false (some t45)) fun t46 =>
  lt (gv t46 true (fldA 0 t10)) fun t47 =>
  bd (gm t46 true (ld t47)) fun t48 =>
  lt (gv t46 true (eqI true t48 (.int .i64 2))) fun t49 =>
  lt (gv t42 false (pickV t46 t49 (.bool false))) fun t50 =>
  lt (pickV t42 (.bool true) t50) fun t51 =>
  cn t51 (rt (.done (.bool false))) (
  lt (binV .add (.int .i64 i) (.int .i64 1)) fun t29 =>
  rt (.again [t29]))) h4 (LQ (fun s h => ∃ (i : Nat) (xs : List AV), s = [.int .i64 i] ∧ i ≤ n ∧ xs.length = min i 64 ∧ (∀ x ∈ xs, ∃ q, x = AV.ptr (some q)) ∧ St p m t8 k (ents (min i 64)) (min i 64) xs h) (fun s _ => n - i1 s) (n - i1 [.int .i64 (i : Int)])
            (fun r h => r = .out 0 [] ∧ ∃ xs : List AV, xs.length = min n 64 ∧ (∀ x ∈ xs, ∃ q, x = AV.ptr (some q)) ∧ St p m t8 k (ents (min n 64)) (min n 64) xs h)) := by
        intro e h4 xs' hxl' hxp' st4 hor
        simp only [↓ww]
        refine result_read st4.wf fun h5 e5 gt => ?_
        try simp only [↓ww]
        rw [W_ld_eq, gt]
        simp only [ldQ_cells, Nat.zero_add, List.getElem?_cons_zero, cellQ_some]
        try simp (disch := omega) only [↓ww]
        try simp (disch := omega) only [↓ww]
        rcases hor with ⟨rfl, hi6⟩ | ⟨rfl, hi6⟩
        · rw [decide_eq_true (show (i : Int) < 64 by omega)]
          simp (disch := omega) only [↓ww, decide_true, beq_self_eq_true, Bool.not_true]
          rw [decide_eq_false (show ¬ (64 : Int) ≤ i by omega)]
          try simp (disch := omega) only [↓ww]
          exact ⟨⟨i + 1, xs', rfl, by omega, hxl', hxp', st4.ex e5⟩, by simp; omega⟩
        · rw [decide_eq_false (show ¬ (i : Int) < 64 by omega)]
          rw [show decide ((2 : Int) = 0) = false by decide]
          simp (disch := omega) only [↓ww, beq_self_eq_true, Bool.not_true]
          rw [decide_eq_true (show (64 : Int) ≤ i by omega)]
          try simp (disch := omega) only [↓ww]
          rw [W_ld_eq, gt]
          simp only [ldQ_cells, Nat.zero_add, List.getElem?_cons_zero, cellQ_some]
          try simp (disch := omega) only [↓ww]
          rw [show decide ((2 : Int) ≠ 2) = false by decide]
          try simp (disch := omega) only [↓ww]
          exact ⟨⟨i + 1, xs', rfl, by omega, hxl', hxp', st4.ex e5⟩, by simp; omega⟩
      rcases Nat.lt_or_ge i 64 with hi6 | hi6
      · have hm : min i 64 = i := by omega
        rw [hm] at hfn hbn hxl st3
        refine create_new st3 hk1 hk2 (by simpa using hi6) hfn hbn hxp (by omega) fun h4 x st4 => ?_
        have hm' : min (i + 1) 64 = i + 1 := by omega
        have F := fin 0 h4 (xs ++ [.ptr (some x)]) (by rw [hm']; simp [hxl]) (fun y hy => by
          simp only [List.mem_append, List.mem_singleton] at hy
          rcases hy with hy | rfl
          · exact hxp y hy
          · exact ⟨_, rfl⟩) (by
          rw [hm', ents_succ, ent]
          rw [hxl] at st4
          exact st4) (.inl ⟨rfl, hi6⟩)
        simp (disch := omega) only [↓ww] at F
        exact F
      · have hm : min i 64 = 64 := by omega
        rw [hm] at hfn hxl st3
        refine create_not st3 (by simp) hfn fun h4 st4 => ?_
        have hm' : min (i + 1) 64 = 64 := by omega
        have F := fin 2 h4 xs (by rw [hm']; exact hxl) hxp (by rw [hm']; exact st4) (.inr ⟨rfl, hi6⟩)
        simp (disch := omega) only [↓ww] at F
        exact F
    · obtain rfl : i = n := by omega
      try simp only [↓ww]
      exact ⟨(by first | trivial | rfl), xs, hxl, hxp, st3⟩
  · rintro r h3 ⟨rfl, xs, hxl, hxp, st3⟩
    try simp (disch := omega) only [↓ww]
    have hmin : foldA min2A (.int .i64 n) [.int .i64 64] = some (.int .i64 ((min n 64 : Nat) : Int)) := by
      simp only [foldA, min2A]
      congr 2
      split <;> omega
    rw [hmin]
    generalize hc : min n 64 = c at *
    have hc64 : c ≤ 64 := by omega
    try simp only [↓ww]
    obtain ⟨v3, s3⟩ := st3.su
    have hkeys : ∀ e ∈ ents c, ∃ k, e.1 = AV.int .u32 k := fun e he => by obtain ⟨j, h1, rfl⟩ := ents_mem he; exact ⟨_, rfl⟩
    have hborn : ∀ e ∈ ents c, e.2.2 < c := fun e he => by obtain ⟨j, h1, rfl⟩ := ents_mem he; exact h1
    have hstamps : (ents c).map (·.2.2) = List.range c := by simp [ents, ent, Function.comp_def]
    have hnod : ((ents c).map (·.2.2)).Nodup := by rw [hstamps]; exact List.nodup_range
    refine handles s3 hkeys hborn hnod (by simp; omega) fun h4 b cc z e4 => ?_
    simp only [ents_length, ↓ww]
    rw [decide_eq_false (show ¬ ((c : Int) ≠ (c : Int)) by simp)]
    try simp (disch := omega) only [↓ww]
    rw [binV_rem (by decide), show (drop : Int).tmod 64 = ((drop % 64 : Nat) : Int) by rfl]
    generalize hdd : drop % 64 = d at *
    have hd64 : d < 64 := by omega
    try simp (disch := omega) only [↓ww]
    rw [binV_mul, show ((d : Int) * 7) = ((7 * d : Nat) : Int) by omega, wr_u32 (by omega) (by omega)]
    try simp only [↓ww]
    rw [act_delete]
    try simp only [↓ww]
    have st4 := st3.ex e4
    rcases Nat.lt_or_ge d c with hdc | hdc
    · -- it was there
      obtain ⟨x, hx⟩ : ∃ x, xs[d]? = some x := ⟨_, List.getElem?_eq_getElem (by omega)⟩
      refine delete_ok st4 (by omega) (find_ents_at hdc) hx fun h5 st5 => ?_
      refine result_read st5.wf fun h6 e6 g6 => ?_
      try simp only [↓ww]
      rw [W_ld_eq, g6]
      simp only [ldQ_cells, Nat.zero_add, List.getElem?_cons_zero, cellQ_some]
      try simp (disch := omega) only [↓ww]
      rw [binV_rem (by decide), show (drop : Int).tmod 64 = ((drop % 64 : Nat) : Int) by rfl, hdd]
      try simp (disch := omega) only [↓ww]
      rw [decide_eq_true (show (d : Int) < (c : Int) by omega)]
      simp (disch := omega) only [↓ww, decide_true, beq_self_eq_true, Bool.not_true]
      rw [W_ld_eq, g6]
      simp only [ldQ_cells, Nat.zero_add, List.getElem?_cons_zero, cellQ_some]
      try simp (disch := omega) only [↓ww]
      simp only [↓ww, ne_eq, not_true_eq_false, decide_false]
      rw [binV_add, wr_u32 (by omega) (by omega)]
      try simp only [↓ww]
      have st6 := st5.ex e6
      rw [W_ldN_eq, st6.sp]
      simp only [ldNQ_cells]
      refine ⟨by simp [specK], ?_⟩
      rw [show List.take 7 (List.drop 0 (specK k)) = specK k by rfl, act_create]
      try simp only [↓ww]
      have hle : ((ents c).eraseIdx d).length = c - 1 := by rw [List.length_eraseIdx, ents_length, if_pos hdc]
      have hmemE : ∀ e ∈ (ents c).eraseIdx d, e ∈ ents c := fun e he => List.mem_of_mem_eraseIdx he
      refine create_again (j := d) st6 hk1 hk2 (by omega) (findA_none _ _ fun e he => by
          obtain ⟨j, h1, rfl⟩ := ents_mem (hmemE e he)
          exact ⟨_, rfl, by omega⟩) (fun e he => hborn e (hmemE e he)) (by rw [List.getElem?_set_self (by omega)]) (fun i y hi hy => by
          rw [List.getElem?_set_ne (by omega)] at hy
          exact ptrs_all hxp i y hy) (by rw [List.length_set]; omega) fun h7 x7 st7 => ?_
      refine result_read st7.wf fun h8 e8 g8' => ?_
      try simp only [↓ww]
      have st8 := st7.ex e8
      obtain ⟨v8, s8⟩ := st8.su
      refine handles s8 (fun e he => ?_) (fun e he => ?_) ?_ ?_ fun h9 b9 c9 z9 e9 => ?_
      · simp only [List.mem_append, List.mem_singleton] at he
        rcases he with he | rfl
        · exact hkeys e (hmemE e he)
        · exact ⟨_, rfl⟩
      · simp only [List.mem_append, List.mem_singleton] at he
        rcases he with he | rfl
        · exact Nat.lt_succ_of_lt (hborn e (hmemE e he))
        · exact Nat.lt_succ_self _
      · rw [List.map_append, List.nodup_append]
        refine ⟨?_, by simp, ?_⟩
        · exact List.Nodup.sublist ((List.eraseIdx_sublist _ _).map _) hnod
        · intro a ha b hb
          simp only [List.map_cons, List.map_nil, List.mem_singleton] at hb
          simp only [List.mem_map] at ha
          obtain ⟨e, he, rfl⟩ := ha
          have := hborn e (hmemE e he)
          omega
      · rw [List.length_append, hle, List.length_singleton]; omega
      · have g9 := e9.get s8.wf g8'
        try simp only [↓ww]
        rw [W_ld_eq, g9]
        simp only [ldQ_cells, Nat.zero_add, List.getElem?_cons_zero, cellQ_some]
        try simp (disch := omega) only [↓ww]
        simp only [↓ww, decide_true]
        rw [List.length_append, hle, List.length_singleton, show c - 1 + 1 = c by omega]
        simp
    · -- it was not there
      refine delete_not st4 (find_ents_none fun j hj => by omega) fun h5 st5 => ?_
      refine result_read st5.wf fun h6 e6 g6 => ?_
      try simp only [↓ww]
      rw [W_ld_eq, g6]
      simp only [ldQ_cells, Nat.zero_add, List.getElem?_cons_zero, cellQ_some]
      try simp (disch := omega) only [↓ww]
      rw [binV_rem (by decide), show (drop : Int).tmod 64 = ((drop % 64 : Nat) : Int) by rfl, hdd]
      try simp (disch := omega) only [↓ww]
      rw [decide_eq_false (show ¬ (d : Int) < (c : Int) by omega), show decide ((2 : Int) = 0) = false by decide]
      simp (disch := omega) only [↓ww, beq_self_eq_true, Bool.not_true]
      rw [W_ld_eq, g6]
      simp only [ldQ_cells, Nat.zero_add, List.getElem?_cons_zero, cellQ_some]
      try simp (disch := omega) only [↓ww]
      rw [show decide ((2 : Int) ≠ 0) = true by decide]
      try simp only [↓ww]
      rw [W_ld_eq, g6]
      simp only [ldQ_cells, Nat.zero_add, List.getElem?_cons_zero, cellQ_some]
      try simp (disch := omega) only [↓ww]
      simp

end Go.Proofs.YtlpbgmbiollimaaGreat
