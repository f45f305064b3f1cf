/-
  What stands in for the suite's Handles is what the program does; the law's walk.
  Conditions: none.
-/
import Derived.Test.YtlpbgmbiollimaaGreatCb
import Derived.WalkKit
import Derived.OwnWalk
import Derived.Laws.IdiomRangeMap
import Derived.Test.YtlpbgmbiollimaaGreatBb
set_option linter.unusedVariables false
set_option linter.unusedSimpArgs false
namespace Go.Proofs.YtlpbgmbiollimaaGreat
open Go Go.RowKit

variable {P : Program}

/-- What a step of the iterator leaves. -/
def stepped (w : World) (bi : Nat) (o : Obj) (w' : World) : Prop := w'.heap = w.heap.setIfInBounds bi o ∧ w'.os = w.os ∧ w'.tape = w.tape ∧ w'.output = w.output

theorem run_next_at (w : World) (ty : TypeId) (bi bm since c0 : Nat) (seen : Array Nat) (es : Array MapEntry) (clock : Nat) (hi : w.heap[bi]? = some (.mapIter (some bm) since seen c0)) (hb : w.heap[bm]? = some (.map es clock))
    (hold : ∀ x ∈ es.toList, x.born < since) (hsc : since ≤ c0) :
    ((leftOf es seen).size = 0 ∧ (Instr.next (.pointer (some ⟨bi, 0, none⟩)) false ty).run P w = .ok (.tuple #[.bool false]) w) ∨
    ∃ e ∈ (leftOf es seen).toList, ∃ w1 : World, stepped w bi (.mapIter (some bm) since (seen.push e.born) clock) w1 ∧ (Instr.next (.pointer (some ⟨bi, 0, none⟩)) false ty).run P w = .ok (.tuple #[.bool true, e.key, e.val]) w1 := by
  simp only [Instr.next, getObj, Sem.run_bind, Sem.run, hi, hb, Result.andThen, next_test_false seen es since c0 hold hsc, Bool.false_eq_true, if_false]
  unfold leftOf
  have hmem : ∀ x ∈ (Array.filter (fun e => !seen.contains e.born) es).toList, x.born < since := fun x hx => hold x (by simp at hx ⊢; exact hx.1)
  generalize Array.filter (fun e => !seen.contains e.born) es = L at hmem ⊢
  have e1 : L.filter (fun x => decide (x.born < since)) = L := Array.filter_eq_self.2 (fun x hx => by simpa using hmem x (by simpa using hx))
  have e2 : L.filter (fun x => decide (x.born ≥ since)) = #[] := by
    rw [Array.filter_eq_empty_iff]
    intro x hx
    have := hmem x (by simpa using hx)
    simp
    omega
  simp only [e1, e2, Array.append_empty]
  by_cases h0 : L.size = 0
  · left
    have : L = #[] := Array.eq_empty_of_size_eq_zero h0
    subst this
    refine ⟨rfl, ?_⟩
    simp [choose, Sem.run, Question.forced]
  · right
    have hne : L.isEmpty = false := by simp [Array.isEmpty, h0]
    simp only [hne, Bool.false_eq_true, if_false, Array.empty_append, Array.size_map]
    have hch : ∃ (j : Nat) (w1 : World), j < L.size ∧ (w1.heap = w.heap ∧ w1.os = w.os ∧ w1.tape = w.tape ∧ w1.output = w.output) ∧ (choose (Question.mapNext L.size)).run P w = .ok j w1 := by
      by_cases hf : L.size ≤ 1
      · exact ⟨0, w, by omega, ⟨rfl, rfl, rfl, rfl⟩, by simp [choose, Sem.run, Question.forced, hf]⟩
      · exact ⟨_, w.drew, Nat.mod_lt _ (by omega), ⟨rfl, rfl, rfl, rfl⟩, by
          simp only [choose, Sem.run, Question.forced, decide_eq_true_eq, hf, if_false, Question.cut]
          rfl⟩
    obtain ⟨j, w1, hj, hal, hrun⟩ := hch
    refine ⟨L[j], by simp, { w1 with heap := w1.heap.setIfInBounds bi (.mapIter (some bm) since (seen.push L[j].born) clock) }, ⟨by rw [← hal.1], hal.2.1, hal.2.2.1, hal.2.2.2⟩, ?_⟩
    have hset : ∀ (o' : Obj), (setObj bi o').run P w1 = .ok () { w1 with heap := w1.heap.setIfInBounds bi o' } := fun o' => by
      simp only [setObj, Sem.run]
      rw [hal.1, hi]
    simp only [hrun, Array.getElem?_map, Array.getElem?_eq_getElem hj, Option.map_some, Sem.run_bind, hset, Result.andThen]
    rfl

theorem run_entry_at (w : World) (bi bm since : Nat) (seen : Array Nat) (es : Array MapEntry) (clock : Nat) (e : MapEntry) (hi : w.heap[bi]? = some (.mapIter (some bm) since (seen.push e.born) clock)) (hb : w.heap[bm]? = some (.map es clock))
    (he : e ∈ es.toList) (hn : (es.toList.map (·.born)).Nodup) :
    (Instr.entry (.pointer (some ⟨bi, 0, none⟩))).run P w = .ok (.tuple #[e.key, e.val]) w := by
  have hf : es.find? (·.born == e.born) = some e := by rw [← Array.find?_toList]; exact find_born e es.toList hn he
  simp only [Instr.entry, getObj, Sem.run_bind, Sem.run, hi, hb, Result.andThen, Array.back?_push, bne_self_eq_false, Bool.false_eq_true, if_false, hf]
  rfl

theorem stepped.below {w w' : World} {bi B : Nat} {o : Obj} (h : stepped w bi o w') {a : World} (hb : Below B a w) (hB : B ≤ bi) : Below B a w' :=
  hb.trans ⟨h.2.1, h.2.2.1, h.2.2.2, by rw [h.1, Array.size_setIfInBounds]; exact Nat.le_refl _, fun k hk => by rw [h.1, Array.getElem?_setIfInBounds_ne (by omega)]⟩

theorem stepped.at {w w' : World} {bi : Nat} {o : Obj} (h : stepped w bi o w') (hl : bi < w.heap.size) : w'.heap[bi]? = some o := by
  rw [h.1, Array.getElem?_setIfInBounds_self_of_lt hl]

theorem stepped.other {w w' : World} {bi k : Nat} {o : Obj} (h : stepped w bi o w') (hk : k ≠ bi) : w'.heap[k]? = w.heap[k]? := by
  rw [h.1, Array.getElem?_setIfInBounds_ne (by omega)]

theorem stepped.row {w w' : World} {bi base : Nat} {o : Obj} (h : stepped w bi o w') (hk : bi < base) {e : TypeId} {size : Nat} {v : Value} {n : Nat} {xs : List Value} (r : w.ownsRow base e size v n xs) : w'.ownsRow base e size v n xs := by
  obtain ⟨h1, h2⟩ := r
  refine ⟨h1, ?_⟩
  rcases h2 with h2 | ⟨g, cap, cur, a, b, c, d⟩
  · exact .inl h2
  · exact .inr ⟨g, cap, cur, a, b, by rw [h.other (by omega)]; exact c, d⟩

theorem iterSeen_of {w : World} {r : Nat} {a : Option Nat} {b : Nat} {s : Array Nat} {c : Nat} (h : w.heap[r]? = some (.mapIter a b s c)) : w.iterSeen r = s := by unfold World.iterSeen; rw [h]

/-- The keys of what has been handed out. -/
def gotKeys (es : List MapEntry) (seen : Array Nat) : List Int := (es.filter fun e => seen.contains e.born).map fun e => valOf e.key

theorem gotKeys_none (es : List MapEntry) : gotKeys es #[] = [] := by simp [gotKeys]

theorem gotKeys_len (es : List MapEntry) (seen : Array Nat) : (gotKeys es seen).length ≤ es.length := by
  unfold gotKeys; rw [List.length_map]; exact List.length_filter_le _ _

theorem filter_other (seen : Array Nat) (b : Nat) : ∀ (es : List MapEntry), b ∉ es.map (·.born) → (es.filter fun x => (seen.push b).contains x.born) = es.filter fun x => seen.contains x.born
  | [], _ => rfl
  | x :: l, h => by
    have hx : (x.born == b) = false := by
      cases hc : x.born == b with
      | false => rfl
      | true => exact absurd (List.mem_cons.2 (Or.inl (beq_iff_eq.1 hc).symm)) h
    have ih := filter_other seen b l (fun e => h (List.mem_cons.2 (Or.inr e)))
    simp only [List.filter_cons, contains_push, hx, Bool.or_false]
    simp only [contains_push] at ih
    rw [ih]

theorem filter_push (seen : Array Nat) (e : MapEntry) (hs : seen.contains e.born = false) : ∀ (es : List MapEntry), (es.map (·.born)).Nodup → e ∈ es → (es.filter fun x => (seen.push e.born).contains x.born).Perm (e :: es.filter fun x => seen.contains x.born)
  | x :: l, hn, he => by
    have hn' : x.born ∉ l.map (·.born) ∧ (l.map (·.born)).Nodup := List.nodup_cons.1 hn
    rcases List.mem_cons.1 he with rfl | h
    · have := filter_other seen e.born l hn'.1
      simp only [contains_push] at this
      simp only [List.filter_cons, contains_push, hs, beq_self_eq_true, Bool.or_true, if_true, Bool.false_eq_true, if_false, this]
      exact List.Perm.refl _
    · have hx : (x.born == e.born) = false := by
        cases hc : x.born == e.born with
        | false => rfl
        | true => exact absurd (by rw [beq_iff_eq.1 hc]; exact List.mem_map.2 ⟨e, h, rfl⟩) hn'.1
      have ih := filter_push seen e hs l hn'.2 h
      simp only [contains_push] at ih
      simp only [List.filter_cons, contains_push, hx, Bool.or_false]
      by_cases hc : seen.contains x.born = true
      · simp only [hc, if_true]
        exact (ih.cons x).trans (List.Perm.swap _ _ _)
      · simp only [hc, Bool.false_eq_true, if_false]
        exact ih

theorem gotKeys_push (seen : Array Nat) (e : MapEntry) (hs : seen.contains e.born = false) (es : List MapEntry) (hn : (es.map (·.born)).Nodup) (he : e ∈ es) : (gotKeys es (seen.push e.born)).Perm (valOf e.key :: gotKeys es seen) :=
  (filter_push seen e hs es hn he).map _

theorem gotKeys_all (es : Array MapEntry) (seen : Array Nat) (h : (leftOf es seen).size = 0) : gotKeys es.toList seen = es.toList.map fun e => valOf e.key := by
  unfold gotKeys
  rw [List.filter_eq_self.2 fun x hx => all_seen es seen h x hx]

theorem mergeSort_perm {xs ys : List Int} (h : xs.Perm ys) : xs.mergeSort (fun x y => decide (x ≤ y)) = ys.mergeSort (fun x y => decide (x ≤ y)) := by
  have t : ∀ a b c : Int, (decide (a ≤ b)) = true → (decide (b ≤ c)) = true → (decide (a ≤ c)) = true := fun a b c h1 h2 => by simp only [decide_eq_true_eq] at *; omega
  have tot : ∀ a b : Int, (decide (a ≤ b) || decide (b ≤ a)) = true := fun a b => by simp only [Bool.or_eq_true, decide_eq_true_eq]; omega
  refine List.Perm.eq_of_pairwise (le := fun x y : Int => decide (x ≤ y) = true) (fun a b _ _ h1 h2 => by simp only [decide_eq_true_eq] at h1 h2; omega) (List.pairwise_mergeSort t tot xs) (List.pairwise_mergeSort t tot ys) ?_
  exact ((List.mergeSort_perm xs _).trans h).trans (List.mergeSort_perm ys _).symm

end Go.Proofs.YtlpbgmbiollimaaGreat

namespace Go.Proofs.YtlpbgmbiollimaaGreat
open Go Go.RowKit _root_.Go.Proofs.Tryz

theorem infoKey : (prog.info? 38).map (fun i => (i.zero, i.size, i.bytes)) = some (some (.int .u32 0), 1, 4) := by kernel_rfl

theorem cell_one_at (w : World) (v : Value) (t : TypeId) : ∀ j u, [v][j]? = some u → (w.alloc (.cells #[v] t)).cell? ((⟨w.heap.size, 0, none⟩ : Addr).add j) = some u := by
  intro j u hj
  match j, hj with
  | 0, hj => simp at hj; subst hj; simp [Addr.add]
  | j + 1, hj => simp at hj

def encK (k : Int) : Value := .int .u32 k

set_option maxRecDepth 1000000 in
set_option maxHeartbeats 2000000 in
theorem handles_walk (w : World) (bp op bm clk : Nat) (es : Array MapEntry) (hp : w.cell? ⟨bp, op, none⟩ = some (.map (some bm))) (hb : w.heap[bm]? = some (.map es clk)) (hold : ∀ x ∈ es.toList, x.born < clk) (hnd : (es.toList.map (·.born)).Nodup)
    (hk : ∀ x ∈ es.toList, ∃ k, x.key = .int .u32 k) (hlen : es.size ≤ 1000000) {Q : Ending → World → Prop}
    (hsort : ∀ (v : Value) (ks : List Int) (w1 : World), w1.ownsRow (w.heap.size + 1) 38 1 v ks.length (ks.map encK) → ks.Perm (es.toList.map fun e => valOf e.key) → Below w.heap.size w w1 → (ks = [] → v = .slice none 0 0) →
      Calls prog 11 #[v] w1 fun e w' => e = .returned (.tuple #[]) ∧ Q (.returned v) w') :
    Calls prog 7 #[.pointer (some ⟨bp, op, none⟩)] w Q := by
  obtain ⟨i0, hi, hz0, hz1, hz2⟩ := info_parts infoKey
  have hrg := run_range_map (P := prog) w 44 38 3 bm es clk underlying44 hb
  go_enter func7, ntmps7
  go_wp2
  go_loopw [3] (fun v wr => ∃ (seen : Array Nat) (ks : List Int), wr.heap[w.heap.size]? = some (.mapIter (some bm) clk seen clk) ∧ wr.ownsRow (w.heap.size + 1) 38 1 v ks.length (ks.map encK) ∧ Below w.heap.size w wr ∧ ks.Perm (gotKeys es.toList seen) ∧ (ks = [] → v = .slice none 0 0))
    (fun _ wr => (leftOf es (wr.iterSeen w.heap.size)).size)
  case atStart =>
    exact ⟨#[], [], heap_alloc_new _ _, World.ownsRow_nil _ _ _ _, (Below.refl _ _).alloc (Nat.le_refl _) _, by rw [gotKeys_none], fun _ => rfl⟩
  case round =>
    obtain ⟨seen, ks, hit, hown, hbw, hpm, hnl⟩ := hrel
    have hblt : bm < w.heap.size := lt_of_block hb
    have hilt : w.heap.size < wr.heap.size := lt_of_block hit
    have hb1 : wr.heap[bm]? = some (.map es clk) := by rw [hbw.block bm hblt]; exact hb
    have hkl : ks.length ≤ 1000000 := by
      have h1 := hpm.length_eq
      have h2 := gotKeys_len es.toList seen
      have h3 : es.toList.length = es.size := Array.length_toList
      omega
    have law := fun ty => run_next_at (P := prog) wr ty w.heap.size bm clk clk seen es clk hit hb1 hold (Nat.le_refl _)
    rcases law 0 with ⟨h0, hrun⟩ | ⟨e, he, w2, hst, hrun⟩
    · have hnx : ∀ ty, (Instr.next (.pointer (some ⟨w.heap.size, 0, none⟩)) false ty).run prog wr = _ := fun _ => hrun
      have hc := hsort u3 ks wr hown (by rw [← gotKeys_all es seen h0]; exact hpm) hbw hnl
      clear law hb1 hsort hold hk hit hbw hown hb hrg hp hpm hnl
      go_wp2_with (first | (go_at_call 11; refine hc.mono ?_; rintro e w' ⟨rfl, hQ⟩) | fail)
      exact hQ
    · obtain ⟨k, hkey⟩ := hk e (mem_left he).1
      have hm := mem_left he
      rw [hkey] at hrun
      have hnx : ∀ ty, (Instr.next (.pointer (some ⟨w.heap.size, 0, none⟩)) false ty).run prog wr = _ := fun _ => hrun
      have hit2 := hst.at hilt
      have hb2 : w2.heap[bm]? = some (.map es clk) := by rw [hst.other (by omega)]; exact hb1
      have hen := run_entry_at (P := prog) w2 w.heap.size bm clk seen es clk e hit2 hb2 hm.1 hnd
      rw [hkey] at hen
      have hown2 := hst.row (by omega) hown
      have hbw2 := hst.below hbw (Nat.le_refl _)
      have hilt2 : w.heap.size < w2.heap.size := lt_of_block hit2
      have hpm2 : (ks ++ [k]).Perm (gotKeys es.toList (seen.push e.born)) := by
        have h1 := gotKeys_push seen e hm.2 es.toList hnd hm.1
        rw [hkey] at h1
        exact (List.perm_append_comm.trans (hpm.cons k)).trans h1.symm
      have hsh := left_shrinks es seen e he
      have hsn := iterSeen_of hit
      clear law hb1 hsort hold hk hit hbw hown hb hrg hp hpm hnl hst hrun he hm hnd hkey
      go_wp2_with (first
        | (at_builtin; refine wpList_append_own _ rfl _ _ 41 rfl (w.heap.size + 1) 38 i0 (.int .u32 0) 1 4 underlying41 hi hz0 hz1 hz2 rfl (by decide) _ _ _ rfl (hown2.alloc _) ⟨w2.heap.size, 0, none⟩ 1 1 [.int .u32 k] rfl rfl (cell_one_at _ _ _) (fun x hx => by simp at hx; subst hx; rfl) (by unfold maxLen; omega) (by omega) (by simp; omega) ?_; intro v' w3 hown' hgrow3 hnil3
           have hit3 : w3.heap[w.heap.size]? = some (.mapIter (some bm) clk (seen.push e.born) clk) := by
             rw [hgrow3.block w.heap.size (by simp; omega) (fun h => by have := (hown2.lt _ h.symm).1; omega), Below.heap_alloc _ _ _ hilt2]; exact hit2
           have hbw3 : Below w.heap.size w w3 := Below.grown (hbw2.alloc (by omega) _) hgrow3 (by simp; omega) (fun j hj => by have := (hown2.lt _ hj).1; omega)
           have X : Hid (w3.ownsRow (w.heap.size + 1) 38 1 v' (ks.length + 1) (ks.map encK ++ [.int .u32 k]) ∧ w3.heap[w.heap.size]? = some (.mapIter (some bm) clk (seen.push e.born) clk) ∧ Below w.heap.size w w3) := ⟨hown', hit3, hbw3⟩
           clear hown' hgrow3 hnil3 hit3 hbw3)
        | fail)
      go_roundw
      case rel =>
        exact ⟨seen.push e.born, ks ++ [k], X.out.2.1, by rw [List.length_append, List.map_append]; exact X.out.1, X.out.2.2, hpm2, fun e => by simp at e⟩
      case measure =>
        rw [iterSeen_of X.out.2.1, hsn]; exact hsh
end Go.Proofs.YtlpbgmbiollimaaGreat

namespace Go.Am
open Go Go.RowKit

mutual
theorem VR.down {ρ ρ' : Ren} (hρ : ρ.le ρ') : ∀ (a : AV) (u v : Value), VR ρ a u → VR ρ' a v → VR ρ a v
  | .int _ _, _, _, _, h => h
  | .bool _, _, _, _, h => h
  | .str _, _, _, _, h => h
  | .ptr none, _, _, _, h => h
  | .ptr (some (i, o)), _, _, k, h => by
    simp only [VR] at h k ⊢; obtain ⟨b, s, z, h1, h2⟩ := k; obtain ⟨b', s', z', h1', h2'⟩ := h
    rw [hρ _ _ h1] at h1'; simp only [Option.some.injEq, Prod.mk.injEq] at h1'; obtain ⟨rfl, rfl, rfl⟩ := h1'
    exact ⟨b, s, z, h1, h2'⟩
  | .slice none _ _ _, _, _, _, h => h
  | .slice (some (i, o)) _ _ _, _, _, k, h => by
    simp only [VR] at h k ⊢; obtain ⟨b, s, z, o', c, h1, h2⟩ := k; obtain ⟨b', s', z', o2, c', h1', h2'⟩ := h
    rw [hρ _ _ h1] at h1'; simp only [Option.some.injEq, Prod.mk.injEq] at h1'; obtain ⟨rfl, rfl, rfl⟩ := h1'
    exact ⟨b, s, z, o2, c', h1, h2'⟩
  | .map none, _, _, _, h => h
  | .map (some r), _, _, k, h => by
    simp only [VR] at h k ⊢; obtain ⟨b, s, z, h1, h2⟩ := k; obtain ⟨b', s', z', h1', h2'⟩ := h
    rw [hρ _ _ h1] at h1'; simp only [Option.some.injEq, Prod.mk.injEq] at h1'; obtain ⟨rfl, rfl, rfl⟩ := h1'
    exact ⟨b, s, z, h1, h2'⟩
  | .func _ f c, _, _, k, h => by
    simp only [VR] at h k ⊢; obtain ⟨fs, cs, h1, h2, h3⟩ := h; obtain ⟨fs', cs', h1', h2', h3'⟩ := k
    exact ⟨fs, cs, h1, LR.down hρ f _ fs h2' h2, LR.down hρ c _ cs h3' h3⟩
  | .nilFunc, _, _, _, h => h
  | .iface _ x, _, _, k, h => by
    simp only [VR] at h k ⊢; obtain ⟨y, h1, h2⟩ := h; obtain ⟨y', h1', h2'⟩ := k
    exact ⟨y, h1, VR.down hρ x _ y h2' h2⟩
  | .nilIface, _, _, _, h => h
  | .agg cs, _, _, k, h => by
    simp only [VR] at h k ⊢; obtain ⟨vs, h1, h2⟩ := h; obtain ⟨vs', h1', h2'⟩ := k
    exact ⟨vs, h1, LR.down hρ cs _ vs h2' h2⟩
  | .tuple cs, _, _, k, h => by
    simp only [VR] at h k ⊢; obtain ⟨vs, h1, h2⟩ := h; obtain ⟨vs', h1', h2'⟩ := k
    exact ⟨vs, h1, LR.down hρ cs _ vs h2' h2⟩
theorem LR.down {ρ ρ' : Ren} (hρ : ρ.le ρ') : ∀ (xs : List AV) (us vs : List Value), LR ρ xs us → LR ρ' xs vs → LR ρ xs vs
  | [], _, _, _, h => h
  | a :: xs, _, _, k, h => by
    simp only [LR] at h k ⊢; obtain ⟨v, vs', h1, h2, h3⟩ := h; obtain ⟨v', vs2, h1', h2', h3'⟩ := k
    exact ⟨v, vs', h1, VR.down hρ a _ v h2' h2, LR.down hρ xs _ vs' h3' h3⟩
end

theorem ER.down {ρ ρ' : Ren} (hρ : ρ.le ρ') : ∀ (xs : List (AV × AV × Nat)) (es fs : List MapEntry), ER ρ xs es → ER ρ' xs fs → ER ρ xs fs
  | [], _, _, _, h => h
  | (k, v, n) :: xs, _, _, hk, h => by
    simp only [ER] at h hk ⊢; obtain ⟨e, es', h1, h2, h3, h4, h5⟩ := h; obtain ⟨e2, es2, k1, k2, k3, k4, k5⟩ := hk
    exact ⟨e, es', h1, VR.down hρ _ _ _ k2 h2, VR.down hρ _ _ _ k3 h3, h4, ER.down hρ xs _ _ k5 h5⟩

theorem OR.down {ρ ρ' : Ren} {i : Nat} {w w' : World} {o : AO} (hρ : ρ.le ρ') (k : OR ρ i w o) (h : OR ρ' i w' o) : OR ρ i w' o := by
  cases o with
  | dead => trivial
  | cells cs t ro =>
    simp only [OR] at k h ⊢
    obtain ⟨b, s, z, C, fz, h1, h2, h3, h4, h5, h6, h7⟩ := k
    obtain ⟨b', s', z', C', fz', h1', h2', h3', h4', h5', h6', h7'⟩ := h
    rw [hρ _ _ h1] at h1'; simp only [Option.some.injEq, Prod.mk.injEq] at h1'; obtain ⟨rfl, rfl, rfl⟩ := h1'
    exact ⟨b, s, z, C', fz', h1, h2', h3', h4', LR.down hρ _ _ _ h5 h5', h6', h7'⟩
  | map es clock =>
    simp only [OR] at k h ⊢
    obtain ⟨b, s, z, ES, h1, h2, h3⟩ := k
    obtain ⟨b', s', z', ES', h1', h2', h3'⟩ := h
    rw [hρ _ _ h1] at h1'; simp only [Option.some.injEq, Prod.mk.injEq] at h1'; obtain ⟨rfl, rfl, rfl⟩ := h1'
    exact ⟨b, s, z, ES', h1, h2', ER.down hρ _ _ _ h3 h3'⟩

variable {ρ : Ren} {h : AH} {w w1 : World}

theorem HR.below (hh : HR ρ h w) (hb : Below w.heap.size w w1) : HR ρ h w1 :=
  ⟨fun i x hx => ⟨(hh.dom i x hx).1, by have := (hh.dom i x hx).2; have := hb.size; omega⟩, hh.new, fun i o hg => (hh.obj i o hg).mono (Ren.le_refl _) fun _ x hx => hb.block _ (hh.dom i x hx).2, hh.inj⟩

theorem Frm.below (hb : Below w.heap.size w w1) : Frm ρ h w ρ h w1 :=
  ⟨Ren.le_refl _, fun _ _ => rfl, Nat.le_refl _, hb.os, hb.tape, hb.output, hb.size, fun b hlt _ => hb.block b hlt, fun _ hb => .inl hb, fun _ _ h _ _ => h⟩

theorem HR.addB (hh : HR ρ h w) (hn : Below w.heap.size w w1) {g z : Nat} (hg0 : w.heap.size ≤ g) (hg1 : g < w1.heap.size) {o : AO} (hwo : o.wr = true) (ho : OR (ρ.ext h.next (g, 0, z)) h.next w1 o) :
    HR (ρ.ext h.next (g, 0, z)) (h.add o) w1 ∧ Frm ρ h w (ρ.ext h.next (g, 0, z)) (h.add o) w1 := by
  have hle : ρ.le (ρ.ext h.next (g, 0, z)) := Ren.le_ext (hh.none (Nat.le_refl _))
  have hsame : ∀ i, i < h.next → (ρ.ext h.next (g, 0, z)) i = ρ i := fun i hi => Ren.ext_ne _ _ (by omega)
  refine ⟨⟨fun i x hx => ?_, fun i o' hg => ?_, fun i o' hg => ?_, fun i j oi oj x y hi hj hij hwi hlj hx hy => ?_⟩, ⟨hle, hsame, by simp, hn.os, hn.tape, hn.output, hn.size, fun b hb _ => hn.block b hb, fun b hb => ?_, fun i o' hg hl hw => ?_⟩⟩
  · by_cases e : i = h.next
    · subst e; rw [Ren.ext_self] at hx; simp only [Option.some.injEq] at hx; subst hx
      exact ⟨by simp, hg1⟩
    · rw [Ren.ext_ne _ _ e] at hx
      have := hh.dom i x hx
      have := hn.size
      simp; omega
  · rw [AH.get_add] at hg
    split at hg
    · rename_i e; subst e; simp
    · have := hh.new i o' hg; simp; omega
  · rw [AH.get_add] at hg
    split at hg
    · rename_i e; subst e; simp only [Option.some.injEq] at hg; subst hg; exact ho
    · rename_i e
      exact (hh.obj i o' hg).mono hle fun _ x hx => hn.block _ (hh.dom i x hx).2
  · rw [AH.get_add] at hi hj
    split at hi
    · rename_i e; subst e
      rw [if_neg hij] at hj
      rw [Ren.ext_self] at hx; simp only [Option.some.injEq] at hx; subst hx
      rw [hsame j (hh.new j oj hj)] at hy
      have := (hh.dom j y hy).2
      simp only; omega
    · rename_i e
      split at hj
      · rename_i e2; subst e2
        rw [Ren.ext_self] at hy; simp only [Option.some.injEq] at hy; subst hy
        rw [hsame i (hh.new i oi hi)] at hx
        have := (hh.dom i x hx).2
        simp only; omega
      · rw [hsame i (hh.new i oi hi)] at hx
        rw [hsame j (hh.new j oj hj)] at hy
        exact hh.inj i j oi oj x y hi hj hij hwi hlj hx hy
  · obtain ⟨i, o', x, hg, hw, hx, rfl⟩ := hb
    rw [AH.get_add] at hg
    split at hg
    · rename_i e; subst e; rw [Ren.ext_self] at hx; simp only [Option.some.injEq] at hx; subst hx; exact .inr hg0
    · rw [hsame i (hh.new i o' hg)] at hx; exact .inl ⟨i, o', x, hg, hw, hx, rfl⟩
  · rw [AH.get_add] at hg
    split at hg
    · simp only [Option.some.injEq] at hg; subst hg; rw [hwo] at hw; simp at hw
    · exact hg

/-- What a call has left, where it was asked to write to one object alone, and what else it made is forgotten. -/
theorem forget {ρ1 ρ' : Ren} {h1 h' h2 : AH} {w' : World} {i : Nat} {o2 : AO} (hh : HR ρ1 h1 w1) (f1 : Frm ρ h w ρ1 h1 w1) (hh' : HR ρ' h' w') (f2 : Frm ρ1 h1 w1 ρ' h' w') (hi : i < h1.next) (hni : ¬ i < h.next)
    (hn : h2.next = h1.next) (hg : h2.get i = some o2) (ho : ∀ j, j ≠ i → h2.get j = h1.get j) (hs : ∀ j, j < h1.next → j ≠ i → h'.get j = h1.get j) (hg' : h'.get i = some o2) (hw2 : o2.wr = true)
    (hor : OR ρ1 i w' o2) : HR ρ1 h2 w' ∧ Frm ρ h w ρ1 h2 w' := by
  have tot := f1.trans f2
  have lt2 : ∀ j o, h2.get j = some o → j < h1.next := fun j o hj => by
    by_cases e : j = i
    · omega
    · rw [ho j e] at hj; exact hh.new j o hj
  have same : ∀ j o, h2.get j = some o → h'.get j = some o := fun j o hj => by
    have hl := lt2 j o hj
    by_cases e : j = i
    · subst e; rw [hg] at hj; rw [hg']; exact hj
    · rw [hs j hl e, ← ho j e]; exact hj
  refine ⟨⟨fun j x hx => ?_, fun j o hj => ?_, fun j o hj => ?_, fun j k oj ok x y hj hk hjk hwj hlk hx hy => ?_⟩, ⟨f1.le, f1.old, by rw [hn]; exact f1.next, tot.os, tot.tape, tot.output, tot.size, tot.block, fun b hb => ?_, fun j o hj hl hw => ?_⟩⟩
  · have := hh.dom j x hx
    have := f2.size
    rw [hn]; omega
  · rw [hn]; exact lt2 j o hj
  · by_cases e : j = i
    · subst e; rw [hg] at hj; simp only [Option.some.injEq] at hj; subst hj; exact hor
    · have hj1 := hj
      rw [ho j e] at hj1
      exact (hh.obj j o hj1).down f2.le (hh'.obj j o (same j o hj))
  · exact hh'.inj j k oj ok x y (same j oj hj) (same k ok hk) hjk hwj hlk (f2.le _ _ hx) (f2.le _ _ hy)
  · obtain ⟨j, o, x, hj, hw, hx, rfl⟩ := hb
    exact tot.mine _ ⟨j, o, x, same j o hj, hw, f2.le _ _ hx, rfl⟩
  · by_cases e : j = i
    · subst e; rw [hg] at hj; simp only [Option.some.injEq] at hj; subst hj; rw [hw2] at hw; simp at hw
    · rw [ho j e] at hj
      exact f1.ro j o hj hl hw

end Go.Am

namespace Go.Proofs.YtlpbgmbiollimaaGreat
open Go Go.Am Go.RowKit _root_.Go.Proofs.Tryz

theorem mixed : prog.follows .mixedOrders = true := by kernel_rfl

theorem noNamed : prog.funcs.all (fun fn => !(fn.body.isSome && fn.name == "runtime.NumGoroutine")) = true := by kernel_rfl

theorem named : Named prog := by
  intro f fn hf hb
  have h := noNamed
  rw [Array.all_eq_true_iff_forall_mem] at h
  have := h fn (Array.mem_of_getElem? hf)
  rw [hb] at this
  simpa using this

theorem born_ok {clk : Nat} : ∀ {es : List (AV × AV × Nat)}, bornOk clk es = true → (∀ e ∈ es, e.2.2 < clk) ∧ (es.map (·.2.2)).Nodup
  | [], _ => ⟨fun e he => absurd he List.not_mem_nil, List.nodup_nil⟩
  | (a, b, n) :: es, h => by
    rw [bornOk, Bool.and_eq_true, Bool.and_eq_true] at h
    obtain ⟨⟨h1, h2⟩, h3⟩ := h
    rw [List.all_eq_true] at h2
    obtain ⟨g1, g2⟩ := born_ok h3
    have h1' : n < clk := Nat.le_of_ble_eq_true h1
    refine ⟨fun e he => ?_, ?_⟩
    · rcases List.mem_cons.1 he with rfl | he
      · exact h1'
      · exact g1 e he
    · rw [List.map_cons, List.nodup_cons]
      refine ⟨fun hm => ?_, g2⟩
      obtain ⟨e, he, hx⟩ := List.mem_map.1 hm
      have := h2 e he
      rw [hx] at this
      simp at this

variable {ρ : Ren}

theorem ER_facts : ∀ {es : List (AV × AV × Nat)} {ES : List MapEntry}, ER ρ es ES → (∀ e ∈ es, isU32 e.1 = true) →
    ES.map (·.born) = es.map (·.2.2) ∧ (∀ x ∈ ES, ∃ k, x.key = .int .u32 k) ∧ ES.map (fun e => valOf e.key) = es.map (fun e => u32of e.1)
  | [], _, h, _ => by simp only [ER] at h; subst h; simp
  | (k, v, n) :: es, _, h, hk => by
    simp only [ER] at h
    obtain ⟨e, es', rfl, h1, h2, rfl, h4⟩ := h
    obtain ⟨g1, g2, g3⟩ := ER_facts h4 (fun e he => hk e (List.mem_cons_of_mem _ he))
    have hk0 := hk _ (List.mem_cons_self)
    simp only at hk0
    have hkey : ∃ z, k = .int .u32 z := by
      unfold isU32 at hk0
      split at hk0
      · exact ⟨_, rfl⟩
      · simp at hk0
    obtain ⟨z, rfl⟩ := hkey
    simp only [VR] at h1
    refine ⟨by simp [g1], fun x hx => ?_, by rw [List.map_cons, List.map_cons, g3, h1]; rfl⟩
    rcases List.mem_cons.1 hx with rfl | hx
    · exact ⟨z, h1⟩
    · exact g2 x hx

theorem LR_keys : ∀ (ks : List Int), LR ρ (ks.map (AV.int .u32)) (ks.map encK)
  | [] => LR.nil
  | k :: ks => LR.cons (by simp [VR, encK]) (LR_keys ks)

theorem ones_keys (ks : List Int) : ones (ks.map (AV.int .u32)) = true := by
  simp [ones, AV.one]

/-- The call of the library's sort, at the row that the range has filled. -/
theorem sort_call {h : AH} {w w1 : World} (hh : HR ρ h w) (hb : Below w.heap.size w w1) {v : Value} {ks : List Int} (hr : w1.ownsRow (w.heap.size + 1) 38 1 v ks.length (ks.map encK)) (hne : ks ≠ []) (hlen : ks.length ≤ 1000000) :
    Calls prog 11 #[v] w1 fun e w' => e = .returned (.tuple #[]) ∧
      CallR ρ h w (.ret (.slice (some (h.next, 0)) ks.length ks.length 1)) (h.add (.cells ((sortedU ks).map (AV.int .u32)) 38 false)) (.returned v) w' := by
  have hpos : 0 < ks.length := List.length_pos_iff.2 hne
  have hslen : (sortedU ks).length = ks.length := by simp [sortedU]
  rcases hr.2 with ⟨-, h0⟩ | ⟨g, cap, cur, rfl, hg0, hgb, hncap, hcap, hcs, htk⟩
  · omega
  have hg1 : g < w1.heap.size := lt_of_block hgb
  rw [Nat.mul_one] at hcs htk
  obtain ⟨hh1, f1⟩ := hh.addB hb (g := g) (z := cur.size) (by omega) hg1 (o := .cells (ks.map (AV.int .u32)) 38 false) rfl (by
    refine OR.mk_cells (V := ks.map encK) (X := cur.toList.drop ks.length) (fz := (0, 0)) (Ren.ext_self _ _ _) ?_ (LR_keys ks) ?_ (ones_keys ks) (by simp)
    · rw [hgb, ← htk, List.take_append_drop]
    · rw [← htk, List.take_append_drop]; simp)
  have hwf : Wf h := fun i hi => by
    cases e : h.get i with
    | none => rfl
    | some o => have := hh.new i o e; omega
  have hR : Low.SortU.R h.next [] [] ks.toArray (h.add (.cells (ks.map (AV.int .u32)) 38 false)) :=
    ⟨by simp [cl, Low.SortU.U], hwf.add _⟩
  have hW := Low.SortU.sort (cap := ks.length) (N := ks.length) (Q := fun a h' => a = .tuple [] ∧ Low.SortU.R h.next [] [] (sortedU ks).toArray h' ∧ Fr [h.next] (h.add (.cells (ks.map (AV.int .u32)) 38 false)) h') (by omega) hR (by simp)
    (fun h' r f => ⟨rfl, by simpa [sortedU] using r, f⟩)
  obtain ⟨n, a, h', hrun, rfl, r', f'⟩ := Low.W_run hW
  have hsp := call_sound mixed named Low.orcOk hrun (us := [.slice (some ⟨g, 0, none⟩) ks.length cap]) (LR.cons (by
    simp only [VR, List.length_nil]
    exact ⟨g, 0, cur.size, 0, cap, Ren.ext_self _ _ _, rfl, Nat.le_refl _, hncap, by omega, .inr rfl⟩) LR.nil) hh1
  rcases hsp with ⟨_, hc⟩ | ⟨u, w', hrun', _⟩
  · refine hc.mono ?_
    rintro e w' ⟨ρ', hh', f2, u, rfl, hu⟩
    simp only [VR, LR] at hu
    obtain ⟨vs, rfl, rfl⟩ := hu
    refine ⟨rfl, ρ.ext h.next (g, 0, cur.size), ?_⟩
    have hg' : h'.get h.next = some (.cells ((sortedU ks).map (AV.int .u32)) 38 false) := by
      have := r'.get
      simpa [cl, Low.SortU.U] using this
    have key := forget (i := h.next) (h2 := h.add (.cells ((sortedU ks).map (AV.int .u32)) 38 false)) hh1 f1 hh' f2 (by simp) (by omega) rfl get_add_eq
      (fun j hj => by rw [get_add_ne (by omega), get_add_ne (by omega)]) (fun j hj hji => f'.get j hj (by simp; exact hji)) hg' rfl (by
        have ho := hh'.obj _ _ hg'
        simp only [OR] at ho ⊢
        obtain ⟨b, s, z, C, fz, k1, k2, k3, k4, k5, k6, k7⟩ := ho
        rw [f2.le _ _ (Ren.ext_self _ _ _)] at k1
        simp only [Option.some.injEq, Prod.mk.injEq] at k1
        obtain ⟨rfl, rfl, rfl⟩ := k1
        exact ⟨g, 0, cur.size, C, fz, Ren.ext_self _ _ _, k2, k3, k4, LR.down f2.le _ _ _ (LR_keys _) k5, k6, k7⟩)
    refine ⟨key.1, key.2, _, rfl, ?_⟩
    simp only [VR]
    exact ⟨g, 0, cur.size, 0, cap, Ren.ext_self _ _ _, rfl, Nat.le_refl _, hncap, by omega, .inr rfl⟩
  · rw [run_callFunc named func11 rfl] at hrun'; simp at hrun'

/-- The call of the library's sort, where nothing was there. -/
theorem sort_call_nil {h : AH} {w w1 : World} (hh : HR ρ h w) (hb : Below w.heap.size w w1) :
    Calls prog 11 #[.slice none 0 0] w1 fun e w' => e = .returned (.tuple #[]) ∧ CallR ρ h w (.ret (.slice none 0 0 0)) h (.returned (.slice none 0 0)) w' := by
  have hsp := call_sound mixed named Low.orcOk (Low.SortU.sort_nil h) (us := [.slice none 0 0]) (LR.cons (by simp [VR]) LR.nil) (hh.below hb)
  rcases hsp with ⟨_, hc⟩ | ⟨u, w', hrun', _⟩
  · refine hc.mono ?_
    rintro e w' ⟨ρ', hh', f2, u, rfl, hu⟩
    simp only [VR, LR] at hu
    obtain ⟨vs, rfl, rfl⟩ := hu
    exact ⟨rfl, ρ', hh', (Frm.below hb).trans f2, _, rfl, by simp [VR]⟩
  · rw [run_callFunc named func11 rfl] at hrun'; simp at hrun'

end Go.Proofs.YtlpbgmbiollimaaGreat

namespace Go.Proofs.YtlpbgmbiollimaaGreat
open Go Go.Am Go.RowKit _root_.Go.Proofs.Tryz

theorem sortedU_perm {xs ys : List Int} (h : xs.Perm ys) : sortedU xs = sortedU ys := mergeSort_perm h

theorem orcOk : OrcOk prog orc := by
  intro f g hf l h v h' hg ρ w us hl hh
  unfold orc at hf
  cases hbq : Nat.beq f 7 with
  | false => rw [hbq] at hf; simp at hf
  | true =>
    rw [hbq] at hf
    simp only [cond_true, Option.some.injEq] at hf
    subst hf
    have hf7 : f = 7 := Nat.eq_of_beq_eq_true hbq
    subst hf7
    unfold orcHandles at hg
    split at hg
    · rename_i p
      split at hg
      · rename_i m rest t ro hgp
        split at hg
        · rename_i es clk hgm
          cases hc : (es.all (fun e => isU32 e.1) && bornOk clk es && Nat.ble es.length 1000000) with
          | false => rw [hc] at hg; simp at hg
          | true =>
            rw [hc] at hg
            simp only [cond_true] at hg
            rw [Bool.and_eq_true, Bool.and_eq_true, List.all_eq_true] at hc
            obtain ⟨⟨hk, hbn⟩, hlen⟩ := hc
            have hlen := Nat.le_of_ble_eq_true hlen
            obtain ⟨hb1, hb2⟩ := born_ok hbn
            -- the pointer, its cell, the map's block
            simp only [LR] at hl
            obtain ⟨u, us', rfl, hu, rfl⟩ := hl
            have hop := hh.obj _ _ hgp
            have hom := hh.obj _ _ hgm
            simp only [OR] at hop hom
            obtain ⟨b, s, z, C, fz, k1, k2, k3, k4, k5, -, -⟩ := hop
            obtain ⟨bm, sm, zm, ES, e1, e2, e3⟩ := hom
            simp only [VR] at hu
            obtain ⟨b', s', z', k1', rfl⟩ := hu
            rw [k1] at k1'
            simp only [Option.some.injEq, Prod.mk.injEq] at k1'
            obtain ⟨rfl, rfl, rfl⟩ := k1'
            obtain ⟨x, hx, hvx⟩ := k5.get (j := 0) (a := .map (some m)) rfl
            simp only [VR] at hvx
            obtain ⟨bm', sm', zm', e1', rfl⟩ := hvx
            rw [e1] at e1'
            simp only [Option.some.injEq, Prod.mk.injEq] at e1'
            obtain ⟨rfl, rfl, rfl⟩ := e1'
            have hcell : w.cell? ⟨b, s + 0, none⟩ = some (.map (some bm)) := by
              rw [List.getElem?_take, List.getElem?_drop] at hx
              simp only [List.length_cons, Nat.zero_lt_succ, if_true, Nat.add_zero] at hx
              simp [World.cell?, k2, hx]
            obtain ⟨g1, g2, g3⟩ := ER_facts e3 hk
            have hES : ES.length = es.length := e3.length
            refine .inl ⟨run_callFunc named func7 rfl _ _, ?_⟩
            refine handles_walk w b (s + 0) bm clk ⟨ES⟩ hcell e2 (fun x hx => ?_) (by show (ES.map (·.born)).Nodup; rw [g1]; exact hb2) g2 (by show ES.length ≤ _; omega) ?_
            · have hm : x.born ∈ ES.map (·.born) := List.mem_map.2 ⟨x, hx, rfl⟩
              rw [g1] at hm
              obtain ⟨e, he, hx2⟩ := List.mem_map.1 hm
              rw [← hx2]; exact hb1 e he
            · intro v1 ks w1 hr hp hbel hnil
              have hp' : ks.Perm (es.map fun e => u32of e.1) := by rw [← g3]; exact hp
              have hkl : ks.length = es.length := by rw [hp'.length_eq, List.length_map]
              cases es with
              | nil =>
                simp only [Option.some.injEq, Prod.mk.injEq] at hg
                obtain ⟨rfl, rfl⟩ := hg
                have hks : ks = [] := List.length_eq_zero_iff.1 hkl
                rw [hnil hks]
                exact sort_call_nil hh hbel
              | cons e es =>
                simp only [Option.some.injEq, Prod.mk.injEq] at hg
                obtain ⟨rfl, rfl⟩ := hg
                rw [← sortedU_perm hp', ← hkl]
                exact sort_call hh hbel hr (fun e => by subst e; simp at hkl) (by omega)
        · simp at hg
      · simp at hg
    · simp at hg

/-- The law's walk. -/
theorem walkNat {n size drop : Nat} (hn : n < 256) (hs : size < 65536) (hd : drop < 256) (w : World) :
    Calls prog 3 #[.int .u8 n, .int .u16 size, .int .u8 drop] w fun e w' => e = .returned (.bool true) ∧ Below w.heap.size w w' := by
  have hW := law hn hs hd
  obtain ⟨v, h', e, rfl⟩ := hW
  unfold C ca at e
  split at e
  · rename_i x h1 hx
    simp only [Option.some.injEq, Prod.mk.injEq, Ex.ok.injEq] at e
    obtain ⟨rfl, rfl⟩ := e
    obtain ⟨k, hk⟩ := of_callX hx
    exact entry_true mixed named orcOk func3 rfl hk (us := [.int .u8 n, .int .u16 size, .int .u8 drop]) (by simp [LR, VR]) w
  · simp at e
  · simp at e

end Go.Proofs.YtlpbgmbiollimaaGreat
