/-
  Small helps for the walks: endings, worlds, regions that draw their order.
  Rows that a sort lays anew, in the words of the walks.
  slices.Clone at edges and at ints.
  A row of rows of one's own: one of its rows is made longer.
  FcmpisNaNint: a function's answer, or words of the walks.
  FcmpCompareint: a function's answer, or words of the walks.
  FcmpOrint: a function's answer, or words of the walks.
  Fgraphcompare: a function's answer, or words of the walks.
  Graphs: what is right, and that graph.Right tells it.
  The comparing functions that are handed to slices.SortFunc: what they answer, and that they lay blocks and draw at most.
  topo.pairs: between which tops the paths go.
-/
import Derived.Test.YtkemhnfaheplhaaTopoGrows1
import Derived.Test.YtkemhnfaheplhaaTopoGrows2
import Derived.Sort.Grow
import Derived.Shelf.GgSortFunc.RowK
import Derived.Lib.SliceRun
namespace Go.Proofs.Ytkemhnfaheplhaa.F
open Go.RowKit Go.Proofs.YtkemhnfaheplhaaW.PrintWords Go.Proofs.YtkemhnfaheplhaaW.PrintLast Go.Proofs.YtkemhnfaheplhaaW.PrintMore Go.Proofs.Ytkemhnfaheplhaa.Mix
set_option linter.unusedVariables false
set_option linter.unusedSimpArgs false
theorem ret_bool {a b : Bool} (h : a = b) : Ending.returned (.bool a) = .returned (.bool b) := by rw [h]
theorem cell_then {w : World} {a : Addr} {v : Value} (h : w.cell? a = some v) (o : Obj) : (w.alloc o).cell? a = some v := pw_cell_below (below_alloc (Below.refl _ _) o) h
theorem ret_below {w w1 : World} (h : Below w.heap.size w w1) (o : Obj) {n : Nat} : Below w.heap.size w ((w1.alloc o).drewN n) := pw_below_drewN (h.alloc h.size o) n
theorem bw_cell {W : World} (x : BW W) {a : Addr} {v : Value} (h : W.cell? a = some v) : x.val.cell? a = some v := pw_cell_below x.below h
theorem region_bw {P : Program} {id : Nat} {Q : Exit → Act → World → Prop} {a : Act} {W : World} {l : List Oper} (hm : P.follows .mixedOrders = true) (hB : Region.lexB .any l.toArray = true)
    (h : wpQuiet P l.toArray (fun w' => ∃ x : BW W, w' = x.val) (fun a' => ∀ w', (∃ x : BW W, w' = x.val) → Q .normal a' w') l a) : (Code.region id l.toArray true).wp P Q a W :=
  wp_region_quiet (C := fun w' => ∃ x : BW W, w' = x.val) hm hB ⟨⟨_, (Below.refl _ W).drew⟩, rfl⟩ h
theorem calls_bw {P : Program} {f : FuncId} {args : Array Value} {W : World} {x : BW W} {v : Value} (h : Calls P f args x.val fun e w' => e = .returned v ∧ Below x.val.heap.size x.val w') :
    Calls P f args x.val fun e w' => e = .returned v ∧ ∃ y : BW W, w' = y.val :=
  h.mono fun e w' ⟨he, hb⟩ => ⟨he, ⟨_, below_then x.below x.below.size hb⟩, rfl⟩
theorem calls_bw_drawn {P : Program} {f : FuncId} {args : Array Value} {W : World} {x : BW W} {v : Value} (h : Calls P f args x.val fun e w' => e = .returned v ∧ Drawn0 x.val w') :
    Calls P f args x.val fun e w' => e = .returned v ∧ ∃ y : BW W, w' = y.val :=
  calls_bw (h.mono fun e w' ⟨he, hb⟩ => ⟨he, hb.below⟩)
section
variable {P : Program} {ops : Array Oper} {W0 : World → Prop} {n : Nat} {E : Nat → Bool} {K : Act → World → Prop}
theorem cm_of {k : Nat} {w : World} (h : W0 w) : CM W0 n k w := by
  unfold CM
  split
  · exact ⟨⟨w, h⟩, rfl⟩
  · trivial
theorem cm_late {k : Nat} {w : World} (h : n ≤ k) : CM W0 n k w := by
  unfold CM
  rw [if_neg (by omega)]
  trivial
theorem mix_done {k : Nat} {a : Act} {w : World} (h : K a w) : wpMix P ops W0 n E K k [] a w := h
theorem mix_eff {k : Nat} {o : Oper} {r : List Oper} {a : Act} {w : World} (hE : E k = true) (hC : CM W0 n k w)
    (h : wpList P ops (fun e a' w' => e = .normal ∧ CM W0 n k w' ∧ wpMix P ops W0 n E K (k + 1) r a' w') [o] a w) : wpMix P ops W0 n E K k (o :: r) a w := by
  refine ⟨hC, ?_⟩
  rw [if_pos hE]
  exact h
theorem mix_quiet : ∀ (m : Nat) {k : Nat} {l : List Oper} {a : Act} {w : World}, (∀ i, i < m → E (k + i) = false) → k + m ≤ n → W0 w →
    wpQuiet P ops (fun w' => ∃ x : XW W0, w' = x.val) (fun a' => wpMix P ops W0 n E K (k + m) (l.drop m) a' w) (l.take m) a → wpMix P ops W0 n E K k l a w
  | 0, _, _, _, _, _, _, _, h => h
  | m + 1, k, [], a, w, hE, hn, hb, h => by
    have h : wpMix P ops W0 n E K (k + (m + 1)) [] a w := h
    exact h
  | m + 1, k, o :: r, a, w, hE, hn, hb, h => by
    have ih := fun a' h' => mix_quiet m (k := k + 1) (l := r) (a := a') (w := w) (fun i hi => by have := hE (i + 1) (by omega); rwa [Nat.add_assoc, Nat.add_comm 1 i]) (by omega) hb h'
    have e : k + 1 + m = k + (m + 1) := by omega
    rw [e] at ih
    refine ⟨cm_of hb, ?_⟩
    rw [if_neg (by have := hE 0 (by omega); simp at this; simp [this])]
    rw [List.take_succ_cons, List.drop_succ_cons] at h
    unfold wpQuiet at h
    split
    · rename_i hw
      rw [if_pos hw] at h
      have hcm : CM W0 n k = fun w' => ∃ x : XW W0, w' = x.val := by funext w'; unfold CM; rw [if_pos (by omega)]
      rw [hcm]
      exact Oper.quiet_mono ih h
    · rename_i hw
      rw [if_neg hw] at h
      exact ih _ h
theorem mix_late : ∀ (m : Nat) {k : Nat} {l : List Oper} {a : Act} {w : World}, (∀ i, i < m → E (k + i) = false) → n ≤ k →
    wpQuiet P ops (fun _ => True) (fun a' => wpMix P ops W0 n E K (k + m) (l.drop m) a' w) (l.take m) a → wpMix P ops W0 n E K k l a w
  | 0, _, _, _, _, _, _, h => h
  | m + 1, k, [], a, w, hE, hn, h => by
    have h : wpMix P ops W0 n E K (k + (m + 1)) [] a w := h
    exact h
  | m + 1, k, o :: r, a, w, hE, hn, h => by
    have ih := fun a' h' => mix_late m (k := k + 1) (l := r) (a := a') (w := w) (fun i hi => by have := hE (i + 1) (by omega); rwa [Nat.add_assoc, Nat.add_comm 1 i]) (by omega) h'
    have e : k + 1 + m = k + (m + 1) := by omega
    rw [e] at ih
    refine ⟨cm_late hn, ?_⟩
    rw [if_neg (by have := hE 0 (by omega); simp at this; simp [this])]
    rw [List.take_succ_cons, List.drop_succ_cons] at h
    unfold wpQuiet at h
    split
    · rename_i hw
      rw [if_pos hw] at h
      have hcm : CM W0 n k = fun _ => True := by funext w'; unfold CM; rw [if_neg (by omega)]
      rw [hcm]
      exact Oper.quiet_mono ih h
    · rename_i hw
      rw [if_neg hw] at h
      exact ih _ h
end
end Go.Proofs.Ytkemhnfaheplhaa.F
namespace Go.Proofs.Ytkemhnfaheplhaa.F
open Go.RowKit Go.Proofs.YtkemhnfaheplhaaW.PrintWords Go.Proofs.YtkemhnfaheplhaaW.PrintLast Go.Proofs.YtkemhnfaheplhaaW.PrintMore
set_option linter.unusedVariables false
set_option linter.unusedSimpArgs false
theorem putCells_size {α : Type} [Inhabited α] (enc : α → Value) (off : Nat) (d : Array α) (c : Array Value) : (Sort.putCells enc off d c).size = c.size := by simp [Sort.putCells]
theorem putCells_get (F c : Array Value) (i : Nat) (hi : i < c.size) : (Sort.putCells id 0 F c)[i]? = some (if i < F.size then F[i]! else c[i]!) := by
  simp [Sort.putCells, Array.getElem?_mapIdx, hi]
theorem putCells_take (F c : Array Value) (h : F.size ≤ c.size) : (Sort.putCells id 0 F c).toList.take F.size = F.toList := by
  apply List.ext_getElem?
  intro i
  rw [List.getElem?_take]
  by_cases hi : i < F.size
  · rw [if_pos hi, Array.getElem?_toList, putCells_get F c i (by omega), if_pos hi, Array.getElem?_toList]
    simp [hi]
  · rw [if_neg hi, Array.getElem?_toList, Array.getElem?_eq_none (by omega)]
theorem putRow_map {α : Type} [Inhabited α] (enc : α → Value) (w : World) (g : Nat) (d : Array α) : Sort.putRow enc w g 0 d = Sort.putRow id w g 0 (d.map enc) := by
  unfold Sort.putRow
  congr 1
  funext c
  unfold Sort.putCells
  congr 1
  funext k x
  by_cases hk : k < d.size
  · simp [hk]
  · simp [hk]
theorem put_own {w : World} {base e size n cap g m : Nat} {F : Array Value} {os : Array Obj} {xs : List Value} (h : w.ownsRow base e size (.slice (some ⟨g, 0, none⟩) n cap) n xs) (hF : F.size = n * size) :
    (Sort.grow (Sort.putRow id (Sort.ahead w m) g 0 F) os).ownsRow base e size (.slice (some ⟨g, 0, none⟩) n cap) n F.toList ∧ w.grownBy (Sort.grow (Sort.putRow id (Sort.ahead w m) g 0 F) os) (some g) := by
  obtain ⟨h1, ⟨h2, _⟩ | ⟨g', cap', cur, h2, hb, hg, hn, hm, hs, ht⟩⟩ := h
  · cases h2
  cases h2
  have hlt : g < w.heap.size := (Array.getElem?_eq_some_iff.1 hg).1
  have hcs : F.size ≤ cur.size := by rw [hs, hF]; exact Nat.mul_le_mul_right _ hn
  refine ⟨⟨by simp [hF], .inr ⟨g, cap, Sort.putCells id 0 F cur, rfl, hb, ?_, hn, hm, by rw [putCells_size]; exact hs, by rw [← hF]; exact putCells_take F cur hcs⟩⟩, rfl, rfl, rfl, ?_, fun k hk hne => ?_⟩
  · rw [Sort.heap_grow_old _ _ (by simp [Sort.putRow, Sort.mapBlock, Sort.ahead]; exact hlt)]
    simp only [Sort.putRow, Sort.mapBlock, Sort.ahead, Array.getElem?_modify, if_pos, hg]
    rfl
  · simp [Sort.grow, Sort.putRow, Sort.mapBlock, Sort.ahead]
  · rw [Sort.heap_grow_old _ _ (by simp [Sort.putRow, Sort.mapBlock, Sort.ahead]; exact hk)]
    simp only [Sort.putRow, Sort.mapBlock, Sort.ahead, Array.getElem?_modify]
    rw [if_neg (fun e => hne (by rw [e]))]
theorem own_holds {w : World} {base e size n cap g : Nat} {xs : List Value} (h : w.ownsRow base e size (.slice (some ⟨g, 0, none⟩) n cap) n xs) : Sort.Holds id w g 0 xs.toArray ∧ g < w.heap.size := by
  obtain ⟨h1, ⟨h2, _⟩ | ⟨g', cap', cur, h2, hb, hg, hn, hm, hs, ht⟩⟩ := h
  · cases h2
  cases h2
  refine ⟨fun j hj => ⟨?_, blk_frozen hg _⟩, (Array.getElem?_eq_some_iff.1 hg).1⟩
  have hj' : j < xs.length := by simpa using hj
  have e1 := blk_cell hg (0 + j)
  rw [e1, Nat.zero_add]
  have e2 : xs[j]? = cur.toList[j]? := by rw [← ht, List.getElem?_take, if_pos (by rw [← h1]; exact hj')]
  have e3 : cur[j]? = xs[j]? := by rw [e2]; simp
  rw [e3]
  simp [hj']
theorem reps_flat {α : Type} {P : α → List Value → Prop} {sz : Nat} (enc : α → List Value) (hk : ∀ x, (enc x).length = sz) (hp : ∀ x, P x (enc x)) : ∀ xs : List α, Reps P sz xs (xs.flatMap enc)
  | [] => Reps.none _ _
  | x :: xs => by
    have ih := reps_flat enc hk hp xs
    refine ⟨by rw [List.flatMap_cons, List.length_append, ih.1, hk, List.length_cons, Nat.add_mul, Nat.one_mul, Nat.add_comm], fun j p hj => ?_⟩
    rw [List.flatMap_cons]
    cases j with
    | zero =>
      simp only [List.getElem?_cons_zero, Option.some.injEq] at hj
      subst hj
      simp [List.take_append_of_le_length, hk, List.take_of_length_le]
      exact hp x
    | succ j =>
      rw [List.getElem?_cons_succ] at hj
      have := ih.2 j p hj
      have e1 : (enc x ++ xs.flatMap enc).drop sz = xs.flatMap enc := by rw [← hk x, List.drop_left]
      rwa [Nat.succ_mul, Nat.add_comm, ← List.drop_drop, e1]
theorem flat_of_reps {α : Type} {P : α → List Value → Prop} {sz : Nat} (enc : α → List Value) (hk : ∀ x, (enc x).length = sz) (hp : ∀ x cs, P x cs → cs = enc x) : ∀ (xs : List α) (inner : List Value), Reps P sz xs inner → inner = xs.flatMap enc
  | [], inner, h => by have := h.1; simp at this; simp [this]
  | x :: xs, inner, h => by
    have h0 := hp _ _ (h.2 0 x rfl)
    simp at h0
    have hl : inner.length = (xs.length + 1) * sz := by simpa using h.1
    have ih := flat_of_reps enc hk hp xs (inner.drop sz) ⟨by rw [List.length_drop, hl, Nat.add_mul, Nat.one_mul, Nat.add_sub_cancel], fun j p hj => by
      have := h.2 (j + 1) p (by simpa using hj)
      rwa [Nat.add_mul, Nat.one_mul, Nat.add_comm, ← List.drop_drop] at this⟩
    rw [List.flatMap_cons, ← ih, ← h0, List.take_append_drop]
theorem flatK_list {α : Type} [Inhabited α] (enc : α → List Value) (k : Nat) (hk : ∀ x, (enc x).length = k) (xs : List α) : (Sort.flatK enc k xs.toArray).toList = xs.flatMap enc := by
  rcases Nat.eq_zero_or_pos k with rfl | k0
  · have : xs.flatMap enc = [] := by
      rw [List.flatMap_eq_nil_iff]
      intro x _
      exact List.eq_nil_of_length_eq_zero (hk x)
    rw [this]
    apply List.eq_nil_of_length_eq_zero
    simp
  have hr := reps_flat (P := fun x cs => cs = enc x) enc hk (fun _ => rfl) xs
  apply List.ext_getElem?
  intro t
  by_cases ht : t < xs.length * k
  · have hq : t / k < xs.length := Nat.div_lt_of_lt_mul (by rw [Nat.mul_comm]; exact ht)
    have h1 := hr.2 (t / k) _ (List.getElem?_eq_getElem hq)
    have h2 : (xs.flatMap enc)[t]? = (enc xs[t / k])[t % k]? := by
      rw [← h1, List.getElem?_take, if_pos (Nat.mod_lt _ k0), List.getElem?_drop, Nat.mul_comm, Nat.div_add_mod]
    have h3 := Sort.get_flatK enc k xs.toArray t (by simpa using ht)
    rw [h2, Array.getElem?_toList]
    have hs : t < (Sort.flatK enc k xs.toArray).size := by simpa using ht
    rw [Array.getElem?_eq_getElem hs, ← getElem!_pos _ t hs, h3]
    have h4 : t % k < (enc xs[t / k]).length := by rw [hk]; exact Nat.mod_lt _ k0
    rw [List.getElem?_eq_getElem h4]
    simp [hq, h4]
  · rw [List.getElem?_eq_none (by simp; omega), List.getElem?_eq_none (by rw [hr.1]; omega)]
end Go.Proofs.Ytkemhnfaheplhaa.F
namespace Go.Proofs.Ytkemhnfaheplhaa.F
open Go.RowKit Go.Proofs.YtkemhnfaheplhaaW.PrintWords Go.Proofs.YtkemhnfaheplhaaW.PrintLast Go.Proofs.YtkemhnfaheplhaaW.PrintMore
set_option linter.unusedVariables false
set_option linter.unusedSimpArgs false
theorem own_empty (w : World) (base e size : Nat) (hb : base ≤ w.heap.size) : (w.alloc (.cells #[] e)).ownsRow base e size (.slice (some ⟨w.heap.size, 0, none⟩) 0 0) 0 [] :=
  ⟨by simp, .inr ⟨_, _, _, rfl, hb, heap_alloc_new _ _, Nat.le_refl _, by simp [maxLen], by simp, by simp⟩⟩
theorem R_empty {α : Type} (d : Kd α) (w : World) (base e : Nat) (hb : base ≤ w.heap.size) : Kd.R d e (w.alloc (.cells #[] e)) base (fun _ => True) (.slice (some ⟨w.heap.size, 0, none⟩) 0 0) [] :=
  ⟨fun _ _ => trivial, [], own_empty w base e d.sz hb, Reps.none _ _⟩
set_option maxHeartbeats 1000000 in
theorem cloneE_calls (A : Option Addr) (c : Nat) (l : List S69) (w : World) (hr : Kd.C k69 w A l.length l) (hc : l.length ≤ c) (hb : l.length ≤ 8000000) :
    Calls Try.prog 63 #[.slice A l.length c] w fun e w' => ∃ v0_ : Value, e = .returned (v0_) ∧ Kd.R k69 69 w' w.heap.size (fun _ => True) v0_ l ∧ Below w.heap.size w w' := by
  have q22 : ∀ (w : World) (a : Option Addr) (n c n' c' : Nat), (binOp .eql 22 (.slice a n c) (.slice none n' c')).run Try.prog w = .ok (.bool a.isNone) w := fun w a n c n' c' => Go.Lib.run_eql_slice_nil w _ _ a n c n' c' Try.underlying22
  have HR := Aside0.mk hr
  clear hr
  cases A with
  | none =>
    have h0 : l = [] := by
      rcases l with _ | ⟨x, l⟩
      · rfl
      · obtain ⟨ad, e, _⟩ := HR.out.2.2 (by simp)
        cases e
    go_enter Try.func63, Try.ntmps63
    go_wp2
    go_ret
    exact ⟨_, rfl, by rw [h0]; exact Kd.R_nil _ _ _ _ _, Below.refl _ _⟩
  | some ad =>
    go_enter Try.func63, Try.ntmps63
    go_wp2_with (at_builtin; refine Kd.R_append_rows k69 (w0 := w) (Rr := k69.M w w.heap.size (fun _ => False)) w.heap.size rfl (.tmp 5) (.tmp 6) 22 69 (.agg #[(.int .i64 0), (.int .i64 0)]) 16 rfl Try.underlying22 info69 rfl (by decide) (by omega) (.slice (some ⟨w.heap.size, 0, none⟩) 0 0) [] l (some ad) l.length c (fun _ => True) (fun _ => False) rfl rfl (R_empty k69 w w.heap.size 69 (Nat.le_refl _)) ?aR (fun x cs h => h) (fun _ h => h.elim) (fun _ _ => trivial) ((Below.refl _ w).alloc (Nat.le_refl _) _) (by simp) (by simp; omega) ?_; (case aR => exact Kd.C_below HR.out ((Below.refl _ w).alloc (Nat.le_refl _) _)); intro v1 w1 ho hb1 hg hat)
    go_ret
    exact ⟨_, rfl, by simpa using ho, hb1⟩
set_option maxHeartbeats 1000000 in
theorem cloneI_calls (A : Option Addr) (c : Nat) (l : List Int) (w : World) (hr : Kd.C (Kd.int .i64) w A l.length l) (hc : l.length ≤ c) (hb : l.length ≤ 8000000) :
    Calls Try.prog 84 #[.slice A l.length c] w fun e w' => ∃ v0_ : Value, e = .returned (v0_) ∧ Kd.R (Kd.int .i64) 3 w' w.heap.size (fun _ => True) v0_ l ∧ Below w.heap.size w w' := by
  have q22 : ∀ (w : World) (a : Option Addr) (n c n' c' : Nat), (binOp .eql 26 (.slice a n c) (.slice none n' c')).run Try.prog w = .ok (.bool a.isNone) w := fun w a n c n' c' => Go.Lib.run_eql_slice_nil w _ _ a n c n' c' Try.underlying26
  have HR := Aside0.mk hr
  clear hr
  cases A with
  | none =>
    have h0 : l = [] := by
      rcases l with _ | ⟨x, l⟩
      · rfl
      · obtain ⟨ad, e, _⟩ := HR.out.2.2 (by simp)
        cases e
    go_enter Try.func84, Try.ntmps84
    go_wp2
    go_ret
    exact ⟨_, rfl, by rw [h0]; exact Kd.R_nil _ _ _ _ _, Below.refl _ _⟩
  | some ad =>
    go_enter Try.func84, Try.ntmps84
    go_wp2_with (at_builtin; refine Kd.R_append_rows (Kd.int .i64) (w0 := w) (Rr := (Kd.int .i64).M w w.heap.size (fun _ => False)) w.heap.size rfl (.tmp 5) (.tmp 6) 26 3 (.int .i64 0) 8 rfl Try.underlying26 info3 rfl (by decide) (by omega) (.slice (some ⟨w.heap.size, 0, none⟩) 0 0) [] l (some ad) l.length c (fun _ => True) (fun _ => False) rfl rfl (R_empty (Kd.int .i64) w w.heap.size 3 (Nat.le_refl _)) ?aR (fun x cs h => h) (fun _ h => h.elim) (fun _ _ => trivial) ((Below.refl _ w).alloc (Nat.le_refl _) _) (by simp) (by simp; omega) ?_; (case aR => exact Kd.C_below HR.out ((Below.refl _ w).alloc (Nat.le_refl _) _)); intro v1 w1 ho hb1 hg hat)
    go_ret
    exact ⟨_, rfl, by simpa using ho, hb1⟩
theorem if_some {α : Type} {p : Prop} [Decidable p] {a r : α} (h : (if p then some a else none) = some r) : p ∧ a = r := by
  by_cases hp : p
  · rw [if_pos hp] at h; exact ⟨hp, by simpa using h⟩
  · rw [if_neg hp] at h; cases h
def api_Edge_63.f (l : List S69) : Option (List S69) := if l.length ≤ 8000000 then some l else none
theorem api_Edge_63.calls (A0 : Option Addr) (c0 : Nat) (l0 : List (S69)) (r : List (S69)) (w : World) (hr0 : Kd.C k69 w A0 l0.length l0) (hc0 : l0.length ≤ c0) (h : api_Edge_63.f l0 = some r) :
    Calls Try.prog 63 #[.slice A0 l0.length c0] w fun e w' => ∃ v0_ : Value, e = .returned (v0_) ∧ Kd.R k69 69 w' w.heap.size (fun _ => True) v0_ r ∧ Below w.heap.size w w' := by
  obtain ⟨hl, rfl⟩ := if_some h
  exact cloneE_calls A0 c0 l0 w hr0 hc0 hl
end Go.Proofs.Ytkemhnfaheplhaa.F
namespace Go.Proofs.Ytkemhnfaheplhaa.F
open Go.RowKit Go.Proofs.YtkemhnfaheplhaaW.PrintWords Go.Proofs.YtkemhnfaheplhaaW.PrintLast Go.Proofs.YtkemhnfaheplhaaW.PrintMore
set_option linter.unusedVariables false
set_option linter.unusedSimpArgs false
theorem S_grow {W : World} {base g n cap : Nat} {ok : Nat → Prop} {xs : List (List Int)} (h : Kd.S (Kd.slice 3 (Kd.int .i64)) 26 W base ok (.slice (some ⟨g, 0, none⟩) n cap) xs) (i : Int) (h0 : 0 ≤ i) (h1 : i < n) :
    ∃ (oki : Nat → Prop) (va : Value), W.cell? ⟨g, i.toNat, none⟩ = some va ∧ W.frozen? ⟨g, i.toNat, none⟩ = false ∧ Kd.R (Kd.int .i64) 3 W base oki va (xs.getD i.toNat []) ∧ (∀ k, oki k → ok k ∧ k ≠ g) ∧
      ∀ {w1 : World} {v1 : Value} {ys : List Int}, Kd.R (Kd.int .i64) 3 w1 base (fun k => oki k ∨ ok k ∧ W.heap.size ≤ k) v1 ys → W.grownBy w1 va.ownBlock →
        w1.cell? ⟨g, i.toNat, none⟩ = some va ∧ w1.frozen? ⟨g, i.toNat, none⟩ = false ∧
        Kd.S (Kd.slice 3 (Kd.int .i64)) 26 (w1.setCell ⟨g, i.toNat, none⟩ v1) base ok (.slice (some ⟨g, 0, none⟩) n cap) (xs.set i.toNat ys) ∧ w1.grownBy (w1.setCell ⟨g, i.toNat, none⟩ v1) (some g) := by
  obtain ⟨oki, c, hcl, hM, hcc, hfr, hoki, hH⟩ := Kd.S_elem h [] i h0 h1
  obtain ⟨va, rfl, ge⟩ := hM
  have hv := hcc 0 va rfl
  have hf := hfr 0
  have e1 : (Kd.slice 3 (Kd.int .i64)).sz = 1 := rfl
  rw [e1, Nat.mul_one, Nat.add_zero] at hv hf
  refine ⟨oki, va, hv, hf, ge, hoki, fun {w1 v1 ys} ho hg => ?_⟩
  have HH := Kd.H_grown (Kd.H_widen hH) hg (fun k e => .inl (ge.1 k e))
  have HP := Kd.S_seg0 HH h0 h1 (seg := [v1]) (j := 0) (show 1 ≤ 1 from by decide) (x' := ys) (Kd.M_row ho) (fun _ hk => hk)
  simp only [e1, Nat.mul_one, Nat.add_zero] at HP
  have hne : ∀ k, va.ownBlock = some k → k ≠ g := fun k e => (hoki k (ge.1 k e)).2
  have hlt : g < W.heap.size := by
    have := World.block_lt_of_cell? W _ hv
    exact this
  have hgk : w1.heap[g]? = W.heap[g]? := hg.block g hlt (fun e => hne g e.symm rfl)
  refine ⟨(World.cell?_of_block (a := ⟨g, i.toNat, none⟩) hgk).trans hv, (World.frozen?_of_block (a := ⟨g, i.toNat, none⟩) hgk).trans hf, ?_, ?_⟩
  · exact HP.1
  · exact HP.2
end Go.Proofs.Ytkemhnfaheplhaa.F
namespace Go.Proofs.Ytkemhnfaheplhaa.F
open Go.RowKit Go.Proofs.YtkemhnfaheplhaaW.PrintWords Go.Proofs.YtkemhnfaheplhaaW.PrintLast Go.Proofs.YtkemhnfaheplhaaW.PrintMore
attribute [local go_sem] max2_int min2_int max_two min_two max_three min_three max_four min_four
set_option linter.unusedVariables false
set_option linter.unusedSimpArgs false
def cmp_isNaN_int.f (a0 : Int) : Option (Bool) := some (a0 != a0)
set_option maxHeartbeats 8000000 in
set_option maxRecDepth 100000 in
theorem cmp_isNaN_int.calls (a0 : Int) (r : Bool) (w : World) (h : cmp_isNaN_int.f a0 = some r) :
    Calls Try.prog 154 #[.int .i64 a0] w fun e w' => e = .returned (.bool r) ∧ Drawn0 w w' := by
  have H : (some (a0 != a0)) = some r := h
  clear h
  obtain rfl := Option.some.inj H
  go_enter Try.func154, Try.ntmps154
  go_wp2
  go_ret
  exact ⟨by first | rfl | (simp; done) | (simp [*]; done), by repeat (first | exact Drawn0.refl _ | apply Drawn0.step)⟩
end Go.Proofs.Ytkemhnfaheplhaa.F
namespace Go.Proofs.Ytkemhnfaheplhaa.F
open Go.RowKit Go.Proofs.YtkemhnfaheplhaaW.PrintWords Go.Proofs.YtkemhnfaheplhaaW.PrintLast Go.Proofs.YtkemhnfaheplhaaW.PrintMore
attribute [local go_sem] max2_int min2_int max_two min_two max_three min_three max_four min_four
set_option linter.unusedVariables false
set_option linter.unusedSimpArgs false
def cmp_Compare_int.f (a0 : Int) (a1 : Int) : Option (Int) := (cmp_isNaN_int.f a0).bind fun t101 => ((cmp_isNaN_int.f a1).bind fun t102 => (if t101 = true then (if t102 = true then (some 0) else (some (-1))) else (if t102 = true then (some 1) else (if a0 < a1 then (some (-1)) else (if a0 > a1 then (some 1) else (some 0))))))
set_option maxHeartbeats 8000000 in
set_option maxRecDepth 100000 in
theorem cmp_Compare_int.calls (a0 : Int) (a1 : Int) (r : Int) (w : World) (h : cmp_Compare_int.f a0 a1 = some r) :
    Calls Try.prog 127 #[.int .i64 a0, .int .i64 a1] w fun e w' => e = .returned (.int .i64 r) ∧ Drawn0 w w' := by
  have H : ((cmp_isNaN_int.f a0).bind fun t101 => ((cmp_isNaN_int.f a1).bind fun t102 => (if t101 = true then (if t102 = true then (some 0) else (some (-1))) else (if t102 = true then (some 1) else (if a0 < a1 then (some (-1)) else (if a0 > a1 then (some 1) else (some 0))))))) = some r := h
  clear h
  replace H := Option.bind_eq_some_iff.mp H
  obtain ⟨t101, A30, H⟩ := H
  replace H : ((cmp_isNaN_int.f a1).bind fun t102 => (if t101 = true then (if t102 = true then (some 0) else (some (-1))) else (if t102 = true then (some 1) else (if a0 < a1 then (some (-1)) else (if a0 > a1 then (some 1) else (some 0)))))) = some r := H
  have A3 := Aside0.mk A30
  clear A30
  replace H := Option.bind_eq_some_iff.mp H
  obtain ⟨t102, A40, H⟩ := H
  replace H : (if t101 = true then (if t102 = true then (some 0) else (some (-1))) else (if t102 = true then (some 1) else (if a0 < a1 then (some (-1)) else (if a0 > a1 then (some 1) else (some 0))))) = some r := H
  have A4 := Aside0.mk A40
  clear A40
  by_cases c5 : t101 = true
  · subst c5
    have H1 : (if t102 = true then (some 0) else (some (-1))) = some r := by rw [if_pos rfl] at H; exact H
    clear H
    have H := H1
    clear H1
    by_cases c6 : t102 = true
    · subst c6
      have H1 : (some 0) = some r := by rw [if_pos rfl] at H; exact H
      clear H
      have H := H1
      clear H1
      obtain rfl := Option.some.inj H
      go_enter Try.func127, Try.ntmps127
      go_wp2_with (first | ((with_reducible refine gate_callee (f := 154) rfl ?_); refine goesL_ (some 8) rfl rfl Try.func154 (by kernel_rfl) rfl #[.int .i64 a0] rfl (by (try simp only [List.map_toArray, List.map_cons, List.map_nil]); first | done | rfl | (simp only [List.length_drop, List.length_take]; rfl)) ?_; (with_reducible refine (cmp_isNaN_int.calls a0 true _ A3.out).mono ?_); rintro e w' ⟨rfl, ⟨nd, rfl⟩⟩; refine ⟨_, rfl, ?_⟩) | ((with_reducible refine gate_callee (f := 154) rfl ?_); refine goesL_ (some 10) rfl rfl Try.func154 (by kernel_rfl) rfl #[.int .i64 a1] rfl (by (try simp only [List.map_toArray, List.map_cons, List.map_nil]); first | done | rfl | (simp only [List.length_drop, List.length_take]; rfl)) ?_; (with_reducible refine (cmp_isNaN_int.calls a1 true _ A4.out).mono ?_); rintro e w' ⟨rfl, ⟨nd, rfl⟩⟩; refine ⟨_, rfl, ?_⟩))
      go_ret
      exact ⟨by first | rfl | (simp; done) | (simp [*]; done), by repeat (first | exact Drawn0.refl _ | apply Drawn0.step)⟩
    · replace c6 := Bool.eq_false_iff.mpr c6
      subst c6
      have H1 : (some (-1)) = some r := by rw [if_neg (show ¬ (false = true) by decide)] at H; exact H
      clear H
      have H := H1
      clear H1
      obtain rfl := Option.some.inj H
      go_enter Try.func127, Try.ntmps127
      go_wp2_with (first | ((with_reducible refine gate_callee (f := 154) rfl ?_); refine goesL_ (some 8) rfl rfl Try.func154 (by kernel_rfl) rfl #[.int .i64 a0] rfl (by (try simp only [List.map_toArray, List.map_cons, List.map_nil]); first | done | rfl | (simp only [List.length_drop, List.length_take]; rfl)) ?_; (with_reducible refine (cmp_isNaN_int.calls a0 true _ A3.out).mono ?_); rintro e w' ⟨rfl, ⟨nd, rfl⟩⟩; refine ⟨_, rfl, ?_⟩) | ((with_reducible refine gate_callee (f := 154) rfl ?_); refine goesL_ (some 10) rfl rfl Try.func154 (by kernel_rfl) rfl #[.int .i64 a1] rfl (by (try simp only [List.map_toArray, List.map_cons, List.map_nil]); first | done | rfl | (simp only [List.length_drop, List.length_take]; rfl)) ?_; (with_reducible refine (cmp_isNaN_int.calls a1 false _ A4.out).mono ?_); rintro e w' ⟨rfl, ⟨nd, rfl⟩⟩; refine ⟨_, rfl, ?_⟩))
      go_ret
      exact ⟨by first | rfl | (simp; done) | (simp [*]; done), by repeat (first | exact Drawn0.refl _ | apply Drawn0.step)⟩
  · replace c5 := Bool.eq_false_iff.mpr c5
    subst c5
    have H1 : (if t102 = true then (some 1) else (if a0 < a1 then (some (-1)) else (if a0 > a1 then (some 1) else (some 0)))) = some r := by rw [if_neg (show ¬ (false = true) by decide)] at H; exact H
    clear H
    have H := H1
    clear H1
    by_cases c7 : t102 = true
    · subst c7
      have H1 : (some 1) = some r := by rw [if_pos rfl] at H; exact H
      clear H
      have H := H1
      clear H1
      obtain rfl := Option.some.inj H
      go_enter Try.func127, Try.ntmps127
      go_wp2_with (first | ((with_reducible refine gate_callee (f := 154) rfl ?_); refine goesL_ (some 8) rfl rfl Try.func154 (by kernel_rfl) rfl #[.int .i64 a0] rfl (by (try simp only [List.map_toArray, List.map_cons, List.map_nil]); first | done | rfl | (simp only [List.length_drop, List.length_take]; rfl)) ?_; (with_reducible refine (cmp_isNaN_int.calls a0 false _ A3.out).mono ?_); rintro e w' ⟨rfl, ⟨nd, rfl⟩⟩; refine ⟨_, rfl, ?_⟩) | ((with_reducible refine gate_callee (f := 154) rfl ?_); refine goesL_ (some 10) rfl rfl Try.func154 (by kernel_rfl) rfl #[.int .i64 a1] rfl (by (try simp only [List.map_toArray, List.map_cons, List.map_nil]); first | done | rfl | (simp only [List.length_drop, List.length_take]; rfl)) ?_; (with_reducible refine (cmp_isNaN_int.calls a1 true _ A4.out).mono ?_); rintro e w' ⟨rfl, ⟨nd, rfl⟩⟩; refine ⟨_, rfl, ?_⟩))
      go_ret
      exact ⟨by first | rfl | (simp; done) | (simp [*]; done), by repeat (first | exact Drawn0.refl _ | apply Drawn0.step)⟩
    · replace c7 := Bool.eq_false_iff.mpr c7
      subst c7
      have H1 : (if a0 < a1 then (some (-1)) else (if a0 > a1 then (some 1) else (some 0))) = some r := by rw [if_neg (show ¬ (false = true) by decide)] at H; exact H
      clear H
      have H := H1
      clear H1
      by_cases c8 : a0 < a1
      · rw [if_pos c8] at H
        have c8b0 : decide (a0 < a1) = true := decide_eq_true c8
        clear c8
        obtain rfl := Option.some.inj H
        go_enter Try.func127, Try.ntmps127
        go_wp2_with (first | ((with_reducible refine gate_callee (f := 154) rfl ?_); refine goesL_ (some 8) rfl rfl Try.func154 (by kernel_rfl) rfl #[.int .i64 a0] rfl (by (try simp only [List.map_toArray, List.map_cons, List.map_nil]); first | done | rfl | (simp only [List.length_drop, List.length_take]; rfl)) ?_; (with_reducible refine (cmp_isNaN_int.calls a0 false _ A3.out).mono ?_); rintro e w' ⟨rfl, ⟨nd, rfl⟩⟩; refine ⟨_, rfl, ?_⟩) | ((with_reducible refine gate_callee (f := 154) rfl ?_); refine goesL_ (some 10) rfl rfl Try.func154 (by kernel_rfl) rfl #[.int .i64 a1] rfl (by (try simp only [List.map_toArray, List.map_cons, List.map_nil]); first | done | rfl | (simp only [List.length_drop, List.length_take]; rfl)) ?_; (with_reducible refine (cmp_isNaN_int.calls a1 false _ A4.out).mono ?_); rintro e w' ⟨rfl, ⟨nd, rfl⟩⟩; refine ⟨_, rfl, ?_⟩))
        go_ret
        exact ⟨by first | rfl | (simp; done) | (simp [*]; done), by repeat (first | exact Drawn0.refl _ | apply Drawn0.step)⟩
      · rw [if_neg c8] at H
        have c8b0 : decide (a0 < a1) = false := decide_eq_false c8
        clear c8
        by_cases c9 : a0 > a1
        · rw [if_pos c9] at H
          have c9b0 : decide (a1 < a0) = true := decide_eq_true c9
          clear c9
          obtain rfl := Option.some.inj H
          go_enter Try.func127, Try.ntmps127
          go_wp2_with (first | ((with_reducible refine gate_callee (f := 154) rfl ?_); refine goesL_ (some 8) rfl rfl Try.func154 (by kernel_rfl) rfl #[.int .i64 a0] rfl (by (try simp only [List.map_toArray, List.map_cons, List.map_nil]); first | done | rfl | (simp only [List.length_drop, List.length_take]; rfl)) ?_; (with_reducible refine (cmp_isNaN_int.calls a0 false _ A3.out).mono ?_); rintro e w' ⟨rfl, ⟨nd, rfl⟩⟩; refine ⟨_, rfl, ?_⟩) | ((with_reducible refine gate_callee (f := 154) rfl ?_); refine goesL_ (some 10) rfl rfl Try.func154 (by kernel_rfl) rfl #[.int .i64 a1] rfl (by (try simp only [List.map_toArray, List.map_cons, List.map_nil]); first | done | rfl | (simp only [List.length_drop, List.length_take]; rfl)) ?_; (with_reducible refine (cmp_isNaN_int.calls a1 false _ A4.out).mono ?_); rintro e w' ⟨rfl, ⟨nd, rfl⟩⟩; refine ⟨_, rfl, ?_⟩))
          go_ret
          exact ⟨by first | rfl | (simp; done) | (simp [*]; done), by repeat (first | exact Drawn0.refl _ | apply Drawn0.step)⟩
        · rw [if_neg c9] at H
          have c9b0 : decide (a1 < a0) = false := decide_eq_false c9
          clear c9
          obtain rfl := Option.some.inj H
          go_enter Try.func127, Try.ntmps127
          go_wp2_with (first | ((with_reducible refine gate_callee (f := 154) rfl ?_); refine goesL_ (some 8) rfl rfl Try.func154 (by kernel_rfl) rfl #[.int .i64 a0] rfl (by (try simp only [List.map_toArray, List.map_cons, List.map_nil]); first | done | rfl | (simp only [List.length_drop, List.length_take]; rfl)) ?_; (with_reducible refine (cmp_isNaN_int.calls a0 false _ A3.out).mono ?_); rintro e w' ⟨rfl, ⟨nd, rfl⟩⟩; refine ⟨_, rfl, ?_⟩) | ((with_reducible refine gate_callee (f := 154) rfl ?_); refine goesL_ (some 10) rfl rfl Try.func154 (by kernel_rfl) rfl #[.int .i64 a1] rfl (by (try simp only [List.map_toArray, List.map_cons, List.map_nil]); first | done | rfl | (simp only [List.length_drop, List.length_take]; rfl)) ?_; (with_reducible refine (cmp_isNaN_int.calls a1 false _ A4.out).mono ?_); rintro e w' ⟨rfl, ⟨nd, rfl⟩⟩; refine ⟨_, rfl, ?_⟩))
          go_ret
          exact ⟨by first | rfl | (simp; done) | (simp [*]; done), by repeat (first | exact Drawn0.refl _ | apply Drawn0.step)⟩
end Go.Proofs.Ytkemhnfaheplhaa.F
namespace Go.Proofs.Ytkemhnfaheplhaa.F
open Go.RowKit Go.Proofs.YtkemhnfaheplhaaW.PrintWords Go.Proofs.YtkemhnfaheplhaaW.PrintLast Go.Proofs.YtkemhnfaheplhaaW.PrintMore
attribute [local go_sem] max2_int min2_int max_two min_two max_three min_three max_four min_four
set_option linter.unusedVariables false
set_option linter.unusedSimpArgs false
def cmp_Or_int.l0 : Nat → Int → List Int → Int → Int → Option (Int)
  | 0, _, _, _, _ => none
  | k + 1, x3, x6, x7, x8 => if x8 < x7 then (if 0 ≤ x8 then (if x8 < (x6.length : Int) then (if (rd x6 x8) = x3 then (cmp_Or_int.l0 k x3 x6 x7 (wrap64 (x8 + 1))) else (some (rd x6 x8))) else (none)) else (none)) else (some x3)
def cmp_Or_int.f (k : Nat) (l0 : List Int) : Option (Int) := cmp_Or_int.l0 k 0 l0 (l0.length : Int) 0
theorem cmp_Or_int.mono_l : ∀ k, (∀ y0 y1 y2 y3, LeO (cmp_Or_int.l0 k y0 y1 y2 y3) (cmp_Or_int.l0 (k + 1) y0 y1 y2 y3))
  | 0 => fun _ _ _ _ r h => by simp [cmp_Or_int.l0] at h
  | k + 1 => by
    have ih0 := cmp_Or_int.mono_l k
    · intro y0 y1 y2 y3
      unfold cmp_Or_int.l0
      repeat' first
      | (with_reducible exact ih0 _ _ _ _)
      | (with_reducible exact LeO.refl _)
      | (with_reducible exact LeO.none _)
      | (with_reducible refine LeO.ite ?_ ?_)
      | (with_reducible refine LeO.bind ?_ (fun _ => ?_))
      | exact ih0 _ _ _ _
      | exact LeO.none _
      | refine LeO.ite ?_ ?_
      | refine LeO.bind ?_ (fun _ => ?_)
theorem cmp_Or_int.mono : ∀ a0 k, LeO (cmp_Or_int.f k a0) (cmp_Or_int.f (k + 1) a0) := by
  intro a0 k
  have ih0 := cmp_Or_int.mono_l k
  unfold cmp_Or_int.f
  repeat' first
      | (with_reducible exact ih0 _ _ _ _)
      | (with_reducible exact LeO.refl _)
      | (with_reducible exact LeO.none _)
      | (with_reducible refine LeO.ite ?_ ?_)
      | (with_reducible refine LeO.bind ?_ (fun _ => ?_))
      | exact ih0 _ _ _ _
      | exact LeO.none _
      | refine LeO.ite ?_ ?_
      | refine LeO.bind ?_ (fun _ => ?_)
set_option maxHeartbeats 8000000 in
set_option maxRecDepth 100000 in
theorem cmp_Or_int.calls (k : Nat) (A0 : Option Addr) (c0 : Nat) (l0 : List Int) (r : Int) (w : World) (hr0 : Kd.C (Kd.int .i64) w A0 l0.length l0) (hc0 : l0.length ≤ c0) (h : cmp_Or_int.f k l0 = some r) :
    Calls Try.prog 126 #[.slice A0 l0.length c0] w fun e w' => e = .returned (.int .i64 r) ∧ Drawn0 w w' := by
  have HR0 := Aside0.mk hr0
  have HC0 := Aside0.mk hc0
  clear hr0 hc0
  have H : (cmp_Or_int.l0 k 0 l0 (l0.length : Int) 0) = some r := h
  clear h
  have H' := Aside0.mk H
  clear H
  go_enter Try.func126, Try.ntmps126
  go_wp2
  go_loopg [8] k (fun kq v8 w' => ∃ (x8_1 : Int), v8 = .int .i64 x8_1 ∧ Aside0 (cmp_Or_int.l0 kq 0 l0 (l0.length : Int) x8_1 = some r) ∧ Aside0 (kq ≤ k) ∧ Drawn0 w w')
  case atStart => exact ⟨(0), (by first | rfl | (simp; done) | (simp [*]; done)), H', ⟨Nat.le_refl _⟩, by repeat (first | exact Drawn0.refl _ | apply Drawn0.step)⟩
  case round =>
    clear H'
    try clear c1
    obtain ⟨x8_1, rfl, HA, HK1, ⟨m1, rfl⟩⟩ := hrel
    cases gk with
    | zero => exact absurd HA.out (by simp [cmp_Or_int.l0])
    | succ k1 =>
      have H := HA.out
      clear HA
      simp only [cmp_Or_int.l0] at H
      by_cases c2 : x8_1 < (l0.length : Int)
      · rw [if_pos c2] at H
        have c2b0 : decide (x8_1 < (l0.length : Int)) = true := decide_eq_true c2
        clear c2
        by_cases c3 : 0 ≤ x8_1
        · rw [if_pos c3] at H
          have c3b0 : decide (0 ≤ x8_1) = true := decide_eq_true c3
          clear c3
          by_cases c4 : x8_1 < (l0.length : Int)
          · rw [if_pos c4] at H
            have c4b0 : decide (x8_1 < (l0.length : Int)) = true := decide_eq_true c4
            clear c4
            by_cases c5 : (rd l0 x8_1) = 0
            · rw [if_pos c5] at H
              have c5b0 : ((rd l0 x8_1) == 0) = true := beq_iff_eq.mpr c5
              have c5b1 : ((rd l0 x8_1) != 0) = false := bne_eq_false_iff_eq.mpr c5
              clear c5
              have H' := Aside0.mk H
              clear H
              have p101 : 0 ≤ (x8_1 : Int) := of_decide_eq_true (by first | (with_reducible assumption) | assumption)
              have q101 : x8_1 < (l0.length : Int) := of_decide_eq_true (by first | (with_reducible assumption) | assumption)
              obtain ⟨ad101, e101, hx101_0⟩ := Kd.at_int HR0.out x8_1 p101 q101
              cases e101
              replace p101 := eq_true p101
              replace q101 := eq_true q101
              go_wp2
              go_roundg k1
              case measure => have := HK1.out; omega
              case rel => exact ⟨(wrap64 (x8_1 + 1)), (by first | rfl | (simp; done) | (simp [*]; done)), H', ⟨by have := HK1.out; omega⟩, by repeat (first | exact Drawn0.refl _ | apply Drawn0.step)⟩
            · rw [if_neg c5] at H
              have c5b0 : ((rd l0 x8_1) == 0) = false := beq_eq_false_iff_ne.mpr c5
              have c5b1 : ((rd l0 x8_1) != 0) = true := bne_iff_ne.mpr c5
              obtain rfl := Option.some.inj H
              have p101 : 0 ≤ (x8_1 : Int) := of_decide_eq_true (by first | (with_reducible assumption) | assumption)
              have q101 : x8_1 < (l0.length : Int) := of_decide_eq_true (by first | (with_reducible assumption) | assumption)
              obtain ⟨ad101, e101, hx101_0⟩ := Kd.at_int HR0.out x8_1 p101 q101
              cases e101
              replace p101 := eq_true p101
              replace q101 := eq_true q101
              go_wp2
              go_ret
              exact ⟨by first | rfl | (simp; done) | (simp [*]; done), by repeat (first | exact Drawn0.refl _ | apply Drawn0.step)⟩
          · rw [if_neg c4] at H
            exact absurd H (by simp)
        · rw [if_neg c3] at H
          exact absurd H (by simp)
      · rw [if_neg c2] at H
        have c2b0 : decide (x8_1 < (l0.length : Int)) = false := decide_eq_false c2
        clear c2
        obtain rfl := Option.some.inj H
        go_wp2
        go_ret
        exact ⟨by first | rfl | (simp; done) | (simp [*]; done), by repeat (first | exact Drawn0.refl _ | apply Drawn0.step)⟩
end Go.Proofs.Ytkemhnfaheplhaa.F
namespace Go.Proofs.Ytkemhnfaheplhaa.F
open Go.RowKit Go.Proofs.YtkemhnfaheplhaaW.PrintWords Go.Proofs.YtkemhnfaheplhaaW.PrintLast Go.Proofs.YtkemhnfaheplhaaW.PrintMore
attribute [local go_sem] max2_int min2_int max_two min_two max_three min_three max_four min_four
set_option linter.unusedVariables false
set_option linter.unusedSimpArgs false
def graph_compare.f (k : Nat) (a0_0 : Int) (a0_1 : Int) (a1_0 : Int) (a1_1 : Int) : Option (Int) := (cmp_Compare_int.f a0_0 a1_0).bind fun t103 => ((cmp_Compare_int.f a0_1 a1_1).bind fun t104 => ((cmp_Or_int.f k (([t103, t104] : List Int))).bind fun t108 => (some t108)))
theorem graph_compare.mono : ∀ a0 a1 a2 a3 k, LeO (graph_compare.f k a0 a1 a2 a3) (graph_compare.f (k + 1) a0 a1 a2 a3) := by
  intro a0 a1 a2 a3 k
  unfold graph_compare.f
  repeat' first
      | (with_reducible exact cmp_Or_int.mono _ _)
      | (with_reducible exact LeO.refl _)
      | (with_reducible exact LeO.none _)
      | (with_reducible refine LeO.ite ?_ ?_)
      | (with_reducible refine LeO.bind ?_ (fun _ => ?_))
      | exact cmp_Or_int.mono _ _
      | exact LeO.none _
      | refine LeO.ite ?_ ?_
      | refine LeO.bind ?_ (fun _ => ?_)
def graph_compare.T1 : Bool × List (List Nat × List Nat) := (true, [([], []), ([0], [0]), ([], []), ([2], [2]), ([1, 3], [1, 3]), ([], []), ([5], [5]), ([], []), ([7], [7]), ([6, 8, 4], [6, 8]), ([4, 9], [4, 9]), ([10, 9], [10]), ([11, 11, 0, 1, 2, 3, 4, 5, 6, 7, 8, 9, 10, 11], [11])])
def graph_compare.B1 : List Nat := [0, 1, 0, 4, 15, 0, 32, 0, 128, 511, 1023, 2047, 4095]
theorem graph_compare.tab1 : rtab .any (opsOf Try.f114 1) = graph_compare.T1 := by kernel_rfl
theorem graph_compare.bits1 : waitsOk graph_compare.T1.2 graph_compare.B1 = true := by kernel_rfl
set_option maxHeartbeats 8000000 in
set_option maxRecDepth 100000 in
theorem graph_compare.calls (k : Nat) (a0_0 : Int) (a0_1 : Int) (a1_0 : Int) (a1_1 : Int) (r : Int) (w : World) (h : graph_compare.f k a0_0 a0_1 a1_0 a1_1 = some r) :
    Calls Try.prog 114 #[.agg #[.int .i64 a0_0, .int .i64 a0_1], .agg #[.int .i64 a1_0, .int .i64 a1_1]] w fun e w' => e = .returned (.int .i64 r) ∧ Below w.heap.size w w' := by
  have hu69 := Try.underlying69
  have HB := Aside0.mk (Below.refl w.heap.size w)
  have H : ((cmp_Compare_int.f a0_0 a1_0).bind fun t103 => ((cmp_Compare_int.f a0_1 a1_1).bind fun t104 => ((cmp_Or_int.f k (([t103, t104] : List Int))).bind fun t108 => (some t108)))) = some r := h
  clear h
  replace H := Option.bind_eq_some_iff.mp H
  obtain ⟨t103, A30, H⟩ := H
  replace H : ((cmp_Compare_int.f a0_1 a1_1).bind fun t104 => ((cmp_Or_int.f k (([t103, t104] : List Int))).bind fun t108 => (some t108))) = some r := H
  have A3 := Aside0.mk A30
  clear A30
  replace H := Option.bind_eq_some_iff.mp H
  obtain ⟨t104, A40, H⟩ := H
  replace H : ((cmp_Or_int.f k (([t103, t104] : List Int))).bind fun t108 => (some t108)) = some r := H
  have A4 := Aside0.mk A40
  clear A40
  obtain ⟨y105, hy105⟩ : ∃ y_ : List Int, y_ = (([t103, t104] : List Int)) := ⟨_, rfl⟩
  replace H : ((cmp_Or_int.f k y105).bind fun t108 => (some t108)) = some r := by first | (rw [hy105]; with_reducible exact H) | (have H2_ := (Option.bind_some _ _).symm.trans H; rw [hy105]; with_reducible exact H2_) | (have H2_ := (Option.bind_some _ _).symm.trans H; with_reducible exact H2_) | with_reducible exact H | (rw [hy105]; exact H) | exact H
  have Ny105 := Aside0.mk hy105
  clear hy105
  replace H := Option.bind_eq_some_iff.mp H
  obtain ⟨t108, A50, H⟩ := H
  replace H : (some t108) = some r := H
  have A5 := Aside0.mk A50
  clear A50
  obtain rfl := Option.some.inj H
  go_enter Try.func114, Try.ntmps114
  try go_wp2_with (first | ((with_reducible refine gate_dst (N := 2) rfl ?_); refine box_event ?hg (N := 2) ?hd (cs := #[.int .i64 a0_0, .int .i64 a0_1]) (t := 69) ?hr ?_; (case hd => rfl); (case hg => rfl); (case hr => first | (go_simp; done) | (go_simp; rfl)); intro gb101 hg w6 hbox hb; have n0_ := Aside0.mk (below_step (by repeat (first | (with_reducible first | exact HB.out | apply below_alloc | apply pw_below_drewN | apply below_drew1) | exact HB.out)) hb); have n1_ := Aside0.mk (hbox); have n2_ := Aside0.mk ((by rw [hg]; exact (below_size (by repeat (first | (with_reducible first | exact HB.out | apply below_alloc | apply pw_below_drewN | apply below_drew1) | exact HB.out))) : w.heap.size ≤ gb101)); have n3_ := Aside0.mk ((by rw [hg]; exact (below_size (by repeat (first | (with_reducible first | exact HB.out | apply below_alloc | apply pw_below_drewN | apply below_drew1) | exact HB.out))) : w.heap.size ≤ gb101)); clear HB; have HB := n0_; have BK101 := n1_; have GW101 := n2_; have GE101 := n3_; clear n0_ n1_ n2_ n3_; clear hb hbox hg) | ((with_reducible refine gate_dst (N := 3) rfl ?_); refine box_event ?hg (N := 3) ?hd (cs := #[.int .i64 a1_0, .int .i64 a1_1]) (t := 69) ?hr ?_; (case hd => rfl); (case hg => rfl); (case hr => first | (go_simp; done) | (go_simp; rfl)); intro gb102 hg w7 hbox hb; have n0_ := Aside0.mk (blk_below (g := gb101) (o := .cells #[.int .i64 a0_0, .int .i64 a0_1] 69 (0, 0)) (by (with_reducible repeat (first | refine blk_drewN ?_ _ | refine blk_drew ?_ | refine blk_alloc ?_ _)); exact BK101.out) hb); have n1_ := Aside0.mk (below_step (by repeat (first | (with_reducible first | exact HB.out | apply below_alloc | apply pw_below_drewN | apply below_drew1 | refine below_set ?_ GE101.out) | exact HB.out)) hb); have n2_ := Aside0.mk (hbox); have n3_ := Aside0.mk ((by rw [hg]; exact (below_size (by repeat (first | (with_reducible first | exact HB.out | apply below_alloc | apply pw_below_drewN | apply below_drew1 | refine below_set ?_ GE101.out) | exact HB.out))) : w.heap.size ≤ gb102)); have n4_ := Aside0.mk ((by rw [hg]; exact (below_size (by repeat (first | (with_reducible first | exact HB.out | apply below_alloc | apply pw_below_drewN | apply below_drew1 | refine below_set ?_ GE101.out) | exact HB.out))) : w.heap.size ≤ gb102)); have n5_ := Aside0.mk ((by rw [hg]; exact Nat.ne_of_lt (blk_lt (g := gb101) (o := .cells #[.int .i64 a0_0, .int .i64 a0_1] 69 (0, 0)) (by (with_reducible repeat (first | refine blk_drewN ?_ _ | refine blk_drew ?_ | refine blk_alloc ?_ _)); exact BK101.out)) : gb101 ≠ gb102)); have n6_ := Aside0.mk ((by rw [hg]; exact Nat.ne_of_gt (blk_lt (g := gb101) (o := .cells #[.int .i64 a0_0, .int .i64 a0_1] 69 (0, 0)) (by (with_reducible repeat (first | refine blk_drewN ?_ _ | refine blk_drew ?_ | refine blk_alloc ?_ _)); exact BK101.out)) : gb102 ≠ gb101)); clear BK101; clear HB; have BK101 := n0_; have HB := n1_; have BK102 := n2_; have GW102 := n3_; have GE102 := n4_; have NB101_102 := n5_; have NB102_101 := n6_; clear n0_ n1_ n2_ n3_ n4_ n5_ n6_; clear hb hbox hg))
  have n0_ := Aside0.mk (blk_drew BK101.out)
  have n1_ := Aside0.mk (blk_drew BK102.out)
  have n2_ := Aside0.mk (below_drew1 HB.out)
  clear BK101
  clear BK102
  clear HB
  have BK101 := n0_
  have BK102 := n1_
  have HB := n2_
  clear n0_ n1_ n2_
  refine start_ (n := 13) (S := fun w' => w'.cell? ⟨gb101, 0, none⟩ = some (.int .i64 a0_0) ∧ w'.cell? ⟨gb101, 1, none⟩ = some (.int .i64 a0_1) ∧ w'.cell? ⟨gb102, 0, none⟩ = some (.int .i64 a1_0) ∧ w'.cell? ⟨gb102, 1, none⟩ = some (.int .i64 a1_1)) (ds := []) #[false, false, false, false, false, false, false, false, false, false, false, false, false] (by kernel_rfl) rfl rfl ⟨(blk_cell BK101.out 0).trans rfl, (blk_cell BK101.out 1).trans rfl, (blk_cell BK102.out 0).trans rfl, (blk_cell BK102.out 1).trans rfl⟩ (fun hHeld => ?_); refine with_tabW graph_compare.tab1 graph_compare.bits1 (fun HT_ HW_ => ?_)
  generalize w7.drew = w8 at BK101 BK102 HB hHeld ⊢
  refine pure_ (i := 0) (N := some 5) (v := ?_) (a' := ?_) #[true, false, false, false, false, false, false, false, false, false, false, false, false] rfl rfl (any_of HT_.out (by kernel_rfl)) (fun _ _ _ h => h) (Or.inl ⟨by rfl, ?_⟩) ?_ ?_
  rotate_left
  · intro w'
    go_simp
    with_reducible rfl
  rotate_left
  · simp only [Act.put, List.setIfInBounds_toArray, List.set_cons_zero, List.set_cons_succ, i64_w, i32_w]
    rfl
  refine pure_ (i := 2) (N := some 7) (v := ?_) (a' := ?_) #[true, false, true, false, false, false, false, false, false, false, false, false, false] rfl rfl (any_of HT_.out (by kernel_rfl)) (fun _ _ _ h => h) (Or.inl ⟨by rfl, ?_⟩) ?_ ?_
  rotate_left
  · intro w'
    go_simp
    with_reducible rfl
  rotate_left
  · simp only [Act.put, List.setIfInBounds_toArray, List.set_cons_zero, List.set_cons_succ, i64_w, i32_w]
    rfl
  refine pure_ (i := 5) (N := some 10) (v := ?_) (a' := ?_) #[true, false, true, false, false, true, false, false, false, false, false, false, false] rfl rfl (any_of HT_.out (by kernel_rfl)) (fun _ _ _ h => h) (Or.inl ⟨by rfl, ?_⟩) ?_ ?_
  rotate_left
  · intro w'
    go_simp
    with_reducible rfl
  rotate_left
  · simp only [Act.put, List.setIfInBounds_toArray, List.set_cons_zero, List.set_cons_succ, i64_w, i32_w]
    rfl
  refine pure_ (i := 7) (N := some 12) (v := ?_) (a' := ?_) #[true, false, true, false, false, true, false, true, false, false, false, false, false] rfl rfl (any_of HT_.out (by kernel_rfl)) (fun _ _ _ h => h) (Or.inl ⟨by rfl, ?_⟩) ?_ ?_
  rotate_left
  · intro w'
    go_simp
    with_reducible rfl
  rotate_left
  · simp only [Act.put, List.setIfInBounds_toArray, List.set_cons_zero, List.set_cons_succ, i64_w, i32_w]
    rfl
  refine take_ (i := 1) (N := some 6) (v := ?_) (a' := ?_) #[true, true, true, false, false, true, false, true, false, false, false, false, false] rfl rfl (take_ofW HT_.out HW_.out (by kernel_rfl)) (fun _ _ _ h => h) (Or.inl ⟨by rfl, ?_⟩) hHeld ?_ ?_
  rotate_left
  · rintro w' ⟨s0, s1, s2, s3⟩
    go_simp
    with_reducible rfl
  rotate_left
  · simp only [Act.put, List.setIfInBounds_toArray, List.set_cons_zero, List.set_cons_succ, i64_w, i32_w]
    rfl
  refine take_ (i := 3) (N := some 8) (v := ?_) (a' := ?_) #[true, true, true, true, false, true, false, true, false, false, false, false, false] rfl rfl (take_ofW HT_.out HW_.out (by kernel_rfl)) (fun _ _ _ h => h) (Or.inl ⟨by rfl, ?_⟩) hHeld ?_ ?_
  rotate_left
  · rintro w' ⟨s0, s1, s2, s3⟩
    go_simp
    with_reducible rfl
  rotate_left
  · simp only [Act.put, List.setIfInBounds_toArray, List.set_cons_zero, List.set_cons_succ, i64_w, i32_w]
    rfl
  refine take_ (i := 6) (N := some 11) (v := ?_) (a' := ?_) #[true, true, true, true, false, true, true, true, false, false, false, false, false] rfl rfl (take_ofW HT_.out HW_.out (by kernel_rfl)) (fun _ _ _ h => h) (Or.inl ⟨by rfl, ?_⟩) hHeld ?_ ?_
  rotate_left
  · rintro w' ⟨s0, s1, s2, s3⟩
    go_simp
    with_reducible rfl
  rotate_left
  · simp only [Act.put, List.setIfInBounds_toArray, List.set_cons_zero, List.set_cons_succ, i64_w, i32_w]
    rfl
  refine take_ (i := 8) (N := some 13) (v := ?_) (a' := ?_) #[true, true, true, true, false, true, true, true, true, false, false, false, false] rfl rfl (take_ofW HT_.out HW_.out (by kernel_rfl)) (fun _ _ _ h => h) (Or.inl ⟨by rfl, ?_⟩) hHeld ?_ ?_
  rotate_left
  · rintro w' ⟨s0, s1, s2, s3⟩
    go_simp
    with_reducible rfl
  rotate_left
  · simp only [Act.put, List.setIfInBounds_toArray, List.set_cons_zero, List.set_cons_succ, i64_w, i32_w]
    rfl
  refine one_ (i := 4) (N := some 9) #[true, true, true, true, true, true, true, true, true, false, false, false, false] rfl rfl (one_of HT_.out (by kernel_rfl)) (by decide) (fun K hK => ?_)
  refine goes_ Try.func127 (by kernel_rfl) rfl #[.int .i64 a0_0, .int .i64 a1_0] (by rfl) rfl rfl (by (try simp only [List.map_toArray, List.map_cons, List.map_nil]); first | done | rfl | (simp only [List.length_drop, List.length_take]; rfl)) ?_
  with_reducible refine (cmp_Compare_int.calls a0_0 a1_0 t103 _ A3.out).mono ?_
  rintro e w' ⟨rfl, ⟨nd, rfl⟩⟩
  refine ⟨_, rfl, ?_⟩
  refine hK.out _ _ ⟨(blk_cell BK101.out 0).trans rfl, (blk_cell BK101.out 1).trans rfl, (blk_cell BK102.out 0).trans rfl, (blk_cell BK102.out 1).trans rfl⟩ (fun hHeld => ?_)
  clear hK K
  refine norm_ (a' := ?_) ?_ ?_
  rotate_left
  · show Act.put _ (some 9) _ = _
    simp only [Act.put, List.setIfInBounds_toArray, List.set_cons_zero, List.set_cons_succ, i64_w, i32_w]
    rfl
  refine one_ (i := 9) (N := some 14) #[true, true, true, true, true, true, true, true, true, true, false, false, false] rfl rfl (one_of HT_.out (by kernel_rfl)) (by decide) (fun K hK => ?_)
  refine goes_ Try.func127 (by kernel_rfl) rfl #[.int .i64 a0_1, .int .i64 a1_1] (by rfl) rfl rfl (by (try simp only [List.map_toArray, List.map_cons, List.map_nil]); first | done | rfl | (simp only [List.length_drop, List.length_take]; rfl)) ?_
  with_reducible refine (cmp_Compare_int.calls a0_1 a1_1 t104 _ A4.out).mono ?_
  rintro e w' ⟨rfl, ⟨nd, rfl⟩⟩
  refine ⟨_, rfl, ?_⟩
  refine hK.out _ _ ⟨(blk_cell BK101.out 0).trans rfl, (blk_cell BK101.out 1).trans rfl, (blk_cell BK102.out 0).trans rfl, (blk_cell BK102.out 1).trans rfl⟩ (fun hHeld => ?_)
  clear hK K
  refine norm_ (a' := ?_) ?_ ?_
  rotate_left
  · show Act.put _ (some 14) _ = _
    simp only [Act.put, List.setIfInBounds_toArray, List.set_cons_zero, List.set_cons_succ, i64_w, i32_w]
    rfl
  refine one_ (i := 10) (N := some 15) #[true, true, true, true, true, true, true, true, true, true, true, false, false] rfl rfl (one_of HT_.out (by kernel_rfl)) (by decide) (fun K hK => ?_)
  refine Kd.R_lit_step (Kd.int .i64) _ 3 ?hg (N := 15) ?hd (xs := ([t103, t104] : List Int)) (inner := [.int .i64 t103, .int .i64 t104]) (ok := fun _ => True) (okp := fun _ => True) ?hr ?hp (fun _ hk => hk) trivial (Below.refl _ _) (Nat.le_refl _) (by simp) ?_; (case hd => rfl); (case hg => rfl); (case hr => first | (go_simp; done) | (go_simp; rfl)); (case hp => exact (Reps.one (show Kd.M (Kd.int .i64) _ _ _ t103 [.int .i64 t103] from rfl) (Reps.one (show Kd.M (Kd.int .i64) _ _ _ t104 [.int .i64 t104] from rfl) (Reps.none _ _))))
  intro v106 w9 ho10 hb hg_ hnew_
  clear hg_ hnew_
  (first | rw [← Ny105.out] at ho10 | (simp only [Int.reduceToNat] at ho10; rw [← Ny105.out] at ho10))
  have n0_ := Aside0.mk (Kd.R_lower ho10 (below_size (by repeat (first | (with_reducible first | exact HB.out | apply below_alloc | apply pw_below_drewN | apply below_drew1 | refine below_set ?_ GE101.out | refine below_set ?_ GE102.out) | exact HB.out))))
  have n1_ := Aside0.mk (blk_below (g := gb101) (o := .cells #[.int .i64 a0_0, .int .i64 a0_1] 69 (0, 0)) (by (with_reducible repeat (first | refine blk_drewN ?_ _ | refine blk_drew ?_ | refine blk_alloc ?_ _)); exact BK101.out) hb)
  have n2_ := Aside0.mk (blk_below (g := gb102) (o := .cells #[.int .i64 a1_0, .int .i64 a1_1] 69 (0, 0)) (by (with_reducible repeat (first | refine blk_drewN ?_ _ | refine blk_drew ?_ | refine blk_alloc ?_ _)); exact BK102.out) hb)
  have n3_ := Aside0.mk (below_step (by repeat (first | (with_reducible first | exact HB.out | apply below_alloc | apply pw_below_drewN | apply below_drew1 | refine below_set ?_ GE101.out | refine below_set ?_ GE102.out) | exact HB.out)) hb)
  clear BK101
  clear BK102
  clear HB
  have HO107 := n0_
  have BK101 := n1_
  have BK102 := n2_
  have HB := n3_
  clear n0_ n1_ n2_ n3_
  clear hb ho10
  obtain ⟨Ao11, co11, eo11⟩ := Kd.R_slice HO107.out
  (first | subst eo11 | (injection eo11 with f1_ f2_ f3_; have f4_ := f1_.symm; have f5_ := f3_.symm; clear f1_ f2_ f3_; subst f4_; subst f5_))
  refine hK.out _ _ ⟨(blk_cell BK101.out 0).trans rfl, (blk_cell BK101.out 1).trans rfl, (blk_cell BK102.out 0).trans rfl, (blk_cell BK102.out 1).trans rfl⟩ (fun hHeld => ?_)
  clear hK K
  refine norm_ (a' := ?_) ?_ ?_
  rotate_left
  · show Act.put _ (some 15) _ = _
    simp only [Act.put, List.setIfInBounds_toArray, List.set_cons_zero, List.set_cons_succ, i64_w, i32_w]
    rfl
  refine one_ (i := 11) (N := some 16) #[true, true, true, true, true, true, true, true, true, true, true, true, false] rfl rfl (one_of HT_.out (by kernel_rfl)) (by decide) (fun K hK => ?_)
  refine goes_ Try.func126 (by kernel_rfl) rfl #[.slice Ao11 y105.length co11] (by rfl) rfl rfl (by (try simp only [List.map_toArray, List.map_cons, List.map_nil]); first | done | rfl | (simp only [List.length_drop, List.length_take]; rfl)) ?_
  with_reducible refine (cmp_Or_int.calls k _ _ y105 t108 _ ?side1 ?side2 A5.out).mono ?_
  (case side1 => repeat (first | exact (Kd.R_reads' HO107.out).2.2 | (with_reducible refine Kd.C_alloc ?_ _) | (with_reducible refine Kd.C_drewN ?_ _) | (with_reducible refine Kd.C_drew ?_)))
  (case side2 => exact (Kd.R_reads' HO107.out).2.1)
  rintro e w' ⟨rfl, ⟨nd, rfl⟩⟩
  refine ⟨_, rfl, ?_⟩
  refine hK.out _ _ ⟨(blk_cell BK101.out 0).trans rfl, (blk_cell BK101.out 1).trans rfl, (blk_cell BK102.out 0).trans rfl, (blk_cell BK102.out 1).trans rfl⟩ (fun hHeld => ?_)
  clear hK K
  refine norm_ (a' := ?_) ?_ ?_
  rotate_left
  · show Act.put _ (some 16) _ = _
    simp only [Act.put, List.setIfInBounds_toArray, List.set_cons_zero, List.set_cons_succ, i64_w, i32_w]
    rfl
  refine pure_ (i := 12) (N := some 4) (v := ?_) (a' := ?_) #[true, true, true, true, true, true, true, true, true, true, true, true, true] rfl rfl (any_of HT_.out (by kernel_rfl)) (fun _ _ _ h => h) (Or.inl ⟨by rfl, ?_⟩) ?_ ?_
  rotate_left
  · intro w'
    go_simp
    with_reducible rfl
  rotate_left
  · simp only [Act.put, List.setIfInBounds_toArray, List.set_cons_zero, List.set_cons_succ, i64_w, i32_w]
    rfl
  refine done_ (done_of HT_.out (by kernel_rfl)) ?_
  try go_wp2
  go_ret
  exact ⟨by first | rfl | (simp [errW_none, errW_some] <;> rfl) | (simp [*, errW_none, errW_some] <;> rfl), by repeat (first | (with_reducible first | exact HB.out | apply below_alloc | apply pw_below_drewN | apply below_drew1 | refine below_set ?_ GE101.out | refine below_set ?_ GE102.out) | exact HB.out)⟩
end Go.Proofs.Ytkemhnfaheplhaa.F
namespace Go.Proofs.Ytkemhnfaheplhaa.F
open Go.RowKit Go.Proofs.YtkemhnfaheplhaaW.PrintWords Go.Proofs.YtkemhnfaheplhaaW.PrintLast Go.Proofs.YtkemhnfaheplhaaW.PrintMore Go.Proofs.Ytkemhnfaheplhaa.Mix
set_option linter.unusedVariables false
set_option linter.unusedSimpArgs false
def cmpI (a b : Int) : Int := if a < b then -1 else if b < a then 1 else 0
def cmpE (x y : S69) : Int := if cmpI x.f0 y.f0 = 0 then cmpI x.f1 y.f1 else cmpI x.f0 y.f0
theorem compare_calls (x0 x1 y0 y1 : Int) (w : World) :
    Calls Try.prog 114 #[.agg #[.int .i64 x0, .int .i64 x1], .agg #[.int .i64 y0, .int .i64 y1]] w fun e w' => e = .returned (.int .i64 (cmpE ⟨x0, x1⟩ ⟨y0, y1⟩)) ∧ Below w.heap.size w w' := by
  refine graph_compare.calls 3 x0 x1 y0 y1 _ w ?_
  have e1 : ∀ a b, cmp_Compare_int.f a b = some (cmpI a b) := fun a b => by
    simp [cmp_Compare_int.f, cmp_isNaN_int.f, cmpI]
    by_cases h1 : a < b <;> by_cases h2 : b < a <;> simp [h1, h2]
  simp only [graph_compare.f, e1, Option.bind_some, cmpE]
  generalize cmpI x0 y0 = p
  generalize cmpI x1 y1 = q
  simp [cmp_Or_int.f, cmp_Or_int.l0, rd, wrap64]
  by_cases h : p = 0 <;> by_cases h' : q = 0 <;> simp [h, h']
def chainB (N : Int) : Option S69 → List S69 → Bool
  | _, [] => true
  | p, x :: r => decide (0 ≤ x.f0) && decide (x.f0 < x.f1) && decide (x.f1 < N) && (match p with | none => true | some y => decide (cmpE y x < 0)) && chainB N (some x) r
def rightB (N : Int) (l : List S69) : Bool := decide (0 ≤ N) && decide (N ≤ 1000) && decide ((l.length : Int) ≤ 4000) && chainB N none l
theorem chain_step (N : Int) (l : List S69) (i : Int) (h0 : 0 ≤ i) (hi : i < l.length) (p : Option S69) :
    chainB N p (l.drop i.toNat) = (decide (0 ≤ (rd_T69 l i).f0) && decide ((rd_T69 l i).f0 < (rd_T69 l i).f1) && decide ((rd_T69 l i).f1 < N) && (match p with | none => true | some y => decide (cmpE y (rd_T69 l i) < 0)) && chainB N (some (rd_T69 l i)) (l.drop (i + 1).toNat)) := by
  have hi' : i.toNat < l.length := by omega
  rw [List.drop_eq_getElem_cons hi']
  have : rd_T69 l i = l[i.toNat] := by simp [rd_T69, List.getD_eq_getElem?_getD, hi']
  rw [this, show (i + 1).toNat = i.toNat + 1 by omega]
  rfl
def prevE (l : List S69) (i : Int) : Option S69 := if i = 0 then none else some (rd_T69 l (i - 1))
theorem chain_next (N : Int) (l : List S69) (i j a b a' b' : Int) (h0 : 0 < i) (hi : i < l.length) (hj : i - 1 = j) (h1 : (rd_T69 l i).f0 = a ∧ (rd_T69 l i).f1 = b) (h2 : (rd_T69 l j).f0 = a' ∧ (rd_T69 l j).f1 = b') (c1 : 0 ≤ a) (c2 : a < b) (c3 : b < N) :
    chainB N (prevE l i) (l.drop i.toNat) = (decide (cmpE ⟨a', b'⟩ ⟨a, b⟩ < 0) && chainB N (prevE l (i + 1)) (l.drop (i + 1).toNat)) := by
  rw [chain_step N l i (by omega) hi, show prevE l i = some (rd_T69 l j) by rw [prevE, if_neg (by omega), hj], show prevE l (i + 1) = some (rd_T69 l i) by rw [prevE, if_neg (by omega), Int.add_sub_cancel]]
  rw [show rd_T69 l j = ⟨a', b'⟩ by rw [← h2.1, ← h2.2], show rd_T69 l i = ⟨a, b⟩ by rw [← h1.1, ← h1.2]]
  simp [show 0 ≤ a by omega, show a < b by omega, show b < N by omega]
theorem chain_first (N : Int) (l : List S69) (i a b : Int) (h0 : i = 0) (hi : i < l.length) (h1 : (rd_T69 l i).f0 = a ∧ (rd_T69 l i).f1 = b) (c1 : 0 ≤ a) (c2 : a < b) (c3 : b < N) :
    chainB N (prevE l i) (l.drop i.toNat) = chainB N (prevE l (i + 1)) (l.drop (i + 1).toNat) := by
  rw [chain_step N l i (by omega) hi, show prevE l i = none by rw [prevE, if_pos h0], show prevE l (i + 1) = some (rd_T69 l i) by rw [prevE, if_neg (by omega), Int.add_sub_cancel]]
  rw [show rd_T69 l i = ⟨a, b⟩ by rw [← h1.1, ← h1.2]]
  simp [show 0 ≤ a by omega, show a < b by omega, show b < N by omega]
set_option maxHeartbeats 1000000 in
set_option maxRecDepth 100000 in
theorem right_calls (N : Int) (A : Option Addr) (c : Nat) (l : List S69) (w : World) (hr : Kd.C k69 w A l.length l) (hc : l.length ≤ c) :
    Calls Try.prog 55 #[.agg #[.int .i64 N, .slice A l.length c]] w fun e w' => e = .returned (.bool (rightB N l)) ∧ Below w.heap.size w w' := by
  have hu31 := Try.underlying31
  have hu69 := Try.underlying69
  have HR := Aside0.mk hr
  have HC := Aside0.mk hc
  have hl : (l.length : Int) ≤ 9223372036854775807 := by have := hr.2.1; omega
  clear hr hc
  by_cases h1 : N < 0
  · have hf : rightB N l = false := by simp [rightB]; omega
    rw [hf]; clear hf
    go_enter Try.func55, Try.ntmps55
    go_wp2
    go_ret
    exact ⟨rfl, (Below.refl _ _).alloc (Nat.le_refl _) _⟩
  by_cases h2 : 1000 < N
  · have hf : rightB N l = false := by simp [rightB]; omega
    rw [hf]; clear hf
    go_enter Try.func55, Try.ntmps55
    go_wp2
    go_ret
    exact ⟨rfl, (Below.refl _ _).alloc (Nat.le_refl _) _⟩
  by_cases h3 : 4000 < (l.length : Int)
  · have hf : rightB N l = false := by simp [rightB]; omega
    rw [hf]; clear hf
    go_enter Try.func55, Try.ntmps55
    go_wp2
    go_ret
    exact ⟨rfl, (Below.refl _ _).alloc (Nat.le_refl _) _⟩
  have hR : rightB N l = chainB N none l := by simp [rightB]; omega
  rw [hR]; clear hR
  go_enter Try.func55, Try.ntmps55
  go_wp2
  go_loopw [22] (fun v wr => ∃ i : Int, 0 ≤ i ∧ i ≤ l.length ∧ v = .int .i64 i ∧ Aside0 (chainB N (prevE l i) (l.drop i.toNat) = chainB N none l) ∧ Aside0 (Below (w.heap.size + 1) (w.alloc (.cells #[.int .i64 N, .slice A l.length c] 31)) wr)) (fun v _ => l.length - (intOf v).toNat)
  case atStart => exact ⟨0, by omega, by omega, rfl, ⟨rfl⟩, ⟨Below.refl _ _⟩⟩
  case round =>
    obtain ⟨i, hi0, hi, rfl, HA, HB⟩ := hrel
    have hb := HB.out
    have hbw : Below w.heap.size w wr := ((Below.refl _ _).alloc (Nat.le_refl _) _).trans (hb.mono (by omega))
    have hbk : wr.heap[w.heap.size]? = some (.cells #[.int .i64 N, .slice A l.length c] 31 (0, 0)) := (hb.block _ (Nat.lt_succ_self _)).trans (heap_alloc_new w _)
    have g0 : wr.cell? ⟨w.heap.size, 0, none⟩ = some (.int .i64 N) := (blk_cell hbk 0).trans rfl
    have g1 : wr.cell? ⟨w.heap.size, 1, none⟩ = some (.slice A l.length c) := (blk_cell hbk 1).trans rfl
    clear hbk
    have hsz : w.heap.size < wr.heap.size := by have := hb.size; simp at this; omega
    have HR' := Aside0.mk (Kd.C_below HR.out hbw)
    have HBW := Aside0.mk hbw
    clear hb hbw
    by_cases hlt : i < l.length
    · have HS := Aside0.mk (chain_step N l i hi0 hlt (prevE l i))
      obtain ⟨ad, e, x0, x1⟩ := at_T69 HR'.out i (by omega) (by omega)
      cases e
      obtain ⟨a, ha⟩ : ∃ a, (rd_T69 l i).f0 = a := ⟨_, rfl⟩
      obtain ⟨b, hb⟩ : ∃ a, (rd_T69 l i).f1 = a := ⟨_, rfl⟩
      rw [ha] at x0
      rw [hb] at x1
      have HAB := Aside0.mk (And.intro ha hb)
      clear ha hb
      by_cases c1 : a < 0
      · have d1 : decide (a < 0) = true := decide_eq_true c1
        have hf : chainB N none l = false := by rw [← HA.out, HS.out, HAB.out.1]; simp; omega
        go_wp2
        go_quiet (fail)
        go_wp2
        go_ret
        exact ⟨ret_bool hf.symm, ret_below HBW.out _⟩
      have d1 : decide (a < 0) = false := decide_eq_false c1
      by_cases c2 : b ≤ a
      · have d2 : decide (b ≤ a) = true := decide_eq_true c2
        have hf : chainB N none l = false := by rw [← HA.out, HS.out, HAB.out.1, HAB.out.2]; simp; omega
        go_wp2
        go_quiet (fail)
        go_wp2
        go_ret
        exact ⟨ret_bool hf.symm, ret_below HBW.out _⟩
      have d2 : decide (b ≤ a) = false := decide_eq_false c2
      by_cases c3 : N ≤ b
      · have d3 : decide (N ≤ b) = true := decide_eq_true c3
        have hf : chainB N none l = false := by rw [← HA.out, HS.out, HAB.out.2]; simp; omega
        go_wp2
        go_quiet (fail)
        go_wp2
        go_ret
        exact ⟨ret_bool hf.symm, ret_below HBW.out _⟩
      have d3 : decide (N ≤ b) = false := decide_eq_false c3
      by_cases c4 : 0 < i
      · have d4 : decide (0 < i) = true := decide_eq_true c4
        obtain ⟨j, hj⟩ : ∃ j, i - 1 = j := ⟨_, rfl⟩
        have p1 : 0 ≤ j := by omega
        have p2 : j < (l.length : Int) := by omega
        obtain ⟨_, e, y0, y1⟩ := at_T69 HR'.out j p1 p2
        cases e
        have hw1 : IntKind.i64.wrap (i - 1) = j := (IntWalk.i64_in _ (by omega)).trans hj
        have HJ := Aside0.mk hj
        clear hj
        obtain ⟨a', ha'⟩ : ∃ a, (rd_T69 l j).f0 = a := ⟨_, rfl⟩
        obtain ⟨b', hb'⟩ : ∃ a, (rd_T69 l j).f1 = a := ⟨_, rfl⟩
        rw [ha'] at y0
        rw [hb'] at y1
        have HAB' := Aside0.mk (And.intro ha' hb')
        clear ha' hb'
        have z0 : ∀ x : BW (wr.alloc (.cells #[.int .i64 a, .int .i64 b] 69)), x.val.cell? (ad.add (j.toNat * 2)) = some (.int .i64 a') := fun x => bw_cell x (cell_then y0 _)
        have z1 : ∀ x : BW (wr.alloc (.cells #[.int .i64 a, .int .i64 b] 69)), x.val.cell? ⟨(ad.add (j.toNat * 2)).block, (ad.add (j.toNat * 2)).off + 1, none⟩ = some (.int .i64 b') := fun x => bw_cell x (cell_then y1 _)
        have z2 : ∀ x : BW (wr.alloc (.cells #[.int .i64 a, .int .i64 b] 69)), x.val.cell? ⟨w.heap.size, 0, none⟩ = some (.int .i64 N) := fun x => bw_cell x (cell_then g0 _)
        have z3 : ∀ x : BW (wr.alloc (.cells #[.int .i64 a, .int .i64 b] 69)), x.val.cell? ⟨w.heap.size, 1, none⟩ = some (.slice (some ad) l.length c) := fun x => bw_cell x (cell_then g1 _)
        have z4 : ∀ x : BW (wr.alloc (.cells #[.int .i64 a, .int .i64 b] 69)), x.val.cell? ⟨wr.heap.size, 0, none⟩ = some (.int .i64 a) := fun x => bw_cell x (by simp)
        have z5 : ∀ x : BW (wr.alloc (.cells #[.int .i64 a, .int .i64 b] 69)), x.val.cell? ⟨wr.heap.size, 1, none⟩ = some (.int .i64 b) := fun x => bw_cell x (by simp)
        obtain ⟨q, hq⟩ : ∃ q, cmpE ⟨a', b'⟩ ⟨a, b⟩ = q := ⟨_, rfl⟩
        have HQ := Aside0.mk hq
        clear hq
        have HCMP : Aside0 (∀ W, Calls Try.prog 114 #[.agg #[.int .i64 a', .int .i64 b'], .agg #[.int .i64 a, .int .i64 b]] W fun e w' => e = .returned (.int .i64 q) ∧ Below W.heap.size W w') := ⟨fun W => by rw [← HQ.out]; exact compare_calls _ _ _ _ _⟩
        go_wp2
        refine region_bw (by kernel_rfl) (by kernel_rfl) ?_
        repeat (go_big_quiet_step (exact calls_bw (HCMP.out _)))
        refine wpQuiet_nil ?_
        rintro _ ⟨⟨w1, hb1⟩, rfl⟩
        have HB1 := Aside0.mk hb1
        clear hb1 z0 z1 z2 z3 z4 z5
        by_cases c5 : 0 ≤ q
        · have d5 : decide (0 ≤ q) = true := decide_eq_true c5
          go_wp2
          go_ret
          refine ⟨ret_bool ?_, below_then (HBW.out.alloc HBW.out.size _) (by simp; omega) HB1.out⟩
          rw [← HA.out, chain_next N l i j a b a' b' c4 hlt HJ.out HAB.out HAB'.out c1 c2 c3, HQ.out, decide_eq_false (by omega)]; rfl
        · have d5 : decide (0 ≤ q) = false := decide_eq_false c5
          go_wp2
          go_roundw
          case rel => exact ⟨i + 1, by omega, by omega, rfl, ⟨by rw [← HA.out, chain_next N l i j a b a' b' c4 hlt HJ.out HAB.out HAB'.out c1 c2 c3, HQ.out, decide_eq_true (by omega)]; rfl⟩, ⟨below_then (HB.out.alloc (by omega) _) (by simp; omega) HB1.out⟩⟩
          case measure => simp [intOf]; omega
      · have d4 : decide (0 < i) = false := decide_eq_false c4
        go_wp2
        go_quiet (fail)
        go_wp2
        go_roundw
        case rel => exact ⟨i + 1, by omega, by omega, rfl, ⟨by rw [← HA.out, chain_first N l i a b (by omega) hlt HAB.out c1 c2 c3]⟩, ⟨pw_below_drewN (HB.out.alloc (by omega) _) _⟩⟩
        case measure => simp [intOf]; omega
    · go_wp2
      go_ret
      have hf : chainB N none l = true := by rw [← HA.out, show i.toNat = l.length by omega, List.drop_length]; cases prevE l i <;> rfl
      exact ⟨ret_bool hf.symm, HBW.out⟩
def graph_Right.f (N : Int) (l : List S69) : Option Bool := some (rightB N l)
theorem graph_Right.calls (a0_0 : Int) (A0_1 : Option Addr) (c0_1 : Nat) (l0_1 : List (S69)) (r : Bool) (w : World) (hr0_1 : Kd.C k69 w A0_1 l0_1.length l0_1) (hc0_1 : l0_1.length ≤ c0_1) (h : graph_Right.f a0_0 l0_1 = some r) :
    Calls Try.prog 55 #[.agg #[.int .i64 a0_0, .slice A0_1 l0_1.length c0_1]] w fun e w' => e = .returned (.bool r) ∧ Below w.heap.size w w' := by
  cases h
  exact right_calls a0_0 A0_1 c0_1 l0_1 w hr0_1 hc0_1
end Go.Proofs.Ytkemhnfaheplhaa.F
namespace Go.Proofs.Ytkemhnfaheplhaa.F
open Go.RowKit Go.Proofs.YtkemhnfaheplhaaW.PrintWords Go.Proofs.YtkemhnfaheplhaaW.PrintLast Go.Proofs.YtkemhnfaheplhaaW.PrintMore Go.Proofs.Ytkemhnfaheplhaa.Mix
set_option linter.unusedVariables false
set_option linter.unusedSimpArgs false
structure Laid (w w' : World) : Prop where mk :: (out : ∃ q os, w' = Sort.grow (w.drewN q) os)
theorem Laid.refl (w : World) : Laid w w := ⟨⟨0, #[], by simp [Sort.grow]; rfl⟩⟩
theorem Laid.alloc {w w1 : World} (h : Laid w w1) (o : Obj) : Laid w (w1.alloc o) := by
  obtain ⟨q, os, rfl⟩ := h
  exact ⟨⟨q, os ++ #[o], by rw [Sort.alloc_eq_grow, Sort.grow_grow]⟩⟩
theorem Laid.drewN {w w1 : World} (h : Laid w w1) (n : Nat) : Laid w (w1.drewN n) := by
  obtain ⟨q, os, rfl⟩ := h
  exact ⟨⟨q + n, os, by simp only [Sort.grow, World.drewN, Nat.add_assoc]⟩⟩
theorem Laid.drew {w w1 : World} (h : Laid w w1) : Laid w w1.drew := h.drewN 1
theorem Laid.trans {w w1 w2 : World} (h : Laid w w1) (k : Laid w1 w2) : Laid w w2 := by
  obtain ⟨q, os, rfl⟩ := h
  obtain ⟨p, os', rfl⟩ := k
  exact ⟨⟨q + p, os ++ os', by simp only [Sort.grow, World.drewN, Nat.add_assoc, Array.append_assoc]⟩⟩
theorem Laid.drawn {w w1 : World} (h : Drawn0 w w1) : Laid w w1 := by
  obtain ⟨n, rfl⟩ := h
  exact (Laid.refl w).drewN n
theorem Laid.below {w w1 : World} (h : Laid w w1) : Below w.heap.size w w1 := by
  obtain ⟨q, os, rfl⟩ := h
  exact ⟨rfl, rfl, rfl, by simp [Sort.grow, World.drewN], fun k hk => Sort.heap_grow_old (w.drewN q) os hk⟩
theorem bwN (W : World) (n : Nat) : Below W.heap.size W (W.drewN n) := pw_below_drewN (Below.refl _ _) n
theorem bwNA (W : World) (n : Nat) (o : Obj) : Below W.heap.size W ((W.drewN n).alloc o) := (bwN W n).alloc (Nat.le_refl _) o
theorem bwNAN (W : World) (n : Nat) (o : Obj) (m : Nat) : Below W.heap.size W (((W.drewN n).alloc o).drewN m) := pw_below_drewN (bwNA W n o) m
theorem own_made (w : World) (base : Nat) (hb : base ≤ w.heap.size) (xs : List Int) (h : xs.length ≤ maxLen) : (w.alloc (.cells (xs.map (Value.int .i64)).toArray 3)).ownsRow base 3 1 (.slice (some ⟨w.heap.size, 0, none⟩) xs.length xs.length) xs.length (xs.map (Value.int .i64)) :=
  ⟨by simp, .inr ⟨_, _, _, rfl, hb, heap_alloc_new _ _, Nat.le_refl _, h, by simp, by simp [List.take_of_length_le]⟩⟩
theorem C_made (w : World) (xs : List Int) (h : xs.length ≤ maxLen) : Kd.C (Kd.int .i64) (w.alloc (.cells (xs.map (Value.int .i64)).toArray 3)) (some ⟨w.heap.size, 0, none⟩) xs.length xs := by
  have hR : Kd.R (Kd.int .i64) 3 _ _ (fun _ => True) _ xs := Kd.R_of_own (own_made w w.heap.size (Nat.le_refl _) xs h) (fun _ _ => trivial)
  exact (Kd.R_reads' hR).2.2
theorem C_made2 (w : World) (p q : Int) : Kd.C (Kd.int .i64) (w.alloc (.cells #[.int .i64 p, .int .i64 q] 3)) (some ⟨w.heap.size, 0, none⟩) 2 [p, q] := C_made w [p, q] (by simp [maxLen])
theorem C_made3 (w : World) (p q r : Int) : Kd.C (Kd.int .i64) (w.alloc (.cells #[.int .i64 p, .int .i64 q, .int .i64 r] 3)) (some ⟨w.heap.size, 0, none⟩) 3 [p, q, r] := C_made w [p, q, r] (by simp [maxLen])
theorem Compare_calls (a b : Int) (w : World) : Calls Try.prog 127 #[.int .i64 a, .int .i64 b] w fun e w' => e = .returned (.int .i64 (cmpI a b)) ∧ ∃ n, w' = w.drewN n := by
  refine (cmp_Compare_int.calls a b _ w ?_).mono fun _ _ ⟨he, hw⟩ => ⟨he, hw.out⟩
  simp [cmp_Compare_int.f, cmp_isNaN_int.f, cmpI]
  by_cases h1 : a < b <;> by_cases h2 : b < a <;> simp [h1, h2]
def orL : List Int → Int
  | [] => 0
  | x :: r => if x = 0 then orL r else x
theorem Or_calls (A : Option Addr) (c : Nat) (l : List Int) (w : World) (hr : Kd.C (Kd.int .i64) w A l.length l) (hc : l.length ≤ c) (hl : l.length = 2 ∨ l.length = 3) : Calls Try.prog 126 #[.slice A l.length c] w fun e w' => e = .returned (.int .i64 (orL l)) ∧ ∃ n, w' = w.drewN n := by
  refine (cmp_Or_int.calls 4 A c l _ w hr hc ?_).mono fun _ _ ⟨he, hw⟩ => ⟨he, hw.out⟩
  rcases l with _ | ⟨x, _ | ⟨y, _ | ⟨z, _ | ⟨t, r⟩⟩⟩⟩
  · simp at hl
  · simp at hl
  · simp [cmp_Or_int.f, cmp_Or_int.l0, rd, wrap64, orL]
    by_cases h : x = 0 <;> by_cases h' : y = 0 <;> simp [h, h']
  · simp [cmp_Or_int.f, cmp_Or_int.l0, rd, wrap64, orL]
    by_cases h : x = 0 <;> by_cases h' : y = 0 <;> by_cases h'' : z = 0 <;> simp [h, h', h'']
  · simp at hl
set_option maxHeartbeats 1000000 in
set_option maxRecDepth 100000 in
theorem compare_laid (x0 x1 y0 y1 : Int) (w : World) :
    Calls Try.prog 114 #[.agg #[.int .i64 x0, .int .i64 x1], .agg #[.int .i64 y0, .int .i64 y1]] w fun e w' => e = .returned (.int .i64 (cmpE ⟨x0, x1⟩ ⟨y0, y1⟩)) ∧ Laid w w' := by
  have hu69 := Try.underlying69
  have c1 : ∀ W, Calls Try.prog 127 #[.int .i64 x0, .int .i64 y0] W fun e w' => e = .returned (.int .i64 (cmpI x0 y0)) ∧ ∃ n, w' = W.drewN n := Compare_calls x0 y0
  have c2 : ∀ W, Calls Try.prog 127 #[.int .i64 x1, .int .i64 y1] W fun e w' => e = .returned (.int .i64 (cmpI x1 y1)) ∧ ∃ n, w' = W.drewN n := Compare_calls x1 y1
  have he : cmpE ⟨x0, x1⟩ ⟨y0, y1⟩ = orL [cmpI x0 y0, cmpI x1 y1] := by
    simp only [cmpE, orL]
    by_cases h : cmpI x0 y0 = 0 <;> by_cases h' : cmpI x1 y1 = 0 <;> simp [h, h']
  rw [he]
  generalize cmpI x0 y0 = p at c1 ⊢
  generalize cmpI x1 y1 = q at c2 ⊢
  have HOR : Aside0 (∀ (A : Option Addr) (c : Nat) (w : World), Kd.C (Kd.int .i64) w A 2 [p, q] → 2 ≤ c → Calls Try.prog 126 #[.slice A 2 c] w fun e w' => e = .returned (.int .i64 (orL [p, q])) ∧ ∃ n, w' = w.drewN n) := ⟨fun A c w h hc => Or_calls A c [p, q] w h hc (.inl rfl)⟩
  generalize orL [p, q] = r at HOR ⊢
  go_enter Try.func114, Try.ntmps114
  go_wp2
  obtain ⟨W, hW⟩ : ∃ W, (w.alloc (.cells #[.int .i64 x0, .int .i64 x1] 69)).alloc (.cells #[.int .i64 y0, .int .i64 y1] 69) = W := ⟨_, rfl⟩
  have hL : Laid w W := by rw [← hW]; exact ((Laid.refl w).alloc _).alloc _
  have g0 : W.cell? ⟨w.heap.size, 0, none⟩ = some (.int .i64 x0) := by rw [← hW]; simp
  have g1 : W.cell? ⟨w.heap.size, 1, none⟩ = some (.int .i64 x1) := by rw [← hW]; simp
  have g2 : W.cell? ⟨w.heap.size + 1, 0, none⟩ = some (.int .i64 y0) := by rw [← hW]; simp
  have g3 : W.cell? ⟨w.heap.size + 1, 1, none⟩ = some (.int .i64 y1) := by rw [← hW]; simp
  rw [hW]
  have z0 : ∀ x : BW W, x.val.cell? ⟨w.heap.size, 0, none⟩ = some (.int .i64 x0) := fun x => bw_cell x g0
  have z1 : ∀ x : BW W, x.val.cell? ⟨w.heap.size, 1, none⟩ = some (.int .i64 x1) := fun x => bw_cell x g1
  have z2 : ∀ x : BW W, x.val.cell? ⟨w.heap.size + 1, 0, none⟩ = some (.int .i64 y0) := fun x => bw_cell x g2
  have z3 : ∀ x : BW W, x.val.cell? ⟨w.heap.size + 1, 1, none⟩ = some (.int .i64 y1) := fun x => bw_cell x g3
  clear hW g0 g1 g2 g3
  refine region_mix 12 (fun i => i == 4 || i == 9 || i == 10 || i == 11) (by kernel_rfl) (by kernel_rfl) ?_
  refine mix_quiet 4 (by decide) (by decide) (Below.refl _ _).drew ?_
  simp only [List.take_succ_cons, List.take_zero, List.drop_succ_cons, List.drop_zero]
  repeat (go_big_quiet_step (fail))
  refine wpQuiet_nil ?_
  refine mix_eff (by rfl) (cm_of (Below.refl _ _).drew) ?_
  go_wp2_with (go_at_call 127; refine (c1 _).mono ?_; rintro e w1 ⟨rfl, n1, rfl⟩)
  refine ⟨cm_of (bwN _ _), ?_⟩
  refine mix_quiet 4 (by decide) (by decide) (bwN _ _) ?_
  simp only [List.take_succ_cons, List.take_zero, List.drop_succ_cons, List.drop_zero]
  repeat (go_big_quiet_step (fail))
  refine wpQuiet_nil ?_
  refine mix_eff (by rfl) (cm_of (bwN _ _)) ?_
  go_wp2_with (go_at_call 127; refine (c2 _).mono ?_; rintro e w1 ⟨rfl, n2, rfl⟩)
  refine ⟨cm_of (bwN _ _), ?_⟩
  refine mix_eff (by rfl) (cm_of (bwN _ _)) ?_
  go_wp2
  refine ⟨cm_of (bwNA _ _ _), ?_⟩
  refine mix_eff (by rfl) (cm_of (bwNA _ _ _)) ?_
  go_wp2_with (go_at_call 126; refine (HOR.out _ _ _ (C_made2 _ p q) (by decide)).mono ?_; rintro e w1 ⟨rfl, n3, rfl⟩)
  refine ⟨cm_of (bwNAN _ _ _ _), ?_⟩
  refine mix_late 1 (by decide) (by decide) ?_
  simp only [List.take_succ_cons, List.take_zero, List.drop_succ_cons, List.drop_zero]
  repeat (go_big_quiet_step (fail))
  refine wpQuiet_nil ?_
  refine mix_done ?_
  go_wp2
  go_ret
  exact ⟨rfl, ((hL.drewN _).alloc _).drewN _⟩
set_option maxHeartbeats 1000000 in
set_option maxRecDepth 100000 in
theorem Edges1_laid (x0 x1 y0 y1 : Int) (w : World) :
    Calls Try.prog 130 #[.agg #[.int .i64 x0, .int .i64 x1], .agg #[.int .i64 y0, .int .i64 y1]] w fun e w' => e = .returned (.int .i64 (cmpE ⟨x0, x1⟩ ⟨y0, y1⟩)) ∧ Laid w w' := by
  have hu69 := Try.underlying69
  have c1 : ∀ W, Calls Try.prog 127 #[.int .i64 x0, .int .i64 y0] W fun e w' => e = .returned (.int .i64 (cmpI x0 y0)) ∧ ∃ n, w' = W.drewN n := Compare_calls x0 y0
  have c2 : ∀ W, Calls Try.prog 127 #[.int .i64 x1, .int .i64 y1] W fun e w' => e = .returned (.int .i64 (cmpI x1 y1)) ∧ ∃ n, w' = W.drewN n := Compare_calls x1 y1
  have he : cmpE ⟨x0, x1⟩ ⟨y0, y1⟩ = orL [cmpI x0 y0, cmpI x1 y1] := by
    simp only [cmpE, orL]
    by_cases h : cmpI x0 y0 = 0 <;> by_cases h' : cmpI x1 y1 = 0 <;> simp [h, h']
  rw [he]
  generalize cmpI x0 y0 = p at c1 ⊢
  generalize cmpI x1 y1 = q at c2 ⊢
  have HOR : Aside0 (∀ (A : Option Addr) (c : Nat) (w : World), Kd.C (Kd.int .i64) w A 2 [p, q] → 2 ≤ c → Calls Try.prog 126 #[.slice A 2 c] w fun e w' => e = .returned (.int .i64 (orL [p, q])) ∧ ∃ n, w' = w.drewN n) := ⟨fun A c w h hc => Or_calls A c [p, q] w h hc (.inl rfl)⟩
  generalize orL [p, q] = r at HOR ⊢
  go_enter Try.func130, Try.ntmps130
  go_wp2
  obtain ⟨W, hW⟩ : ∃ W, (w.alloc (.cells #[.int .i64 x0, .int .i64 x1] 69)).alloc (.cells #[.int .i64 y0, .int .i64 y1] 69) = W := ⟨_, rfl⟩
  have hL : Laid w W := by rw [← hW]; exact ((Laid.refl w).alloc _).alloc _
  have g0 : W.cell? ⟨w.heap.size, 0, none⟩ = some (.int .i64 x0) := by rw [← hW]; simp
  have g1 : W.cell? ⟨w.heap.size, 1, none⟩ = some (.int .i64 x1) := by rw [← hW]; simp
  have g2 : W.cell? ⟨w.heap.size + 1, 0, none⟩ = some (.int .i64 y0) := by rw [← hW]; simp
  have g3 : W.cell? ⟨w.heap.size + 1, 1, none⟩ = some (.int .i64 y1) := by rw [← hW]; simp
  rw [hW]
  have z0 : ∀ x : BW W, x.val.cell? ⟨w.heap.size, 0, none⟩ = some (.int .i64 x0) := fun x => bw_cell x g0
  have z1 : ∀ x : BW W, x.val.cell? ⟨w.heap.size, 1, none⟩ = some (.int .i64 x1) := fun x => bw_cell x g1
  have z2 : ∀ x : BW W, x.val.cell? ⟨w.heap.size + 1, 0, none⟩ = some (.int .i64 y0) := fun x => bw_cell x g2
  have z3 : ∀ x : BW W, x.val.cell? ⟨w.heap.size + 1, 1, none⟩ = some (.int .i64 y1) := fun x => bw_cell x g3
  clear hW g0 g1 g2 g3
  refine region_mix 12 (fun i => i == 4 || i == 9 || i == 10 || i == 11) (by kernel_rfl) (by kernel_rfl) ?_
  refine mix_quiet 4 (by decide) (by decide) (Below.refl _ _).drew ?_
  simp only [List.take_succ_cons, List.take_zero, List.drop_succ_cons, List.drop_zero]
  repeat (go_big_quiet_step (fail))
  refine wpQuiet_nil ?_
  refine mix_eff (by rfl) (cm_of (Below.refl _ _).drew) ?_
  go_wp2_with (go_at_call 127; refine (c1 _).mono ?_; rintro e w1 ⟨rfl, n1, rfl⟩)
  refine ⟨cm_of (bwN _ _), ?_⟩
  refine mix_quiet 4 (by decide) (by decide) (bwN _ _) ?_
  simp only [List.take_succ_cons, List.take_zero, List.drop_succ_cons, List.drop_zero]
  repeat (go_big_quiet_step (fail))
  refine wpQuiet_nil ?_
  refine mix_eff (by rfl) (cm_of (bwN _ _)) ?_
  go_wp2_with (go_at_call 127; refine (c2 _).mono ?_; rintro e w1 ⟨rfl, n2, rfl⟩)
  refine ⟨cm_of (bwN _ _), ?_⟩
  refine mix_eff (by rfl) (cm_of (bwN _ _)) ?_
  go_wp2
  refine ⟨cm_of (bwNA _ _ _), ?_⟩
  refine mix_eff (by rfl) (cm_of (bwNA _ _ _)) ?_
  go_wp2_with (go_at_call 126; refine (HOR.out _ _ _ (C_made2 _ p q) (by decide)).mono ?_; rintro e w1 ⟨rfl, n3, rfl⟩)
  refine ⟨cm_of (bwNAN _ _ _ _), ?_⟩
  refine mix_late 1 (by decide) (by decide) ?_
  simp only [List.take_succ_cons, List.take_zero, List.drop_succ_cons, List.drop_zero]
  repeat (go_big_quiet_step (fail))
  refine wpQuiet_nil ?_
  refine mix_done ?_
  go_wp2
  go_ret
  exact ⟨rfl, ((hL.drewN _).alloc _).drewN _⟩
set_option maxHeartbeats 1000000 in
theorem Normal1_laid (x0 x1 y0 y1 : Int) (w : World) :
    Calls Try.prog 132 #[.agg #[.int .i64 x0, .int .i64 x1], .agg #[.int .i64 y0, .int .i64 y1]] w fun e w' => e = .returned (.int .i64 (cmpE ⟨x0, x1⟩ ⟨y0, y1⟩)) ∧ Laid w w' := by
  have hu69 := Try.underlying69
  have c := fun W => compare_laid x0 x1 y0 y1 W
  generalize cmpE ⟨x0, x1⟩ ⟨y0, y1⟩ = q at c ⊢
  go_enter Try.func132, Try.ntmps132
  go_wp2_with (go_at_call 114; refine (c _).mono ?_; rintro e w1 ⟨rfl, hl⟩)
  go_ret
  exact ⟨rfl, (((Laid.refl w).alloc _).alloc _).trans hl⟩
def cmpP (x y : List Int) : Int := orL [cmpI (rd x 0) (rd y 0), cmpI (rd x (x.length - 1)) (rd y (y.length - 1)), cmpI (rd x 1) (rd y 1)]
set_option maxHeartbeats 1000000 in
set_option maxRecDepth 100000 in
theorem Read1_laid (A B : Option Addr) (c d : Nat) (x y : List Int) (w : World) (hx : Kd.C (Kd.int .i64) w A x.length x) (hy : Kd.C (Kd.int .i64) w B y.length y) (h2 : 2 ≤ x.length) (h3 : 2 ≤ y.length) :
    Calls Try.prog 125 #[.slice A x.length c, .slice B y.length d] w fun e w' => e = .returned (.int .i64 (cmpP x y)) ∧ Laid w w' := by
  have c1 : ∀ W, Calls Try.prog 127 #[.int .i64 (rd x 0), .int .i64 (rd y 0)] W fun e w' => e = .returned (.int .i64 (cmpI (rd x 0) (rd y 0))) ∧ ∃ n, w' = W.drewN n := Compare_calls _ _
  obtain ⟨i, hi⟩ : ∃ i, (x.length : Int) - 1 = i := ⟨_, rfl⟩
  obtain ⟨j, hj⟩ : ∃ i, (y.length : Int) - 1 = i := ⟨_, rfl⟩
  have hlx : (x.length : Int) ≤ 9223372036854775807 := by have := hx.2.1; omega
  have hly : (y.length : Int) ≤ 9223372036854775807 := by have := hy.2.1; omega
  have c2 : ∀ W, Calls Try.prog 127 #[.int .i64 (rd x i), .int .i64 (rd y j)] W fun e w' => e = .returned (.int .i64 (cmpI (rd x i) (rd y j))) ∧ ∃ n, w' = W.drewN n := Compare_calls _ _
  have c3 : ∀ W, Calls Try.prog 127 #[.int .i64 (rd x 1), .int .i64 (rd y 1)] W fun e w' => e = .returned (.int .i64 (cmpI (rd x 1) (rd y 1))) ∧ ∃ n, w' = W.drewN n := Compare_calls _ _
  rw [show cmpP x y = orL [cmpI (rd x 0) (rd y 0), cmpI (rd x i) (rd y j), cmpI (rd x 1) (rd y 1)] by rw [cmpP, hi, hj]]
  generalize cmpI (rd x 0) (rd y 0) = p at c1 ⊢
  generalize cmpI (rd x i) (rd y j) = q at c2 ⊢
  generalize cmpI (rd x 1) (rd y 1) = s at c3 ⊢
  have HOR : Aside0 (∀ (A : Option Addr) (c : Nat) (w : World), Kd.C (Kd.int .i64) w A 3 [p, q, s] → 3 ≤ c → Calls Try.prog 126 #[.slice A 3 c] w fun e w' => e = .returned (.int .i64 (orL [p, q, s])) ∧ ∃ n, w' = w.drewN n) := ⟨fun A c w h hc => Or_calls A c [p, q, s] w h hc (.inr rfl)⟩
  generalize orL [p, q, s] = r at HOR ⊢
  obtain ⟨ad, rfl, x0⟩ := Kd.at_int hx 0 (by omega) (by omega)
  obtain ⟨_, e, x1⟩ := Kd.at_int hx i (by omega) (by omega)
  cases e
  obtain ⟨_, e, x2⟩ := Kd.at_int hx 1 (by omega) (by omega)
  cases e
  obtain ⟨bd, rfl, y0⟩ := Kd.at_int hy 0 (by omega) (by omega)
  obtain ⟨_, e, y1⟩ := Kd.at_int hy j (by omega) (by omega)
  cases e
  obtain ⟨_, e, y2⟩ := Kd.at_int hy 1 (by omega) (by omega)
  cases e
  have hw1 : IntKind.i64.wrap ((x.length : Int) - 1) = i := (IntWalk.i64_in _ (by omega)).trans hi
  have hw2 : IntKind.i64.wrap ((y.length : Int) - 1) = j := (IntWalk.i64_in _ (by omega)).trans hj
  have b1 : i < (x.length : Int) := by omega
  have b2 : 0 ≤ i := by omega
  have b3 : j < (y.length : Int) := by omega
  have b4 : 0 ≤ j := by omega
  have b5 : (1 : Int) < x.length := by omega
  have b6 : (1 : Int) < y.length := by omega
  have b7 : (0 : Int) < x.length := by omega
  have b8 : (0 : Int) < y.length := by omega
  have z0 : ∀ v : BW w, v.val.cell? ad = some (.int .i64 (rd x 0)) := fun v => bw_cell v x0
  have z1 : ∀ v : BW w, v.val.cell? (ad.add i.toNat) = some (.int .i64 (rd x i)) := fun v => bw_cell v x1
  have z2 : ∀ v : BW w, v.val.cell? ⟨ad.block, ad.off + 1, none⟩ = some (.int .i64 (rd x 1)) := fun v => bw_cell v x2
  have z3 : ∀ v : BW w, v.val.cell? bd = some (.int .i64 (rd y 0)) := fun v => bw_cell v y0
  have z4 : ∀ v : BW w, v.val.cell? (bd.add j.toNat) = some (.int .i64 (rd y j)) := fun v => bw_cell v y1
  have z5 : ∀ v : BW w, v.val.cell? ⟨bd.block, bd.off + 1, none⟩ = some (.int .i64 (rd y 1)) := fun v => bw_cell v y2
  clear hx hy x0 x1 x2 y0 y1 y2 hi hj
  go_enter Try.func125, Try.ntmps125
  go_wp2
  refine region_mix 29 (fun i => i == 6 || i == 19 || i == 26 || i == 27 || i == 28) (by kernel_rfl) (by kernel_rfl) ?_
  refine mix_quiet 6 (by decide) (by decide) (Below.refl _ _).drew ?_
  simp only [List.take_succ_cons, List.take_zero, List.drop_succ_cons, List.drop_zero]
  repeat (go_big_quiet_step (fail))
  refine wpQuiet_nil ?_
  refine mix_eff (by rfl) (cm_of (Below.refl _ _).drew) ?_
  go_wp2_with (go_at_call 127; refine (c1 _).mono ?_; rintro e w1 ⟨rfl, n1, rfl⟩)
  refine ⟨cm_of (bwN _ _), ?_⟩
  refine mix_quiet 12 (by decide) (by decide) (bwN _ _) ?_
  simp only [List.take_succ_cons, List.take_zero, List.drop_succ_cons, List.drop_zero]
  repeat (go_big_quiet_step (fail))
  refine wpQuiet_nil ?_
  refine mix_eff (by rfl) (cm_of (bwN _ _)) ?_
  go_wp2_with (go_at_call 127; refine (c2 _).mono ?_; rintro e w1 ⟨rfl, n2, rfl⟩)
  refine ⟨cm_of (bwN _ _), ?_⟩
  refine mix_quiet 6 (by decide) (by decide) (bwN _ _) ?_
  simp only [List.take_succ_cons, List.take_zero, List.drop_succ_cons, List.drop_zero]
  repeat (go_big_quiet_step (fail))
  refine wpQuiet_nil ?_
  refine mix_eff (by rfl) (cm_of (bwN _ _)) ?_
  go_wp2_with (go_at_call 127; refine (c3 _).mono ?_; rintro e w1 ⟨rfl, n3, rfl⟩)
  refine ⟨cm_of (bwN _ _), ?_⟩
  refine mix_eff (by rfl) (cm_of (bwN _ _)) ?_
  go_wp2
  refine ⟨cm_of (bwNA _ _ _), ?_⟩
  refine mix_eff (by rfl) (cm_of (bwNA _ _ _)) ?_
  go_wp2_with (go_at_call 126; refine (HOR.out _ _ _ (C_made3 _ p q s) (by decide)).mono ?_; rintro e w1 ⟨rfl, n4, rfl⟩)
  refine ⟨cm_of (bwNAN _ _ _ _), ?_⟩
  refine mix_late 1 (by decide) (by decide) ?_
  simp only [List.take_succ_cons, List.take_zero, List.drop_succ_cons, List.drop_zero]
  repeat (go_big_quiet_step (fail))
  refine wpQuiet_nil ?_
  refine mix_done ?_
  go_wp2
  go_ret
  exact ⟨rfl, (((Laid.refl w).drewN _).alloc _).drewN _⟩
end Go.Proofs.Ytkemhnfaheplhaa.F
namespace Go.Proofs.Ytkemhnfaheplhaa.F
open Go.RowKit Go.Proofs.YtkemhnfaheplhaaW.PrintWords Go.Proofs.YtkemhnfaheplhaaW.PrintLast Go.Proofs.YtkemhnfaheplhaaW.PrintMore
set_option linter.unusedVariables false
set_option linter.unusedSimpArgs false
def pairsL (k : Int) : List (Int × Int) := if k = 1 then [(0, 1), (0, 2), (0, 3), (1, 2), (1, 3), (2, 3)] else if k = 2 then [(0, 1), (0, 1), (0, 1)] else []
def PairsAt (w : World) (v : Value) (k : Int) : Prop :=
  (pairsL k = [] ∧ v = .slice none 0 0) ∨ (pairsL k ≠ [] ∧ ∃ (g c : Nat), v = .slice (some ⟨g, 0, none⟩) (pairsL k).length c ∧ g < w.heap.size ∧ ∀ i : Nat, i < (pairsL k).length → w.cell? ⟨g, i * 2, none⟩ = some (.int .i64 ((pairsL k).getD i (0, 0)).1) ∧ w.cell? ⟨g, i * 2 + 1, none⟩ = some (.int .i64 ((pairsL k).getD i (0, 0)).2))
theorem PairsAt.below {w w1 : World} {v : Value} {k : Int} (h : PairsAt w v k) (hb : Below w.heap.size w w1) : PairsAt w1 v k := by
  rcases h with h | ⟨h1, g, c, h2, h3, h4⟩
  · exact .inl h
  · exact .inr ⟨h1, g, c, h2, Nat.lt_of_lt_of_le h3 hb.size, fun i hi => ⟨(hb.cell (p := ⟨g, i * 2, none⟩) h3).trans (h4 i hi).1, (hb.cell (p := ⟨g, i * 2 + 1, none⟩) h3).trans (h4 i hi).2⟩⟩
set_option maxHeartbeats 1000000 in
theorem pairs_calls (k : Int) (w : World) : Calls Try.prog 64 #[.int .i64 k] w fun e w' => ∃ v, e = .returned v ∧ PairsAt w' v k ∧ Below w.heap.size w w' := by
  go_enter Try.func64, Try.ntmps64
  by_cases h1 : k = 1
  · subst h1
    go_wp2
    go_ret
    refine ⟨_, rfl, .inr ⟨by decide, w.heap.size, 6, rfl, by simp; omega, fun i hi => ?_⟩, below_alloc (below_alloc (Below.refl _ _) _) _⟩
    have hb := blk_alloc (heap_alloc_new w (.cells #[.int .i64 0, .int .i64 1, .int .i64 0, .int .i64 2, .int .i64 0, .int .i64 3, .int .i64 1, .int .i64 2, .int .i64 1, .int .i64 3, .int .i64 2, .int .i64 3] 185)) (.cells #[.int .i64 0, .int .i64 1, .int .i64 0, .int .i64 1, .int .i64 0, .int .i64 1] 186)
    have h6 : i < 6 := hi
    refine ⟨(blk_cell hb _).trans ?_, (blk_cell hb _).trans ?_⟩ <;> (rcases i with _ | _ | _ | _ | _ | _ | i <;> first | rfl | omega)
  · by_cases h2 : k = 2
    · subst h2
      go_wp2
      go_ret
      refine ⟨_, rfl, .inr ⟨by decide, w.heap.size + 1, 3, rfl, by simp, fun i hi => ?_⟩, below_alloc (below_alloc (Below.refl _ _) _) _⟩
      have hb := heap_alloc_new (w.alloc (.cells #[.int .i64 0, .int .i64 1, .int .i64 0, .int .i64 2, .int .i64 0, .int .i64 3, .int .i64 1, .int .i64 2, .int .i64 1, .int .i64 3, .int .i64 2, .int .i64 3] 185)) (.cells #[.int .i64 0, .int .i64 1, .int .i64 0, .int .i64 1, .int .i64 0, .int .i64 1] 186)
      rw [World.size_alloc] at hb
      have h3 : i < 3 := hi
      refine ⟨(blk_cell hb _).trans ?_, (blk_cell hb _).trans ?_⟩ <;> (rcases i with _ | _ | _ | i <;> first | rfl | omega)
    · go_wp2
      go_ret
      refine ⟨_, rfl, .inl ⟨by simp [pairsL, h1, h2], rfl⟩, below_alloc (below_alloc (Below.refl _ _) _) _⟩
end Go.Proofs.Ytkemhnfaheplhaa.F
