/-
  Fcarcanetref03Normal: a function's answer, or words of the walks.
  Fcarcanetref03Any: a function's answer, or words of the walks.
  Fcarcanetref03Of: a function's answer, or words of the walks.
  The references' graphs: In, Normal, Any and Of as plain laws.
  A subdivision stays one, if edges are added: in plain words.
-/
import Derived.Test.YtkemhnfaheplhaaTopoGrows1
import Derived.Test.YtkemhnfaheplhaaTopoGrows6
import Derived.Test.YtkemhnfaheplhaaTopoGrows5
import Derived.IntWalk
namespace Go.Proofs.Ytkemhnfaheplhaa.F
open Go.RowKit Go.Proofs.YtkemhnfaheplhaaW.PrintWords Go.Proofs.YtkemhnfaheplhaaW.PrintLast Go.Proofs.YtkemhnfaheplhaaW.PrintMore
attribute [local go_sem] max2_int min2_int max_two min_two max_three min_three max_four min_four
set_option linter.unusedVariables false
set_option linter.unusedSimpArgs false
mutual
def carcanetref03_Normal.l0 : Nat → Int → List (S69) → List (List Int) → Int → Option (Int × (List (S69)) × Int)
  | 0, _, _, _, _ => none
  | k + 1, x0, x1, x6, x7 => if x7 < (x1.length : Int) then (if 0 ≤ x7 then (if ((rd_T69 x1 x7).f0) < 0 then (carcanetref03_Normal.j1 k x0 x1 x6 x7 ((rd_T69 x1 x7).f0) ((rd_T69 x1 x7).f1) true) else (if ((rd_T69 x1 x7).f1) < 0 then (carcanetref03_Normal.j1 k x0 x1 x6 x7 ((rd_T69 x1 x7).f0) ((rd_T69 x1 x7).f1) true) else (if ((rd_T69 x1 x7).f0) ≥ x0 then (carcanetref03_Normal.j1 k x0 x1 x6 x7 ((rd_T69 x1 x7).f0) ((rd_T69 x1 x7).f1) true) else (carcanetref03_Normal.j1 k x0 x1 x6 x7 ((rd_T69 x1 x7).f0) ((rd_T69 x1 x7).f1) (decide (((rd_T69 x1 x7).f1) ≥ x0)))))) else (none)) else (carcanetref03_Normal.l1 k x0 x6 0 x0 ([] : List (S69)))
def carcanetref03_Normal.j1 : Nat → Int → List (S69) → List (List Int) → Int → Int → Int → Bool → Option (Int × (List (S69)) × Int)
  | 0, _, _, _, _, _, _, _ => none
  | k + 1, x0, x1, x6, x7, x8, x9, x54 => if x54 = true then (some (0, ([] : List (S69)), 4)) else (if x8 = x9 then (carcanetref03_Normal.l0 k x0 x1 x6 (wrap64 (x7 + 1))) else (if 0 ≤ (mn x8 x9) then (if (mn x8 x9) < (x6.length : Int) then ((carcanetref03_In.f k (rd_L14 x6 (mn x8 x9)) (mx x8 x9)).bind fun t108 => (if t108 = true then (carcanetref03_Normal.l0 k x0 x1 x6 (wrap64 (x7 + 1))) else (if (rd_L14 x6 (mn x8 x9)).length < 17592186044416 then (carcanetref03_Normal.l0 k x0 x1 (x6.set ((mn x8 x9) : Int).toNat ((rd_L14 x6 (mn x8 x9)) ++ [mx x8 x9])) (wrap64 (x7 + 1))) else (none)))) else (none)) else (none)))
def carcanetref03_Normal.l1 : Nat → Int → List (List Int) → Int → Int → List (S69) → Option (Int × (List (S69)) × Int)
  | 0, _, _, _, _, _ => none
  | k + 1, x0, x6, x12, x115000, x115001 => if x12 < x0 then (if 0 ≤ x12 then (if x12 < (x6.length : Int) then ((carcanetref03_Sorted.f (rd_L14 x6 x12)).bind fun t116 => (carcanetref03_Normal.l2 k x0 x6 x12 t116 0 x115000 x115001)) else (none)) else (none)) else (if (x115001.length : Int) > 4000 then (some (0, ([] : List (S69)), 5)) else (some (x115000, x115001, 0)))
def carcanetref03_Normal.l2 : Nat → Int → List (List Int) → Int → List Int → Int → Int → List (S69) → Option (Int × (List (S69)) × Int)
  | 0, _, _, _, _, _, _, _ => none
  | k + 1, x0, x6, x12, x13, x14, x115000, x115001 => if x14 < (x13.length : Int) then (if 0 ≤ x14 then (if x115001.length < 8796093022208 then (carcanetref03_Normal.l2 k x0 x6 x12 x13 (wrap64 (x14 + 1)) x115000 (x115001 ++ [(⟨x12, rd x13 x14⟩ : S69)])) else (none)) else (none)) else (carcanetref03_Normal.l1 k x0 x6 (wrap64 (x12 + 1)) x115000 x115001)
end
def carcanetref03_Normal.f (k : Nat) (a0 : Int) (l1 : List (S69)) : Option (Int × (List (S69)) × Int) := if a0 < 0 then (some (0, ([] : List (S69)), 1)) else (if a0 > 1000 then (some (0, ([] : List (S69)), 5)) else (if 0 ≤ a0 then (if (a0 : Int).toNat ≤ 11728124029610 then (carcanetref03_Normal.l0 k a0 l1 (List.replicate (a0 : Int).toNat []) 0) else (none)) else (none)))
theorem carcanetref03_Normal.mono_l : ∀ k, (∀ y0 y1 y2 y3, LeO (carcanetref03_Normal.l0 k y0 y1 y2 y3) (carcanetref03_Normal.l0 (k + 1) y0 y1 y2 y3)) ∧ (∀ y0 y1 y2 y3 y4 y5 y6, LeO (carcanetref03_Normal.j1 k y0 y1 y2 y3 y4 y5 y6) (carcanetref03_Normal.j1 (k + 1) y0 y1 y2 y3 y4 y5 y6)) ∧ (∀ y0 y1 y2 y3 y4, LeO (carcanetref03_Normal.l1 k y0 y1 y2 y3 y4) (carcanetref03_Normal.l1 (k + 1) y0 y1 y2 y3 y4)) ∧ (∀ y0 y1 y2 y3 y4 y5 y6, LeO (carcanetref03_Normal.l2 k y0 y1 y2 y3 y4 y5 y6) (carcanetref03_Normal.l2 (k + 1) y0 y1 y2 y3 y4 y5 y6))
  | 0 => ⟨fun _ _ _ _ r h => by simp [carcanetref03_Normal.l0] at h, fun _ _ _ _ _ _ _ r h => by simp [carcanetref03_Normal.j1] at h, fun _ _ _ _ _ r h => by simp [carcanetref03_Normal.l1] at h, fun _ _ _ _ _ _ _ r h => by simp [carcanetref03_Normal.l2] at h⟩
  | k + 1 => by
    obtain ⟨ih0, ih1, ih2, ih3⟩ := carcanetref03_Normal.mono_l k
    refine ⟨?_, ?_, ?_, ?_⟩
    · intro y0 y1 y2 y3
      unfold carcanetref03_Normal.l0
      repeat' first
      | (with_reducible exact ih0 _ _ _ _)
      | (with_reducible exact ih1 _ _ _ _ _ _ _)
      | (with_reducible exact ih2 _ _ _ _ _)
      | (with_reducible exact ih3 _ _ _ _ _ _ _)
      | (with_reducible exact carcanetref03_In.mono _ _ _)
      | (with_reducible exact LeO.refl _)
      | (with_reducible exact LeO.none _)
      | (with_reducible refine LeO.ite ?_ ?_)
      | (with_reducible refine LeO.bind ?_ (fun _ => ?_))
      | exact ih0 _ _ _ _
      | exact ih1 _ _ _ _ _ _ _
      | exact ih2 _ _ _ _ _
      | exact ih3 _ _ _ _ _ _ _
      | exact carcanetref03_In.mono _ _ _
      | exact LeO.none _
      | refine LeO.ite ?_ ?_
      | refine LeO.bind ?_ (fun _ => ?_)
    · intro y0 y1 y2 y3 y4 y5 y6
      unfold carcanetref03_Normal.j1
      repeat' first
      | (with_reducible exact ih0 _ _ _ _)
      | (with_reducible exact ih1 _ _ _ _ _ _ _)
      | (with_reducible exact ih2 _ _ _ _ _)
      | (with_reducible exact ih3 _ _ _ _ _ _ _)
      | (with_reducible exact carcanetref03_In.mono _ _ _)
      | (with_reducible exact LeO.refl _)
      | (with_reducible exact LeO.none _)
      | (with_reducible refine LeO.ite ?_ ?_)
      | (with_reducible refine LeO.bind ?_ (fun _ => ?_))
      | exact ih0 _ _ _ _
      | exact ih1 _ _ _ _ _ _ _
      | exact ih2 _ _ _ _ _
      | exact ih3 _ _ _ _ _ _ _
      | exact carcanetref03_In.mono _ _ _
      | exact LeO.none _
      | refine LeO.ite ?_ ?_
      | refine LeO.bind ?_ (fun _ => ?_)
    · intro y0 y1 y2 y3 y4
      unfold carcanetref03_Normal.l1
      repeat' first
      | (with_reducible exact ih0 _ _ _ _)
      | (with_reducible exact ih1 _ _ _ _ _ _ _)
      | (with_reducible exact ih2 _ _ _ _ _)
      | (with_reducible exact ih3 _ _ _ _ _ _ _)
      | (with_reducible exact carcanetref03_In.mono _ _ _)
      | (with_reducible exact LeO.refl _)
      | (with_reducible exact LeO.none _)
      | (with_reducible refine LeO.ite ?_ ?_)
      | (with_reducible refine LeO.bind ?_ (fun _ => ?_))
      | exact ih0 _ _ _ _
      | exact ih1 _ _ _ _ _ _ _
      | exact ih2 _ _ _ _ _
      | exact ih3 _ _ _ _ _ _ _
      | exact carcanetref03_In.mono _ _ _
      | exact LeO.none _
      | refine LeO.ite ?_ ?_
      | refine LeO.bind ?_ (fun _ => ?_)
    · intro y0 y1 y2 y3 y4 y5 y6
      unfold carcanetref03_Normal.l2
      repeat' first
      | (with_reducible exact ih0 _ _ _ _)
      | (with_reducible exact ih1 _ _ _ _ _ _ _)
      | (with_reducible exact ih2 _ _ _ _ _)
      | (with_reducible exact ih3 _ _ _ _ _ _ _)
      | (with_reducible exact carcanetref03_In.mono _ _ _)
      | (with_reducible exact LeO.refl _)
      | (with_reducible exact LeO.none _)
      | (with_reducible refine LeO.ite ?_ ?_)
      | (with_reducible refine LeO.bind ?_ (fun _ => ?_))
      | exact ih0 _ _ _ _
      | exact ih1 _ _ _ _ _ _ _
      | exact ih2 _ _ _ _ _
      | exact ih3 _ _ _ _ _ _ _
      | exact carcanetref03_In.mono _ _ _
      | exact LeO.none _
      | refine LeO.ite ?_ ?_
      | refine LeO.bind ?_ (fun _ => ?_)
theorem carcanetref03_Normal.mono : ∀ a0 a1 k, LeO (carcanetref03_Normal.f k a0 a1) (carcanetref03_Normal.f (k + 1) a0 a1) := by
  intro a0 a1 k
  obtain ⟨ih0, ih1, ih2, ih3⟩ := carcanetref03_Normal.mono_l k
  unfold carcanetref03_Normal.f
  repeat' first
      | (with_reducible exact ih0 _ _ _ _)
      | (with_reducible exact ih1 _ _ _ _ _ _ _)
      | (with_reducible exact ih2 _ _ _ _ _)
      | (with_reducible exact ih3 _ _ _ _ _ _ _)
      | (with_reducible exact carcanetref03_In.mono _ _ _)
      | (with_reducible exact LeO.refl _)
      | (with_reducible exact LeO.none _)
      | (with_reducible refine LeO.ite ?_ ?_)
      | (with_reducible refine LeO.bind ?_ (fun _ => ?_))
      | exact ih0 _ _ _ _
      | exact ih1 _ _ _ _ _ _ _
      | exact ih2 _ _ _ _ _
      | exact ih3 _ _ _ _ _ _ _
      | exact carcanetref03_In.mono _ _ _
      | exact LeO.none _
      | refine LeO.ite ?_ ?_
      | refine LeO.bind ?_ (fun _ => ?_)
def carcanetref03_Normal.T24 : Bool × List (List Nat × List Nat) := (true, [([], []), ([0], [0]), ([], []), ([], []), ([], []), ([3, 4], [3, 4]), ([5], [5]), ([2, 6], [2, 6]), ([7], [7]), ([1, 8], [1, 8]), ([0, 1, 2, 3, 4, 5, 6, 7, 8, 9], []), ([10, 9, 9, 0, 1, 2, 3, 4, 5, 6, 7, 8, 9], [9, 10])])
def carcanetref03_Normal.B24 : List Nat := [0, 1, 0, 0, 0, 24, 56, 124, 252, 511, 1023, 2047]
theorem carcanetref03_Normal.tab24 : rtab .any (opsOf Try.f53 24) = carcanetref03_Normal.T24 := by kernel_rfl
theorem carcanetref03_Normal.bits24 : waitsOk carcanetref03_Normal.T24.2 carcanetref03_Normal.B24 = true := by kernel_rfl
set_option maxHeartbeats 8000000 in
set_option maxRecDepth 100000 in
theorem carcanetref03_Normal.calls (k : Nat) (a0 : Int) (A1 : Option Addr) (c1 : Nat) (l1 : List (S69)) (r1 : Int) (r2 : List (S69)) (r3 : Int) (w : World) (hr1 : Kd.C k69 w A1 l1.length l1) (hc1 : l1.length ≤ c1) (h : carcanetref03_Normal.f k a0 l1 = some (r1, r2, r3)) :
    Calls Try.prog 53 #[.int .i64 a0, .slice A1 l1.length c1] w fun e w' => ∃ v1_ : Value, e = .returned (.tuple #[.agg #[.int .i64 r1, v1_], .int .i64 r3]) ∧ Kd.R k69 69 w' w.heap.size (fun _ => True) v1_ r2 ∧ Below w.heap.size w w' := by
  have hu31 := Try.underlying31
  have hu69 := Try.underlying69
  have HR1 := Aside0.mk hr1
  have HC1 := Aside0.mk hc1
  clear hr1 hc1
  have HB := Aside0.mk (Below.refl w.heap.size w)
  have H : (if a0 < 0 then (some (0, ([] : List (S69)), 1)) else (if a0 > 1000 then (some (0, ([] : List (S69)), 5)) else (if 0 ≤ a0 then (if (a0 : Int).toNat ≤ 11728124029610 then (carcanetref03_Normal.l0 k a0 l1 (List.replicate (a0 : Int).toNat []) 0) else (none)) else (none)))) = some (r1, r2, r3) := h
  clear h
  by_cases c3 : a0 < 0
  · rw [if_pos c3] at H
    have c3b0 : decide (a0 < 0) = true := decide_eq_true c3
    clear c3
    simp only [Option.some.injEq, Prod.mk.injEq] at H
    obtain ⟨rfl, rfl, rfl⟩ := H
    go_enter Try.func53, Try.ntmps53
    go_wp2_with (first | ((with_reducible refine gate_dst (N := 4) rfl ?_); (try (refine gate_guard (by rfl) ?_; dsimp only)); refine box_event ?hg (N := 4) ?hd (cs := #[.int .i64 0, .slice none 0 0]) (t := 31) ?hr ?_; (case hd => rfl); (case hg => rfl); (case hr => first | (go_simp; done) | (go_simp; rfl)); intro gb101 hg w4 hbox hb; have n0_ := Aside0.mk (below_step (by repeat (first | (with_reducible first | exact HB.out | apply below_alloc | apply pw_below_drewN | apply below_drew1) | exact HB.out)) hb); have n1_ := Aside0.mk (hbox); have n2_ := Aside0.mk ((by rw [hg]; exact (below_size (by repeat (first | (with_reducible first | exact HB.out | apply below_alloc | apply pw_below_drewN | apply below_drew1) | exact HB.out))) : w.heap.size ≤ gb101)); have n3_ := Aside0.mk ((by rw [hg]; exact (below_size (by repeat (first | (with_reducible first | exact HB.out | apply below_alloc | apply pw_below_drewN | apply below_drew1) | exact HB.out))) : w.heap.size ≤ gb101)); clear HB; have HB := n0_; have BK101 := n1_; have GW101 := n2_; have GE101 := n3_; clear n0_ n1_ n2_ n3_; clear hb hbox hg; have hcz5_0 : w4.cell? ⟨gb101, 0, none⟩ = some (.int .i64 0) := (blk_cell BK101.out 0).trans rfl; have hcz5_1 : w4.cell? ⟨gb101, 1, none⟩ = some (.slice none 0 0) := (blk_cell BK101.out 1).trans rfl; have hfz5_0 := blk_frozen BK101.out 0; have hfz5_1 := blk_frozen BK101.out 1))
    refine bodyPost_ret (results_ct rfl _ _ gb101 31 #[.int .i64 0, .slice none 0 0] (0, 0) _ rfl (by (with_reducible repeat (first | refine blk_drewN ?_ _ | refine blk_drew ?_ | refine blk_alloc ?_ _)); refine blk_put (cs := #[.int .i64 0, .slice none 0 0]) ?_ 1 _ rfl; (with_reducible repeat (first | refine blk_drewN ?_ _ | refine blk_drew ?_ | refine blk_alloc ?_ _)); refine blk_put (cs := #[.int .i64 0, .slice none 0 0]) ?_ 0 _ rfl; (with_reducible repeat (first | refine blk_drewN ?_ _ | refine blk_drew ?_ | refine blk_alloc ?_ _)); exact BK101.out) Try.underlying31 rfl (by kernel_rfl)) rfl ?_
    exact ⟨_, by first | rfl | (simp [errW_none, errW_some] <;> rfl) | (simp [*, errW_none, errW_some] <;> rfl), by first | exact Kd.R_nil _ _ _ _ _ | exact Kd.N_nil _ _ _ _ _ | exact Kd.V_nil _ _ _ _ _ | exact Kd.Q_nil _ _ _ _ _ | exact Kd.S_nil _ _ _ _ _, by repeat (first | (with_reducible first | exact HB.out | apply below_alloc | apply pw_below_drewN | apply below_drew1 | refine below_set ?_ GE101.out) | exact HB.out)⟩
  · rw [if_neg c3] at H
    have c3b0 : decide (a0 < 0) = false := decide_eq_false c3
    clear c3
    by_cases c6 : a0 > 1000
    · rw [if_pos c6] at H
      have c6b0 : decide (1000 < a0) = true := decide_eq_true c6
      clear c6
      simp only [Option.some.injEq, Prod.mk.injEq] at H
      obtain ⟨rfl, rfl, rfl⟩ := H
      go_enter Try.func53, Try.ntmps53
      go_wp2_with (first | ((with_reducible refine gate_dst (N := 4) rfl ?_); (try (refine gate_guard (by rfl) ?_; dsimp only)); refine box_event ?hg (N := 4) ?hd (cs := #[.int .i64 0, .slice none 0 0]) (t := 31) ?hr ?_; (case hd => rfl); (case hg => rfl); (case hr => first | (go_simp; done) | (go_simp; rfl)); intro gb101 hg w7 hbox hb; have n0_ := Aside0.mk (below_step (by repeat (first | (with_reducible first | exact HB.out | apply below_alloc | apply pw_below_drewN | apply below_drew1) | exact HB.out)) hb); have n1_ := Aside0.mk (hbox); have n2_ := Aside0.mk ((by rw [hg]; exact (below_size (by repeat (first | (with_reducible first | exact HB.out | apply below_alloc | apply pw_below_drewN | apply below_drew1) | exact HB.out))) : w.heap.size ≤ gb101)); have n3_ := Aside0.mk ((by rw [hg]; exact (below_size (by repeat (first | (with_reducible first | exact HB.out | apply below_alloc | apply pw_below_drewN | apply below_drew1) | exact HB.out))) : w.heap.size ≤ gb101)); clear HB; have HB := n0_; have BK101 := n1_; have GW101 := n2_; have GE101 := n3_; clear n0_ n1_ n2_ n3_; clear hb hbox hg; have hcz8_0 : w7.cell? ⟨gb101, 0, none⟩ = some (.int .i64 0) := (blk_cell BK101.out 0).trans rfl; have hcz8_1 : w7.cell? ⟨gb101, 1, none⟩ = some (.slice none 0 0) := (blk_cell BK101.out 1).trans rfl; have hfz8_0 := blk_frozen BK101.out 0; have hfz8_1 := blk_frozen BK101.out 1))
      refine bodyPost_ret (results_ct rfl _ _ gb101 31 #[.int .i64 0, .slice none 0 0] (0, 0) _ rfl (by (with_reducible repeat (first | refine blk_drewN ?_ _ | refine blk_drew ?_ | refine blk_alloc ?_ _)); refine blk_put (cs := #[.int .i64 0, .slice none 0 0]) ?_ 1 _ rfl; (with_reducible repeat (first | refine blk_drewN ?_ _ | refine blk_drew ?_ | refine blk_alloc ?_ _)); refine blk_put (cs := #[.int .i64 0, .slice none 0 0]) ?_ 0 _ rfl; (with_reducible repeat (first | refine blk_drewN ?_ _ | refine blk_drew ?_ | refine blk_alloc ?_ _)); exact BK101.out) Try.underlying31 rfl (by kernel_rfl)) rfl ?_
      exact ⟨_, by first | rfl | (simp [errW_none, errW_some] <;> rfl) | (simp [*, errW_none, errW_some] <;> rfl), by first | exact Kd.R_nil _ _ _ _ _ | exact Kd.N_nil _ _ _ _ _ | exact Kd.V_nil _ _ _ _ _ | exact Kd.Q_nil _ _ _ _ _ | exact Kd.S_nil _ _ _ _ _, by repeat (first | (with_reducible first | exact HB.out | apply below_alloc | apply pw_below_drewN | apply below_drew1 | refine below_set ?_ GE101.out) | exact HB.out)⟩
    · rw [if_neg c6] at H
      have c6b0 : decide (1000 < a0) = false := decide_eq_false c6
      clear c6
      by_cases c9 : 0 ≤ a0
      · rw [if_pos c9] at H
        have c9b0 := eq_true c9
        have c9b1 : decide (0 ≤ a0) = true := decide_eq_true c9
        clear c9
        by_cases c10 : (a0 : Int).toNat ≤ 11728124029610
        · rw [if_pos c10] at H
          have c10b0 := eq_true c10
          have c10b1 : decide ((a0 : Int).toNat ≤ 11728124029610) = true := decide_eq_true c10
          clear c10
          obtain ⟨y102, hy102⟩ : ∃ y_ : List (List Int), y_ = (List.replicate (a0 : Int).toNat []) := ⟨_, rfl⟩
          replace H : (carcanetref03_Normal.l0 k a0 l1 y102 0) = some (r1, r2, r3) := by first | (rw [hy102]; with_reducible exact H) | (have H2_ := (Option.bind_some _ _).symm.trans H; rw [hy102]; with_reducible exact H2_) | (have H2_ := (Option.bind_some _ _).symm.trans H; with_reducible exact H2_) | with_reducible exact H | (rw [hy102]; exact H) | exact H
          have Ny102 := Aside0.mk hy102
          clear hy102
          have H' := Aside0.mk H
          clear H
          go_enter Try.func53, Try.ntmps53
          go_wp2_with (first | ((with_reducible refine gate_dst (N := 4) rfl ?_); (try (refine gate_guard (by rfl) ?_; dsimp only)); refine box_event ?hg (N := 4) ?hd (cs := #[.int .i64 0, .slice none 0 0]) (t := 31) ?hr ?_; (case hd => rfl); (case hg => rfl); (case hr => first | (go_simp; done) | (go_simp; rfl)); intro gb101 hg w11 hbox hb; have n0_ := Aside0.mk (below_step (by repeat (first | (with_reducible first | exact HB.out | apply below_alloc | apply pw_below_drewN | apply below_drew1) | exact HB.out)) hb); have n1_ := Aside0.mk (hbox); have n2_ := Aside0.mk ((by rw [hg]; exact (below_size (by repeat (first | (with_reducible first | exact HB.out | apply below_alloc | apply pw_below_drewN | apply below_drew1) | exact HB.out))) : w.heap.size ≤ gb101)); have n3_ := Aside0.mk ((by rw [hg]; exact (below_size (by repeat (first | (with_reducible first | exact HB.out | apply below_alloc | apply pw_below_drewN | apply below_drew1) | exact HB.out))) : w.heap.size ≤ gb101)); clear HB; have HB := n0_; have BK101 := n1_; have GW101 := n2_; have GE101 := n3_; clear n0_ n1_ n2_ n3_; clear hb hbox hg) | ((with_reducible refine gate_dst (N := 22) rfl ?_); (try (refine gate_guard (by rfl) ?_; dsimp only)); refine Kd.S_make (Kd.slice 3 (Kd.int .i64)) _ 26 rfl (N := 22) rfl 27 _ _ rfl a0 rfl rfl Try.underlying27 (.slice none 0 0) 24 info26 rfl (by decide) (by omega) [] (ok := fun _ => True) (okp := fun _ => True) ⟨_, rfl, Kd.R_nil _ _ _ _ _⟩ (fun _ hk => hk) trivial (of_decide_eq_true (by first | (with_reducible assumption) | assumption)) (Nat.le_trans (Nat.mul_le_mul_right _ (of_decide_eq_true (by first | (with_reducible assumption) | assumption) : a0.toNat ≤ 11728124029610)) (by omega)) (Below.refl _ _) (Nat.le_refl _) ?_; intro v103 w12 ho13 hb hg_ hnew_; clear hg_ hnew_; (first | rw [← Ny102.out] at ho13 | (simp only [Int.reduceToNat] at ho13; rw [← Ny102.out] at ho13)); have n0_ := Aside0.mk (Kd.S_lower ho13 (below_size (by repeat (first | (with_reducible first | exact HB.out | apply below_alloc | apply pw_below_drewN | apply below_drew1 | refine below_set ?_ GE101.out) | exact HB.out)))); have n1_ := Aside0.mk (blk_below (g := gb101) (o := .cells #[.int .i64 0, .slice none 0 0] 31 (0, 0)) (by (with_reducible repeat (first | refine blk_drewN ?_ _ | refine blk_drew ?_ | refine blk_alloc ?_ _)); exact BK101.out) hb); have n2_ := Aside0.mk (below_step (by repeat (first | (with_reducible first | exact HB.out | apply below_alloc | apply pw_below_drewN | apply below_drew1 | refine below_set ?_ GE101.out) | exact HB.out)) hb); clear BK101; clear HB; have HO104 := n0_; have BK101 := n1_; have HB := n2_; clear n0_ n1_ n2_; clear hb ho13))
          go_loopg [7] k (fun kq v7 w' => ∃ (x6_1 : List (List Int)) (x7_1 : Int) (x102000_1 : Int), v7 = .int .i64 x7_1 ∧ Aside0 (carcanetref03_Normal.l0 kq a0 l1 x6_1 x7_1 = some (r1, r2, r3)) ∧ Aside0 (kq ≤ k) ∧ Aside0 (Kd.S (Kd.slice 3 (Kd.int .i64)) 26 w' w.heap.size (fun _ => True) v103 x6_1) ∧ Aside0 (w'.heap[gb101]? = some (.cells #[.int .i64 x102000_1, (.slice none 0 0)] 31 (0, 0))) ∧ Aside0 (Below w.heap.size w w'))
          case atStart => exact ⟨(y102), (0), (0), (by first | rfl | (simp; done) | (simp [*]; done)), H', ⟨Nat.le_refl _⟩, ⟨by (with_reducible repeat (first | apply Kd.S_alloc | apply Kd.S_drewN | apply Kd.S_drew)); exact HO104.out⟩, ⟨by (with_reducible repeat (first | refine blk_drewN ?_ _ | refine blk_drew ?_ | refine blk_alloc ?_ _)); exact BK101.out⟩, ⟨by repeat (first | (with_reducible first | exact HB.out | apply below_alloc | apply pw_below_drewN | apply below_drew1 | refine below_set ?_ GE101.out) | exact HB.out)⟩⟩
          case round =>
            clear H'
            try clear c1
            try clear p2
            try clear c3
            try clear c3b0
            try clear c5
            try clear c6
            try clear c6b0
            try clear c9
            try clear c9b0
            try clear c9b1
            try clear c10
            try clear c10b0
            try clear c10b1
            try clear hcz5_0
            try clear hcz5_1
            try clear hcz8_0
            try clear hcz8_1
            try clear hfz5_0
            try clear hfz5_1
            try clear hfz8_0
            try clear hfz8_1
            obtain ⟨x6_1, x7_1, x102000_1, rfl, HA, HK1, HO_6, BK101, HB⟩ := hrel
            cases gk with
            | zero => exact absurd HA.out (by simp [carcanetref03_Normal.l0])
            | succ k1 =>
              have H := HA.out
              clear HA
              simp only [carcanetref03_Normal.l0] at H
              by_cases c14 : x7_1 < (l1.length : Int)
              · rw [if_pos c14] at H
                have c14b0 : decide (x7_1 < (l1.length : Int)) = true := decide_eq_true c14
                clear c14
                by_cases c15 : 0 ≤ x7_1
                · rw [if_pos c15] at H
                  have c15b0 : decide (0 ≤ x7_1) = true := decide_eq_true c15
                  clear c15
                  have HC16 := Aside0.mk H
                  clear H
                  have p105 : 0 ≤ (x7_1 : Int) := of_decide_eq_true (by first | (with_reducible assumption) | assumption)
                  have q105 : x7_1 < (l1.length : Int) := of_decide_eq_true (by first | (with_reducible assumption) | assumption)
                  obtain ⟨ad105, e105, hx105_0, hx105_1⟩ := at_T69 HR1.out x7_1 p105 q105
                  cases e105
                  replace hx105_0 := (HB.out.cell (World.block_lt_of_cell? w _ hx105_0)).trans hx105_0
                  replace hx105_1 := (HB.out.cell (World.block_lt_of_cell? w _ hx105_1)).trans hx105_1
                  replace p105 := eq_true p105
                  replace q105 := eq_true q105
                  have p106 : 0 ≤ (x7_1 : Int) := of_decide_eq_true (by first | (with_reducible assumption) | assumption)
                  have q106 : x7_1 < (l1.length : Int) := of_decide_eq_true (by first | (with_reducible assumption) | assumption)
                  obtain ⟨ad106, e106, hx106_0, hx106_1⟩ := at_T69 HR1.out x7_1 p106 q106
                  obtain rfl : ad105 = ad106 := (by injection e106)
                  replace hx106_0 := (HB.out.cell (World.block_lt_of_cell? w _ hx106_0)).trans hx106_0
                  replace hx106_1 := (HB.out.cell (World.block_lt_of_cell? w _ hx106_1)).trans hx106_1
                  replace p106 := eq_true p106
                  replace q106 := eq_true q106
                  go_upto_region 11 with (fail)
                  go_cut [54] (fun v54 wc => ∃ (kq : Nat) (x54_15 : Bool), v54 = .bool x54_15 ∧ Aside0 (carcanetref03_Normal.j1 kq a0 l1 x6_1 x7_1 ((rd_T69 l1 x7_1).f0) ((rd_T69 l1 x7_1).f1) x54_15 = some (r1, r2, r3)) ∧ Aside0 (kq ≤ k1) ∧ Aside0 (Kd.S (Kd.slice 3 (Kd.int .i64)) 26 wc w.heap.size (fun _ => True) v103 x6_1) ∧ Aside0 (wc.heap[gb101]? = some (.cells #[.int .i64 x102000_1, (.slice none 0 0)] 31 (0, 0))) ∧ Aside0 (Below w.heap.size w wc))
                  case first =>
                    have H := HC16.out
                    clear HC16
                    by_cases c17 : ((rd_T69 l1 x7_1).f0) < 0
                    · rw [if_pos c17] at H
                      have c17b0 : decide (((rd_T69 l1 x7_1).f0) < 0) = true := decide_eq_true c17
                      clear c17
                      (first | rw [c17b0] | (simp only [i64_w, i32_w]; rw [c17b0]) | skip)
                      have H' := Aside0.mk H
                      clear H
                      go_wp2
                      go_meet
                      case rel => exact ⟨_, (true), (by first | rfl | (simp; done) | (simp [*]; done)), H', ⟨by have := HK1.out; first | omega | exact Nat.le_refl _⟩, ⟨by (with_reducible repeat (first | apply Kd.S_alloc | apply Kd.S_drewN | apply Kd.S_drew)); exact HO_6.out⟩, ⟨by (with_reducible repeat (first | refine blk_drewN ?_ _ | refine blk_drew ?_ | refine blk_alloc ?_ _)); exact BK101.out⟩, ⟨by repeat (first | (with_reducible first | exact HB.out | apply below_alloc | apply pw_below_drewN | apply below_drew1 | refine below_set ?_ GE101.out) | exact HB.out)⟩⟩
                    · rw [if_neg c17] at H
                      have c17b0 : decide (((rd_T69 l1 x7_1).f0) < 0) = false := decide_eq_false c17
                      clear c17
                      (first | rw [c17b0] | (simp only [i64_w, i32_w]; rw [c17b0]) | skip)
                      by_cases c18 : ((rd_T69 l1 x7_1).f1) < 0
                      · rw [if_pos c18] at H
                        have c18b0 : decide (((rd_T69 l1 x7_1).f1) < 0) = true := decide_eq_true c18
                        clear c18
                        have H' := Aside0.mk H
                        clear H
                        go_wp2
                        go_meet
                        case rel => exact ⟨_, (true), (by first | rfl | (simp; done) | (simp [*]; done)), H', ⟨by have := HK1.out; first | omega | exact Nat.le_refl _⟩, ⟨by (with_reducible repeat (first | apply Kd.S_alloc | apply Kd.S_drewN | apply Kd.S_drew)); exact HO_6.out⟩, ⟨by (with_reducible repeat (first | refine blk_drewN ?_ _ | refine blk_drew ?_ | refine blk_alloc ?_ _)); exact BK101.out⟩, ⟨by repeat (first | (with_reducible first | exact HB.out | apply below_alloc | apply pw_below_drewN | apply below_drew1 | refine below_set ?_ GE101.out) | exact HB.out)⟩⟩
                      · rw [if_neg c18] at H
                        have c18b0 : decide (((rd_T69 l1 x7_1).f1) < 0) = false := decide_eq_false c18
                        clear c18
                        by_cases c19 : ((rd_T69 l1 x7_1).f0) ≥ a0
                        · rw [if_pos c19] at H
                          have c19b0 : decide (a0 ≤ ((rd_T69 l1 x7_1).f0)) = true := decide_eq_true c19
                          clear c19
                          have H' := Aside0.mk H
                          clear H
                          go_wp2
                          go_meet
                          case rel => exact ⟨_, (true), (by first | rfl | (simp; done) | (simp [*]; done)), H', ⟨by have := HK1.out; first | omega | exact Nat.le_refl _⟩, ⟨by (with_reducible repeat (first | apply Kd.S_alloc | apply Kd.S_drewN | apply Kd.S_drew)); exact HO_6.out⟩, ⟨by (with_reducible repeat (first | refine blk_drewN ?_ _ | refine blk_drew ?_ | refine blk_alloc ?_ _)); exact BK101.out⟩, ⟨by repeat (first | (with_reducible first | exact HB.out | apply below_alloc | apply pw_below_drewN | apply below_drew1 | refine below_set ?_ GE101.out) | exact HB.out)⟩⟩
                        · rw [if_neg c19] at H
                          have c19b0 : decide (a0 ≤ ((rd_T69 l1 x7_1).f0)) = false := decide_eq_false c19
                          clear c19
                          have H' := Aside0.mk H
                          clear H
                          go_wp2
                          go_meet
                          case rel => exact ⟨_, (decide (((rd_T69 l1 x7_1).f1) ≥ a0)), (by first | rfl | (simp; done) | (simp [*]; done)), H', ⟨by have := HK1.out; first | omega | exact Nat.le_refl _⟩, ⟨by (with_reducible repeat (first | apply Kd.S_alloc | apply Kd.S_drewN | apply Kd.S_drew)); exact HO_6.out⟩, ⟨by (with_reducible repeat (first | refine blk_drewN ?_ _ | refine blk_drew ?_ | refine blk_alloc ?_ _)); exact BK101.out⟩, ⟨by repeat (first | (with_reducible first | exact HB.out | apply below_alloc | apply pw_below_drewN | apply below_drew1 | refine below_set ?_ GE101.out) | exact HB.out)⟩⟩
                  case rest =>
                    clear HC16
                    try clear c1
                    try clear p1
                    try clear q1
                    try clear hx1
                    try clear p2
                    try clear c3
                    try clear c3b0
                    try clear c5
                    try clear c6
                    try clear c6b0
                    try clear c9
                    try clear c9b0
                    try clear c9b1
                    try clear c10
                    try clear c10b0
                    try clear c10b1
                    try clear p10
                    try clear q10
                    try clear hx10
                    try clear c14
                    try clear c14b0
                    try clear c15
                    try clear c15b0
                    try clear c17
                    try clear c17b0
                    try clear c18
                    try clear c18b0
                    try clear c19
                    try clear c19b0
                    try clear hcz5_0
                    try clear hcz5_1
                    try clear hcz8_0
                    try clear hcz8_1
                    try clear hfz5_0
                    try clear hfz5_1
                    try clear hfz8_0
                    try clear hfz8_1
                    try clear hx105_0
                    try clear hx105_1
                    try clear hx106_0
                    try clear hx106_1
                    try clear p105
                    try clear p106
                    try clear p2
                    try clear q105
                    try clear q106
                    obtain ⟨kq, x54_15, rfl, HA, HJ15, HO_6, BK101, HB⟩ := hcut
                    cases kq with
                    | zero => exact absurd HA.out (by simp [carcanetref03_Normal.j1])
                    | succ kj15 =>
                      have H := HA.out
                      clear HA
                      simp only [carcanetref03_Normal.j1] at H
                      by_cases c20 : x54_15 = true
                      · subst c20
                        have H1 : (some (0, ([] : List (S69)), 4)) = some (r1, r2, r3) := by rw [if_pos rfl] at H; exact H
                        clear H
                        have H := H1
                        clear H1
                        simp only [Option.some.injEq, Prod.mk.injEq] at H
                        obtain ⟨rfl, rfl, rfl⟩ := H
                        have hcz21_0 : wc.cell? ⟨gb101, 0, none⟩ = some (.int .i64 x102000_1) := (blk_cell BK101.out 0).trans rfl
                        have hcz21_1 : wc.cell? ⟨gb101, 1, none⟩ = some (.slice none 0 0) := (blk_cell BK101.out 1).trans rfl
                        have hfz21_0 := blk_frozen BK101.out 0
                        have hfz21_1 := blk_frozen BK101.out 1
                        go_wp2
                        refine bodyPost_ret (results_ct rfl _ _ gb101 31 #[.int .i64 0, .slice none 0 0] (0, 0) _ rfl (by (with_reducible repeat (first | refine blk_drewN ?_ _ | refine blk_drew ?_ | refine blk_alloc ?_ _)); refine blk_put (cs := #[.int .i64 0, .slice none 0 0]) ?_ 1 _ rfl; (with_reducible repeat (first | refine blk_drewN ?_ _ | refine blk_drew ?_ | refine blk_alloc ?_ _)); refine blk_put (cs := #[.int .i64 x102000_1, .slice none 0 0]) ?_ 0 _ rfl; (with_reducible repeat (first | refine blk_drewN ?_ _ | refine blk_drew ?_ | refine blk_alloc ?_ _)); exact BK101.out) Try.underlying31 rfl (by kernel_rfl)) rfl ?_
                        exact ⟨_, by first | rfl | (simp [errW_none, errW_some] <;> rfl) | (simp [*, errW_none, errW_some] <;> rfl), by first | exact Kd.R_nil _ _ _ _ _ | exact Kd.N_nil _ _ _ _ _ | exact Kd.V_nil _ _ _ _ _ | exact Kd.Q_nil _ _ _ _ _ | exact Kd.S_nil _ _ _ _ _, by repeat (first | (with_reducible first | exact HB.out | apply below_alloc | apply pw_below_drewN | apply below_drew1 | refine below_set ?_ GE101.out) | exact HB.out)⟩
                      · replace c20 := Bool.eq_false_iff.mpr c20
                        subst c20
                        have H1 : (if ((rd_T69 l1 x7_1).f0) = ((rd_T69 l1 x7_1).f1) then (carcanetref03_Normal.l0 kj15 a0 l1 x6_1 (wrap64 (x7_1 + 1))) else (if 0 ≤ (mn ((rd_T69 l1 x7_1).f0) ((rd_T69 l1 x7_1).f1)) then (if (mn ((rd_T69 l1 x7_1).f0) ((rd_T69 l1 x7_1).f1)) < (x6_1.length : Int) then ((carcanetref03_In.f kj15 (rd_L14 x6_1 (mn ((rd_T69 l1 x7_1).f0) ((rd_T69 l1 x7_1).f1))) (mx ((rd_T69 l1 x7_1).f0) ((rd_T69 l1 x7_1).f1))).bind fun t108 => (if t108 = true then (carcanetref03_Normal.l0 kj15 a0 l1 x6_1 (wrap64 (x7_1 + 1))) else (if (rd_L14 x6_1 (mn ((rd_T69 l1 x7_1).f0) ((rd_T69 l1 x7_1).f1))).length < 17592186044416 then (carcanetref03_Normal.l0 kj15 a0 l1 (x6_1.set ((mn ((rd_T69 l1 x7_1).f0) ((rd_T69 l1 x7_1).f1)) : Int).toNat ((rd_L14 x6_1 (mn ((rd_T69 l1 x7_1).f0) ((rd_T69 l1 x7_1).f1))) ++ [mx ((rd_T69 l1 x7_1).f0) ((rd_T69 l1 x7_1).f1)])) (wrap64 (x7_1 + 1))) else (none)))) else (none)) else (none))) = some (r1, r2, r3) := by rw [if_neg (show ¬ (false = true) by decide)] at H; exact H
                        clear H
                        have H := H1
                        clear H1
                        obtain ⟨ji22, hji22⟩ : ∃ j_ : Int, (mn ((rd_T69 l1 x7_1).f0) ((rd_T69 l1 x7_1).f1)) = j_ := ⟨_, rfl⟩
                        replace H : (if ((rd_T69 l1 x7_1).f0) = ((rd_T69 l1 x7_1).f1) then (carcanetref03_Normal.l0 kj15 a0 l1 x6_1 (wrap64 (x7_1 + 1))) else (if 0 ≤ (ji22) then (if (ji22) < (x6_1.length : Int) then ((carcanetref03_In.f kj15 (rd_L14 x6_1 (ji22)) (mx ((rd_T69 l1 x7_1).f0) ((rd_T69 l1 x7_1).f1))).bind fun t108 => (if t108 = true then (carcanetref03_Normal.l0 kj15 a0 l1 x6_1 (wrap64 (x7_1 + 1))) else (if (rd_L14 x6_1 (ji22)).length < 17592186044416 then (carcanetref03_Normal.l0 kj15 a0 l1 (x6_1.set ((ji22) : Int).toNat ((rd_L14 x6_1 (ji22)) ++ [mx ((rd_T69 l1 x7_1).f0) ((rd_T69 l1 x7_1).f1)])) (wrap64 (x7_1 + 1))) else (none)))) else (none)) else (none))) = some (r1, r2, r3) := by first | (rw [hji22] at H; exact H) | (simp only [hji22] at H ⊢; exact H)
                        have hji22_ : (if ((rd_T69 l1 x7_1).f1) < ((rd_T69 l1 x7_1).f0) then ((rd_T69 l1 x7_1).f1) else ((rd_T69 l1 x7_1).f0)) = ji22 := hji22
                        by_cases c23 : ((rd_T69 l1 x7_1).f0) = ((rd_T69 l1 x7_1).f1)
                        · rw [if_pos c23] at H
                          have c23b0 : (((rd_T69 l1 x7_1).f0) == ((rd_T69 l1 x7_1).f1)) = true := beq_iff_eq.mpr c23
                          have c23b1 : (((rd_T69 l1 x7_1).f0) != ((rd_T69 l1 x7_1).f1)) = false := bne_eq_false_iff_eq.mpr c23
                          clear c23
                          have H' := Aside0.mk H
                          clear H
                          go_wp2
                          go_roundg kj15
                          case measure => have := HK1.out; have := HJ15.out; omega
                          case rel => exact ⟨(x6_1), (wrap64 (x7_1 + 1)), (x102000_1), (by first | rfl | (simp; done) | (simp [*]; done)), H', ⟨by have := HK1.out; have := HJ15.out; omega⟩, ⟨by (with_reducible repeat (first | apply Kd.S_alloc | apply Kd.S_drewN | apply Kd.S_drew)); exact HO_6.out⟩, ⟨by (with_reducible repeat (first | refine blk_drewN ?_ _ | refine blk_drew ?_ | refine blk_alloc ?_ _)); exact BK101.out⟩, ⟨by repeat (first | (with_reducible first | exact HB.out | apply below_alloc | apply pw_below_drewN | apply below_drew1 | refine below_set ?_ GE101.out) | exact HB.out)⟩⟩
                        · rw [if_neg c23] at H
                          have c23b0 : (((rd_T69 l1 x7_1).f0) == ((rd_T69 l1 x7_1).f1)) = false := beq_eq_false_iff_ne.mpr c23
                          have c23b1 : (((rd_T69 l1 x7_1).f0) != ((rd_T69 l1 x7_1).f1)) = true := bne_iff_ne.mpr c23
                          by_cases c24 : 0 ≤ (ji22)
                          · rw [if_pos c24] at H
                            have c24b0 : decide (0 ≤ (ji22)) = true := decide_eq_true c24
                            clear c24
                            by_cases c25 : (ji22) < (x6_1.length : Int)
                            · rw [if_pos c25] at H
                              have c25b0 : decide ((ji22) < (x6_1.length : Int)) = true := decide_eq_true c25
                              clear c25
                              obtain ⟨ji26, hji26⟩ : ∃ j_ : Int, (mx ((rd_T69 l1 x7_1).f0) ((rd_T69 l1 x7_1).f1)) = j_ := ⟨_, rfl⟩
                              replace H : ((carcanetref03_In.f kj15 (rd_L14 x6_1 (ji22)) (ji26)).bind fun t108 => (if t108 = true then (carcanetref03_Normal.l0 kj15 a0 l1 x6_1 (wrap64 (x7_1 + 1))) else (if (rd_L14 x6_1 (ji22)).length < 17592186044416 then (carcanetref03_Normal.l0 kj15 a0 l1 (x6_1.set ((ji22) : Int).toNat ((rd_L14 x6_1 (ji22)) ++ [ji26])) (wrap64 (x7_1 + 1))) else (none)))) = some (r1, r2, r3) := by first | (rw [hji26] at H; exact H) | (simp only [hji26] at H ⊢; exact H)
                              have hji26_ : (if ((rd_T69 l1 x7_1).f0) < ((rd_T69 l1 x7_1).f1) then ((rd_T69 l1 x7_1).f1) else ((rd_T69 l1 x7_1).f0)) = ji26 := hji26
                              replace H := Option.bind_eq_some_iff.mp H
                              obtain ⟨t108, A270, H⟩ := H
                              replace H : (if t108 = true then (carcanetref03_Normal.l0 kj15 a0 l1 x6_1 (wrap64 (x7_1 + 1))) else (if (rd_L14 x6_1 (ji22)).length < 17592186044416 then (carcanetref03_Normal.l0 kj15 a0 l1 (x6_1.set ((ji22) : Int).toNat ((rd_L14 x6_1 (ji22)) ++ [ji26])) (wrap64 (x7_1 + 1))) else (none))) = some (r1, r2, r3) := H
                              have A27 := Aside0.mk A270
                              clear A270
                              by_cases c28 : t108 = true
                              · subst c28
                                have H1 : (carcanetref03_Normal.l0 kj15 a0 l1 x6_1 (wrap64 (x7_1 + 1))) = some (r1, r2, r3) := by rw [if_pos rfl] at H; exact H
                                clear H
                                have H := H1
                                clear H1
                                have H' := Aside0.mk H
                                clear H
                                obtain ⟨Ao29, co29, eo29⟩ := Kd.S_slice HO_6.out
                                subst eo29
                                have p107 : 0 ≤ ((ji22) : Int) := of_decide_eq_true (by first | (with_reducible assumption) | assumption)
                                have q107 : (ji22) < (x6_1.length : Int) := of_decide_eq_true (by first | (with_reducible assumption) | assumption)
                                obtain ⟨ad107, A107_0, c107_0, e107, hx107_0, hl107_0, hi107_0⟩ := at_L14 (Kd.S_reads' HO_6.out).2.2 (ji22) p107 q107
                                cases e107
                                obtain ⟨ce107, hce107, hMe107, hcc107⟩ := Kd.S_get HO_6.out [] (ji22) p107 (by first | exact q107 | exact of_decide_eq_true (by first | (with_reducible assumption) | assumption) | (have e_ := (Kd.S_reads' HO_6.out).1; omega))
                                obtain ⟨ve107_0, rfl, ge107_0⟩ := hMe107
                                have hv107_0 := hcc107 0 _ rfl
                                rw [Nat.add_zero, show ((Kd.slice 3 (Kd.int .i64))).sz = 1 from rfl, Nat.mul_one] at hv107_0
                                replace hv107_0 := Option.some.inj (hv107_0.symm.trans hx107_0)
                                rw [hv107_0] at ge107_0
                                have HL107_0 := Aside0.mk (show Kd.R (Kd.int .i64) 3 _ _ _ _ (rd_L14 x6_1 (ji22)) from ge107_0)
                                clear hv107_0 ge107_0
                                have HX107_0 := Aside0.mk hx107_0
                                clear hcc107 hce107
                                have HR107_0 := Aside0.mk hi107_0
                                have HC107_0 := Aside0.mk hl107_0
                                clear hi107_0 hl107_0
                                replace p107 := eq_true p107
                                replace q107 := eq_true q107
                                go_wp2_with (first | (go_at_call 48; (with_reducible refine (carcanetref03_In.calls kj15 _ _ (rd_L14 x6_1 (ji22)) ji26 true _ ?side1 ?side2 A27.out).mono ?_); (case side1 => repeat (first | exact (by repeat (first | (with_reducible exact HR107_0.out) | (with_reducible refine Kd.C_alloc ?_ _) | (with_reducible refine Kd.C_drewN ?_ _) | (with_reducible refine Kd.C_drew ?_) | exact HR107_0.out)) | (with_reducible refine Kd.C_alloc ?_ _) | (with_reducible refine Kd.C_drewN ?_ _) | (with_reducible refine Kd.C_drew ?_))); (case side2 => exact HC107_0.out); rintro e w' ⟨rfl, ⟨nd, rfl⟩⟩))
                                go_roundg kj15
                                case measure => have := HK1.out; have := HJ15.out; omega
                                case rel => exact ⟨(x6_1), (wrap64 (x7_1 + 1)), (x102000_1), (by first | rfl | (simp; done) | (simp [*]; done)), H', ⟨by have := HK1.out; have := HJ15.out; omega⟩, ⟨by (with_reducible repeat (first | apply Kd.S_alloc | apply Kd.S_drewN | apply Kd.S_drew)); exact HO_6.out⟩, ⟨by (with_reducible repeat (first | refine blk_drewN ?_ _ | refine blk_drew ?_ | refine blk_alloc ?_ _)); exact BK101.out⟩, ⟨by repeat (first | (with_reducible first | exact HB.out | apply below_alloc | apply pw_below_drewN | apply below_drew1 | refine below_set ?_ GE101.out) | exact HB.out)⟩⟩
                              · replace c28 := Bool.eq_false_iff.mpr c28
                                subst c28
                                have H1 : (if (rd_L14 x6_1 (ji22)).length < 17592186044416 then (carcanetref03_Normal.l0 kj15 a0 l1 (x6_1.set ((ji22) : Int).toNat ((rd_L14 x6_1 (ji22)) ++ [ji26])) (wrap64 (x7_1 + 1))) else (none)) = some (r1, r2, r3) := by rw [if_neg (show ¬ (false = true) by decide)] at H; exact H
                                clear H
                                have H := H1
                                clear H1
                                by_cases c31 : (rd_L14 x6_1 (ji22)).length < 17592186044416
                                · rw [if_pos c31] at H
                                  have LMc31 := Aside0.mk c31
                                  clear c31
                                  obtain ⟨y110, hy110⟩ : ∃ y_ : List Int, y_ = ((rd_L14 x6_1 (ji22)) ++ [ji26]) := ⟨_, rfl⟩
                                  replace H : (carcanetref03_Normal.l0 kj15 a0 l1 (x6_1.set ((ji22) : Int).toNat y110) (wrap64 (x7_1 + 1))) = some (r1, r2, r3) := by first | (rw [hy110]; with_reducible exact H) | (have H2_ := (Option.bind_some _ _).symm.trans H; rw [hy110]; with_reducible exact H2_) | (have H2_ := (Option.bind_some _ _).symm.trans H; with_reducible exact H2_) | with_reducible exact H | (rw [hy110]; exact H) | exact H
                                  have Ny110 := Aside0.mk hy110
                                  clear hy110
                                  obtain ⟨y113, hy113⟩ : ∃ y_ : List (List Int), y_ = (x6_1.set ((ji22) : Int).toNat y110) := ⟨_, rfl⟩
                                  replace H : (carcanetref03_Normal.l0 kj15 a0 l1 y113 (wrap64 (x7_1 + 1))) = some (r1, r2, r3) := by first | (rw [hy113]; with_reducible exact H) | (have H2_ := (Option.bind_some _ _).symm.trans H; rw [hy113]; with_reducible exact H2_) | (have H2_ := (Option.bind_some _ _).symm.trans H; with_reducible exact H2_) | with_reducible exact H | (rw [hy113]; exact H) | exact H
                                  have Ny113 := Aside0.mk hy113
                                  clear hy113
                                  have H' := Aside0.mk H
                                  clear H
                                  obtain ⟨Ao33, co33, eo33⟩ := Kd.S_slice HO_6.out
                                  subst eo33
                                  have p107 : 0 ≤ ((ji22) : Int) := of_decide_eq_true (by first | (with_reducible assumption) | assumption)
                                  have q107 : (ji22) < (x6_1.length : Int) := of_decide_eq_true (by first | (with_reducible assumption) | assumption)
                                  obtain ⟨ad107, A107_0, c107_0, e107, hx107_0, hl107_0, hi107_0⟩ := at_L14 (Kd.S_reads' HO_6.out).2.2 (ji22) p107 q107
                                  cases e107
                                  obtain ⟨ce107, hce107, hMe107, hcc107⟩ := Kd.S_get HO_6.out [] (ji22) p107 (by first | exact q107 | exact of_decide_eq_true (by first | (with_reducible assumption) | assumption) | (have e_ := (Kd.S_reads' HO_6.out).1; omega))
                                  obtain ⟨ve107_0, rfl, ge107_0⟩ := hMe107
                                  have hv107_0 := hcc107 0 _ rfl
                                  rw [Nat.add_zero, show ((Kd.slice 3 (Kd.int .i64))).sz = 1 from rfl, Nat.mul_one] at hv107_0
                                  replace hv107_0 := Option.some.inj (hv107_0.symm.trans hx107_0)
                                  rw [hv107_0] at ge107_0
                                  have HL107_0 := Aside0.mk (show Kd.R (Kd.int .i64) 3 _ _ _ _ (rd_L14 x6_1 (ji22)) from ge107_0)
                                  clear hv107_0 ge107_0
                                  have HX107_0 := Aside0.mk hx107_0
                                  clear hcc107 hce107
                                  have HR107_0 := Aside0.mk hi107_0
                                  have HC107_0 := Aside0.mk hl107_0
                                  clear hi107_0 hl107_0
                                  replace p107 := eq_true p107
                                  replace q107 := eq_true q107
                                  go_wp2_with (first | (go_at_call 48; (with_reducible refine (carcanetref03_In.calls kj15 _ _ (rd_L14 x6_1 (ji22)) ji26 false _ ?side1 ?side2 A27.out).mono ?_); (case side1 => repeat (first | exact (by repeat (first | (with_reducible exact HR107_0.out) | (with_reducible refine Kd.C_alloc ?_ _) | (with_reducible refine Kd.C_drewN ?_ _) | (with_reducible refine Kd.C_drew ?_) | exact HR107_0.out)) | (with_reducible refine Kd.C_alloc ?_ _) | (with_reducible refine Kd.C_drewN ?_ _) | (with_reducible refine Kd.C_drew ?_))); (case side2 => exact HC107_0.out); rintro e w' ⟨rfl, ⟨nd, rfl⟩⟩; (try (rw [drewN_self wc]; generalize hq_ : World.drewN wc _ = wc; have n0_ : Aside0 (Kd.R (Kd.int .i64) 3 wc w.heap.size (fun k_ => some k_ ≠ (.slice (some ad107) x6_1.length co33 : Value).ownBlock) (.slice A107_0 (rd_L14 x6_1 (ji22)).length c107_0) (rd_L14 x6_1 (ji22))) := ⟨by rw [← hq_]; exact (by (with_reducible repeat (first | apply Kd.R_alloc | apply Kd.R_drewN | apply Kd.R_drew)); exact Kd.R_mono HL107_0.out (fun _ hk => hk.2))⟩; have n1_ : Aside0 (Kd.S (Kd.slice 3 (Kd.int .i64)) 26 wc w.heap.size (fun _ => True) (.slice (some ad107) x6_1.length co33) x6_1) := ⟨by rw [← hq_]; exact (by (with_reducible repeat (first | apply Kd.S_alloc | apply Kd.S_drewN | apply Kd.S_drew)); exact HO_6.out)⟩; have n2_ : Aside0 (wc.heap[gb101]? = some (.cells #[.int .i64 x102000_1, .slice none 0 0] 31 (0, 0))) := ⟨by rw [← hq_]; exact (by (with_reducible repeat (first | refine blk_drewN ?_ _ | refine blk_drew ?_ | refine blk_alloc ?_ _)); exact BK101.out)⟩; have n3_ : Aside0 (Below w.heap.size w wc) := ⟨by rw [← hq_]; exact (by repeat (first | (with_reducible first | exact HB.out | apply below_alloc | apply pw_below_drewN | apply below_drew1 | refine below_set ?_ GE101.out) | exact HB.out))⟩; have n4_ : Aside0 (Kd.C (Kd.int .i64) wc A107_0 (rd_L14 x6_1 (ji22)).length (rd_L14 x6_1 (ji22))) := ⟨by rw [← hq_]; exact (by repeat (first | (with_reducible exact HR107_0.out) | (with_reducible refine Kd.C_alloc ?_ _) | (with_reducible refine Kd.C_drewN ?_ _) | (with_reducible refine Kd.C_drew ?_) | exact HR107_0.out))⟩; (try (replace hx107_0 := (fun {w_ w1_ : World} {n_ : Nat} {a_ : Addr} {v_ : Value} (h_ : w_.cell? a_ = some v_) (e_ : World.drewN w_ n_ = w1_) => (by rw [← e_]; exact h_ : w1_.cell? a_ = some v_)) hx107_0 hq_; replace HX107_0 := Aside0.mk hx107_0)); clear HL107_0 HO_6 BK101 HB HR107_0 hq_; have HL107_0 := n0_; have HO_6 := n1_; have BK101 := n2_; have HB := n3_; have HR107_0 := n4_; clear n0_ n1_ n2_ n3_ n4_)); have p109 : 0 ≤ ((ji22) : Int) := of_decide_eq_true (by first | (with_reducible assumption) | assumption); have q109 : (ji22) < (x6_1.length : Int) := of_decide_eq_true (by first | (with_reducible assumption) | assumption); obtain ⟨ad109, A109_0, c109_0, e109, hx109_0, hl109_0, hi109_0⟩ := at_L14 (Kd.S_reads' HO_6.out).2.2 (ji22) p109 q109; obtain rfl : ad107 = ad109 := (by injection e109); obtain ⟨ce109, hce109, hMe109, hcc109⟩ := Kd.S_get HO_6.out [] (ji22) p109 (by first | exact q109 | exact of_decide_eq_true (by first | (with_reducible assumption) | assumption) | (have e_ := (Kd.S_reads' HO_6.out).1; omega)); obtain ⟨ve109_0, rfl, ge109_0⟩ := hMe109; have hv109_0 := hcc109 0 _ rfl; rw [Nat.add_zero, show ((Kd.slice 3 (Kd.int .i64))).sz = 1 from rfl, Nat.mul_one] at hv109_0; replace hv109_0 := Option.some.inj (hv109_0.symm.trans hx109_0); rw [hv109_0] at ge109_0; have HL109_0 := Aside0.mk (show Kd.R (Kd.int .i64) 3 _ _ _ _ (rd_L14 x6_1 (ji22)) from ge109_0); clear hv109_0 ge109_0; have HX109_0 := Aside0.mk hx109_0; clear hcc109 hce109; have HR109_0 := Aside0.mk hi109_0; have HC109_0 := Aside0.mk hl109_0; clear hi109_0 hl109_0; replace p109 := eq_true p109; replace q109 := eq_true q109; have ea_ := Option.some.inj (hx107_0.symm.trans hx109_0); injection ea_ with ea_ en_ ec_; subst ea_; subst ec_; clear en_; obtain ⟨go34, co34, eo34, gb34, gl34, cl34, HG34⟩ := Kd.S_form HO_6.out (by have h_ : ((ji22) : Int) < ((x6_1.length : Int) : Int) := of_decide_eq_true (by first | (with_reducible assumption) | assumption); have h2_ : 0 ≤ ((ji22) : Int) := (of_decide_eq_true (by first | (with_reducible assumption) | assumption)); omega); (first | cases eo34 | (injection eo34 with ea_ en_ ec_; (first | subst ea_ | (injection ea_ with ea_; subst ea_)); subst ec_; clear en_)); have GB34 := Aside0.mk gb34; have GG34 := Aside0.mk HG34; clear gb34 gl34 HG34; (first | simp only [add_plain] at hx107_0 | skip); (first | simp only [add_plain] at hx109_0 | skip); obtain ⟨oki34, ce34, hcl34, hM34, hcc34, _, _, hH34⟩ := Kd.S_elem HO_6.out [] ((ji22) : Int) (of_decide_eq_true (by first | (with_reducible assumption) | assumption)) (by have h_ : ((ji22) : Int) < ((x6_1.length : Int) : Int) := of_decide_eq_true (by first | (with_reducible assumption) | assumption); first | exact h_ | (have e_ := (Kd.S_reads' HO_6.out).1; omega) | simpa using h_); obtain ⟨ve34_0, rfl, ge34_0⟩ := hM34; have hv34 := hcc34 0 _ rfl; have hX34 := HX109_0.out; (try simp only [add_plain] at hX34); (try simp only [Nat.add_zero] at hv34); (try rw [show ((Kd.slice 3 (Kd.int .i64))).sz = 1 from rfl, Nat.mul_one] at hv34); replace hv34 := Option.some.inj (hv34.symm.trans hX34); subst hv34; clear hX34 hcc34 hcl34; have UU34 := Aside0.mk (show Kd.R (Kd.int .i64) 3 _ w.heap.size oki34 (.slice A107_0 (rd_L14 x6_1 (ji22)).length c107_0) (rd_L14 x6_1 (ji22)) from ge34_0); have HH34 := Aside0.mk hH34; have HN34 := Aside0.mk (Kd.S_reads' HO_6.out).1; clear hH34 ge34_0) | ((with_reducible refine gate_builtin (b := .append) (xs := #[.tmp 78, .tmp 82]) rfl ?_); (try (refine gate_guard (by rfl) ?_; dsimp only)); at_builtin; refine Kd.R_append (Kd.int .i64) (w0 := w) w.heap.size rfl (.tmp 78) (.tmp 82) 26 3 (.int .i64 0) 8 rfl Try.underlying26 info3 rfl (by decide) (by omega) (.slice A107_0 (rd_L14 x6_1 (ji22)).length c107_0) (rd_L14 x6_1 (ji22)) ji26 [.int .i64 ji26] (fun k_ => oki34 k_ ∨ ((fun _ => True)) k_ ∧ wc.heap.size ≤ k_) (fun _ => False) rfl rfl ?aP (fun _ hk => hk.elim) ?aF ?aO ?aB ?aS ?aL ?_; (case aP => exact rfl); (case aB => exact (by repeat (first | (with_reducible first | exact HB.out | apply below_alloc | apply pw_below_drewN | apply below_drew1 | refine below_set ?_ GE101.out) | exact HB.out))); (case aF => exact (fun k_ hk => .inr ⟨trivial, hk⟩)); (case aO => exact (by (with_reducible repeat (first | apply Kd.R_alloc | apply Kd.R_drewN | apply Kd.R_drew)); exact Kd.R_mono UU34.out (fun _ hk => .inl hk))); (case aS => exact (below_size (by repeat (first | (with_reducible first | exact HB.out | apply below_alloc | apply pw_below_drewN | apply below_drew1 | refine below_set ?_ GE101.out) | exact HB.out)))); (case aL => have := LMc31.out; omega); intro v111 w35 ho hb hg hat; rw [← Ny110.out] at ho; have n0_ := Aside0.mk (blk_grown (g := gb101) (o := .cells #[.int .i64 x102000_1, .slice none 0 0] 31 (0, 0)) (by (with_reducible repeat (first | refine blk_drewN ?_ _ | refine blk_drew ?_ | refine blk_alloc ?_ _)); exact BK101.out) hg (Kd.R_ne HL109_0.out BK101.out (by decide))); have n1_ := Aside0.mk (hb); have n2_ := Aside0.mk (Kd.H_grown (Kd.H_widen (by repeat (first | exact HH34.out | refine Kd.H_alloc ?_ _ | refine Kd.H_drewN ?_ _ | refine Kd.H_drew ?_))) hg (fun k_ e_ => .inl (UU34.out.1 k_ e_))); have n3_ := Aside0.mk (ho); clear BK101; clear HB; clear HH34; clear HO_6; clear UU34; clear HL107_0; clear HL109_0; have BK101 := n0_; have HB := n1_; have HH34 := n2_; have HO112 := n3_; clear n0_ n1_ n2_ n3_; clear ho hb hg hat; have p32 : 0 ≤ ((ji22) : Int) := of_decide_eq_true (by first | (with_reducible assumption) | assumption); have q32 : ((ji22) : Int) < ((x6_1.length : Int) : Int) := of_decide_eq_true (by first | (with_reducible assumption) | assumption); replace p32 := eq_true p32; replace q32 := eq_true q32; obtain ⟨Ao38, co38, eo38⟩ := Kd.R_slice HO112.out; subst eo38; obtain ⟨_, _, hraw36, _, _, hcc36, _⟩ := Kd.H_raw HH34.out (of_decide_eq_true (by first | (with_reducible assumption) | assumption)) (by have h_ : ((ji22) : Int) < ((x6_1.length : Int) : Int) := of_decide_eq_true (by first | (with_reducible assumption) | assumption); first | exact h_ | (have e_ := (HN34.out); omega) | simpa using h_); obtain ⟨_, hfr36⟩ := Kd.H_at HH34.out (of_decide_eq_true (by first | (with_reducible assumption) | assumption)) (by have h_ : ((ji22) : Int) < ((x6_1.length : Int) : Int) := of_decide_eq_true (by first | (with_reducible assumption) | assumption); first | exact h_ | (have e_ := (HN34.out); omega) | simpa using h_); have hx36_0 := hcc36 0 _ rfl; have hf36_0 := hfr36 0; (try simp only [Nat.add_zero] at hx36_0 hf36_0); (try rw [show ((Kd.slice 3 (Kd.int .i64))).sz = 1 from rfl, Nat.mul_one] at hx36_0); (try rw [show ((Kd.slice 3 (Kd.int .i64))).sz = 1 from rfl, Nat.mul_one] at hf36_0); have HP36 := Kd.S_seg0 HH34.out (of_decide_eq_true (by first | (with_reducible assumption) | assumption)) (by have h_ : ((ji22) : Int) < ((x6_1.length : Int) : Int) := of_decide_eq_true (by first | (with_reducible assumption) | assumption); first | exact h_ | (have e_ := (HN34.out); omega) | simpa using h_) (seg := [.slice Ao38 y110.length co38]) (j := 0) (show 1 ≤ 1 from by decide) (x' := y110) (Kd.M_row HO112.out) (fun _ hk => hk); (try simp only [show ((Kd.slice 3 (Kd.int .i64))).sz = 1 from rfl, Nat.mul_one, Nat.add_zero] at HP36); clear hcc36 hfr36) | ((with_reducible refine gate_store (t := 26) (p := 84) rfl ?_); refine store_event (t := 26) (p := 84) (v := ?vo_w37) (w1 := (w35.setCell ⟨go34, ((ji22) : Int).toNat, none⟩ (.slice Ao38 y110.length co38))) ?hg ?ho ?hn ?hr ?_; (case ho => rfl); (case hg => rfl); (case hn => rfl); (case hr => first | (go_simp; done) | (go_simp; rfl)); intro w37 hw; have hg : w35.grownBy w37 (some go34) := (by rw [hw]; exact HP36.2); have hp_ : Kd.S (Kd.slice 3 (Kd.int .i64)) 26 w37 w.heap.size (fun _ => True) (.slice (some ⟨go34, 0, none⟩) x6_1.length co33) y113 := (by rw [hw, Ny113.out]; exact HP36.1); clear HP36; have n0_ := Aside0.mk (blk_grown (g := gb101) (o := .cells #[.int .i64 x102000_1, .slice none 0 0] 31 (0, 0)) (by (with_reducible repeat (first | refine blk_drewN ?_ _ | refine blk_drew ?_ | refine blk_alloc ?_ _)); exact BK101.out) hg (Kd.R_ne hraw36 BK101.out (by decide))); have n1_ := Aside0.mk ((by rw [hw]; exact below_set HB.out GB34.out : Below w.heap.size w w37)); have n2_ := Aside0.mk (hp_); clear BK101; clear HB; clear HO112; clear HH34; have BK101 := n0_; have HB := n1_; have HO_6 := n2_; clear n0_ n1_ n2_; clear hg hw hp_ hraw36))
                                  go_roundg kj15
                                  case measure => have := HK1.out; have := HJ15.out; omega
                                  case rel => exact ⟨(y113), (wrap64 (x7_1 + 1)), (x102000_1), (by first | rfl | (simp; done) | (simp [*]; done)), H', ⟨by have := HK1.out; have := HJ15.out; omega⟩, ⟨by (with_reducible repeat (first | apply Kd.S_alloc | apply Kd.S_drewN | apply Kd.S_drew)); exact HO_6.out⟩, ⟨by (with_reducible repeat (first | refine blk_drewN ?_ _ | refine blk_drew ?_ | refine blk_alloc ?_ _)); exact BK101.out⟩, ⟨by repeat (first | (with_reducible first | exact HB.out | apply below_alloc | apply pw_below_drewN | apply below_drew1 | refine below_set ?_ GE101.out) | exact HB.out)⟩⟩
                                · rw [if_neg c31] at H
                                  exact absurd H (by simp)
                            · rw [if_neg c25] at H
                              exact absurd H (by simp)
                          · rw [if_neg c24] at H
                            exact absurd H (by simp)
                · rw [if_neg c15] at H
                  exact absurd H (by simp)
              · rw [if_neg c14] at H
                have c14b0 : decide (x7_1 < (l1.length : Int)) = false := decide_eq_false c14
                clear c14
                have H' := Aside0.mk H
                clear H
                go_wp2_with (first | ((with_reducible refine gate_dst (N := 11) rfl ?_); (try (refine gate_guard (by rfl) ?_; dsimp only)); refine box_event ?hg (N := 11) ?hd (cs := #[.int .i64 0, .slice none 0 0]) (t := 31) ?hr ?_; (case hd => rfl); (case hg => rfl); (case hr => first | (go_simp; done) | (go_simp; rfl)); intro gb114 hg w39 hbox hb; have n0_ := Aside0.mk (Kd.S_below (by (with_reducible repeat (first | apply Kd.S_alloc | apply Kd.S_drewN | apply Kd.S_drew)); exact HO_6.out) hb); have n1_ := Aside0.mk (blk_below (g := gb101) (o := .cells #[.int .i64 x102000_1, .slice none 0 0] 31 (0, 0)) (by (with_reducible repeat (first | refine blk_drewN ?_ _ | refine blk_drew ?_ | refine blk_alloc ?_ _)); exact BK101.out) hb); have n2_ := Aside0.mk (below_step (by repeat (first | (with_reducible first | exact HB.out | apply below_alloc | apply pw_below_drewN | apply below_drew1 | refine below_set ?_ GE101.out) | exact HB.out)) hb); have n3_ := Aside0.mk (hbox); have n4_ := Aside0.mk ((by rw [hg]; exact (below_size (by repeat (first | (with_reducible first | exact HB.out | apply below_alloc | apply pw_below_drewN | apply below_drew1 | refine below_set ?_ GE101.out) | exact HB.out))) : w.heap.size ≤ gb114)); have n5_ := Aside0.mk ((by rw [hg]; exact (below_size (by repeat (first | (with_reducible first | exact HB.out | apply below_alloc | apply pw_below_drewN | apply below_drew1 | refine below_set ?_ GE101.out) | exact HB.out))) : w.heap.size ≤ gb114)); have n6_ := Aside0.mk ((by rw [hg]; exact Nat.ne_of_lt (blk_lt (g := gb101) (o := .cells #[.int .i64 x102000_1, .slice none 0 0] 31 (0, 0)) (by (with_reducible repeat (first | refine blk_drewN ?_ _ | refine blk_drew ?_ | refine blk_alloc ?_ _)); exact BK101.out)) : gb101 ≠ gb114)); have n7_ := Aside0.mk ((by rw [hg]; exact Nat.ne_of_gt (blk_lt (g := gb101) (o := .cells #[.int .i64 x102000_1, .slice none 0 0] 31 (0, 0)) (by (with_reducible repeat (first | refine blk_drewN ?_ _ | refine blk_drew ?_ | refine blk_alloc ?_ _)); exact BK101.out)) : gb114 ≠ gb101)); clear HO_6; clear BK101; clear HB; have HO_6 := n0_; have BK101 := n1_; have HB := n2_; have BK114 := n3_; have GW114 := n4_; have GE114 := n5_; have NB101_114 := n6_; have NB114_101 := n7_; clear n0_ n1_ n2_ n3_ n4_ n5_ n6_ n7_; clear hb hbox hg; have hnb40 := NB114_101.out; have hnc40 := NB101_114.out; have hcz41_0 : w39.cell? ⟨gb114, 0, none⟩ = some (.int .i64 0) := (blk_cell BK114.out 0).trans rfl; have hcz41_1 : w39.cell? ⟨gb114, 1, none⟩ = some (.slice none 0 0) := (blk_cell BK114.out 1).trans rfl; have hfz41_0 := blk_frozen BK114.out 0; have hfz41_1 := blk_frozen BK114.out 1))
                go_loopg [12] k1 (fun kq v12 w' => ∃ (x12_2 : Int) (x115001_2 : List (S69)) (u115001 : Value), v12 = .int .i64 x12_2 ∧ Aside0 (carcanetref03_Normal.l1 kq a0 x6_1 x12_2 a0 x115001_2 = some (r1, r2, r3)) ∧ Aside0 (kq ≤ k1) ∧ Aside0 (Kd.S (Kd.slice 3 (Kd.int .i64)) 26 w' w.heap.size (fun _ => True) v103 x6_1) ∧ Aside0 (Kd.R k69 69 w' w.heap.size (fun _ => True) u115001 x115001_2) ∧ Aside0 (w'.heap[gb101]? = some (.cells #[.int .i64 x102000_1, (.slice none 0 0)] 31 (0, 0))) ∧ Aside0 (w'.heap[gb114]? = some (.cells #[.int .i64 a0, u115001] 31 (0, 0))) ∧ Aside0 (Below w.heap.size w w'))
                case atStart => exact ⟨(0), (([] : List (S69))), (.slice none 0 0), (by first | rfl | (simp; done) | (simp [*]; done)), H', ⟨Nat.le_refl _⟩, ⟨by (with_reducible repeat (first | apply Kd.S_alloc | apply Kd.S_drewN | apply Kd.S_drew)); exact Kd.S_mono (Kd.S_far (p := ⟨gb114, 1, none⟩) (Kd.S_far (p := ⟨gb114, 0, none⟩) (Kd.S_types HO_6.out BK114.out (by decide)) (fun _ hk => hk.2) (.int .i64 a0)) (fun _ hk => hk.2) (.slice none 0 0)) (fun _ hk => trivial)⟩, ⟨by first | exact Kd.R_nil _ _ _ _ _ | exact Kd.N_nil _ _ _ _ _ | exact Kd.V_nil _ _ _ _ _ | exact Kd.Q_nil _ _ _ _ _ | exact Kd.S_nil _ _ _ _ _⟩, ⟨by (with_reducible repeat (first | refine blk_drewN ?_ _ | refine blk_drew ?_ | refine blk_alloc ?_ _)); refine blk_far ?_ NB101_114.out _; (with_reducible repeat (first | refine blk_drewN ?_ _ | refine blk_drew ?_ | refine blk_alloc ?_ _)); refine blk_far ?_ NB101_114.out _; (with_reducible repeat (first | refine blk_drewN ?_ _ | refine blk_drew ?_ | refine blk_alloc ?_ _)); exact BK101.out⟩, ⟨by (with_reducible repeat (first | refine blk_drewN ?_ _ | refine blk_drew ?_ | refine blk_alloc ?_ _)); refine blk_put (cs := #[.int .i64 a0, .slice none 0 0]) ?_ 1 _ rfl; (with_reducible repeat (first | refine blk_drewN ?_ _ | refine blk_drew ?_ | refine blk_alloc ?_ _)); refine blk_put (cs := #[.int .i64 0, .slice none 0 0]) ?_ 0 _ rfl; (with_reducible repeat (first | refine blk_drewN ?_ _ | refine blk_drew ?_ | refine blk_alloc ?_ _)); exact BK114.out⟩, ⟨by repeat (first | (with_reducible first | exact HB.out | apply below_alloc | apply pw_below_drewN | apply below_drew1 | refine below_set ?_ GE101.out | refine below_set ?_ GE114.out) | exact HB.out)⟩⟩
                case round =>
                  clear H'
                  try clear c1
                  try clear p1
                  try clear q1
                  try clear hx1
                  try clear c2
                  try clear p2
                  try clear c3
                  try clear c3b0
                  try clear p3
                  try clear q3
                  try clear hx3
                  try clear hf3
                  try clear c4
                  try clear c5
                  try clear c6
                  try clear c6b0
                  try clear p6
                  try clear c9
                  try clear c9b0
                  try clear c9b1
                  try clear c10
                  try clear c10b0
                  try clear c10b1
                  try clear p10
                  try clear q10
                  try clear hx10
                  try clear c14
                  try clear c14b0
                  try clear c15
                  try clear c15b0
                  try clear c17
                  try clear c17b0
                  try clear c18
                  try clear c18b0
                  try clear c19
                  try clear c19b0
                  try clear c20
                  try clear c23
                  try clear c23b0
                  try clear c23b1
                  try clear c24
                  try clear c24b0
                  try clear c25
                  try clear c25b0
                  try clear c28
                  try clear c30
                  try clear c30b0
                  try clear c31
                  try clear p32
                  try clear q32
                  try clear c34
                  try clear c36
                  try clear hx36
                  try clear hf36
                  try clear c40
                  try clear hcz21_0
                  try clear hcz21_1
                  try clear hcz41_0
                  try clear hcz41_1
                  try clear hcz5_0
                  try clear hcz5_1
                  try clear hcz8_0
                  try clear hcz8_1
                  try clear hfz21_0
                  try clear hfz21_1
                  try clear hfz41_0
                  try clear hfz41_1
                  try clear hfz5_0
                  try clear hfz5_1
                  try clear hfz8_0
                  try clear hfz8_1
                  try clear hx105_0
                  try clear hx105_1
                  try clear hx106_0
                  try clear hx106_1
                  try clear hx107_0
                  try clear hx109_0
                  try clear hx36_0
                  try clear p1
                  try clear p10
                  try clear p105
                  try clear p106
                  try clear p107
                  try clear p109
                  try clear p2
                  try clear p32
                  try clear q1
                  try clear q10
                  try clear q105
                  try clear q106
                  try clear q107
                  try clear q109
                  try clear q32
                  obtain ⟨x12_2, x115001_2, u115001, rfl, HA, HK2, HO_6, HO_115001, BK101, BK114, HB⟩ := hrel
                  cases gk with
                  | zero => exact absurd HA.out (by simp [carcanetref03_Normal.l1])
                  | succ k2 =>
                    have H := HA.out
                    clear HA
                    simp only [carcanetref03_Normal.l1] at H
                    by_cases c42 : x12_2 < a0
                    · rw [if_pos c42] at H
                      have c42b0 : decide (x12_2 < a0) = true := decide_eq_true c42
                      clear c42
                      by_cases c43 : 0 ≤ x12_2
                      · rw [if_pos c43] at H
                        have c43b0 : decide (0 ≤ x12_2) = true := decide_eq_true c43
                        clear c43
                        by_cases c44 : x12_2 < (x6_1.length : Int)
                        · rw [if_pos c44] at H
                          have c44b0 : decide (x12_2 < (x6_1.length : Int)) = true := decide_eq_true c44
                          clear c44
                          replace H := Option.bind_eq_some_iff.mp H
                          obtain ⟨t116, A450, H⟩ := H
                          replace H : (carcanetref03_Normal.l2 k2 a0 x6_1 x12_2 t116 0 a0 x115001_2) = some (r1, r2, r3) := H
                          have A45 := Aside0.mk A450
                          clear A450
                          have H' := Aside0.mk H
                          clear H
                          obtain ⟨Ao46, co46, eo46⟩ := Kd.S_slice HO_6.out
                          subst eo46
                          have p115 : 0 ≤ (x12_2 : Int) := of_decide_eq_true (by first | (with_reducible assumption) | assumption)
                          have q115 : x12_2 < (x6_1.length : Int) := of_decide_eq_true (by first | (with_reducible assumption) | assumption)
                          obtain ⟨ad115, A115_0, c115_0, e115, hx115_0, hl115_0, hi115_0⟩ := at_L14 (Kd.S_reads' HO_6.out).2.2 x12_2 p115 q115
                          cases e115
                          obtain ⟨ce115, hce115, hMe115, hcc115⟩ := Kd.S_get HO_6.out [] x12_2 p115 (by first | exact q115 | exact of_decide_eq_true (by first | (with_reducible assumption) | assumption) | (have e_ := (Kd.S_reads' HO_6.out).1; omega))
                          obtain ⟨ve115_0, rfl, ge115_0⟩ := hMe115
                          have hv115_0 := hcc115 0 _ rfl
                          rw [Nat.add_zero, show ((Kd.slice 3 (Kd.int .i64))).sz = 1 from rfl, Nat.mul_one] at hv115_0
                          replace hv115_0 := Option.some.inj (hv115_0.symm.trans hx115_0)
                          rw [hv115_0] at ge115_0
                          have HL115_0 := Aside0.mk (show Kd.R (Kd.int .i64) 3 _ _ _ _ (rd_L14 x6_1 x12_2) from ge115_0)
                          clear hv115_0 ge115_0
                          have HX115_0 := Aside0.mk hx115_0
                          clear hcc115 hce115
                          have HR115_0 := Aside0.mk hi115_0
                          have HC115_0 := Aside0.mk hl115_0
                          clear hi115_0 hl115_0
                          replace p115 := eq_true p115
                          replace q115 := eq_true q115
                          go_wp2_with (first | ((with_reducible refine gate_callee (f := 44) rfl ?_); refine goesL_ (some 96) rfl rfl Try.func44 (by kernel_rfl) rfl #[.slice A115_0 (rd_L14 x6_1 x12_2).length c115_0] rfl (by (try simp only [List.map_toArray, List.map_cons, List.map_nil]); first | done | rfl | (simp only [List.length_drop, List.length_take]; rfl)) ?_; (with_reducible refine (carcanetref03_Sorted.calls _ _ (rd_L14 x6_1 x12_2) t116 _ ?side1 ?side2 A45.out).mono ?_); (case side1 => repeat (first | exact (by repeat (first | (with_reducible exact HR115_0.out) | (with_reducible refine Kd.C_alloc ?_ _) | (with_reducible refine Kd.C_drewN ?_ _) | (with_reducible refine Kd.C_drew ?_) | exact HR115_0.out)) | (with_reducible refine Kd.C_alloc ?_ _) | (with_reducible refine Kd.C_drewN ?_ _) | (with_reducible refine Kd.C_drew ?_))); (case side2 => exact HC115_0.out); rintro e w47 ⟨v117, rfl, ho0, hb⟩; refine ⟨_, rfl, ?_⟩; have n0_ := Aside0.mk (Kd.S_elder' (by (with_reducible repeat (first | apply Kd.S_alloc | apply Kd.S_drewN | apply Kd.S_drew)); exact HO_6.out) (Kd.R_base ho0) hb); have n1_ := Aside0.mk (Kd.R_below (by (with_reducible repeat (first | apply Kd.R_alloc | apply Kd.R_drewN | apply Kd.R_drew)); exact HO_115001.out) hb); have n2_ := Aside0.mk (Kd.R_elder' (by (with_reducible repeat (first | apply Kd.R_alloc | apply Kd.R_drewN | apply Kd.R_drew)); exact HL115_0.out) (Kd.R_base ho0) hb); have n3_ := Aside0.mk (Kd.R_lower (Kd.R_new' ho0 (Kd.R_lt (by (with_reducible repeat (first | apply Kd.R_alloc | apply Kd.R_drewN | apply Kd.R_drew)); exact HL115_0.out))) (below_size (by repeat (first | (with_reducible first | exact HB.out | apply below_alloc | apply pw_below_drewN | apply below_drew1 | refine below_set ?_ GE101.out | refine below_set ?_ GE114.out) | exact HB.out)))); have n4_ := Aside0.mk (blk_below (g := gb101) (o := .cells #[.int .i64 x102000_1, .slice none 0 0] 31 (0, 0)) (by (with_reducible repeat (first | refine blk_drewN ?_ _ | refine blk_drew ?_ | refine blk_alloc ?_ _)); exact BK101.out) hb); have n5_ := Aside0.mk (blk_below (g := gb114) (o := .cells #[.int .i64 a0, u115001] 31 (0, 0)) (by (with_reducible repeat (first | refine blk_drewN ?_ _ | refine blk_drew ?_ | refine blk_alloc ?_ _)); exact BK114.out) hb); have n6_ := Aside0.mk (Kd.C_below (by repeat (first | (with_reducible exact HR115_0.out) | (with_reducible refine Kd.C_alloc ?_ _) | (with_reducible refine Kd.C_drewN ?_ _) | (with_reducible refine Kd.C_drew ?_) | exact HR115_0.out)) hb); have n7_ := Aside0.mk (pw_cell_below hb HX115_0.out); have n8_ := Aside0.mk (below_step (by repeat (first | (with_reducible first | exact HB.out | apply below_alloc | apply pw_below_drewN | apply below_drew1 | refine below_set ?_ GE101.out | refine below_set ?_ GE114.out) | exact HB.out)) hb); clear HO_6; clear HO_115001; clear HL115_0; clear BK101; clear BK114; clear HR115_0; clear HX115_0; clear HB; have HO_6 := n0_; have HO_115001 := n1_; have HL115_0 := n2_; have HO118 := n3_; have BK101 := n4_; have BK114 := n5_; have HR115_0 := n6_; have HX115_0 := n7_; have HB := n8_; clear n0_ n1_ n2_ n3_ n4_ n5_ n6_ n7_ n8_; (try clear hb); (try clear hb2); (try clear hk); (try clear hi); (try clear ho0)))
                          go_loopg [14] k2 (fun kq v14 w' => ∃ (x14_3 : Int) (x115001_3 : List (S69)) (u115001 : Value), v14 = .int .i64 x14_3 ∧ Aside0 (carcanetref03_Normal.l2 kq a0 x6_1 x12_2 t116 x14_3 a0 x115001_3 = some (r1, r2, r3)) ∧ Aside0 (kq ≤ k2) ∧ Aside0 (Kd.S (Kd.slice 3 (Kd.int .i64)) 26 w' w.heap.size (fun k_ => some k_ ≠ (v117 : Value).ownBlock) (.slice (some ad115) x6_1.length co46) x6_1) ∧ Aside0 (Kd.R (Kd.int .i64) 3 w' w.heap.size (fun _ => True) v117 t116) ∧ Aside0 (Kd.R k69 69 w' w.heap.size (fun _ => True) u115001 x115001_3) ∧ Aside0 (w'.heap[gb101]? = some (.cells #[.int .i64 x102000_1, (.slice none 0 0)] 31 (0, 0))) ∧ Aside0 (w'.heap[gb114]? = some (.cells #[.int .i64 a0, u115001] 31 (0, 0))) ∧ Aside0 (Below w.heap.size w w'))
                          case atStart => exact ⟨(0), (x115001_2), (u115001), (by first | rfl | (simp; done) | (simp [*]; done)), H', ⟨Nat.le_refl _⟩, ⟨by (with_reducible repeat (first | apply Kd.S_alloc | apply Kd.S_drewN | apply Kd.S_drew)); exact Kd.S_mono HO_6.out (fun _ hk => hk.2)⟩, ⟨by (with_reducible repeat (first | apply Kd.R_alloc | apply Kd.R_drewN | apply Kd.R_drew)); exact Kd.R_mono HO118.out (fun _ hk => trivial)⟩, ⟨by (with_reducible repeat (first | apply Kd.R_alloc | apply Kd.R_drewN | apply Kd.R_drew)); exact HO_115001.out⟩, ⟨by (with_reducible repeat (first | refine blk_drewN ?_ _ | refine blk_drew ?_ | refine blk_alloc ?_ _)); exact BK101.out⟩, ⟨by (with_reducible repeat (first | refine blk_drewN ?_ _ | refine blk_drew ?_ | refine blk_alloc ?_ _)); exact BK114.out⟩, ⟨by repeat (first | (with_reducible first | exact HB.out | apply below_alloc | apply pw_below_drewN | apply below_drew1 | refine below_set ?_ GE101.out | refine below_set ?_ GE114.out) | exact HB.out)⟩⟩
                          case round =>
                            clear H'
                            try clear c1
                            try clear p1
                            try clear q1
                            try clear hx1
                            try clear c2
                            try clear p2
                            try clear c3
                            try clear c3b0
                            try clear p3
                            try clear q3
                            try clear hx3
                            try clear hf3
                            try clear c4
                            try clear c5
                            try clear c6
                            try clear c6b0
                            try clear p6
                            try clear c9
                            try clear c9b0
                            try clear c9b1
                            try clear c10
                            try clear c10b0
                            try clear c10b1
                            try clear p10
                            try clear q10
                            try clear hx10
                            try clear c11
                            try clear p11
                            try clear q11
                            try clear hx11
                            try clear c14
                            try clear c14b0
                            try clear c15
                            try clear c15b0
                            try clear c17
                            try clear c17b0
                            try clear c18
                            try clear c18b0
                            try clear c19
                            try clear c19b0
                            try clear c20
                            try clear c23
                            try clear c23b0
                            try clear c23b1
                            try clear c24
                            try clear c24b0
                            try clear c25
                            try clear c25b0
                            try clear c28
                            try clear c30
                            try clear c30b0
                            try clear c31
                            try clear p32
                            try clear q32
                            try clear c34
                            try clear c36
                            try clear hx36
                            try clear hf36
                            try clear c40
                            try clear c42
                            try clear c42b0
                            try clear c43
                            try clear c43b0
                            try clear c44
                            try clear c44b0
                            try clear hcz21_0
                            try clear hcz21_1
                            try clear hcz41_0
                            try clear hcz41_1
                            try clear hcz5_0
                            try clear hcz5_1
                            try clear hcz8_0
                            try clear hcz8_1
                            try clear hfz21_0
                            try clear hfz21_1
                            try clear hfz41_0
                            try clear hfz41_1
                            try clear hfz5_0
                            try clear hfz5_1
                            try clear hfz8_0
                            try clear hfz8_1
                            try clear hx105_0
                            try clear hx105_1
                            try clear hx106_0
                            try clear hx106_1
                            try clear hx107_0
                            try clear hx109_0
                            try clear hx115_0
                            try clear hx36_0
                            try clear p1
                            try clear p10
                            try clear p105
                            try clear p106
                            try clear p107
                            try clear p109
                            try clear p115
                            try clear p2
                            try clear p3
                            try clear p32
                            try clear p6
                            try clear q1
                            try clear q10
                            try clear q105
                            try clear q106
                            try clear q107
                            try clear q109
                            try clear q115
                            try clear q3
                            try clear q32
                            obtain ⟨x14_3, x115001_3, u115001, rfl, HA, HK3, HO_6, HO_13, HO_115001, BK101, BK114, HB⟩ := hrel
                            cases gk with
                            | zero => exact absurd HA.out (by simp [carcanetref03_Normal.l2])
                            | succ k3 =>
                              have H := HA.out
                              clear HA
                              simp only [carcanetref03_Normal.l2] at H
                              by_cases c48 : x14_3 < (t116.length : Int)
                              · rw [if_pos c48] at H
                                have c48b0 : decide (x14_3 < (t116.length : Int)) = true := decide_eq_true c48
                                clear c48
                                by_cases c49 : 0 ≤ x14_3
                                · rw [if_pos c49] at H
                                  have c49b0 : decide (0 ≤ x14_3) = true := decide_eq_true c49
                                  clear c49
                                  by_cases c50 : x115001_3.length < 8796093022208
                                  · rw [if_pos c50] at H
                                    have LMc50 := Aside0.mk c50
                                    clear c50
                                    obtain ⟨y120, hy120⟩ : ∃ y_ : List (S69), y_ = (x115001_3 ++ [(⟨x12_2, rd t116 x14_3⟩ : S69)]) := ⟨_, rfl⟩
                                    replace H : (carcanetref03_Normal.l2 k3 a0 x6_1 x12_2 t116 (wrap64 (x14_3 + 1)) a0 y120) = some (r1, r2, r3) := by first | (rw [hy120]; with_reducible exact H) | (have H2_ := (Option.bind_some _ _).symm.trans H; rw [hy120]; with_reducible exact H2_) | (have H2_ := (Option.bind_some _ _).symm.trans H; with_reducible exact H2_) | with_reducible exact H | (rw [hy120]; exact H) | exact H
                                    have Ny120 := Aside0.mk hy120
                                    clear hy120
                                    have H' := Aside0.mk H
                                    clear H
                                    obtain ⟨Ao51, co51, eo51⟩ := Kd.R_slice HO_13.out
                                    subst eo51
                                    try go_wp2
                                    have n0_ := Aside0.mk (Kd.S_drew HO_6.out)
                                    have n1_ := Aside0.mk (Kd.R_drew HO_13.out)
                                    have n2_ := Aside0.mk (Kd.R_drew HO_115001.out)
                                    have n3_ := Aside0.mk (blk_drew BK101.out)
                                    have n4_ := Aside0.mk (blk_drew BK114.out)
                                    have n5_ := Aside0.mk (below_drew1 HB.out)
                                    clear HO_6
                                    clear HO_13
                                    clear HO_115001
                                    clear BK101
                                    clear BK114
                                    clear HB
                                    have HO_6 := n0_
                                    have HO_13 := n1_
                                    have HO_115001 := n2_
                                    have BK101 := n3_
                                    have BK114 := n4_
                                    have HB := n5_
                                    clear n0_ n1_ n2_ n3_ n4_ n5_
                                    have p119 : 0 ≤ (x14_3 : Int) := of_decide_eq_true (by first | (with_reducible assumption) | assumption)
                                    have q119 : x14_3 < (t116.length : Int) := of_decide_eq_true (by first | (with_reducible assumption) | assumption)
                                    obtain ⟨ad119, e119, hx119_0⟩ := Kd.at_int (Kd.R_reads' HO_13.out).2.2 x14_3 p119 q119
                                    cases e119
                                    replace p119 := eq_true p119
                                    replace q119 := eq_true q119
                                    refine start_ (n := 12) (S := fun w' => w'.cell? ⟨gb114, 0, none⟩ = some (.int .i64 a0) ∧ w'.cell? ⟨gb114, 1, none⟩ = some (u115001) ∧ w'.cell? (ad119.add (x14_3).toNat) = some (.int .i64 (rd t116 x14_3))) (ds := [9, 11]) #[false, false, false, false, false, false, false, false, false, false, false, false] (by kernel_rfl) rfl rfl ⟨(blk_cell BK114.out 0).trans rfl, (blk_cell BK114.out 1).trans rfl, hx119_0⟩ (fun hHeld => ?_); refine with_tabW carcanetref03_Normal.tab24 carcanetref03_Normal.bits24 (fun HT_ HW_ => ?_)
                                    generalize wr.drew = w52 at HO_6 HO_13 HO_115001 BK101 BK114 HB hx119_0 hHeld ⊢
                                    refine pure_ (i := 0) (N := some 103) (v := ?_) (a' := ?_) #[true, false, false, false, false, false, false, false, false, false, false, false] rfl rfl (any_of HT_.out (by kernel_rfl)) (fun _ _ _ h => h) (Or.inl ⟨by rfl, ?_⟩) ?_ ?_
                                    rotate_left
                                    · intro w'
                                      go_simp
                                      with_reducible rfl
                                    rotate_left
                                    · simp only [Act.put, List.setIfInBounds_toArray, List.set_cons_zero, List.set_cons_succ, i64_w, i32_w]
                                      rfl
                                    refine pure_ (i := 2) (N := some 105) (v := ?_) (a' := ?_) #[true, false, true, false, false, false, false, false, false, false, false, false] rfl rfl (any_of HT_.out (by kernel_rfl)) (fun _ _ _ h => h) (Or.inl ⟨by rfl, ?_⟩) ?_ ?_
                                    rotate_left
                                    · intro w'
                                      go_simp
                                      with_reducible rfl
                                    rotate_left
                                    · simp only [Act.put, List.setIfInBounds_toArray, List.set_cons_zero, List.set_cons_succ, i64_w, i32_w]
                                      rfl
                                    refine pure_ (i := 3) (N := some 106) (v := ?_) (a' := ?_) #[true, false, true, true, false, false, false, false, false, false, false, false] rfl rfl (any_of HT_.out (by kernel_rfl)) (fun _ _ _ h => h) (Or.inl ⟨by rfl, ?_⟩) ?_ ?_
                                    rotate_left
                                    · intro w'
                                      go_simp
                                      with_reducible rfl
                                    rotate_left
                                    · simp only [Act.put, List.setIfInBounds_toArray, List.set_cons_zero, List.set_cons_succ, i64_w, i32_w]
                                      rfl
                                    refine pure_ (i := 4) (N := some 107) (v := ?_) (a' := ?_) #[true, false, true, true, true, false, false, false, false, false, false, false] rfl rfl (any_of HT_.out (by kernel_rfl)) (fun _ _ _ h => h) (Or.inl ⟨by rfl, ?_⟩) ?_ ?_
                                    rotate_left
                                    · intro w'
                                      go_simp
                                      with_reducible rfl
                                    rotate_left
                                    · simp only [Act.put, List.setIfInBounds_toArray, List.set_cons_zero, List.set_cons_succ, i64_w, i32_w]
                                      rfl
                                    refine pure_ (i := 5) (N := some 108) (v := ?_) (a' := ?_) #[true, false, true, true, true, true, false, false, false, false, false, false] rfl rfl (any_of HT_.out (by kernel_rfl)) (fun _ _ _ h => h) (Or.inl ⟨by rfl, ?_⟩) ?_ ?_
                                    rotate_left
                                    · intro w'
                                      go_simp
                                      with_reducible rfl
                                    rotate_left
                                    · simp only [Act.put, List.setIfInBounds_toArray, List.set_cons_zero, List.set_cons_succ, i64_w, i32_w]
                                      rfl
                                    refine take_ (i := 1) (N := some 104) (v := ?_) (a' := ?_) #[true, true, true, true, true, true, false, false, false, false, false, false] rfl rfl (take_ofW HT_.out HW_.out (by kernel_rfl)) (fun _ _ _ h => h) (Or.inl ⟨by rfl, ?_⟩) hHeld ?_ ?_
                                    rotate_left
                                    · rintro w' ⟨s0, s1, s2⟩
                                      go_simp
                                      with_reducible rfl
                                    rotate_left
                                    · simp only [Act.put, List.setIfInBounds_toArray, List.set_cons_zero, List.set_cons_succ, i64_w, i32_w]
                                      rfl
                                    refine take_ (i := 6) (N := some 109) (v := ?_) (a' := ?_) #[true, true, true, true, true, true, true, false, false, false, false, false] rfl rfl (take_ofW HT_.out HW_.out (by kernel_rfl)) (fun _ _ _ h => h) (Or.inl ⟨by rfl, ?_⟩) hHeld ?_ ?_
                                    rotate_left
                                    · rintro w' ⟨s0, s1, s2⟩
                                      go_simp
                                      with_reducible rfl
                                    rotate_left
                                    · simp only [Act.put, List.setIfInBounds_toArray, List.set_cons_zero, List.set_cons_succ, i64_w, i32_w]
                                      rfl
                                    refine pure_ (i := 7) (N := some 110) (v := ?_) (a' := ?_) #[true, true, true, true, true, true, true, true, false, false, false, false] rfl rfl (any_of HT_.out (by kernel_rfl)) (fun _ _ _ h => h) (Or.inl ⟨by rfl, ?_⟩) ?_ ?_
                                    rotate_left
                                    · intro w'
                                      go_simp
                                      with_reducible rfl
                                    rotate_left
                                    · simp only [Act.put, List.setIfInBounds_toArray, List.set_cons_zero, List.set_cons_succ, i64_w, i32_w]
                                      rfl
                                    refine one_ (i := 8) (N := some 111) #[true, true, true, true, true, true, true, true, true, false, false, false] rfl rfl (one_of HT_.out (by kernel_rfl)) (by decide) (fun K hK => ?_)
                                    refine value_ (w1 := ?_) (v := ?_) (by rfl) rfl ?_ ?_
                                    rotate_left 2
                                    · go_simp
                                      constructor
                                      · rfl
                                      · rfl
                                    refine hK.out _ _ ⟨(blk_cell (blk_alloc BK114.out _) 0).trans rfl, (blk_cell (blk_alloc BK114.out _) 1).trans rfl, (World.cell?_alloc_lt _ _ _ (World.block_lt_of_cell? _ _ (hHeld.2.2))).trans (hHeld.2.2)⟩ (fun hHeld => ?_)
                                    clear hK K
                                    refine norm_ (a' := ?_) ?_ ?_
                                    rotate_left
                                    · show Act.put _ (some 111) _ = _
                                      simp only [Act.put, List.setIfInBounds_toArray, List.set_cons_zero, List.set_cons_succ, i64_w, i32_w]
                                      rfl
                                    refine last_ (i := 9) (N := some 112) #[true, true, true, true, true, true, true, true, true, true, false, false] rfl rfl (one_of HT_.out (by kernel_rfl)) (by decide) (fun K hK => ?_)
                                    refine Kd.R_append_step k69 (w0 := w) w.heap.size (by rfl) (.tmp 104) (.tmp 111) 22 69 (.agg #[(.int .i64 0), (.int .i64 0)]) 16 rfl Try.underlying22 info69 rfl (by decide) (by omega) u115001 x115001_3 (⟨x12_2, rd t116 x14_3⟩ : S69) [.int .i64 x12_2, .int .i64 (rd t116 x14_3)] (fun _ => True) (fun _ => False) rfl rfl ?aP (fun _ hk => hk.elim) ?aF ?aO ?aB ?aS ?aL ?_
                                    (case aP => exact k69_mkM _ _ _ (⟨x12_2, rd t116 x14_3⟩ : S69))
                                    (case aB => exact (by repeat (first | (with_reducible first | exact HB.out | apply below_alloc | apply pw_below_drewN | apply below_drew1 | refine below_set ?_ GE101.out | refine below_set ?_ GE114.out) | exact HB.out)))
                                    (case aF => exact (fun _ _ => trivial))
                                    (case aO => exact (by (with_reducible repeat (first | apply Kd.R_alloc | apply Kd.R_drewN | apply Kd.R_drew)); exact HO_115001.out))
                                    (case aS => exact (below_size (by repeat (first | (with_reducible first | exact HB.out | apply below_alloc | apply pw_below_drewN | apply below_drew1 | refine below_set ?_ GE101.out | refine below_set ?_ GE114.out) | exact HB.out))))
                                    (case aL => have := LMc50.out; omega)
                                    intro v121 w53 ho hb hg hat
                                    rw [← Ny120.out] at ho
                                    have n0_ := Aside0.mk (Kd.S_over' (by (with_reducible repeat (first | apply Kd.S_alloc | apply Kd.S_drewN | apply Kd.S_drew)); exact HO_6.out) (Kd.R_typed (by (with_reducible repeat (first | apply Kd.R_alloc | apply Kd.R_drewN | apply Kd.R_drew)); exact HO_115001.out)) (by decide) hg)
                                    have n1_ := Aside0.mk (Kd.R_over' (by (with_reducible repeat (first | apply Kd.R_alloc | apply Kd.R_drewN | apply Kd.R_drew)); exact HO_13.out) (Kd.R_typed (by (with_reducible repeat (first | apply Kd.R_alloc | apply Kd.R_drewN | apply Kd.R_drew)); exact HO_115001.out)) (by decide) hg)
                                    have n2_ := Aside0.mk (blk_grown (g := gb101) (o := .cells #[.int .i64 x102000_1, .slice none 0 0] 31 (0, 0)) (by (with_reducible repeat (first | refine blk_drewN ?_ _ | refine blk_drew ?_ | refine blk_alloc ?_ _)); exact BK101.out) hg (Kd.R_ne HO_115001.out BK101.out (by decide)))
                                    have n3_ := Aside0.mk (blk_grown (g := gb114) (o := .cells #[.int .i64 a0, u115001] 31 (0, 0)) (by (with_reducible repeat (first | refine blk_drewN ?_ _ | refine blk_drew ?_ | refine blk_alloc ?_ _)); exact BK114.out) hg (Kd.R_ne HO_115001.out BK114.out (by decide)))
                                    have n4_ := Aside0.mk (hb)
                                    have n5_ := Aside0.mk (ho)
                                    clear HO_6
                                    clear HO_13
                                    clear BK101
                                    clear BK114
                                    clear HB
                                    clear HO_115001
                                    have HO_6 := n0_
                                    have HO_13 := n1_
                                    have BK101 := n2_
                                    have BK114 := n3_
                                    have HB := n4_
                                    have HO122 := n5_
                                    clear n0_ n1_ n2_ n3_ n4_ n5_
                                    clear ho hb hg hat
                                    obtain ⟨Ao54, co54, eo54⟩ := Kd.R_slice HO122.out
                                    (first | subst eo54 | (injection eo54 with f1_ f2_ f3_; have f4_ := f1_.symm; have f5_ := f3_.symm; clear f1_ f2_ f3_; subst f4_; subst f5_))
                                    refine hK.out _ _ ?_
                                    clear hK K
                                    refine norm_ (a' := ?_) ?_ ?_
                                    rotate_left
                                    · show Act.put _ (some 112) _ = _
                                      simp only [Act.put, List.setIfInBounds_toArray, List.set_cons_zero, List.set_cons_succ, i64_w, i32_w]
                                      rfl
                                    refine pure_ (i := 10) (N := some 113) (v := ?_) (a' := ?_) #[true, true, true, true, true, true, true, true, true, true, true, false] rfl rfl (any_of HT_.out (by kernel_rfl)) (fun _ _ _ h => h) (Or.inl ⟨by rfl, ?_⟩) ?_ ?_
                                    rotate_left
                                    · intro w'
                                      go_simp
                                      with_reducible rfl
                                    rotate_left
                                    · simp only [Act.put, List.setIfInBounds_toArray, List.set_cons_zero, List.set_cons_succ, i64_w, i32_w]
                                      rfl
                                    refine last_ (i := 11) (N := none) #[true, true, true, true, true, true, true, true, true, true, true, true] rfl rfl (one_of HT_.out (by kernel_rfl)) (by decide) (fun K hK => ?_)
                                    have hs55 : w53.cell? ⟨gb114, 1, none⟩ = some (u115001) := (blk_cell BK114.out 1).trans rfl
                                    have hfs55 := blk_frozen BK114.out 1
                                    have hns55_0 := NB101_114.out
                                    have hms55_0 := NB114_101.out
                                    refine skip_ (w1 := ?_) (by rfl) rfl ?_ ?_
                                    rotate_left
                                    · go_simp
                                      rfl
                                    refine hK.out _ _ ?_
                                    clear hK K
                                    refine done_ (done_of HT_.out (by kernel_rfl)) ?_
                                    try go_wp2
                                    go_roundg k3
                                    case measure => have := HK1.out; have := HK2.out; have := HK3.out; omega
                                    case rel => exact ⟨(wrap64 (x14_3 + 1)), (y120), (.slice Ao54 y120.length co54), (by first | rfl | (simp; done) | (simp [*]; done)), H', ⟨by have := HK1.out; have := HK2.out; have := HK3.out; omega⟩, ⟨by (with_reducible repeat (first | apply Kd.S_alloc | apply Kd.S_drewN | apply Kd.S_drew)); exact Kd.S_mono (Kd.S_far (p := ⟨gb114, 1, none⟩) (Kd.S_types HO_6.out BK114.out (by decide)) (fun _ hk => hk.2) (.slice Ao54 y120.length co54)) (fun _ hk => hk.1)⟩, ⟨by (with_reducible repeat (first | apply Kd.R_alloc | apply Kd.R_drewN | apply Kd.R_drew)); exact Kd.R_mono (Kd.R_far (p := ⟨gb114, 1, none⟩) (Kd.R_types HO_13.out BK114.out (by decide)) (fun _ hk => hk.2) (.slice Ao54 y120.length co54)) (fun _ hk => trivial)⟩, ⟨by (with_reducible repeat (first | apply Kd.R_alloc | apply Kd.R_drewN | apply Kd.R_drew)); exact Kd.R_mono (Kd.R_far (p := ⟨gb114, 1, none⟩) (Kd.R_types HO122.out BK114.out (by decide)) (fun _ hk => hk.2) (.slice Ao54 y120.length co54)) (fun _ hk => trivial)⟩, ⟨by (with_reducible repeat (first | refine blk_drewN ?_ _ | refine blk_drew ?_ | refine blk_alloc ?_ _)); refine blk_far ?_ NB101_114.out _; (with_reducible repeat (first | refine blk_drewN ?_ _ | refine blk_drew ?_ | refine blk_alloc ?_ _)); exact BK101.out⟩, ⟨by (with_reducible repeat (first | refine blk_drewN ?_ _ | refine blk_drew ?_ | refine blk_alloc ?_ _)); refine blk_put (cs := #[.int .i64 a0, u115001]) ?_ 1 _ rfl; (with_reducible repeat (first | refine blk_drewN ?_ _ | refine blk_drew ?_ | refine blk_alloc ?_ _)); exact BK114.out⟩, ⟨by repeat (first | (with_reducible first | exact HB.out | apply below_alloc | apply pw_below_drewN | apply below_drew1 | refine below_set ?_ GE101.out | refine below_set ?_ GE114.out) | exact HB.out)⟩⟩
                                  · rw [if_neg c50] at H
                                    exact absurd H (by simp)
                                · rw [if_neg c49] at H
                                  exact absurd H (by simp)
                              · rw [if_neg c48] at H
                                have c48b0 : decide (x14_3 < (t116.length : Int)) = false := decide_eq_false c48
                                clear c48
                                have H' := Aside0.mk H
                                clear H
                                obtain ⟨Ao56, co56, eo56⟩ := Kd.R_slice HO_13.out
                                subst eo56
                                go_wp2
                                go_roundg k3
                                case measure => have := HK1.out; have := HK2.out; have := HK3.out; omega
                                case rel => exact ⟨(wrap64 (x12_2 + 1)), (x115001_3), (u115001), (by first | rfl | (simp; done) | (simp [*]; done)), H', ⟨by have := HK1.out; have := HK2.out; have := HK3.out; omega⟩, ⟨by (with_reducible repeat (first | apply Kd.S_alloc | apply Kd.S_drewN | apply Kd.S_drew)); exact Kd.S_mono HO_6.out (fun _ hk => trivial)⟩, ⟨by (with_reducible repeat (first | apply Kd.R_alloc | apply Kd.R_drewN | apply Kd.R_drew)); exact HO_115001.out⟩, ⟨by (with_reducible repeat (first | refine blk_drewN ?_ _ | refine blk_drew ?_ | refine blk_alloc ?_ _)); exact BK101.out⟩, ⟨by (with_reducible repeat (first | refine blk_drewN ?_ _ | refine blk_drew ?_ | refine blk_alloc ?_ _)); exact BK114.out⟩, ⟨by repeat (first | (with_reducible first | exact HB.out | apply below_alloc | apply pw_below_drewN | apply below_drew1 | refine below_set ?_ GE101.out | refine below_set ?_ GE114.out) | exact HB.out)⟩⟩
                        · rw [if_neg c44] at H
                          exact absurd H (by simp)
                      · rw [if_neg c43] at H
                        exact absurd H (by simp)
                    · rw [if_neg c42] at H
                      have c42b0 : decide (x12_2 < a0) = false := decide_eq_false c42
                      clear c42
                      by_cases c57 : (x115001_2.length : Int) > 4000
                      · rw [if_pos c57] at H
                        have c57b0 : decide (4000 < (x115001_2.length : Int)) = true := decide_eq_true c57
                        have c57b1 : decide (4000 < x115001_2.length) = true := decide_eq_true (by omega)
                        clear c57
                        simp only [Option.some.injEq, Prod.mk.injEq] at H
                        obtain ⟨rfl, rfl, rfl⟩ := H
                        have hnb58 := NB114_101.out
                        have hnc58 := NB101_114.out
                        have hcz59_0 : wr.cell? ⟨gb114, 0, none⟩ = some (.int .i64 a0) := (blk_cell BK114.out 0).trans rfl
                        have hcz59_1 : wr.cell? ⟨gb114, 1, none⟩ = some (u115001) := (blk_cell BK114.out 1).trans rfl
                        have hfz59_0 := blk_frozen BK114.out 0
                        have hfz59_1 := blk_frozen BK114.out 1
                        obtain ⟨Ao60, co60, eo60⟩ := Kd.R_slice HO_115001.out
                        subst eo60
                        have hcz61_0 : wr.cell? ⟨gb101, 0, none⟩ = some (.int .i64 x102000_1) := (blk_cell BK101.out 0).trans rfl
                        have hcz61_1 : wr.cell? ⟨gb101, 1, none⟩ = some (.slice none 0 0) := (blk_cell BK101.out 1).trans rfl
                        have hfz61_0 := blk_frozen BK101.out 0
                        have hfz61_1 := blk_frozen BK101.out 1
                        go_wp2
                        refine bodyPost_ret (results_ct rfl _ _ gb101 31 #[.int .i64 0, .slice none 0 0] (0, 0) _ rfl (by (with_reducible repeat (first | refine blk_drewN ?_ _ | refine blk_drew ?_ | refine blk_alloc ?_ _)); refine blk_put (cs := #[.int .i64 0, .slice none 0 0]) ?_ 1 _ rfl; (with_reducible repeat (first | refine blk_drewN ?_ _ | refine blk_drew ?_ | refine blk_alloc ?_ _)); refine blk_put (cs := #[.int .i64 x102000_1, .slice none 0 0]) ?_ 0 _ rfl; (with_reducible repeat (first | refine blk_drewN ?_ _ | refine blk_drew ?_ | refine blk_alloc ?_ _)); exact BK101.out) Try.underlying31 rfl (by kernel_rfl)) rfl ?_
                        exact ⟨_, by first | rfl | (simp [errW_none, errW_some] <;> rfl) | (simp [*, errW_none, errW_some] <;> rfl), by first | exact Kd.R_nil _ _ _ _ _ | exact Kd.N_nil _ _ _ _ _ | exact Kd.V_nil _ _ _ _ _ | exact Kd.Q_nil _ _ _ _ _ | exact Kd.S_nil _ _ _ _ _, by repeat (first | (with_reducible first | exact HB.out | apply below_alloc | apply pw_below_drewN | apply below_drew1 | refine below_set ?_ GE101.out | refine below_set ?_ GE114.out) | exact HB.out)⟩
                      · rw [if_neg c57] at H
                        have c57b0 : decide (4000 < (x115001_2.length : Int)) = false := decide_eq_false c57
                        have c57b1 : decide (4000 < x115001_2.length) = false := decide_eq_false (by omega)
                        clear c57
                        simp only [Option.some.injEq, Prod.mk.injEq] at H
                        obtain ⟨rfl, rfl, rfl⟩ := H
                        have hnb62 := NB114_101.out
                        have hnc62 := NB101_114.out
                        have hcz63_0 : wr.cell? ⟨gb114, 0, none⟩ = some (.int .i64 a0) := (blk_cell BK114.out 0).trans rfl
                        have hcz63_1 : wr.cell? ⟨gb114, 1, none⟩ = some (u115001) := (blk_cell BK114.out 1).trans rfl
                        have hfz63_0 := blk_frozen BK114.out 0
                        have hfz63_1 := blk_frozen BK114.out 1
                        obtain ⟨Ao64, co64, eo64⟩ := Kd.R_slice HO_115001.out
                        subst eo64
                        have hcz65_0 : wr.cell? ⟨gb101, 0, none⟩ = some (.int .i64 x102000_1) := (blk_cell BK101.out 0).trans rfl
                        have hcz65_1 : wr.cell? ⟨gb101, 1, none⟩ = some (.slice none 0 0) := (blk_cell BK101.out 1).trans rfl
                        have hfz65_0 := blk_frozen BK101.out 0
                        have hfz65_1 := blk_frozen BK101.out 1
                        go_wp2
                        refine bodyPost_ret (results_ct rfl _ _ gb101 31 #[.int .i64 a0, .slice Ao64 x115001_2.length co64] (0, 0) _ rfl (by (with_reducible repeat (first | refine blk_drewN ?_ _ | refine blk_drew ?_ | refine blk_alloc ?_ _)); refine blk_put (cs := #[.int .i64 a0, .slice none 0 0]) ?_ 1 _ rfl; (with_reducible repeat (first | refine blk_drewN ?_ _ | refine blk_drew ?_ | refine blk_alloc ?_ _)); refine blk_put (cs := #[.int .i64 x102000_1, .slice none 0 0]) ?_ 0 _ rfl; (with_reducible repeat (first | refine blk_drewN ?_ _ | refine blk_drew ?_ | refine blk_alloc ?_ _)); exact BK101.out) Try.underlying31 rfl (by kernel_rfl)) rfl ?_
                        exact ⟨_, by first | rfl | (simp [errW_none, errW_some] <;> rfl) | (simp [*, errW_none, errW_some] <;> rfl), by (with_reducible repeat (first | apply Kd.R_alloc | apply Kd.R_drewN | apply Kd.R_drew)); exact Kd.R_mono (Kd.R_far (p := ⟨gb101, 1, none⟩) (Kd.R_far (p := ⟨gb101, 0, none⟩) (Kd.R_types HO_115001.out BK101.out (by decide)) (fun _ hk => hk.2) (.int .i64 a0)) (fun _ hk => hk.2) (.slice Ao64 x115001_2.length co64)) (fun _ hk => trivial), by repeat (first | (with_reducible first | exact HB.out | apply below_alloc | apply pw_below_drewN | apply below_drew1 | refine below_set ?_ GE101.out | refine below_set ?_ GE114.out) | exact HB.out)⟩
        · rw [if_neg c10] at H
          exact absurd H (by simp)
      · rw [if_neg c9] at H
        exact absurd H (by simp)
end Go.Proofs.Ytkemhnfaheplhaa.F
namespace Go.Proofs.Ytkemhnfaheplhaa.F
open Go.RowKit Go.Proofs.YtkemhnfaheplhaaW.PrintWords Go.Proofs.YtkemhnfaheplhaaW.PrintLast Go.Proofs.YtkemhnfaheplhaaW.PrintMore
attribute [local go_sem] max2_int min2_int max_two min_two max_three min_three max_four min_four
set_option linter.unusedVariables false
set_option linter.unusedSimpArgs false
def carcanetref03_Any.l0 : Nat → Int → List (S69) → List (S69) → Int → Option (Int × (List (S69)))
  | 0, _, _, _, _ => none
  | k + 1, x0, x1, x7, x8 => if x8 < (x1.length : Int) then (if x8 < 300 then (if x0 > 0 then (if 0 ≤ x8 then (if x0 = 0 then (none) else (if x7.length < 8796093022208 then (carcanetref03_Any.l0 k x0 x1 (x7 ++ [(⟨Int.tmod (Go.bits .and .i64 ((rd_T69 x1 x8).f0) 65535) x0, Int.tmod (Go.bits .and .i64 ((rd_T69 x1 x8).f1) 65535) x0⟩ : S69)]) (wrap64 (x8 + 1))) else (none))) else (none)) else ((carcanetref03_Normal.f k x0 x7).bind fun bt107 => (some (bt107.1, bt107.2.1)))) else ((carcanetref03_Normal.f k x0 x7).bind fun bt113 => (some (bt113.1, bt113.2.1)))) else ((carcanetref03_Normal.f k x0 x7).bind fun bt119 => (some (bt119.1, bt119.2.1)))
def carcanetref03_Any.f (k : Nat) (a0 : Int) (l1 : List (S69)) (a2 : Int) : Option (Int × (List (S69))) := if (wrap64 (a2 + 1)) = 0 then (none) else (carcanetref03_Any.l0 k (Int.tmod (Go.bits .and .i64 a0 65535) (wrap64 (a2 + 1))) l1 ([] : List (S69)) 0)
theorem carcanetref03_Any.mono_l : ∀ k, (∀ y0 y1 y2 y3, LeO (carcanetref03_Any.l0 k y0 y1 y2 y3) (carcanetref03_Any.l0 (k + 1) y0 y1 y2 y3))
  | 0 => fun _ _ _ _ r h => by simp [carcanetref03_Any.l0] at h
  | k + 1 => by
    have ih0 := carcanetref03_Any.mono_l k
    · intro y0 y1 y2 y3
      unfold carcanetref03_Any.l0
      repeat' first
      | (with_reducible exact ih0 _ _ _ _)
      | (with_reducible exact carcanetref03_Normal.mono _ _ _)
      | (with_reducible exact LeO.refl _)
      | (with_reducible exact LeO.none _)
      | (with_reducible refine LeO.ite ?_ ?_)
      | (with_reducible refine LeO.bind ?_ (fun _ => ?_))
      | exact ih0 _ _ _ _
      | exact carcanetref03_Normal.mono _ _ _
      | exact LeO.none _
      | refine LeO.ite ?_ ?_
      | refine LeO.bind ?_ (fun _ => ?_)
theorem carcanetref03_Any.mono : ∀ a0 a1 a2 k, LeO (carcanetref03_Any.f k a0 a1 a2) (carcanetref03_Any.f (k + 1) a0 a1 a2) := by
  intro a0 a1 a2 k
  have ih0 := carcanetref03_Any.mono_l k
  unfold carcanetref03_Any.f
  repeat' first
      | (with_reducible exact ih0 _ _ _ _)
      | (with_reducible exact carcanetref03_Normal.mono _ _ _)
      | (with_reducible exact LeO.refl _)
      | (with_reducible exact LeO.none _)
      | (with_reducible refine LeO.ite ?_ ?_)
      | (with_reducible refine LeO.bind ?_ (fun _ => ?_))
      | exact ih0 _ _ _ _
      | exact carcanetref03_Normal.mono _ _ _
      | exact LeO.none _
      | refine LeO.ite ?_ ?_
      | refine LeO.bind ?_ (fun _ => ?_)
def carcanetref03_Any.T6 : Bool × List (List Nat × List Nat) := (true, [([], []), ([], []), ([], []), ([1, 2], [1, 2]), ([3], [3]), ([4], [4]), ([5], [5]), ([], []), ([6, 7], [6, 7]), ([], []), ([], []), ([9, 10], [9, 10]), ([11], [11]), ([12], [12]), ([13], [13]), ([], []), ([14, 15], [14, 15]), ([8, 16], [8, 16]), ([17], [17]), ([0, 18], [0, 18]), ([19, 19, 0, 1, 2, 3, 4, 5, 6, 7, 8, 9, 10, 11, 12, 13, 14, 15, 16, 17, 18, 19], [0, 19])])
def carcanetref03_Any.B6 : List Nat := [0, 0, 0, 6, 14, 30, 62, 0, 254, 0, 0, 1536, 3584, 7680, 15872, 0, 65024, 131070, 262142, 524287, 1048575]
theorem carcanetref03_Any.tab6 : rtab .any (opsOf Try.f61 6) = carcanetref03_Any.T6 := by kernel_rfl
theorem carcanetref03_Any.bits6 : waitsOk carcanetref03_Any.T6.2 carcanetref03_Any.B6 = true := by kernel_rfl
set_option maxHeartbeats 8000000 in
set_option maxRecDepth 100000 in
theorem carcanetref03_Any.calls (k : Nat) (a0 : Int) (A1 : Option Addr) (c1 : Nat) (l1 : List (S69)) (a2 : Int) (r1 : Int) (r2 : List (S69)) (w : World) (hr1 : Kd.C k69 w A1 l1.length l1) (hc1 : l1.length ≤ c1) (h : carcanetref03_Any.f k a0 l1 a2 = some (r1, r2)) :
    Calls Try.prog 61 #[.int .i64 a0, .slice A1 l1.length c1, .int .i64 a2] w fun e w' => ∃ v1_ : Value, e = .returned (.agg #[.int .i64 r1, v1_]) ∧ Kd.R k69 69 w' w.heap.size (fun _ => True) v1_ r2 ∧ Below w.heap.size w w' := by
  have hu31 := Try.underlying31
  have hu69 := Try.underlying69
  have HR1 := Aside0.mk hr1
  have HC1 := Aside0.mk hc1
  clear hr1 hc1
  have HB := Aside0.mk (Below.refl w.heap.size w)
  have H : (if (wrap64 (a2 + 1)) = 0 then (none) else (carcanetref03_Any.l0 k (Int.tmod (Go.bits .and .i64 a0 65535) (wrap64 (a2 + 1))) l1 ([] : List (S69)) 0)) = some (r1, r2) := h
  clear h
  by_cases c4 : (wrap64 (a2 + 1)) = 0
  · rw [if_pos c4] at H
    exact absurd H (by simp)
  · rw [if_neg c4] at H
    have c4b0 : ((wrap64 (a2 + 1)) == 0) = false := beq_eq_false_iff_ne.mpr c4
    have c4b1 : ((wrap64 (a2 + 1)) != 0) = true := bne_iff_ne.mpr c4
    have H' := Aside0.mk H
    clear H
    go_enter Try.func61, Try.ntmps61
    go_wp2_with (first | ((with_reducible refine gate_dst (N := 6) rfl ?_); refine box_event ?hg (N := 6) ?hd (cs := #[.int .i64 0, .slice none 0 0]) (t := 31) ?hr ?_; (case hd => rfl); (case hg => rfl); (case hr => first | (go_simp; done) | (go_simp; rfl)); intro gb101 hg w5 hbox hb; have n0_ := Aside0.mk (below_step (by repeat (first | (with_reducible first | exact HB.out | apply below_alloc | apply pw_below_drewN | apply below_drew1) | exact HB.out)) hb); have n1_ := Aside0.mk (hbox); have n2_ := Aside0.mk ((by rw [hg]; exact (below_size (by repeat (first | (with_reducible first | exact HB.out | apply below_alloc | apply pw_below_drewN | apply below_drew1) | exact HB.out))) : w.heap.size ≤ gb101)); have n3_ := Aside0.mk ((by rw [hg]; exact (below_size (by repeat (first | (with_reducible first | exact HB.out | apply below_alloc | apply pw_below_drewN | apply below_drew1) | exact HB.out))) : w.heap.size ≤ gb101)); clear HB; have HB := n0_; have BK101 := n1_; have GW101 := n2_; have GE101 := n3_; clear n0_ n1_ n2_ n3_; clear hb hbox hg))
    go_loopg [7, 8] k (fun kq v7 v8 w' => ∃ (x7_1 : List (S69)) (x8_1 : Int), v8 = .int .i64 x8_1 ∧ Aside0 (carcanetref03_Any.l0 kq (Int.tmod (Go.bits .and .i64 a0 65535) (wrap64 (a2 + 1))) l1 x7_1 x8_1 = some (r1, r2)) ∧ Aside0 (kq ≤ k) ∧ Aside0 (Kd.R k69 69 w' w.heap.size (fun _ => True) v7 x7_1) ∧ Aside0 (w'.heap[gb101]? = some (.cells #[.int .i64 0, (.slice none 0 0)] 31 (0, 0))) ∧ Aside0 (Below w.heap.size w w'))
    case atStart => exact ⟨(([] : List (S69))), (0), (by first | rfl | (simp; done) | (simp [*]; done)), H', ⟨Nat.le_refl _⟩, ⟨by first | exact Kd.R_nil _ _ _ _ _ | exact Kd.N_nil _ _ _ _ _ | exact Kd.V_nil _ _ _ _ _ | exact Kd.Q_nil _ _ _ _ _ | exact Kd.S_nil _ _ _ _ _⟩, ⟨by (with_reducible repeat (first | refine blk_drewN ?_ _ | refine blk_drew ?_ | refine blk_alloc ?_ _)); exact BK101.out⟩, ⟨by repeat (first | (with_reducible first | exact HB.out | apply below_alloc | apply pw_below_drewN | apply below_drew1 | refine below_set ?_ GE101.out) | exact HB.out)⟩⟩
    case round =>
      clear H'
      try clear c1
      try clear p2
      try clear c4
      try clear c4b0
      try clear c4b1
      obtain ⟨x7_1, x8_1, rfl, HA, HK1, HO_7, BK101, HB⟩ := hrel
      cases gk with
      | zero => exact absurd HA.out (by simp [carcanetref03_Any.l0])
      | succ k1 =>
        have H := HA.out
        clear HA
        simp only [carcanetref03_Any.l0] at H
        by_cases c6 : x8_1 < (l1.length : Int)
        · rw [if_pos c6] at H
          have c6b0 : decide (x8_1 < (l1.length : Int)) = true := decide_eq_true c6
          clear c6
          by_cases c7 : x8_1 < 300
          · rw [if_pos c7] at H
            have c7b0 : decide (x8_1 < 300) = true := decide_eq_true c7
            clear c7
            by_cases c8 : (Int.tmod (Go.bits .and .i64 a0 65535) (wrap64 (a2 + 1))) > 0
            · rw [if_pos c8] at H
              have c8b0 : decide (0 < (Int.tmod (Go.bits .and .i64 a0 65535) (wrap64 (a2 + 1)))) = true := decide_eq_true c8
              clear c8
              by_cases c9 : 0 ≤ x8_1
              · rw [if_pos c9] at H
                have c9b0 : decide (0 ≤ x8_1) = true := decide_eq_true c9
                clear c9
                by_cases c10 : (Int.tmod (Go.bits .and .i64 a0 65535) (wrap64 (a2 + 1))) = 0
                · rw [if_pos c10] at H
                  exact absurd H (by simp)
                · rw [if_neg c10] at H
                  have c10b0 : ((Int.tmod (Go.bits .and .i64 a0 65535) (wrap64 (a2 + 1))) == 0) = false := beq_eq_false_iff_ne.mpr c10
                  have c10b1 : ((Int.tmod (Go.bits .and .i64 a0 65535) (wrap64 (a2 + 1))) != 0) = true := bne_iff_ne.mpr c10
                  by_cases c11 : x7_1.length < 8796093022208
                  · rw [if_pos c11] at H
                    have LMc11 := Aside0.mk c11
                    clear c11
                    obtain ⟨y104, hy104⟩ : ∃ y_ : List (S69), y_ = (x7_1 ++ [(⟨Int.tmod (Go.bits .and .i64 ((rd_T69 l1 x8_1).f0) 65535) (Int.tmod (Go.bits .and .i64 a0 65535) (wrap64 (a2 + 1))), Int.tmod (Go.bits .and .i64 ((rd_T69 l1 x8_1).f1) 65535) (Int.tmod (Go.bits .and .i64 a0 65535) (wrap64 (a2 + 1)))⟩ : S69)]) := ⟨_, rfl⟩
                    replace H : (carcanetref03_Any.l0 k1 (Int.tmod (Go.bits .and .i64 a0 65535) (wrap64 (a2 + 1))) l1 y104 (wrap64 (x8_1 + 1))) = some (r1, r2) := by first | (rw [hy104]; with_reducible exact H) | (have H2_ := (Option.bind_some _ _).symm.trans H; rw [hy104]; with_reducible exact H2_) | (have H2_ := (Option.bind_some _ _).symm.trans H; with_reducible exact H2_) | with_reducible exact H | (rw [hy104]; exact H) | exact H
                    have Ny104 := Aside0.mk hy104
                    clear hy104
                    have H' := Aside0.mk H
                    clear H
                    try go_wp2
                    have n0_ := Aside0.mk (Kd.R_drew HO_7.out)
                    have n1_ := Aside0.mk (blk_drew BK101.out)
                    have n2_ := Aside0.mk (below_drew1 HB.out)
                    clear HO_7
                    clear BK101
                    clear HB
                    have HO_7 := n0_
                    have BK101 := n1_
                    have HB := n2_
                    clear n0_ n1_ n2_
                    have p102 : 0 ≤ (x8_1 : Int) := of_decide_eq_true (by first | (with_reducible assumption) | assumption)
                    have q102 : x8_1 < (l1.length : Int) := of_decide_eq_true (by first | (with_reducible assumption) | assumption)
                    obtain ⟨ad102, e102, hx102_0, hx102_1⟩ := at_T69 HR1.out x8_1 p102 q102
                    have hw102_1 := hx102_1
                    have hw102_0 := hx102_0
                    cases e102
                    replace hx102_0 := (HB.out.cell (World.block_lt_of_cell? w _ hx102_0)).trans hx102_0
                    replace hx102_1 := (HB.out.cell (World.block_lt_of_cell? w _ hx102_1)).trans hx102_1
                    replace p102 := eq_true p102
                    replace q102 := eq_true q102
                    have p103 : 0 ≤ (x8_1 : Int) := of_decide_eq_true (by first | (with_reducible assumption) | assumption)
                    have q103 : x8_1 < (l1.length : Int) := of_decide_eq_true (by first | (with_reducible assumption) | assumption)
                    obtain ⟨ad103, e103, hx103_0, hx103_1⟩ := at_T69 HR1.out x8_1 p103 q103
                    have hw103_1 := hx103_1
                    have hw103_0 := hx103_0
                    obtain rfl : ad102 = ad103 := (by injection e103)
                    replace hx103_0 := (HB.out.cell (World.block_lt_of_cell? w _ hx103_0)).trans hx103_0
                    replace hx103_1 := (HB.out.cell (World.block_lt_of_cell? w _ hx103_1)).trans hx103_1
                    replace p103 := eq_true p103
                    replace q103 := eq_true q103
                    refine start_ (n := 21) (S := fun w' => w'.cell? (ad102.add ((x8_1).toNat * 2)) = some (.int .i64 ((rd_T69 l1 x8_1).f0)) ∧ w'.cell? ⟨(ad102.add ((x8_1).toNat * 2)).block, (ad102.add ((x8_1).toNat * 2)).off + 1, none⟩ = some (.int .i64 ((rd_T69 l1 x8_1).f1)) ∧ w'.cell? (ad102.add ((x8_1).toNat * 2)) = some (.int .i64 ((rd_T69 l1 x8_1).f0)) ∧ w'.cell? ⟨(ad102.add ((x8_1).toNat * 2)).block, (ad102.add ((x8_1).toNat * 2)).off + 1, none⟩ = some (.int .i64 ((rd_T69 l1 x8_1).f1))) (ds := []) #[false, false, false, false, false, false, false, false, false, false, false, false, false, false, false, false, false, false, false, false, false] (by kernel_rfl) rfl rfl ⟨((HB.out.cell (World.block_lt_of_cell? w _ hw102_0)).trans hw102_0), ((HB.out.cell (World.block_lt_of_cell? w _ hw102_1)).trans hw102_1), ((HB.out.cell (World.block_lt_of_cell? w _ hw103_0)).trans hw103_0), ((HB.out.cell (World.block_lt_of_cell? w _ hw103_1)).trans hw103_1)⟩ (fun hHeld => ?_); refine with_tabW carcanetref03_Any.tab6 carcanetref03_Any.bits6 (fun HT_ HW_ => ?_)
                    generalize wr.drew = w12 at HO_7 BK101 HB hx102_0 hx102_1 hx103_0 hx103_1 hHeld ⊢
                    refine pure_ (i := 0) (N := some 30) (v := ?_) (a' := ?_) #[true, false, false, false, false, false, false, false, false, false, false, false, false, false, false, false, false, false, false, false, false] rfl rfl (any_of HT_.out (by kernel_rfl)) (fun _ _ _ h => h) (Or.inl ⟨by rfl, ?_⟩) ?_ ?_
                    rotate_left
                    · intro w'
                      go_simp
                      with_reducible rfl
                    rotate_left
                    · simp only [Act.put, List.setIfInBounds_toArray, List.set_cons_zero, List.set_cons_succ, i64_w, i32_w]
                      rfl
                    refine pure_ (i := 1) (N := some 31) (v := ?_) (a' := ?_) #[true, true, false, false, false, false, false, false, false, false, false, false, false, false, false, false, false, false, false, false, false] rfl rfl (any_of HT_.out (by kernel_rfl)) (fun _ _ _ h => h) (Or.inl ⟨by rfl, ?_⟩) ?_ ?_
                    rotate_left
                    · intro w'
                      go_simp
                      with_reducible rfl
                    rotate_left
                    · simp only [Act.put, List.setIfInBounds_toArray, List.set_cons_zero, List.set_cons_succ, i64_w, i32_w]
                      rfl
                    refine pure_ (i := 2) (N := some 32) (v := ?_) (a' := ?_) #[true, true, true, false, false, false, false, false, false, false, false, false, false, false, false, false, false, false, false, false, false] rfl rfl (any_of HT_.out (by kernel_rfl)) (fun _ _ _ h => h) (Or.inl ⟨by rfl, ?_⟩) ?_ ?_
                    rotate_left
                    · intro w'
                      go_simp
                      with_reducible rfl
                    rotate_left
                    · simp only [Act.put, List.setIfInBounds_toArray, List.set_cons_zero, List.set_cons_succ, i64_w, i32_w]
                      rfl
                    refine pure_ (i := 3) (N := some 33) (v := ?_) (a' := ?_) #[true, true, true, true, false, false, false, false, false, false, false, false, false, false, false, false, false, false, false, false, false] rfl rfl (any_of HT_.out (by kernel_rfl)) (fun _ _ _ h => h) (Or.inl ⟨by rfl, ?_⟩) ?_ ?_
                    rotate_left
                    · intro w'
                      go_simp
                      with_reducible rfl
                    rotate_left
                    · simp only [Act.put, List.setIfInBounds_toArray, List.set_cons_zero, List.set_cons_succ, i64_w, i32_w]
                      rfl
                    refine pure_ (i := 4) (N := some 34) (v := ?_) (a' := ?_) #[true, true, true, true, true, false, false, false, false, false, false, false, false, false, false, false, false, false, false, false, false] rfl rfl (any_of HT_.out (by kernel_rfl)) (fun _ _ _ h => h) (Or.inl ⟨by rfl, ?_⟩) ?_ ?_
                    rotate_left
                    · intro w'
                      go_simp
                      with_reducible rfl
                    rotate_left
                    · simp only [Act.put, List.setIfInBounds_toArray, List.set_cons_zero, List.set_cons_succ, i64_w, i32_w]
                      rfl
                    refine pure_ (i := 7) (N := some 37) (v := ?_) (a' := ?_) #[true, true, true, true, true, false, false, true, false, false, false, false, false, false, false, false, false, false, false, false, false] rfl rfl (any_of HT_.out (by kernel_rfl)) (fun _ _ _ h => h) (Or.inl ⟨by rfl, ?_⟩) ?_ ?_
                    rotate_left
                    · intro w'
                      go_simp
                      with_reducible rfl
                    rotate_left
                    · simp only [Act.put, List.setIfInBounds_toArray, List.set_cons_zero, List.set_cons_succ, i64_w, i32_w]
                      rfl
                    refine pure_ (i := 9) (N := some 39) (v := ?_) (a' := ?_) #[true, true, true, true, true, false, false, true, false, true, false, false, false, false, false, false, false, false, false, false, false] rfl rfl (any_of HT_.out (by kernel_rfl)) (fun _ _ _ h => h) (Or.inl ⟨by rfl, ?_⟩) ?_ ?_
                    rotate_left
                    · intro w'
                      go_simp
                      with_reducible rfl
                    rotate_left
                    · simp only [Act.put, List.setIfInBounds_toArray, List.set_cons_zero, List.set_cons_succ, i64_w, i32_w]
                      rfl
                    refine pure_ (i := 10) (N := some 40) (v := ?_) (a' := ?_) #[true, true, true, true, true, false, false, true, false, true, true, false, false, false, false, false, false, false, false, false, false] rfl rfl (any_of HT_.out (by kernel_rfl)) (fun _ _ _ h => h) (Or.inl ⟨by rfl, ?_⟩) ?_ ?_
                    rotate_left
                    · intro w'
                      go_simp
                      with_reducible rfl
                    rotate_left
                    · simp only [Act.put, List.setIfInBounds_toArray, List.set_cons_zero, List.set_cons_succ, i64_w, i32_w]
                      rfl
                    refine pure_ (i := 11) (N := some 41) (v := ?_) (a' := ?_) #[true, true, true, true, true, false, false, true, false, true, true, true, false, false, false, false, false, false, false, false, false] rfl rfl (any_of HT_.out (by kernel_rfl)) (fun _ _ _ h => h) (Or.inl ⟨by rfl, ?_⟩) ?_ ?_
                    rotate_left
                    · intro w'
                      go_simp
                      with_reducible rfl
                    rotate_left
                    · simp only [Act.put, List.setIfInBounds_toArray, List.set_cons_zero, List.set_cons_succ, i64_w, i32_w]
                      rfl
                    refine pure_ (i := 12) (N := some 42) (v := ?_) (a' := ?_) #[true, true, true, true, true, false, false, true, false, true, true, true, true, false, false, false, false, false, false, false, false] rfl rfl (any_of HT_.out (by kernel_rfl)) (fun _ _ _ h => h) (Or.inl ⟨by rfl, ?_⟩) ?_ ?_
                    rotate_left
                    · intro w'
                      go_simp
                      with_reducible rfl
                    rotate_left
                    · simp only [Act.put, List.setIfInBounds_toArray, List.set_cons_zero, List.set_cons_succ, i64_w, i32_w]
                      rfl
                    refine pure_ (i := 15) (N := some 45) (v := ?_) (a' := ?_) #[true, true, true, true, true, false, false, true, false, true, true, true, true, false, false, true, false, false, false, false, false] rfl rfl (any_of HT_.out (by kernel_rfl)) (fun _ _ _ h => h) (Or.inl ⟨by rfl, ?_⟩) ?_ ?_
                    rotate_left
                    · intro w'
                      go_simp
                      with_reducible rfl
                    rotate_left
                    · simp only [Act.put, List.setIfInBounds_toArray, List.set_cons_zero, List.set_cons_succ, i64_w, i32_w]
                      rfl
                    refine take_ (i := 5) (N := some 35) (v := ?_) (a' := ?_) #[true, true, true, true, true, true, false, true, false, true, true, true, true, false, false, true, false, false, false, false, false] rfl rfl (take_ofW HT_.out HW_.out (by kernel_rfl)) (fun _ _ _ h => h) (Or.inl ⟨by rfl, ?_⟩) hHeld ?_ ?_
                    rotate_left
                    · rintro w' ⟨s0, s1, s2, s3⟩
                      go_simp
                      with_reducible rfl
                    rotate_left
                    · simp only [Act.put, List.setIfInBounds_toArray, List.set_cons_zero, List.set_cons_succ, i64_w, i32_w]
                      rfl
                    refine pure_ (i := 6) (N := some 36) (v := ?_) (a' := ?_) #[true, true, true, true, true, true, true, true, false, true, true, true, true, false, false, true, false, false, false, false, false] rfl rfl (any_of HT_.out (by kernel_rfl)) (fun _ _ _ h => h) (Or.inl ⟨by rfl, ?_⟩) ?_ ?_
                    rotate_left
                    · intro w'
                      go_simp
                      with_reducible rfl
                    rotate_left
                    · simp only [Act.put, List.setIfInBounds_toArray, List.set_cons_zero, List.set_cons_succ, i64_w, i32_w]
                      rfl
                    refine pure_ (i := 8) (N := some 38) (v := ?_) (a' := ?_) #[true, true, true, true, true, true, true, true, true, true, true, true, true, false, false, true, false, false, false, false, false] rfl rfl (any_of HT_.out (by kernel_rfl)) (fun _ _ _ h => h) (Or.inl ⟨by rfl, ?_⟩) ?_ ?_
                    rotate_left
                    · intro w'
                      go_simp
                      with_reducible rfl
                    rotate_left
                    · simp only [Act.put, List.setIfInBounds_toArray, List.set_cons_zero, List.set_cons_succ, i64_w, i32_w]
                      rfl
                    refine take_ (i := 13) (N := some 43) (v := ?_) (a' := ?_) #[true, true, true, true, true, true, true, true, true, true, true, true, true, true, false, true, false, false, false, false, false] rfl rfl (take_ofW HT_.out HW_.out (by kernel_rfl)) (fun _ _ _ h => h) (Or.inl ⟨by rfl, ?_⟩) hHeld ?_ ?_
                    rotate_left
                    · rintro w' ⟨s0, s1, s2, s3⟩
                      go_simp
                      with_reducible rfl
                    rotate_left
                    · simp only [Act.put, List.setIfInBounds_toArray, List.set_cons_zero, List.set_cons_succ, i64_w, i32_w]
                      rfl
                    refine pure_ (i := 14) (N := some 44) (v := ?_) (a' := ?_) #[true, true, true, true, true, true, true, true, true, true, true, true, true, true, true, true, false, false, false, false, false] rfl rfl (any_of HT_.out (by kernel_rfl)) (fun _ _ _ h => h) (Or.inl ⟨by rfl, ?_⟩) ?_ ?_
                    rotate_left
                    · intro w'
                      go_simp
                      with_reducible rfl
                    rotate_left
                    · simp only [Act.put, List.setIfInBounds_toArray, List.set_cons_zero, List.set_cons_succ, i64_w, i32_w]
                      rfl
                    refine pure_ (i := 16) (N := some 46) (v := ?_) (a' := ?_) #[true, true, true, true, true, true, true, true, true, true, true, true, true, true, true, true, true, false, false, false, false] rfl rfl (any_of HT_.out (by kernel_rfl)) (fun _ _ _ h => h) (Or.inl ⟨by rfl, ?_⟩) ?_ ?_
                    rotate_left
                    · intro w'
                      go_simp
                      with_reducible rfl
                    rotate_left
                    · simp only [Act.put, List.setIfInBounds_toArray, List.set_cons_zero, List.set_cons_succ, i64_w, i32_w]
                      rfl
                    refine pure_ (i := 17) (N := some 47) (v := ?_) (a' := ?_) #[true, true, true, true, true, true, true, true, true, true, true, true, true, true, true, true, true, true, false, false, false] rfl rfl (any_of HT_.out (by kernel_rfl)) (fun _ _ _ h => h) (Or.inl ⟨by rfl, ?_⟩) ?_ ?_
                    rotate_left
                    · intro w'
                      go_simp
                      with_reducible rfl
                    rotate_left
                    · simp only [Act.put, List.setIfInBounds_toArray, List.set_cons_zero, List.set_cons_succ, i64_w, i32_w]
                      rfl
                    refine one_ (i := 18) (N := some 48) #[true, true, true, true, true, true, true, true, true, true, true, true, true, true, true, true, true, true, true, false, false] rfl rfl (one_of HT_.out (by kernel_rfl)) (by decide) (fun K hK => ?_)
                    refine value_ (w1 := ?_) (v := ?_) (by rfl) rfl ?_ ?_
                    rotate_left 2
                    · go_simp
                      constructor
                      · rfl
                      · rfl
                    refine hK.out _ _ ⟨(World.cell?_alloc_lt _ _ _ (World.block_lt_of_cell? _ _ (((HB.out.cell (World.block_lt_of_cell? w _ hw102_0)).trans hw102_0)))).trans (((HB.out.cell (World.block_lt_of_cell? w _ hw102_0)).trans hw102_0)), (World.cell?_alloc_lt _ _ _ (World.block_lt_of_cell? _ _ (((HB.out.cell (World.block_lt_of_cell? w _ hw102_1)).trans hw102_1)))).trans (((HB.out.cell (World.block_lt_of_cell? w _ hw102_1)).trans hw102_1)), (World.cell?_alloc_lt _ _ _ (World.block_lt_of_cell? _ _ (((HB.out.cell (World.block_lt_of_cell? w _ hw103_0)).trans hw103_0)))).trans (((HB.out.cell (World.block_lt_of_cell? w _ hw103_0)).trans hw103_0)), (World.cell?_alloc_lt _ _ _ (World.block_lt_of_cell? _ _ (((HB.out.cell (World.block_lt_of_cell? w _ hw103_1)).trans hw103_1)))).trans (((HB.out.cell (World.block_lt_of_cell? w _ hw103_1)).trans hw103_1))⟩ (fun hHeld => ?_)
                    clear hK K
                    refine norm_ (a' := ?_) ?_ ?_
                    rotate_left
                    · show Act.put _ (some 48) _ = _
                      simp only [Act.put, List.setIfInBounds_toArray, List.set_cons_zero, List.set_cons_succ, i64_w, i32_w]
                      rfl
                    refine one_ (i := 19) (N := some 49) #[true, true, true, true, true, true, true, true, true, true, true, true, true, true, true, true, true, true, true, true, false] rfl rfl (one_of HT_.out (by kernel_rfl)) (by decide) (fun K hK => ?_)
                    refine Kd.R_append_step k69 (w0 := w) w.heap.size (by rfl) (.tmp 30) (.tmp 48) 22 69 (.agg #[(.int .i64 0), (.int .i64 0)]) 16 rfl Try.underlying22 info69 rfl (by decide) (by omega) u7 x7_1 (⟨Int.tmod (Go.bits .and .i64 ((rd_T69 l1 x8_1).f0) 65535) (Int.tmod (Go.bits .and .i64 a0 65535) (wrap64 (a2 + 1))), Int.tmod (Go.bits .and .i64 ((rd_T69 l1 x8_1).f1) 65535) (Int.tmod (Go.bits .and .i64 a0 65535) (wrap64 (a2 + 1)))⟩ : S69) [.int .i64 (Int.tmod (Go.bits .and .i64 ((rd_T69 l1 x8_1).f0) 65535) (Int.tmod (Go.bits .and .i64 a0 65535) (wrap64 (a2 + 1)))), .int .i64 (Int.tmod (Go.bits .and .i64 ((rd_T69 l1 x8_1).f1) 65535) (Int.tmod (Go.bits .and .i64 a0 65535) (wrap64 (a2 + 1))))] (fun _ => True) (fun _ => False) rfl rfl ?aP (fun _ hk => hk.elim) ?aF ?aO ?aB ?aS ?aL ?_
                    (case aP => exact k69_mkM _ _ _ (⟨Int.tmod (Go.bits .and .i64 ((rd_T69 l1 x8_1).f0) 65535) (Int.tmod (Go.bits .and .i64 a0 65535) (wrap64 (a2 + 1))), Int.tmod (Go.bits .and .i64 ((rd_T69 l1 x8_1).f1) 65535) (Int.tmod (Go.bits .and .i64 a0 65535) (wrap64 (a2 + 1)))⟩ : S69))
                    (case aB => exact (by repeat (first | (with_reducible first | exact HB.out | apply below_alloc | apply pw_below_drewN | apply below_drew1 | refine below_set ?_ GE101.out) | exact HB.out)))
                    (case aF => exact (fun _ _ => trivial))
                    (case aO => exact (by (with_reducible repeat (first | apply Kd.R_alloc | apply Kd.R_drewN | apply Kd.R_drew)); exact HO_7.out))
                    (case aS => exact (below_size (by repeat (first | (with_reducible first | exact HB.out | apply below_alloc | apply pw_below_drewN | apply below_drew1 | refine below_set ?_ GE101.out) | exact HB.out))))
                    (case aL => have := LMc11.out; omega)
                    intro v105 w13 ho hb hg hat
                    rw [← Ny104.out] at ho
                    have n0_ := Aside0.mk (blk_grown (g := gb101) (o := .cells #[.int .i64 0, .slice none 0 0] 31 (0, 0)) (by (with_reducible repeat (first | refine blk_drewN ?_ _ | refine blk_drew ?_ | refine blk_alloc ?_ _)); exact BK101.out) hg (Kd.R_ne HO_7.out BK101.out (by decide)))
                    have n1_ := Aside0.mk (hb)
                    have n2_ := Aside0.mk (ho)
                    clear BK101
                    clear HB
                    clear HO_7
                    have BK101 := n0_
                    have HB := n1_
                    have HO106 := n2_
                    clear n0_ n1_ n2_
                    clear ho hb hg hat
                    refine hK.out _ _ ⟨((HB.out.cell (World.block_lt_of_cell? w _ hw102_0)).trans hw102_0), ((HB.out.cell (World.block_lt_of_cell? w _ hw102_1)).trans hw102_1), ((HB.out.cell (World.block_lt_of_cell? w _ hw103_0)).trans hw103_0), ((HB.out.cell (World.block_lt_of_cell? w _ hw103_1)).trans hw103_1)⟩ (fun hHeld => ?_)
                    clear hK K
                    refine norm_ (a' := ?_) ?_ ?_
                    rotate_left
                    · show Act.put _ (some 49) _ = _
                      simp only [Act.put, List.setIfInBounds_toArray, List.set_cons_zero, List.set_cons_succ, i64_w, i32_w]
                      rfl
                    refine pure_ (i := 20) (N := some 7) (v := ?_) (a' := ?_) #[true, true, true, true, true, true, true, true, true, true, true, true, true, true, true, true, true, true, true, true, true] rfl rfl (any_of HT_.out (by kernel_rfl)) (fun _ _ _ h => h) (Or.inl ⟨by rfl, ?_⟩) ?_ ?_
                    rotate_left
                    · intro w'
                      go_simp
                      with_reducible rfl
                    rotate_left
                    · simp only [Act.put, List.setIfInBounds_toArray, List.set_cons_zero, List.set_cons_succ, i64_w, i32_w]
                      rfl
                    refine done_ (done_of HT_.out (by kernel_rfl)) ?_
                    try go_wp2
                    go_roundg k1
                    case measure => have := HK1.out; omega
                    case rel => exact ⟨(y104), (wrap64 (x8_1 + 1)), (by first | rfl | (simp; done) | (simp [*]; done)), H', ⟨by have := HK1.out; omega⟩, ⟨by (with_reducible repeat (first | apply Kd.R_alloc | apply Kd.R_drewN | apply Kd.R_drew)); exact HO106.out⟩, ⟨by (with_reducible repeat (first | refine blk_drewN ?_ _ | refine blk_drew ?_ | refine blk_alloc ?_ _)); exact BK101.out⟩, ⟨by repeat (first | (with_reducible first | exact HB.out | apply below_alloc | apply pw_below_drewN | apply below_drew1 | refine below_set ?_ GE101.out) | exact HB.out)⟩⟩
                  · rw [if_neg c11] at H
                    exact absurd H (by simp)
              · rw [if_neg c9] at H
                exact absurd H (by simp)
            · rw [if_neg c8] at H
              have c8b0 : decide (0 < (Int.tmod (Go.bits .and .i64 a0 65535) (wrap64 (a2 + 1)))) = false := decide_eq_false c8
              clear c8
              replace H := Option.bind_eq_some_iff.mp H
              obtain ⟨⟨t107, t108, t111⟩, A140, H⟩ := H
              replace H : (some (t107, t108)) = some (r1, r2) := H
              have A14 := Aside0.mk A140
              clear A140
              simp only [Option.some.injEq, Prod.mk.injEq] at H
              obtain ⟨rfl, rfl⟩ := H
              obtain ⟨Ao15, co15, eo15⟩ := Kd.R_slice HO_7.out
              subst eo15
              go_wp2_with (first | ((with_reducible refine gate_callee (f := 53) rfl ?_); refine goesL_ (some 53) rfl rfl Try.func53 (by kernel_rfl) rfl #[.int .i64 (Int.tmod (Go.bits .and .i64 a0 65535) (wrap64 (a2 + 1))), .slice Ao15 x7_1.length co15] rfl (by (try simp only [List.map_toArray, List.map_cons, List.map_nil]); first | done | rfl | (simp only [List.length_drop, List.length_take]; rfl)) ?_; (with_reducible refine (carcanetref03_Normal.calls k1 (Int.tmod (Go.bits .and .i64 a0 65535) (wrap64 (a2 + 1))) _ _ x7_1 t107 t108 t111 _ ?side1 ?side2 A14.out).mono ?_); (case side1 => repeat (first | exact (Kd.R_reads' HO_7.out).2.2 | (with_reducible refine Kd.C_alloc ?_ _) | (with_reducible refine Kd.C_drewN ?_ _) | (with_reducible refine Kd.C_drew ?_))); (case side2 => exact (Kd.R_reads' HO_7.out).2.1); rintro e w16 ⟨v109, rfl, ho0, hb⟩; refine ⟨_, rfl, ?_⟩; have n0_ := Aside0.mk (Kd.R_elder' (by (with_reducible repeat (first | apply Kd.R_alloc | apply Kd.R_drewN | apply Kd.R_drew)); exact HO_7.out) (Kd.R_base ho0) hb); have n1_ := Aside0.mk (Kd.R_lower (Kd.R_new' ho0 (Kd.R_lt (by (with_reducible repeat (first | apply Kd.R_alloc | apply Kd.R_drewN | apply Kd.R_drew)); exact HO_7.out))) (below_size (by repeat (first | (with_reducible first | exact HB.out | apply below_alloc | apply pw_below_drewN | apply below_drew1 | refine below_set ?_ GE101.out) | exact HB.out)))); have n2_ := Aside0.mk (blk_below (g := gb101) (o := .cells #[.int .i64 0, .slice none 0 0] 31 (0, 0)) (by (with_reducible repeat (first | refine blk_drewN ?_ _ | refine blk_drew ?_ | refine blk_alloc ?_ _)); exact BK101.out) hb); have n3_ := Aside0.mk (below_step (by repeat (first | (with_reducible first | exact HB.out | apply below_alloc | apply pw_below_drewN | apply below_drew1 | refine below_set ?_ GE101.out) | exact HB.out)) hb); clear HO_7; clear BK101; clear HB; have HO_7 := n0_; have HO110 := n1_; have BK101 := n2_; have HB := n3_; clear n0_ n1_ n2_ n3_; (try clear hb); (try clear hb2); (try clear hk); (try clear hi); (try clear ho0)) | ((with_reducible refine gate_dst (N := 9) rfl ?_); refine box_event ?hg (N := 9) ?hd (cs := #[.int .i64 0, .slice none 0 0]) (t := 31) ?hr ?_; (case hd => rfl); (case hg => rfl); (case hr => first | (go_simp; done) | (go_simp; rfl)); intro gb112 hg w17 hbox hb; have n0_ := Aside0.mk (Kd.R_below (by (with_reducible repeat (first | apply Kd.R_alloc | apply Kd.R_drewN | apply Kd.R_drew)); exact HO_7.out) hb); have n1_ := Aside0.mk (Kd.R_below (by (with_reducible repeat (first | apply Kd.R_alloc | apply Kd.R_drewN | apply Kd.R_drew)); exact HO110.out) hb); have n2_ := Aside0.mk (blk_below (g := gb101) (o := .cells #[.int .i64 0, .slice none 0 0] 31 (0, 0)) (by (with_reducible repeat (first | refine blk_drewN ?_ _ | refine blk_drew ?_ | refine blk_alloc ?_ _)); exact BK101.out) hb); have n3_ := Aside0.mk (below_step (by repeat (first | (with_reducible first | exact HB.out | apply below_alloc | apply pw_below_drewN | apply below_drew1 | refine below_set ?_ GE101.out) | exact HB.out)) hb); have n4_ := Aside0.mk (hbox); have n5_ := Aside0.mk ((by rw [hg]; exact (below_size (by repeat (first | (with_reducible first | exact HB.out | apply below_alloc | apply pw_below_drewN | apply below_drew1 | refine below_set ?_ GE101.out) | exact HB.out))) : w.heap.size ≤ gb112)); have n6_ := Aside0.mk ((by rw [hg]; exact (below_size (by repeat (first | (with_reducible first | exact HB.out | apply below_alloc | apply pw_below_drewN | apply below_drew1 | refine below_set ?_ GE101.out) | exact HB.out))) : w.heap.size ≤ gb112)); have n7_ := Aside0.mk ((by rw [hg]; exact Nat.ne_of_lt (blk_lt (g := gb101) (o := .cells #[.int .i64 0, .slice none 0 0] 31 (0, 0)) (by (with_reducible repeat (first | refine blk_drewN ?_ _ | refine blk_drew ?_ | refine blk_alloc ?_ _)); exact BK101.out)) : gb101 ≠ gb112)); have n8_ := Aside0.mk ((by rw [hg]; exact Nat.ne_of_gt (blk_lt (g := gb101) (o := .cells #[.int .i64 0, .slice none 0 0] 31 (0, 0)) (by (with_reducible repeat (first | refine blk_drewN ?_ _ | refine blk_drew ?_ | refine blk_alloc ?_ _)); exact BK101.out)) : gb112 ≠ gb101)); clear HO_7; clear HO110; clear BK101; clear HB; have HO_7 := n0_; have HO110 := n1_; have BK101 := n2_; have HB := n3_; have BK112 := n4_; have GW112 := n5_; have GE112 := n6_; have NB101_112 := n7_; have NB112_101 := n8_; clear n0_ n1_ n2_ n3_ n4_ n5_ n6_ n7_ n8_; clear hb hbox hg; have hnb18 := NB112_101.out; have hnc18 := NB101_112.out; have hcz19_0 : w17.cell? ⟨gb112, 0, none⟩ = some (.int .i64 0) := (blk_cell BK112.out 0).trans rfl; have hcz19_1 : w17.cell? ⟨gb112, 1, none⟩ = some (.slice none 0 0) := (blk_cell BK112.out 1).trans rfl; have hfz19_0 := blk_frozen BK112.out 0; have hfz19_1 := blk_frozen BK112.out 1; obtain ⟨Ao20, co20, eo20⟩ := Kd.R_slice HO110.out; subst eo20; have hcz21_0 : w17.cell? ⟨gb101, 0, none⟩ = some (.int .i64 0) := (blk_cell BK101.out 0).trans rfl; have hcz21_1 : w17.cell? ⟨gb101, 1, none⟩ = some (.slice none 0 0) := (blk_cell BK101.out 1).trans rfl; have hfz21_0 := blk_frozen BK101.out 0; have hfz21_1 := blk_frozen BK101.out 1))
              refine bodyPost_ret (results_cell_row rfl _ _ gb101 31 #[.int .i64 t107, .slice Ao20 t108.length co20] (0, 0) _ rfl (by (with_reducible repeat (first | refine blk_drewN ?_ _ | refine blk_drew ?_ | refine blk_alloc ?_ _)); refine blk_put (cs := #[.int .i64 t107, .slice none 0 0]) ?_ 1 _ rfl; (with_reducible repeat (first | refine blk_drewN ?_ _ | refine blk_drew ?_ | refine blk_alloc ?_ _)); refine blk_put (cs := #[.int .i64 0, .slice none 0 0]) ?_ 0 _ rfl; (with_reducible repeat (first | refine blk_drewN ?_ _ | refine blk_drew ?_ | refine blk_alloc ?_ _)); refine blk_far ?_ NB101_112.out _; (with_reducible repeat (first | refine blk_drewN ?_ _ | refine blk_drew ?_ | refine blk_alloc ?_ _)); refine blk_far ?_ NB101_112.out _; (with_reducible repeat (first | refine blk_drewN ?_ _ | refine blk_drew ?_ | refine blk_alloc ?_ _)); exact BK101.out) Try.underlying31 rfl (by kernel_rfl)) rfl ?_
              exact ⟨_, by first | rfl | (simp [errW_none, errW_some] <;> rfl) | (simp [*, errW_none, errW_some] <;> rfl), by (with_reducible repeat (first | apply Kd.R_alloc | apply Kd.R_drewN | apply Kd.R_drew)); exact Kd.R_mono (Kd.R_far (p := ⟨gb101, 1, none⟩) (Kd.R_far (p := ⟨gb101, 0, none⟩) (Kd.R_far (p := ⟨gb112, 1, none⟩) (Kd.R_far (p := ⟨gb112, 0, none⟩) (Kd.R_types (Kd.R_types HO110.out BK112.out (by decide)) BK101.out (by decide)) (fun _ hk => hk.1.2) (.int .i64 t107)) (fun _ hk => hk.1.2) (.slice Ao20 t108.length co20)) (fun _ hk => hk.2) (.int .i64 t107)) (fun _ hk => hk.2) (.slice Ao20 t108.length co20)) (fun _ hk => trivial), by repeat (first | (with_reducible first | exact HB.out | apply below_alloc | apply pw_below_drewN | apply below_drew1 | refine below_set ?_ GE101.out | refine below_set ?_ GE112.out) | exact HB.out)⟩
          · rw [if_neg c7] at H
            have c7b0 : decide (x8_1 < 300) = false := decide_eq_false c7
            clear c7
            replace H := Option.bind_eq_some_iff.mp H
            obtain ⟨⟨t113, t114, t117⟩, A220, H⟩ := H
            replace H : (some (t113, t114)) = some (r1, r2) := H
            have A22 := Aside0.mk A220
            clear A220
            simp only [Option.some.injEq, Prod.mk.injEq] at H
            obtain ⟨rfl, rfl⟩ := H
            obtain ⟨Ao23, co23, eo23⟩ := Kd.R_slice HO_7.out
            subst eo23
            go_wp2_with (first | ((with_reducible refine gate_callee (f := 53) rfl ?_); refine goesL_ (some 53) rfl rfl Try.func53 (by kernel_rfl) rfl #[.int .i64 (Int.tmod (Go.bits .and .i64 a0 65535) (wrap64 (a2 + 1))), .slice Ao23 x7_1.length co23] rfl (by (try simp only [List.map_toArray, List.map_cons, List.map_nil]); first | done | rfl | (simp only [List.length_drop, List.length_take]; rfl)) ?_; (with_reducible refine (carcanetref03_Normal.calls k1 (Int.tmod (Go.bits .and .i64 a0 65535) (wrap64 (a2 + 1))) _ _ x7_1 t113 t114 t117 _ ?side1 ?side2 A22.out).mono ?_); (case side1 => repeat (first | exact (Kd.R_reads' HO_7.out).2.2 | (with_reducible refine Kd.C_alloc ?_ _) | (with_reducible refine Kd.C_drewN ?_ _) | (with_reducible refine Kd.C_drew ?_))); (case side2 => exact (Kd.R_reads' HO_7.out).2.1); rintro e w24 ⟨v115, rfl, ho0, hb⟩; refine ⟨_, rfl, ?_⟩; have n0_ := Aside0.mk (Kd.R_elder' (by (with_reducible repeat (first | apply Kd.R_alloc | apply Kd.R_drewN | apply Kd.R_drew)); exact HO_7.out) (Kd.R_base ho0) hb); have n1_ := Aside0.mk (Kd.R_lower (Kd.R_new' ho0 (Kd.R_lt (by (with_reducible repeat (first | apply Kd.R_alloc | apply Kd.R_drewN | apply Kd.R_drew)); exact HO_7.out))) (below_size (by repeat (first | (with_reducible first | exact HB.out | apply below_alloc | apply pw_below_drewN | apply below_drew1 | refine below_set ?_ GE101.out) | exact HB.out)))); have n2_ := Aside0.mk (blk_below (g := gb101) (o := .cells #[.int .i64 0, .slice none 0 0] 31 (0, 0)) (by (with_reducible repeat (first | refine blk_drewN ?_ _ | refine blk_drew ?_ | refine blk_alloc ?_ _)); exact BK101.out) hb); have n3_ := Aside0.mk (below_step (by repeat (first | (with_reducible first | exact HB.out | apply below_alloc | apply pw_below_drewN | apply below_drew1 | refine below_set ?_ GE101.out) | exact HB.out)) hb); clear HO_7; clear BK101; clear HB; have HO_7 := n0_; have HO116 := n1_; have BK101 := n2_; have HB := n3_; clear n0_ n1_ n2_ n3_; (try clear hb); (try clear hb2); (try clear hk); (try clear hi); (try clear ho0)) | ((with_reducible refine gate_dst (N := 9) rfl ?_); refine box_event ?hg (N := 9) ?hd (cs := #[.int .i64 0, .slice none 0 0]) (t := 31) ?hr ?_; (case hd => rfl); (case hg => rfl); (case hr => first | (go_simp; done) | (go_simp; rfl)); intro gb118 hg w25 hbox hb; have n0_ := Aside0.mk (Kd.R_below (by (with_reducible repeat (first | apply Kd.R_alloc | apply Kd.R_drewN | apply Kd.R_drew)); exact HO_7.out) hb); have n1_ := Aside0.mk (Kd.R_below (by (with_reducible repeat (first | apply Kd.R_alloc | apply Kd.R_drewN | apply Kd.R_drew)); exact HO116.out) hb); have n2_ := Aside0.mk (blk_below (g := gb101) (o := .cells #[.int .i64 0, .slice none 0 0] 31 (0, 0)) (by (with_reducible repeat (first | refine blk_drewN ?_ _ | refine blk_drew ?_ | refine blk_alloc ?_ _)); exact BK101.out) hb); have n3_ := Aside0.mk (below_step (by repeat (first | (with_reducible first | exact HB.out | apply below_alloc | apply pw_below_drewN | apply below_drew1 | refine below_set ?_ GE101.out) | exact HB.out)) hb); have n4_ := Aside0.mk (hbox); have n5_ := Aside0.mk ((by rw [hg]; exact (below_size (by repeat (first | (with_reducible first | exact HB.out | apply below_alloc | apply pw_below_drewN | apply below_drew1 | refine below_set ?_ GE101.out) | exact HB.out))) : w.heap.size ≤ gb118)); have n6_ := Aside0.mk ((by rw [hg]; exact (below_size (by repeat (first | (with_reducible first | exact HB.out | apply below_alloc | apply pw_below_drewN | apply below_drew1 | refine below_set ?_ GE101.out) | exact HB.out))) : w.heap.size ≤ gb118)); have n7_ := Aside0.mk ((by rw [hg]; exact Nat.ne_of_lt (blk_lt (g := gb101) (o := .cells #[.int .i64 0, .slice none 0 0] 31 (0, 0)) (by (with_reducible repeat (first | refine blk_drewN ?_ _ | refine blk_drew ?_ | refine blk_alloc ?_ _)); exact BK101.out)) : gb101 ≠ gb118)); have n8_ := Aside0.mk ((by rw [hg]; exact Nat.ne_of_gt (blk_lt (g := gb101) (o := .cells #[.int .i64 0, .slice none 0 0] 31 (0, 0)) (by (with_reducible repeat (first | refine blk_drewN ?_ _ | refine blk_drew ?_ | refine blk_alloc ?_ _)); exact BK101.out)) : gb118 ≠ gb101)); clear HO_7; clear HO116; clear BK101; clear HB; have HO_7 := n0_; have HO116 := n1_; have BK101 := n2_; have HB := n3_; have BK118 := n4_; have GW118 := n5_; have GE118 := n6_; have NB101_118 := n7_; have NB118_101 := n8_; clear n0_ n1_ n2_ n3_ n4_ n5_ n6_ n7_ n8_; clear hb hbox hg; have hnb26 := NB118_101.out; have hnc26 := NB101_118.out; have hcz27_0 : w25.cell? ⟨gb118, 0, none⟩ = some (.int .i64 0) := (blk_cell BK118.out 0).trans rfl; have hcz27_1 : w25.cell? ⟨gb118, 1, none⟩ = some (.slice none 0 0) := (blk_cell BK118.out 1).trans rfl; have hfz27_0 := blk_frozen BK118.out 0; have hfz27_1 := blk_frozen BK118.out 1; obtain ⟨Ao28, co28, eo28⟩ := Kd.R_slice HO116.out; subst eo28; have hcz29_0 : w25.cell? ⟨gb101, 0, none⟩ = some (.int .i64 0) := (blk_cell BK101.out 0).trans rfl; have hcz29_1 : w25.cell? ⟨gb101, 1, none⟩ = some (.slice none 0 0) := (blk_cell BK101.out 1).trans rfl; have hfz29_0 := blk_frozen BK101.out 0; have hfz29_1 := blk_frozen BK101.out 1))
            refine bodyPost_ret (results_cell_row rfl _ _ gb101 31 #[.int .i64 t113, .slice Ao28 t114.length co28] (0, 0) _ rfl (by (with_reducible repeat (first | refine blk_drewN ?_ _ | refine blk_drew ?_ | refine blk_alloc ?_ _)); refine blk_put (cs := #[.int .i64 t113, .slice none 0 0]) ?_ 1 _ rfl; (with_reducible repeat (first | refine blk_drewN ?_ _ | refine blk_drew ?_ | refine blk_alloc ?_ _)); refine blk_put (cs := #[.int .i64 0, .slice none 0 0]) ?_ 0 _ rfl; (with_reducible repeat (first | refine blk_drewN ?_ _ | refine blk_drew ?_ | refine blk_alloc ?_ _)); refine blk_far ?_ NB101_118.out _; (with_reducible repeat (first | refine blk_drewN ?_ _ | refine blk_drew ?_ | refine blk_alloc ?_ _)); refine blk_far ?_ NB101_118.out _; (with_reducible repeat (first | refine blk_drewN ?_ _ | refine blk_drew ?_ | refine blk_alloc ?_ _)); exact BK101.out) Try.underlying31 rfl (by kernel_rfl)) rfl ?_
            exact ⟨_, by first | rfl | (simp [errW_none, errW_some] <;> rfl) | (simp [*, errW_none, errW_some] <;> rfl), by (with_reducible repeat (first | apply Kd.R_alloc | apply Kd.R_drewN | apply Kd.R_drew)); exact Kd.R_mono (Kd.R_far (p := ⟨gb101, 1, none⟩) (Kd.R_far (p := ⟨gb101, 0, none⟩) (Kd.R_far (p := ⟨gb118, 1, none⟩) (Kd.R_far (p := ⟨gb118, 0, none⟩) (Kd.R_types (Kd.R_types HO116.out BK118.out (by decide)) BK101.out (by decide)) (fun _ hk => hk.1.2) (.int .i64 t113)) (fun _ hk => hk.1.2) (.slice Ao28 t114.length co28)) (fun _ hk => hk.2) (.int .i64 t113)) (fun _ hk => hk.2) (.slice Ao28 t114.length co28)) (fun _ hk => trivial), by repeat (first | (with_reducible first | exact HB.out | apply below_alloc | apply pw_below_drewN | apply below_drew1 | refine below_set ?_ GE101.out | refine below_set ?_ GE118.out) | exact HB.out)⟩
        · rw [if_neg c6] at H
          have c6b0 : decide (x8_1 < (l1.length : Int)) = false := decide_eq_false c6
          clear c6
          replace H := Option.bind_eq_some_iff.mp H
          obtain ⟨⟨t119, t120, t123⟩, A300, H⟩ := H
          replace H : (some (t119, t120)) = some (r1, r2) := H
          have A30 := Aside0.mk A300
          clear A300
          simp only [Option.some.injEq, Prod.mk.injEq] at H
          obtain ⟨rfl, rfl⟩ := H
          obtain ⟨Ao31, co31, eo31⟩ := Kd.R_slice HO_7.out
          subst eo31
          go_wp2_with (first | ((with_reducible refine gate_callee (f := 53) rfl ?_); refine goesL_ (some 53) rfl rfl Try.func53 (by kernel_rfl) rfl #[.int .i64 (Int.tmod (Go.bits .and .i64 a0 65535) (wrap64 (a2 + 1))), .slice Ao31 x7_1.length co31] rfl (by (try simp only [List.map_toArray, List.map_cons, List.map_nil]); first | done | rfl | (simp only [List.length_drop, List.length_take]; rfl)) ?_; (with_reducible refine (carcanetref03_Normal.calls k1 (Int.tmod (Go.bits .and .i64 a0 65535) (wrap64 (a2 + 1))) _ _ x7_1 t119 t120 t123 _ ?side1 ?side2 A30.out).mono ?_); (case side1 => repeat (first | exact (Kd.R_reads' HO_7.out).2.2 | (with_reducible refine Kd.C_alloc ?_ _) | (with_reducible refine Kd.C_drewN ?_ _) | (with_reducible refine Kd.C_drew ?_))); (case side2 => exact (Kd.R_reads' HO_7.out).2.1); rintro e w32 ⟨v121, rfl, ho0, hb⟩; refine ⟨_, rfl, ?_⟩; have n0_ := Aside0.mk (Kd.R_elder' (by (with_reducible repeat (first | apply Kd.R_alloc | apply Kd.R_drewN | apply Kd.R_drew)); exact HO_7.out) (Kd.R_base ho0) hb); have n1_ := Aside0.mk (Kd.R_lower (Kd.R_new' ho0 (Kd.R_lt (by (with_reducible repeat (first | apply Kd.R_alloc | apply Kd.R_drewN | apply Kd.R_drew)); exact HO_7.out))) (below_size (by repeat (first | (with_reducible first | exact HB.out | apply below_alloc | apply pw_below_drewN | apply below_drew1 | refine below_set ?_ GE101.out) | exact HB.out)))); have n2_ := Aside0.mk (blk_below (g := gb101) (o := .cells #[.int .i64 0, .slice none 0 0] 31 (0, 0)) (by (with_reducible repeat (first | refine blk_drewN ?_ _ | refine blk_drew ?_ | refine blk_alloc ?_ _)); exact BK101.out) hb); have n3_ := Aside0.mk (below_step (by repeat (first | (with_reducible first | exact HB.out | apply below_alloc | apply pw_below_drewN | apply below_drew1 | refine below_set ?_ GE101.out) | exact HB.out)) hb); clear HO_7; clear BK101; clear HB; have HO_7 := n0_; have HO122 := n1_; have BK101 := n2_; have HB := n3_; clear n0_ n1_ n2_ n3_; (try clear hb); (try clear hb2); (try clear hk); (try clear hi); (try clear ho0)) | ((with_reducible refine gate_dst (N := 9) rfl ?_); refine box_event ?hg (N := 9) ?hd (cs := #[.int .i64 0, .slice none 0 0]) (t := 31) ?hr ?_; (case hd => rfl); (case hg => rfl); (case hr => first | (go_simp; done) | (go_simp; rfl)); intro gb124 hg w33 hbox hb; have n0_ := Aside0.mk (Kd.R_below (by (with_reducible repeat (first | apply Kd.R_alloc | apply Kd.R_drewN | apply Kd.R_drew)); exact HO_7.out) hb); have n1_ := Aside0.mk (Kd.R_below (by (with_reducible repeat (first | apply Kd.R_alloc | apply Kd.R_drewN | apply Kd.R_drew)); exact HO122.out) hb); have n2_ := Aside0.mk (blk_below (g := gb101) (o := .cells #[.int .i64 0, .slice none 0 0] 31 (0, 0)) (by (with_reducible repeat (first | refine blk_drewN ?_ _ | refine blk_drew ?_ | refine blk_alloc ?_ _)); exact BK101.out) hb); have n3_ := Aside0.mk (below_step (by repeat (first | (with_reducible first | exact HB.out | apply below_alloc | apply pw_below_drewN | apply below_drew1 | refine below_set ?_ GE101.out) | exact HB.out)) hb); have n4_ := Aside0.mk (hbox); have n5_ := Aside0.mk ((by rw [hg]; exact (below_size (by repeat (first | (with_reducible first | exact HB.out | apply below_alloc | apply pw_below_drewN | apply below_drew1 | refine below_set ?_ GE101.out) | exact HB.out))) : w.heap.size ≤ gb124)); have n6_ := Aside0.mk ((by rw [hg]; exact (below_size (by repeat (first | (with_reducible first | exact HB.out | apply below_alloc | apply pw_below_drewN | apply below_drew1 | refine below_set ?_ GE101.out) | exact HB.out))) : w.heap.size ≤ gb124)); have n7_ := Aside0.mk ((by rw [hg]; exact Nat.ne_of_lt (blk_lt (g := gb101) (o := .cells #[.int .i64 0, .slice none 0 0] 31 (0, 0)) (by (with_reducible repeat (first | refine blk_drewN ?_ _ | refine blk_drew ?_ | refine blk_alloc ?_ _)); exact BK101.out)) : gb101 ≠ gb124)); have n8_ := Aside0.mk ((by rw [hg]; exact Nat.ne_of_gt (blk_lt (g := gb101) (o := .cells #[.int .i64 0, .slice none 0 0] 31 (0, 0)) (by (with_reducible repeat (first | refine blk_drewN ?_ _ | refine blk_drew ?_ | refine blk_alloc ?_ _)); exact BK101.out)) : gb124 ≠ gb101)); clear HO_7; clear HO122; clear BK101; clear HB; have HO_7 := n0_; have HO122 := n1_; have BK101 := n2_; have HB := n3_; have BK124 := n4_; have GW124 := n5_; have GE124 := n6_; have NB101_124 := n7_; have NB124_101 := n8_; clear n0_ n1_ n2_ n3_ n4_ n5_ n6_ n7_ n8_; clear hb hbox hg; have hnb34 := NB124_101.out; have hnc34 := NB101_124.out; have hcz35_0 : w33.cell? ⟨gb124, 0, none⟩ = some (.int .i64 0) := (blk_cell BK124.out 0).trans rfl; have hcz35_1 : w33.cell? ⟨gb124, 1, none⟩ = some (.slice none 0 0) := (blk_cell BK124.out 1).trans rfl; have hfz35_0 := blk_frozen BK124.out 0; have hfz35_1 := blk_frozen BK124.out 1; obtain ⟨Ao36, co36, eo36⟩ := Kd.R_slice HO122.out; subst eo36; have hcz37_0 : w33.cell? ⟨gb101, 0, none⟩ = some (.int .i64 0) := (blk_cell BK101.out 0).trans rfl; have hcz37_1 : w33.cell? ⟨gb101, 1, none⟩ = some (.slice none 0 0) := (blk_cell BK101.out 1).trans rfl; have hfz37_0 := blk_frozen BK101.out 0; have hfz37_1 := blk_frozen BK101.out 1))
          refine bodyPost_ret (results_cell_row rfl _ _ gb101 31 #[.int .i64 t119, .slice Ao36 t120.length co36] (0, 0) _ rfl (by (with_reducible repeat (first | refine blk_drewN ?_ _ | refine blk_drew ?_ | refine blk_alloc ?_ _)); refine blk_put (cs := #[.int .i64 t119, .slice none 0 0]) ?_ 1 _ rfl; (with_reducible repeat (first | refine blk_drewN ?_ _ | refine blk_drew ?_ | refine blk_alloc ?_ _)); refine blk_put (cs := #[.int .i64 0, .slice none 0 0]) ?_ 0 _ rfl; (with_reducible repeat (first | refine blk_drewN ?_ _ | refine blk_drew ?_ | refine blk_alloc ?_ _)); refine blk_far ?_ NB101_124.out _; (with_reducible repeat (first | refine blk_drewN ?_ _ | refine blk_drew ?_ | refine blk_alloc ?_ _)); refine blk_far ?_ NB101_124.out _; (with_reducible repeat (first | refine blk_drewN ?_ _ | refine blk_drew ?_ | refine blk_alloc ?_ _)); exact BK101.out) Try.underlying31 rfl (by kernel_rfl)) rfl ?_
          exact ⟨_, by first | rfl | (simp [errW_none, errW_some] <;> rfl) | (simp [*, errW_none, errW_some] <;> rfl), by (with_reducible repeat (first | apply Kd.R_alloc | apply Kd.R_drewN | apply Kd.R_drew)); exact Kd.R_mono (Kd.R_far (p := ⟨gb101, 1, none⟩) (Kd.R_far (p := ⟨gb101, 0, none⟩) (Kd.R_far (p := ⟨gb124, 1, none⟩) (Kd.R_far (p := ⟨gb124, 0, none⟩) (Kd.R_types (Kd.R_types HO122.out BK124.out (by decide)) BK101.out (by decide)) (fun _ hk => hk.1.2) (.int .i64 t119)) (fun _ hk => hk.1.2) (.slice Ao36 t120.length co36)) (fun _ hk => hk.2) (.int .i64 t119)) (fun _ hk => hk.2) (.slice Ao36 t120.length co36)) (fun _ hk => trivial), by repeat (first | (with_reducible first | exact HB.out | apply below_alloc | apply pw_below_drewN | apply below_drew1 | refine below_set ?_ GE101.out | refine below_set ?_ GE124.out) | exact HB.out)⟩
end Go.Proofs.Ytkemhnfaheplhaa.F
namespace Go.Proofs.Ytkemhnfaheplhaa.F
open Go.RowKit Go.Proofs.YtkemhnfaheplhaaW.PrintWords Go.Proofs.YtkemhnfaheplhaaW.PrintLast Go.Proofs.YtkemhnfaheplhaaW.PrintMore
attribute [local go_sem] max2_int min2_int max_two min_two max_three min_three max_four min_four
set_option linter.unusedVariables false
set_option linter.unusedSimpArgs false
def carcanetref03_Of.f (k : Nat) (a0_0 : Int) (l0_1 : List (S69)) (a1 : Int) : Option (Int × (List (S69))) := (carcanetref03_Any.f k a0_0 l0_1 a1).bind fun bt103 => (some (bt103.1, bt103.2))
theorem carcanetref03_Of.mono : ∀ a0 a1 a2 k, LeO (carcanetref03_Of.f k a0 a1 a2) (carcanetref03_Of.f (k + 1) a0 a1 a2) := by
  intro a0 a1 a2 k
  unfold carcanetref03_Of.f
  repeat' first
      | (with_reducible exact carcanetref03_Any.mono _ _ _ _)
      | (with_reducible exact LeO.refl _)
      | (with_reducible exact LeO.none _)
      | (with_reducible refine LeO.ite ?_ ?_)
      | (with_reducible refine LeO.bind ?_ (fun _ => ?_))
      | exact carcanetref03_Any.mono _ _ _ _
      | exact LeO.none _
      | refine LeO.ite ?_ ?_
      | refine LeO.bind ?_ (fun _ => ?_)
set_option maxHeartbeats 8000000 in
set_option maxRecDepth 100000 in
theorem carcanetref03_Of.calls (k : Nat) (a0_0 : Int) (A0_1 : Option Addr) (c0_1 : Nat) (l0_1 : List (S69)) (a1 : Int) (r1 : Int) (r2 : List (S69)) (w : World) (hr0_1 : Kd.C k69 w A0_1 l0_1.length l0_1) (hc0_1 : l0_1.length ≤ c0_1) (h : carcanetref03_Of.f k a0_0 l0_1 a1 = some (r1, r2)) :
    Calls Try.prog 17 #[.agg #[.int .i64 a0_0, .slice A0_1 l0_1.length c0_1], .int .i64 a1] w fun e w' => ∃ v1_ : Value, e = .returned (.agg #[.int .i64 r1, v1_]) ∧ Kd.R k69 69 w' w.heap.size (fun _ => True) v1_ r2 ∧ Below w.heap.size w w' := by
  have hu24 := Try.underlying24
  have hu31 := Try.underlying31
  have HR0_1 := Aside0.mk hr0_1
  have HC0_1 := Aside0.mk hc0_1
  clear hr0_1 hc0_1
  have HB := Aside0.mk (Below.refl w.heap.size w)
  have H : ((carcanetref03_Any.f k a0_0 l0_1 a1).bind fun bt103 => (some (bt103.1, bt103.2))) = some (r1, r2) := h
  clear h
  replace H := Option.bind_eq_some_iff.mp H
  obtain ⟨⟨t103, t104⟩, A30, H⟩ := H
  replace H : (some (t103, t104)) = some (r1, r2) := H
  have A3 := Aside0.mk A30
  clear A30
  simp only [Option.some.injEq, Prod.mk.injEq] at H
  obtain ⟨rfl, rfl⟩ := H
  go_enter Try.func17, Try.ntmps17
  go_wp2_with (first | ((with_reducible refine gate_dst (N := 2) rfl ?_); refine box_event ?hg (N := 2) ?hd (cs := #[.int .i64 a0_0, .slice A0_1 l0_1.length c0_1]) (t := 24) ?hr ?_; (case hd => rfl); (case hg => rfl); (case hr => first | (go_simp; done) | (go_simp; rfl)); intro gb101 hg w4 hbox hb; have n0_ := Aside0.mk (below_step (by repeat (first | (with_reducible first | exact HB.out | apply below_alloc | apply pw_below_drewN | apply below_drew1) | exact HB.out)) hb); have n1_ := Aside0.mk (hbox); have n2_ := Aside0.mk ((by rw [hg]; exact (below_size (by repeat (first | (with_reducible first | exact HB.out | apply below_alloc | apply pw_below_drewN | apply below_drew1) | exact HB.out))) : w.heap.size ≤ gb101)); have n3_ := Aside0.mk ((by rw [hg]; exact (below_size (by repeat (first | (with_reducible first | exact HB.out | apply below_alloc | apply pw_below_drewN | apply below_drew1) | exact HB.out))) : w.heap.size ≤ gb101)); clear HB; have HB := n0_; have BK101 := n1_; have GW101 := n2_; have GE101 := n3_; clear n0_ n1_ n2_ n3_; clear hb hbox hg) | ((with_reducible refine gate_dst (N := 4) rfl ?_); refine box_event ?hg (N := 4) ?hd (cs := #[.int .i64 0, .slice none 0 0]) (t := 31) ?hr ?_; (case hd => rfl); (case hg => rfl); (case hr => first | (go_simp; done) | (go_simp; rfl)); intro gb102 hg w5 hbox hb; have n0_ := Aside0.mk (blk_below (g := gb101) (o := .cells #[.int .i64 a0_0, .slice A0_1 l0_1.length c0_1] 24 (0, 0)) (by (with_reducible repeat (first | refine blk_drewN ?_ _ | refine blk_drew ?_ | refine blk_alloc ?_ _)); exact BK101.out) hb); have n1_ := Aside0.mk (below_step (by repeat (first | (with_reducible first | exact HB.out | apply below_alloc | apply pw_below_drewN | apply below_drew1 | refine below_set ?_ GE101.out) | exact HB.out)) hb); have n2_ := Aside0.mk (hbox); have n3_ := Aside0.mk ((by rw [hg]; exact (below_size (by repeat (first | (with_reducible first | exact HB.out | apply below_alloc | apply pw_below_drewN | apply below_drew1 | refine below_set ?_ GE101.out) | exact HB.out))) : w.heap.size ≤ gb102)); have n4_ := Aside0.mk ((by rw [hg]; exact (below_size (by repeat (first | (with_reducible first | exact HB.out | apply below_alloc | apply pw_below_drewN | apply below_drew1 | refine below_set ?_ GE101.out) | exact HB.out))) : w.heap.size ≤ gb102)); have n5_ := Aside0.mk ((by rw [hg]; exact Nat.ne_of_lt (blk_lt (g := gb101) (o := .cells #[.int .i64 a0_0, .slice A0_1 l0_1.length c0_1] 24 (0, 0)) (by (with_reducible repeat (first | refine blk_drewN ?_ _ | refine blk_drew ?_ | refine blk_alloc ?_ _)); exact BK101.out)) : gb101 ≠ gb102)); have n6_ := Aside0.mk ((by rw [hg]; exact Nat.ne_of_gt (blk_lt (g := gb101) (o := .cells #[.int .i64 a0_0, .slice A0_1 l0_1.length c0_1] 24 (0, 0)) (by (with_reducible repeat (first | refine blk_drewN ?_ _ | refine blk_drew ?_ | refine blk_alloc ?_ _)); exact BK101.out)) : gb102 ≠ gb101)); clear BK101; clear HB; have BK101 := n0_; have HB := n1_; have BK102 := n2_; have GW102 := n3_; have GE102 := n4_; have NB101_102 := n5_; have NB102_101 := n6_; clear n0_ n1_ n2_ n3_ n4_ n5_ n6_; clear hb hbox hg; have hnb6 := NB101_102.out; have hnc6 := NB102_101.out; have hcz7_0 : w5.cell? ⟨gb101, 0, none⟩ = some (.int .i64 a0_0) := (blk_cell BK101.out 0).trans rfl; have hcz7_1 : w5.cell? ⟨gb101, 1, none⟩ = some (.slice A0_1 l0_1.length c0_1) := (blk_cell BK101.out 1).trans rfl; have hfz7_0 := blk_frozen BK101.out 0; have hfz7_1 := blk_frozen BK101.out 1) | ((with_reducible refine gate_callee (f := 61) rfl ?_); refine goesL_ (some 10) rfl rfl Try.func61 (by kernel_rfl) rfl #[.int .i64 a0_0, .slice A0_1 l0_1.length c0_1, .int .i64 a1] rfl (by (try simp only [List.map_toArray, List.map_cons, List.map_nil]); first | done | rfl | (simp only [List.length_drop, List.length_take]; rfl)) ?_; (with_reducible refine (carcanetref03_Any.calls k a0_0 _ _ l0_1 a1 t103 t104 _ ?side1 ?side2 A3.out).mono ?_); (case side1 => repeat (first | exact (Kd.C_below HR0_1.out HB.out) | (with_reducible refine Kd.C_alloc ?_ _) | (with_reducible refine Kd.C_drewN ?_ _) | (with_reducible refine Kd.C_drew ?_))); (case side2 => exact HC0_1.out); rintro e w8 ⟨v105, rfl, ho0, hb⟩; refine ⟨_, rfl, ?_⟩; have n0_ := Aside0.mk (Kd.R_lower ho0 (below_size (by repeat (first | (with_reducible first | exact HB.out | apply below_alloc | apply pw_below_drewN | apply below_drew1 | refine below_set ?_ GE101.out | refine below_set ?_ GE102.out) | exact HB.out)))); have n1_ := Aside0.mk (blk_below (g := gb101) (o := .cells #[.int .i64 a0_0, .slice A0_1 l0_1.length c0_1] 24 (0, 0)) (by (with_reducible repeat (first | refine blk_drewN ?_ _ | refine blk_drew ?_ | refine blk_alloc ?_ _)); exact BK101.out) hb); have n2_ := Aside0.mk (blk_below (g := gb102) (o := .cells #[.int .i64 0, .slice none 0 0] 31 (0, 0)) (by (with_reducible repeat (first | refine blk_drewN ?_ _ | refine blk_drew ?_ | refine blk_alloc ?_ _)); exact BK102.out) hb); have n3_ := Aside0.mk (below_step (by repeat (first | (with_reducible first | exact HB.out | apply below_alloc | apply pw_below_drewN | apply below_drew1 | refine below_set ?_ GE101.out | refine below_set ?_ GE102.out) | exact HB.out)) hb); clear BK101; clear BK102; clear HB; have HO106 := n0_; have BK101 := n1_; have BK102 := n2_; have HB := n3_; clear n0_ n1_ n2_ n3_; (try clear hb); (try clear hb2); (try clear hk); (try clear hi); (try clear ho0); have hcz9_0 : w8.cell? ⟨gb102, 0, none⟩ = some (.int .i64 0) := (blk_cell BK102.out 0).trans rfl; have hcz9_1 : w8.cell? ⟨gb102, 1, none⟩ = some (.slice none 0 0) := (blk_cell BK102.out 1).trans rfl; have hfz9_0 := blk_frozen BK102.out 0; have hfz9_1 := blk_frozen BK102.out 1; obtain ⟨Ao10, co10, eo10⟩ := Kd.R_slice HO106.out; subst eo10))
  refine bodyPost_ret (results_cell_row rfl _ _ gb102 31 #[.int .i64 t103, .slice Ao10 t104.length co10] (0, 0) _ rfl (by (with_reducible repeat (first | refine blk_drewN ?_ _ | refine blk_drew ?_ | refine blk_alloc ?_ _)); refine blk_put (cs := #[.int .i64 t103, .slice none 0 0]) ?_ 1 _ rfl; (with_reducible repeat (first | refine blk_drewN ?_ _ | refine blk_drew ?_ | refine blk_alloc ?_ _)); refine blk_put (cs := #[.int .i64 0, .slice none 0 0]) ?_ 0 _ rfl; (with_reducible repeat (first | refine blk_drewN ?_ _ | refine blk_drew ?_ | refine blk_alloc ?_ _)); exact BK102.out) Try.underlying31 rfl (by kernel_rfl)) rfl ?_
  exact ⟨_, by first | rfl | (simp [errW_none, errW_some] <;> rfl) | (simp [*, errW_none, errW_some] <;> rfl), by (with_reducible repeat (first | apply Kd.R_alloc | apply Kd.R_drewN | apply Kd.R_drew)); exact Kd.R_mono (Kd.R_far (p := ⟨gb102, 1, none⟩) (Kd.R_far (p := ⟨gb102, 0, none⟩) (Kd.R_types HO106.out BK102.out (by decide)) (fun _ hk => hk.2) (.int .i64 t103)) (fun _ hk => hk.2) (.slice Ao10 t104.length co10)) (fun _ hk => trivial), by repeat (first | (with_reducible first | exact HB.out | apply below_alloc | apply pw_below_drewN | apply below_drew1 | refine below_set ?_ GE101.out | refine below_set ?_ GE102.out) | exact HB.out)⟩
end Go.Proofs.Ytkemhnfaheplhaa.F
namespace Go.Proofs.Ytkemhnfaheplhaa.F
open Go.RowKit Go.Proofs.YtkemhnfaheplhaaW.PrintWords Go.Proofs.YtkemhnfaheplhaaW.PrintLast Go.Proofs.YtkemhnfaheplhaaW.PrintMore
set_option linter.unusedVariables false
set_option linter.unusedSimpArgs false
theorem wrap_in {x : Int} (h0 : -9223372036854775808 ≤ x) (h1 : x ≤ 9223372036854775807) : wrap64 x = x := by unfold wrap64; omega
theorem rd_eq (l : List Int) (i : Nat) (h : i < l.length) : rd l (i : Int) = l[i] := by simp [rd, List.getD_eq_getElem?_getD, h]
theorem rdE_eq (l : List S69) (i : Nat) (h : i < l.length) : rd_T69 l (i : Int) = l[i] := by simp [rd_T69, List.getD_eq_getElem?_getD, h]
theorem rdL_eq (l : List (List Int)) (i : Nat) (h : i < l.length) : rd_L14 l (i : Int) = l[i] := by simp [rd_L14, List.getD_eq_getElem?_getD, h]
theorem in_l0 (l : List Int) (x : Int) (hl : l.length < 9000000000000000000) : ∀ (m i : Nat), i + m = l.length → Ev (fun k => carcanetref03_In.l0 k l x i) (decide (x ∈ l.drop i))
  | 0, i, h => by
    refine Ev.step (f := fun _ => some _) (fun k => ?_) (Ev.now _)
    simp only [carcanetref03_In.l0]
    rw [if_neg (by omega), List.drop_of_length_le (by omega)]
    simp
  | m + 1, i, h => by
    have hi : i < l.length := by omega
    by_cases e : l[i] = x
    · refine Ev.step (f := fun _ => some _) (fun k => ?_) (Ev.now _)
      simp only [carcanetref03_In.l0]
      rw [if_pos (by omega), if_pos (by omega), rd_eq l i hi, if_pos e, List.drop_eq_getElem_cons hi, e]
      simp
    · refine Ev.step (f := fun k => carcanetref03_In.l0 k l x (i + 1 : Nat)) (fun k => ?_) ?_
      · simp only [carcanetref03_In.l0]
        rw [if_pos (by omega), if_pos (by omega), rd_eq l i hi, if_neg e, wrap_in (by omega) (by omega)]
        rfl
      · have := in_l0 l x hl m (i + 1) (by omega)
        have e2 : decide (x ∈ l.drop i) = decide (x ∈ l.drop (i + 1)) := by
          have e3 : (x ∈ l.drop i) ↔ x ∈ l.drop (i + 1) := by
            rw [List.drop_eq_getElem_cons hi, List.mem_cons]
            simp [Ne.symm e]
          simp only [e3]
        rw [e2]
        exact this
theorem in_ev (l : List Int) (x : Int) (hl : l.length < 9000000000000000000) : Ev (fun k => carcanetref03_In.f k l x) (decide (x ∈ l)) := by
  simpa [carcanetref03_In.f] using in_l0 l x hl l.length 0 (by omega)
structure UpInv (n : Nat) (up : List (List Int)) (done : List S69) : Prop where
  len : up.length = n
  nodup : ∀ a (h : a < up.length), (up[a]).Nodup
  mem : ∀ a (h : a < up.length) (b : Int), b ∈ up[a] ↔ ∃ y ∈ done, y.f0 ≠ y.f1 ∧ min y.f0 y.f1 = a ∧ max y.f0 y.f1 = b
  sum : up.flatten.length ≤ done.length
theorem flatten_set (up : List (List Int)) (a : Nat) (h : a < up.length) (x : Int) : (up.set a (up[a] ++ [x])).flatten.length = up.flatten.length + 1 := by
  induction up generalizing a with
  | nil => simp at h
  | cons r up ih =>
    cases a with
    | zero => simp; omega
    | succ a =>
      have := ih a (by simpa using h)
      simp only [List.set_cons_succ, List.flatten_cons, List.length_append, List.getElem_cons_succ]
      rw [this]
      omega
theorem row_le (up : List (List Int)) (a : Nat) (h : a < up.length) : (up[a]).length ≤ up.flatten.length := by
  induction up generalizing a with
  | nil => simp at h
  | cons r up ih =>
    cases a with
    | zero => simp
    | succ a =>
      have := ih a (by simpa using h)
      simp only [List.flatten_cons, List.length_append, List.getElem_cons_succ]
      omega
theorem mn_eq (a b : Int) : mn a b = min a b := by unfold mn; omega
theorem mx_eq (a b : Int) : mx a b = max a b := by unfold mx; omega
theorem up_skip {n : Nat} {up : List (List Int)} {done : List S69} {x : S69} (h : UpInv n up done) (hx : x.f0 = x.f1 ∨ ∃ (a : Nat) (ha : a < up.length), min x.f0 x.f1 = a ∧ max x.f0 x.f1 ∈ up[a]) : UpInv n up (done ++ [x]) := by
  refine ⟨h.len, h.nodup, fun a ha b => ?_, by have := h.sum; simp at this ⊢; omega⟩
  rw [h.mem a ha b]
  constructor
  · rintro ⟨y, hy, r⟩; exact ⟨y, by simp [hy], r⟩
  · rintro ⟨y, hy, r⟩
    rcases List.mem_append.1 hy with hy | hy
    · exact ⟨y, hy, r⟩
    · obtain rfl : y = x := by simpa using hy
      rcases hx with e | ⟨a', ha', e1, e2⟩
      · exact absurd e r.1
      · obtain rfl : a' = a := by have := r.2.1; omega
        rw [r.2.2] at e2
        exact (h.mem a' ha b).1 e2
theorem up_put {n : Nat} {up : List (List Int)} {done : List S69} {x : S69} (h : UpInv n up done) (hne : x.f0 ≠ x.f1) (a : Nat) (ha : a < up.length) (e1 : min x.f0 x.f1 = a) (e2 : max x.f0 x.f1 ∉ up[a]) :
    UpInv n (up.set a (up[a] ++ [max x.f0 x.f1])) (done ++ [x]) := by
  refine ⟨by simpa using h.len, fun c hc => ?_, fun c hc b => ?_, by rw [flatten_set]; have := h.sum; simp at this ⊢; omega⟩
  · rw [List.getElem_set]
    split
    · rw [List.nodup_append]
      exact ⟨h.nodup a ha, by simp, fun u hu v hv => by simp at hv; subst hv; exact fun e => e2 (e ▸ hu)⟩
    · exact h.nodup c (by simpa using hc)
  · have hc' : c < up.length := by simpa using hc
    rw [List.getElem_set]
    by_cases e : a = c
    · subst e
      rw [if_pos rfl, List.mem_append, h.mem a ha b]
      constructor
      · rintro (⟨y, hy, r⟩ | hb)
        · exact ⟨y, by simp [hy], r⟩
        · exact ⟨x, by simp, hne, e1, by simpa [eq_comm] using hb⟩
      · rintro ⟨y, hy, r⟩
        rcases List.mem_append.1 hy with hy | hy
        · exact .inl ⟨y, hy, r⟩
        · obtain rfl : y = x := by simpa using hy
          right; rw [r.2.2]; simp
    · rw [if_neg e, h.mem c hc' b]
      constructor
      · rintro ⟨y, hy, r⟩; exact ⟨y, by simp [hy], r⟩
      · rintro ⟨y, hy, r⟩
        rcases List.mem_append.1 hy with hy | hy
        · exact ⟨y, hy, r⟩
        · obtain rfl : y = x := by simpa using hy
          have := r.2.1
          omega
def outE (up : List (List Int)) (a : Nat) : List S69 := (sortedR (up.getD a [])).map fun b => ⟨(a : Int), b⟩
def allOut (up : List (List Int)) : Nat → Nat → List S69
  | _, 0 => []
  | a, m + 1 => outE up a ++ allOut up (a + 1) m
theorem allOut_mem (up : List (List Int)) (x : S69) : ∀ (m a : Nat), x ∈ allOut up a m ↔ ∃ c : Nat, a ≤ c ∧ c < a + m ∧ x.f0 = c ∧ x.f1 ∈ up.getD c []
  | 0, a => by simp [allOut]; intro c h1 h2; omega
  | m + 1, a => by
    rw [allOut, List.mem_append, allOut_mem up x m (a + 1), outE, List.mem_map]
    constructor
    · rintro (⟨b, hb, rfl⟩ | ⟨c, h1, h2, h3⟩)
      · exact ⟨a, by omega, by omega, rfl, ((sortedR_spec _).1.mem_iff).1 hb⟩
      · exact ⟨c, by omega, by omega, h3⟩
    · rintro ⟨c, h1, h2, h3, h4⟩
      by_cases e : c = a
      · subst e
        left
        exact ⟨x.f1, ((sortedR_spec _).1.mem_iff).2 h4, by cases x; simp at h3; simp [h3]⟩
      · exact .inr ⟨c, by omega, by omega, h3, h4⟩
theorem allOut_sorted (up : List (List Int)) (hnd : ∀ c, (up.getD c []).Nodup) : ∀ (m a : Nat), (allOut up a m).Pairwise ltP
  | 0, a => by simp [allOut]
  | m + 1, a => by
    rw [allOut, List.pairwise_append]
    refine ⟨?_, allOut_sorted up hnd m (a + 1), fun x hx y hy => ?_⟩
    · rw [outE, List.pairwise_map]
      have h1 := (sortedR_spec (up.getD a [])).2
      have h2 : (sortedR (up.getD a [])).Nodup := (sortedR_spec (up.getD a [])).1.nodup_iff.2 (hnd a)
      refine (h1.and h2).imp ?_
      rintro u v ⟨h3, h4⟩
      have h5 : u ≠ v := h4
      have h6 : u ≤ v := h3
      exact .inr ⟨rfl, show u < v by omega⟩
    · rw [outE, List.mem_map] at hx
      obtain ⟨b, _, rfl⟩ := hx
      obtain ⟨c, h1, _, h3, _⟩ := (allOut_mem up y m (a + 1)).1 hy
      unfold ltP
      simp only
      omega
theorem norm_l2 (n : Int) (up : List (List Int)) (a : Nat) (row : List Int) (hr : row.length ≤ 4000) (u : Int) (r : Int × List S69 × Int) : ∀ (m j : Nat) (out : List S69), j + m = row.length → out.length + m ≤ 1000000 →
    Ev (fun k => carcanetref03_Normal.l1 k n up (a + 1 : Nat) u (out ++ (row.drop j).map fun b => ⟨(a : Int), b⟩)) r → (a : Int) ≤ 1000 → Ev (fun k => carcanetref03_Normal.l2 k n up a row j u out) r
  | 0, j, out, h, ho, hk, ha => by
    refine Ev.step (fun k => ?_) hk
    simp only [carcanetref03_Normal.l2]
    rw [if_neg (by omega), List.drop_of_length_le (by omega), wrap_in (by omega) (by omega)]
    simp
  | m + 1, j, out, h, ho, hk, ha => by
    have hj : j < row.length := by omega
    refine Ev.step (f := fun k => carcanetref03_Normal.l2 k n up a row (j + 1 : Nat) u (out ++ [⟨(a : Int), row[j]⟩])) (fun k => ?_) ?_
    · simp only [carcanetref03_Normal.l2]
      rw [if_pos (by omega), if_pos (by omega), if_pos (by omega), wrap_in (by omega) (by omega), rd_eq row j hj]
      rfl
    · refine norm_l2 n up a row hr u r m (j + 1) _ (by omega) (by simp; omega) ?_ ha
      rw [List.drop_eq_getElem_cons hj, List.map_cons] at hk
      rw [List.append_assoc, List.singleton_append]
      exact hk
theorem norm_l1 (n : Nat) (hn : n ≤ 1000) (up : List (List Int)) (hup : up.length = n) (hs : up.flatten.length ≤ 4000) (u : Int) : ∀ (m a : Nat) (out : List S69), a + m = n → out.length + (up.drop a).flatten.length ≤ 4000 →
    Ev (fun k => carcanetref03_Normal.l1 k n up a u out) (u, out ++ allOut up a m, 0)
  | 0, a, out, h, ho => by
    refine Ev.step (f := fun _ => some _) (fun k => ?_) (Ev.now _)
    simp only [carcanetref03_Normal.l1]
    rw [if_neg (by omega), if_neg (by omega)]
    simp [allOut]
  | m + 1, a, out, h, ho => by
    have ha : a < up.length := by omega
    have hrow : (up[a]).length ≤ 4000 := Nat.le_trans (row_le up a ha) hs
    have hg : up.getD a [] = up[a] := by simp [List.getD_eq_getElem?_getD, ha]
    rw [List.drop_eq_getElem_cons ha, List.flatten_cons, List.length_append] at ho
    refine Ev.step (f := fun k => carcanetref03_Normal.l2 k n up a (sortedR up[a]) (0 : Nat) u out) (fun k => ?_) ?_
    · simp only [carcanetref03_Normal.l1]
      rw [if_pos (by omega), if_pos (by omega), if_pos (by omega), rdL_eq up a ha, carcanetref03_Sorted.f, if_pos (by omega)]
      rfl
    · refine norm_l2 n up a (sortedR up[a]) (by rw [sortedR_len]; omega) u _ (sortedR up[a]).length 0 out (by omega) (by rw [sortedR_len]; omega) ?_ (by omega)
      have := norm_l1 n hn up hup hs u m (a + 1) (out ++ (sortedR up[a]).map fun b => ⟨(a : Int), b⟩) (by omega) (by simp [sortedR_len]; simp at ho; omega)
      rw [allOut, outE, hg]
      simpa using this
theorem norm_l0 (n : Nat) (hn : n ≤ 1000) (l : List S69) (hl : l.length ≤ 4000) (hok : ∀ y ∈ l, 0 ≤ y.f0 ∧ y.f0 < n ∧ 0 ≤ y.f1 ∧ y.f1 < n) (r : Int × List S69 × Int)
    (hk : ∀ up, UpInv n up l → Ev (fun k => carcanetref03_Normal.l1 k n up 0 n []) r) : ∀ (m i : Nat) (up : List (List Int)), i + m = l.length → UpInv n up (l.take i) → Ev (fun k => carcanetref03_Normal.l0 k n l up i) r
  | 0, i, up, h, hu => by
    rw [List.take_of_length_le (by omega)] at hu
    refine Ev.step (fun k => ?_) (hk up hu)
    simp only [carcanetref03_Normal.l0]
    rw [if_neg (by omega)]
  | m + 1, i, up, h, hu => by
    have hi : i < l.length := by omega
    obtain ⟨x, hx⟩ : ∃ x, l[i] = x := ⟨_, rfl⟩
    have hb := hok l[i] (List.getElem_mem hi)
    rw [hx] at hb
    have ht : l.take (i + 1) = l.take i ++ [x] := by rw [List.take_succ_eq_append_getElem hi, hx]
    refine Ev.step (f := fun k => carcanetref03_Normal.j1 k n l up i x.f0 x.f1 false) (fun k => ?_) ?_
    · simp only [carcanetref03_Normal.l0]
      rw [if_pos (by omega), if_pos (by omega), rdE_eq l i hi, hx, if_neg (by omega), if_neg (by omega), if_neg (by omega), decide_eq_false (by omega)]
    · by_cases e : x.f0 = x.f1
      · refine Ev.step (f := fun k => carcanetref03_Normal.l0 k n l up (i + 1 : Nat)) (fun k => ?_) ?_
        · simp only [carcanetref03_Normal.j1]
          rw [if_neg (by decide), if_pos e, wrap_in (by omega) (by omega)]
          rfl
        · exact norm_l0 n hn l hl hok r hk m (i + 1) up (by omega) (by rw [ht]; exact up_skip hu (.inl e))
      · obtain ⟨a, ha⟩ : ∃ a : Nat, min x.f0 x.f1 = a := ⟨(min x.f0 x.f1).toNat, by omega⟩
        have hal : a < up.length := by rw [hu.len]; omega
        have hrow : (up[a]).length ≤ 4000 := Nat.le_trans (row_le up a hal) (Nat.le_trans hu.sum (by rw [List.length_take]; omega))
        have hin := in_ev up[a] (max x.f0 x.f1) (by omega)
        refine Ev.step (f := fun k => (carcanetref03_In.f k up[a] (max x.f0 x.f1)).bind fun t => if t = true then carcanetref03_Normal.l0 k n l up (i + 1 : Nat) else carcanetref03_Normal.l0 k n l (up.set a (up[a] ++ [max x.f0 x.f1])) (i + 1 : Nat)) (fun k => ?_) ?_
        · simp only [carcanetref03_Normal.j1]
          rw [if_neg (by decide), if_neg e, mn_eq, mx_eq, ha, if_pos (by omega), if_pos (by omega), rdL_eq up a hal, if_pos (by omega), wrap_in (by omega) (by omega)]
          rfl
        · refine Ev.bind hin ?_
          by_cases c : max x.f0 x.f1 ∈ up[a]
          · simp only [decide_eq_true c, if_true]
            exact norm_l0 n hn l hl hok r hk m (i + 1) up (by omega) (by rw [ht]; exact up_skip hu (.inr ⟨a, hal, ha, c⟩))
          · simp only [decide_eq_false c, if_false, Bool.false_eq_true]
            exact norm_l0 n hn l hl hok r hk m (i + 1) _ (by omega) (by rw [ht]; exact up_put hu e a hal ha c)
theorem ref_norm (n : Int) (l : List S69) (h0 : 0 ≤ n) (h1 : n ≤ 1000) (hl : l.length ≤ 4000) (hok : ∀ y ∈ l, 0 ≤ y.f0 ∧ y.f0 < n ∧ 0 ≤ y.f1 ∧ y.f1 < n) : Ev (fun k => carcanetref03_Normal.f k n l) (normG n l) := by
  obtain ⟨N, rfl⟩ : ∃ N : Nat, n = N := ⟨n.toNat, by omega⟩
  obtain ⟨E, he, hr, hm, hlen⟩ := norm_ok N l h0 h1 hl hok
  rw [he]
  refine Ev.congr (f := fun k => carcanetref03_Normal.l0 k N l (List.replicate N []) (0 : Nat)) (fun k => ?_) ?_
  · rw [carcanetref03_Normal.f, if_neg (by omega), if_neg (by omega), if_pos (by omega), if_pos (by omega)]
    rfl
  · refine norm_l0 N (by omega) l hl hok _ (fun up hu => ?_) l.length 0 _ (by omega) ⟨by simp, by simp, by simp, by simp⟩
    have hs : up.flatten.length ≤ 4000 := Nat.le_trans hu.sum hl
    have := norm_l1 N (by omega) up hu.len hs N N 0 [] (by omega) (by simpa using hs)
    have e : E = allOut up 0 N := by
      refine sorted_ext ((right_iff _ _).1 hr).2.2 (allOut_sorted up (fun c => ?_) N 0) (fun x => ?_)
      · by_cases hc : c < up.length
        · have := hu.nodup c hc
          simpa [List.getD_eq_getElem?_getD, hc] using this
        · simp [List.getD_eq_getElem?_getD, hc]
      · rw [hm, allOut_mem]
        constructor
        · rintro ⟨y, hy, hne, rfl⟩
          have hb := hok y hy
          refine ⟨(min y.f0 y.f1).toNat, by omega, by omega, by simp only; omega, ?_⟩
          have hc : (min y.f0 y.f1).toNat < up.length := by rw [hu.len]; omega
          rw [List.getD_eq_getElem?_getD, List.getElem?_eq_getElem hc]
          exact (hu.mem _ hc _).2 ⟨y, hy, hne, by omega, rfl⟩
        · rintro ⟨c, _, h2, h3, h4⟩
          have hc : c < up.length := by rw [hu.len]; omega
          rw [List.getD_eq_getElem?_getD, List.getElem?_eq_getElem hc] at h4
          obtain ⟨y, hy, hne, e1, e2⟩ := (hu.mem c hc _).1 h4
          exact ⟨y, hy, hne, by cases x; simp at h3 e2; simp [h3, e1, e2]⟩
    rw [e]
    simpa using this
theorem and_range (x : Int) : 0 ≤ Go.bits .and .i64 x 65535 ∧ Go.bits .and .i64 x 65535 ≤ 65535 := by
  have h : ((BitVec.ofInt 64 x) &&& (BitVec.ofInt 64 65535)).toNat ≤ 65535 := by
    rw [BitVec.toNat_and]
    exact Nat.le_trans Nat.and_le_right (by decide)
  have e : Go.bits .and .i64 x 65535 = IntKind.i64.wrap (((BitVec.ofInt 64 x) &&& (BitVec.ofInt 64 65535)).toNat : Int) := rfl
  rw [e, IntWalk.i64_in _ (by omega)]
  omega
theorem any_l0 (N : Nat) (hN : N ≤ 1000) (l : List S69) : ∀ (m i : Nat) (out : List S69), i + m = 300 → out.length ≤ i → (∀ y ∈ out, 0 ≤ y.f0 ∧ y.f0 < N ∧ 0 ≤ y.f1 ∧ y.f1 < N) →
    ∃ E, rightB N E = true ∧ E.length ≤ 300 ∧ Ev (fun k => carcanetref03_Any.l0 k N l out i) ((N : Int), E) := by
  have fin : ∀ (out : List S69), out.length ≤ 300 → (∀ y ∈ out, 0 ≤ y.f0 ∧ y.f0 < N ∧ 0 ≤ y.f1 ∧ y.f1 < N) → ∃ E, rightB N E = true ∧ E.length ≤ 300 ∧ Ev (fun k => (carcanetref03_Normal.f k N out).bind fun bt => some (bt.1, bt.2.1)) ((N : Int), E) := fun out ho hok => by
    obtain ⟨E, he, hr, _, hlen⟩ := norm_ok N out (by omega) (by omega) (by omega) hok
    refine ⟨E, hr, by omega, ?_⟩
    refine Ev.bind (ref_norm N out (by omega) (by omega) (by omega) hok) ?_
    rw [he]
    exact Ev.now _
  intro m
  induction m with
  | zero =>
    intro i out h ho hok
    obtain ⟨E, h1, h2, h3⟩ := fin out (by omega) hok
    refine ⟨E, h1, h2, Ev.step (fun k => ?_) h3⟩
    simp only [carcanetref03_Any.l0]
    by_cases c : (i : Int) < l.length
    · rw [if_pos c, if_neg (by omega)]
    · rw [if_neg c]
  | succ m ih =>
    intro i out h ho hok
    by_cases c : (i : Int) < l.length
    · by_cases c2 : 0 < N
      · obtain ⟨E, h1, h2, h3⟩ := ih (i + 1) (out ++ [⟨Int.tmod (Go.bits .and .i64 ((rd_T69 l i).f0) 65535) N, Int.tmod (Go.bits .and .i64 ((rd_T69 l i).f1) 65535) N⟩]) (by omega) (by simp; omega) (fun y hy => by
          rcases List.mem_append.1 hy with hy | hy
          · exact hok y hy
          · obtain rfl : y = _ := by simpa using hy
            have a1 := and_range (rd_T69 l i).f0
            have a2 := and_range (rd_T69 l i).f1
            simp only
            rw [Int.tmod_eq_emod_of_nonneg a1.1, Int.tmod_eq_emod_of_nonneg a2.1]
            refine ⟨Int.emod_nonneg _ (by omega), Int.emod_lt_of_pos _ (by omega), Int.emod_nonneg _ (by omega), Int.emod_lt_of_pos _ (by omega)⟩)
        refine ⟨E, h1, h2, Ev.step (fun k => ?_) h3⟩
        simp only [carcanetref03_Any.l0]
        rw [if_pos c, if_pos (by omega), if_pos (by omega), if_pos (by omega), if_neg (by omega), if_pos (by omega), wrap_in (by omega) (by omega)]
        rfl
      · obtain ⟨E, h1, h2, h3⟩ := fin out (by omega) hok
        refine ⟨E, h1, h2, Ev.step (fun k => ?_) h3⟩
        simp only [carcanetref03_Any.l0]
        rw [if_pos c, if_pos (by omega), if_neg (by omega)]
    · obtain ⟨E, h1, h2, h3⟩ := fin out (by omega) hok
      refine ⟨E, h1, h2, Ev.step (fun k => ?_) h3⟩
      simp only [carcanetref03_Any.l0]
      rw [if_neg c]
theorem ref_of (n : Int) (l : List S69) (most : Int) (h0 : 0 ≤ most) (h1 : most ≤ 900) : ∃ N E, 0 ≤ N ∧ N ≤ most ∧ rightB N E = true ∧ E.length ≤ 300 ∧ Ev (fun k => carcanetref03_Of.f k n l most) (N, E) := by
  have a1 := and_range n
  have e1 : Int.tmod (Go.bits .and .i64 n 65535) (most + 1) = Go.bits .and .i64 n 65535 % (most + 1) := Int.tmod_eq_emod_of_nonneg a1.1
  have e2 := Int.emod_nonneg (Go.bits .and .i64 n 65535) (show most + 1 ≠ 0 by omega)
  have e3 := Int.emod_lt_of_pos (Go.bits .and .i64 n 65535) (show 0 < most + 1 by omega)
  obtain ⟨N, hN⟩ : ∃ N : Nat, Go.bits .and .i64 n 65535 % (most + 1) = N := ⟨_, (Int.toNat_of_nonneg e2).symm⟩
  obtain ⟨E, h2, h3, h4⟩ := any_l0 N (by omega) l 300 0 [] (by omega) (by simp) (by simp)
  refine ⟨N, E, by omega, by omega, h2, h3, ?_⟩
  simp only [carcanetref03_Of.f, carcanetref03_Any.f]
  refine Ev.bind (a := ((N : Int), E)) ?_ (Ev.now _)
  refine Ev.congr (fun k => ?_) h4
  rw [wrap_in (by omega) (by omega), if_neg (by omega), e1, hN]
  rfl
end Go.Proofs.Ytkemhnfaheplhaa.F
namespace Go.Proofs.Ytkemhnfaheplhaa.F
open Go.RowKit Go.Proofs.YtkemhnfaheplhaaW.PrintWords Go.Proofs.YtkemhnfaheplhaaW.PrintLast Go.Proofs.YtkemhnfaheplhaaW.PrintMore
set_option linter.unusedVariables false
set_option linter.unusedSimpArgs false
theorem has_mono {N : Int} {E E' : List S69} (hr : rightB N E' = true) (hs : ∀ x ∈ E, x ∈ E') {a b : Int} (h : hasB N E a b = true) : hasB N E' a b = true := by
  have hE : rightB N E = true := by simp [hasB] at h; exact h.1
  rw [has_iff hE] at h
  rw [has_iff hr]
  exact h.imp (hs _) (hs _)
theorem steps_mono {N : Int} {E E' : List S69} (hr : rightB N E' = true) (hs : ∀ x ∈ E, x ∈ E') (p : List Int) : ∀ (n i : Nat), stepsB N E p i n = true → stepsB N E' p i n = true
  | 0, i, h => by simp [stepsB]
  | n + 1, i, h => by
    simp only [stepsB, Bool.and_eq_true] at h ⊢
    exact ⟨has_mono hr hs h.1, steps_mono hr hs p n (i + 1) h.2⟩
theorem isPath_mono {N : Int} {E E' : List S69} (hr : rightB N E' = true) (hs : ∀ x ∈ E, x ∈ E') {p : List Int} (h : isPathB N E p = true) : isPathB N E' p = true := by
  simp only [isPathB, Bool.and_eq_true] at h ⊢
  obtain ⟨⟨⟨⟨⟨_, h1⟩, h2⟩, h3⟩, h4⟩, h5⟩ := h
  exact ⟨⟨⟨⟨⟨hr, h1⟩, h2⟩, h3⟩, h4⟩, steps_mono hr hs p _ _ h5⟩
theorem checkFrom_mono {N : Int} {E E' : List S69} (hr : rightB N E' = true) (hs : ∀ x ∈ E, x ∈ E') (k : Int) (tops : List Int) : ∀ (l : List (List Int)) (i : Nat), checkFrom N E k tops i l = true → checkFrom N E' k tops i l = true
  | [], i, h => by simp [checkFrom]
  | p :: r, i, h => by
    simp only [checkFrom, checkOne, Bool.and_eq_true] at h ⊢
    obtain ⟨⟨⟨⟨⟨h1, h2⟩, h3⟩, h4⟩, h5⟩, h6⟩ := h
    exact ⟨⟨⟨⟨⟨isPath_mono hr hs h1, h2⟩, h3⟩, h4⟩, h5⟩, checkFrom_mono hr hs k tops r (i + 1) h6⟩
theorem topo_mono {N : Int} {E E' : List S69} (hr : rightB N E' = true) (hs : ∀ x ∈ E, x ∈ E') {k : Int} {tops : List Int} {paths : List (List Int)} (h : topoB N E k tops paths = true) : topoB N E' k tops paths = true := by
  simp only [topoB, Bool.and_eq_true] at h ⊢
  obtain ⟨⟨⟨⟨h1, h2⟩, h3⟩, h4⟩, h5⟩ := h
  exact ⟨⟨⟨⟨h1, h2⟩, h3⟩, checkFrom_mono hr hs k tops paths 0 h4⟩, h5⟩
theorem norm_add {N : Int} {E : List S69} (hr : rightB N E = true) (hl : E.length ≤ 3000) {a b : Int} (ha : 0 ≤ a ∧ a < N) (hb : 0 ≤ b ∧ b < N) : ∃ E', normG N (E ++ [⟨a, b⟩]) = (N, E', 0) ∧ rightB N E' = true ∧ (∀ x ∈ E, x ∈ E') ∧ E'.length ≤ E.length + 1 := by
  obtain ⟨⟨h0, h1, _⟩, hin, _⟩ := (right_iff N E).1 hr
  obtain ⟨E', e1, e2, e3, e4⟩ := norm_ok N (E ++ [⟨a, b⟩]) h0 h1 (by simp; omega) (fun y hy => by
    rcases List.mem_append.1 hy with hy | hy
    · have := hin y hy; unfold inE at this; omega
    · obtain rfl : y = ⟨a, b⟩ := by simpa using hy
      exact ⟨ha.1, ha.2, hb.1, hb.2⟩)
  refine ⟨E', e1, e2, fun x hx => (e3 x).2 ⟨x, by simp [hx], ?_⟩, by simpa using e4⟩
  have := hin x hx
  unfold inE at this
  refine ⟨by omega, ?_⟩
  cases x
  simp at this ⊢
  omega
end Go.Proofs.Ytkemhnfaheplhaa.F
