/-
  Fcarcanetlaw09small: a function's answer, or words of the walks.
  FgraphAdd: a function's answer, or words of the walks.
  law09's cut of a subdivision: few and short rows. And Add, in plain words.
  The statement TopoGrows, walked: it returns true.
  Arguments opened: rows of numbers, of edges, rows of rows; structs of them.
-/
import Derived.Test.YtkemhnfaheplhaaTopoGrows1
import Derived.Test.YtkemhnfaheplhaaTopoGrows3
import Derived.Test.YtkemhnfaheplhaaTopoGrows6
import Derived.Test.YtkemhnfaheplhaaTopoGrows7
import Derived.Lib.SmallJoins
import Derived.Deep.Matrix
import Derived.Deep.SlicePairs
import Derived.Laws.IdiomArrays
import Derived.WalkKit
import Derived.ProofKit
import Derived.OpenShut
import Derived.ChangeOld
import Derived.Below
import Derived.SizedLaws
namespace Go.Proofs.Ytkemhnfaheplhaa.F
open Go.RowKit Go.Proofs.YtkemhnfaheplhaaW.PrintWords Go.Proofs.YtkemhnfaheplhaaW.PrintLast Go.Proofs.YtkemhnfaheplhaaW.PrintMore
attribute [local go_sem] max2_int min2_int max_two min_two max_three min_three max_four min_four
set_option linter.unusedVariables false
set_option linter.unusedSimpArgs false
def carcanetlaw09_small.l0 : Nat → Int → Int → List Int → List (List Int) → Int → List Int → List (List Int) → Option (Int × List Int × (List (List Int)))
  | 0, _, _, _, _, _, _, _ => none
  | k + 1, x4, x102000, x102001, x102002, x111000, x111001, x111002 => if x4 < (x102002.length : Int) then (if x4 < 8 then ((some (([] : List Int) : List Int)).bind fun y111 => (if 0 ≤ x4 then (if 0 ≤ (mn ((rd_L14 x102002 x4).length : Int) 20) then (if (mn ((rd_L14 x102002 x4).length : Int) 20) ≤ ((rd_L14 x102002 x4).length : Int) then (if y111.length + ((rd_L14 x102002 x4).take ((mn ((rd_L14 x102002 x4).length : Int) 20) : Int).toNat).length < 17592186044416 then (if x111002.length < 5864062014805 then (carcanetlaw09_small.l0 k (wrap64 (x4 + 1)) x102000 x102001 x102002 x111000 x111001 (x111002 ++ [(y111 ++ ((rd_L14 x102002 x4).take ((mn ((rd_L14 x102002 x4).length : Int) 20) : Int).toNat))])) else (none)) else (none)) else (none)) else (none)) else (none))) else (some (x111000, x111001, x111002))) else (some (x111000, x111001, x111002))
def carcanetlaw09_small.f (k : Nat) (a0_0 : Int) (l0_1 : List Int) (l0_2 : List (List Int)) : Option (Int × List Int × (List (List Int))) := (some (([] : List Int) : List Int)).bind fun y103 => (if 0 ≤ (mn (l0_1.length : Int) 6) then (if (mn (l0_1.length : Int) 6) ≤ (l0_1.length : Int) then (if y103.length + (l0_1.take ((mn (l0_1.length : Int) 6) : Int).toNat).length < 17592186044416 then (carcanetlaw09_small.l0 k 0 a0_0 l0_1 l0_2 a0_0 (y103 ++ (l0_1.take ((mn (l0_1.length : Int) 6) : Int).toNat)) ([] : List (List Int))) else (none)) else (none)) else (none))
theorem carcanetlaw09_small.mono_l : ∀ k, (∀ y0 y1 y2 y3 y4 y5 y6, LeO (carcanetlaw09_small.l0 k y0 y1 y2 y3 y4 y5 y6) (carcanetlaw09_small.l0 (k + 1) y0 y1 y2 y3 y4 y5 y6))
  | 0 => fun _ _ _ _ _ _ _ r h => by simp [carcanetlaw09_small.l0] at h
  | k + 1 => by
    have ih0 := carcanetlaw09_small.mono_l k
    · intro y0 y1 y2 y3 y4 y5 y6
      unfold carcanetlaw09_small.l0
      repeat' first
      | (with_reducible exact ih0 _ _ _ _ _ _ _)
      | (with_reducible exact LeO.refl _)
      | (with_reducible exact LeO.none _)
      | (with_reducible refine LeO.ite ?_ ?_)
      | (with_reducible refine LeO.bind ?_ (fun _ => ?_))
      | exact ih0 _ _ _ _ _ _ _
      | exact LeO.none _
      | refine LeO.ite ?_ ?_
      | refine LeO.bind ?_ (fun _ => ?_)
theorem carcanetlaw09_small.mono : ∀ a0 a1 a2 k, LeO (carcanetlaw09_small.f k a0 a1 a2) (carcanetlaw09_small.f (k + 1) a0 a1 a2) := by
  intro a0 a1 a2 k
  have ih0 := carcanetlaw09_small.mono_l k
  unfold carcanetlaw09_small.f
  repeat' first
      | (with_reducible exact ih0 _ _ _ _ _ _ _)
      | (with_reducible exact LeO.refl _)
      | (with_reducible exact LeO.none _)
      | (with_reducible refine LeO.ite ?_ ?_)
      | (with_reducible refine LeO.bind ?_ (fun _ => ?_))
      | exact ih0 _ _ _ _ _ _ _
      | exact LeO.none _
      | refine LeO.ite ?_ ?_
      | refine LeO.bind ?_ (fun _ => ?_)
def carcanetlaw09_small.T1 : Bool × List (List Nat × List Nat) := (true, [([], []), ([0], [0]), ([], []), ([], []), ([3], [3]), ([], []), ([5], [5]), ([6], [6]), ([7], [7]), ([4, 8], [4, 8]), ([2, 9], [2, 9]), ([1, 10], [1, 10]), ([], []), ([12, 11, 10, 0, 1, 2, 3, 4, 5, 6, 7, 8, 9, 10, 11, 12], [11, 12])])
def carcanetlaw09_small.B1 : List Nat := [0, 1, 0, 0, 8, 0, 32, 96, 224, 504, 1020, 2047, 0, 8191]
theorem carcanetlaw09_small.tab1 : rtab .any (opsOf Try.f19 1) = carcanetlaw09_small.T1 := by kernel_rfl
theorem carcanetlaw09_small.bits1 : waitsOk carcanetlaw09_small.T1.2 carcanetlaw09_small.B1 = true := by kernel_rfl
def carcanetlaw09_small.T5 : Bool × List (List Nat × List Nat) := (true, [([], []), ([0], [0]), ([], []), ([], []), ([3], [3]), ([], []), ([4, 5], [4, 5]), ([6], [6]), ([], []), ([8], [8]), ([], []), ([9, 10], [9, 10]), ([11], [11]), ([12], [12]), ([13], [13]), ([7, 14], [7, 14]), ([2, 15], [2, 15]), ([16], [16]), ([1, 17, 16], [1, 17]), ([0, 1, 2, 3, 4, 5, 6, 7, 8, 9, 10, 11, 12, 13, 14, 15, 16, 17, 18], []), ([19, 18, 18, 0, 1, 2, 3, 4, 5, 6, 7, 8, 9, 10, 11, 12, 13, 14, 15, 16, 17, 18], [18, 19])])
def carcanetlaw09_small.B5 : List Nat := [0, 1, 0, 0, 8, 0, 56, 120, 0, 256, 0, 1792, 3840, 7936, 16128, 32760, 65532, 131068, 262143, 524287, 1048575]
theorem carcanetlaw09_small.tab5 : rtab .any (opsOf Try.f19 5) = carcanetlaw09_small.T5 := by kernel_rfl
theorem carcanetlaw09_small.bits5 : waitsOk carcanetlaw09_small.T5.2 carcanetlaw09_small.B5 = true := by kernel_rfl
set_option maxHeartbeats 8000000 in
set_option maxRecDepth 100000 in
theorem carcanetlaw09_small.calls (k : Nat) (a0_0 : Int) (A0_1 : Option Addr) (c0_1 : Nat) (l0_1 : List Int) (A0_2 : Option Addr) (c0_2 : Nat) (l0_2 : List (List Int)) (r1 : Int) (r2 : List Int) (r3 : List (List Int)) (w : World) (hr0_1 : Kd.C (Kd.int .i64) w A0_1 l0_1.length l0_1) (hc0_1 : l0_1.length ≤ c0_1) (hr0_2 : Kd.C (Kd.slice 3 (Kd.int .i64)) w A0_2 l0_2.length l0_2) (hc0_2 : l0_2.length ≤ c0_2) (h : carcanetlaw09_small.f k a0_0 l0_1 l0_2 = some (r1, r2, r3)) :
    Calls Try.prog 19 #[.agg #[.int .i64 a0_0, .slice A0_1 l0_1.length c0_1, .slice A0_2 l0_2.length c0_2]] w fun e w' => ∃ v1_ v2_ : Value, e = .returned (.agg #[.int .i64 r1, v1_, v2_]) ∧ Kd.R (Kd.int .i64) 3 w' w.heap.size (fun _ => True) v1_ r2 ∧ Kd.S (Kd.slice 3 (Kd.int .i64)) 26 w' w.heap.size (fun k_ => some k_ ≠ (v1_ : Value).ownBlock) v2_ r3 ∧ Below w.heap.size w w' := by
  have hu29 := Try.underlying29
  have hu36 := Try.underlying36
  have HR0_1 := Aside0.mk hr0_1
  have HC0_1 := Aside0.mk hc0_1
  clear hr0_1 hc0_1
  have HR0_2 := Aside0.mk hr0_2
  have HC0_2 := Aside0.mk hc0_2
  clear hr0_2 hc0_2
  have HB := Aside0.mk (Below.refl w.heap.size w)
  have H : ((some (([] : List Int) : List Int)).bind fun y103 => (if 0 ≤ (mn (l0_1.length : Int) 6) then (if (mn (l0_1.length : Int) 6) ≤ (l0_1.length : Int) then (if y103.length + (l0_1.take ((mn (l0_1.length : Int) 6) : Int).toNat).length < 17592186044416 then (carcanetlaw09_small.l0 k 0 a0_0 l0_1 l0_2 a0_0 (y103 ++ (l0_1.take ((mn (l0_1.length : Int) 6) : Int).toNat)) ([] : List (List Int))) else (none)) else (none)) else (none))) = some (r1, r2, r3) := h
  clear h
  obtain ⟨y103, hy103⟩ : ∃ y_ : List Int, y_ = (([] : List Int)) := ⟨_, rfl⟩
  replace H : (if 0 ≤ (mn (l0_1.length : Int) 6) then (if (mn (l0_1.length : Int) 6) ≤ (l0_1.length : Int) then (if y103.length + (l0_1.take ((mn (l0_1.length : Int) 6) : Int).toNat).length < 17592186044416 then (carcanetlaw09_small.l0 k 0 a0_0 l0_1 l0_2 a0_0 (y103 ++ (l0_1.take ((mn (l0_1.length : Int) 6) : Int).toNat)) ([] : List (List Int))) else (none)) else (none)) else (none)) = some (r1, r2, r3) := by first | (rw [hy103]; with_reducible exact H) | (have H2_ := (Option.bind_some _ _).symm.trans H; rw [hy103]; with_reducible exact H2_) | (have H2_ := (Option.bind_some _ _).symm.trans H; with_reducible exact H2_) | with_reducible exact H | (rw [hy103]; exact H) | exact H
  have Ny103 := Aside0.mk hy103
  clear hy103
  obtain ⟨ji2, hji2⟩ : ∃ j_ : Int, (mn (l0_1.length : Int) 6) = j_ := ⟨_, rfl⟩
  replace H : (if 0 ≤ (ji2) then (if (ji2) ≤ (l0_1.length : Int) then (if y103.length + (l0_1.take ((ji2) : Int).toNat).length < 17592186044416 then (carcanetlaw09_small.l0 k 0 a0_0 l0_1 l0_2 a0_0 (y103 ++ (l0_1.take ((ji2) : Int).toNat)) ([] : List (List Int))) else (none)) else (none)) else (none)) = some (r1, r2, r3) := by first | (rw [hji2] at H; exact H) | (simp only [hji2] at H ⊢; exact H)
  (try (have hji2h : ji2 ≤ 6 := by (rw [← hji2]; unfold mn; (repeat' split) <;> omega)))
  (try (have hji2g : ji2 ≤ 64 := by omega))
  (try (have hji2l : 0 ≤ ji2 := by (rw [← hji2]; unfold mn; (repeat' split) <;> omega)))
  (try (have hji2m : 0 ≤ ji2 := by omega))
  have hji2_ : (if 6 < (l0_1.length : Int) then 6 else (l0_1.length : Int)) = ji2 := hji2
  by_cases c3 : 0 ≤ (ji2)
  · rw [if_pos c3] at H
    have c3b0 := eq_true c3
    have c3b1 : decide (0 ≤ (ji2)) = true := decide_eq_true c3
    clear c3
    by_cases c4 : (ji2) ≤ (l0_1.length : Int)
    · rw [if_pos c4] at H
      have c4b0 := eq_true c4
      have c4b1 : decide ((ji2) ≤ (l0_1.length : Int)) = true := decide_eq_true c4
      clear c4
      by_cases c5 : y103.length + (l0_1.take ((ji2) : Int).toNat).length < 17592186044416
      · rw [if_pos c5] at H
        have LMc5 := Aside0.mk c5
        clear c5
        obtain ⟨y107, hy107⟩ : ∃ y_ : List Int, y_ = (y103 ++ (l0_1.take ((ji2) : Int).toNat)) := ⟨_, rfl⟩
        replace H : (carcanetlaw09_small.l0 k 0 a0_0 l0_1 l0_2 a0_0 y107 ([] : List (List Int))) = some (r1, r2, r3) := by first | (rw [hy107]; with_reducible exact H) | (have H2_ := (Option.bind_some _ _).symm.trans H; rw [hy107]; with_reducible exact H2_) | (have H2_ := (Option.bind_some _ _).symm.trans H; with_reducible exact H2_) | with_reducible exact H | (rw [hy107]; exact H) | exact H
        have Ny107 := Aside0.mk hy107
        clear hy107
        have H' := Aside0.mk H
        clear H
        go_enter Try.func19, Try.ntmps19
        try go_wp2_with (first | ((with_reducible refine gate_dst (N := 1) rfl ?_); refine box_event ?hg (N := 1) ?hd (cs := #[.int .i64 a0_0, .slice A0_1 l0_1.length c0_1, .slice A0_2 l0_2.length c0_2]) (t := 29) ?hr ?_; (case hd => rfl); (case hg => rfl); (case hr => first | (go_simp; done) | (go_simp; rfl)); intro gb101 hg w6 hbox hb; have n0_ := Aside0.mk (below_step (by repeat (first | (with_reducible first | exact HB.out | apply below_alloc | apply pw_below_drewN | apply below_drew1) | exact HB.out)) hb); have n1_ := Aside0.mk (hbox); have n2_ := Aside0.mk ((by rw [hg]; exact (below_size (by repeat (first | (with_reducible first | exact HB.out | apply below_alloc | apply pw_below_drewN | apply below_drew1) | exact HB.out))) : w.heap.size ≤ gb101)); have n3_ := Aside0.mk ((by rw [hg]; exact (below_size (by repeat (first | (with_reducible first | exact HB.out | apply below_alloc | apply pw_below_drewN | apply below_drew1) | exact HB.out))) : w.heap.size ≤ gb101)); clear HB; have HB := n0_; have BK101 := n1_; have GW101 := n2_; have GE101 := n3_; clear n0_ n1_ n2_ n3_; clear hb hbox hg) | ((with_reducible refine gate_dst (N := 2) rfl ?_); refine box_event ?hg (N := 2) ?hd (cs := #[.int .i64 0, .slice none 0 0, .slice none 0 0]) (t := 36) ?hr ?_; (case hd => rfl); (case hg => rfl); (case hr => first | (go_simp; done) | (go_simp; rfl)); intro gb102 hg w7 hbox hb; have n0_ := Aside0.mk (blk_below (g := gb101) (o := .cells #[.int .i64 a0_0, .slice A0_1 l0_1.length c0_1, .slice A0_2 l0_2.length c0_2] 29 (0, 0)) (by (with_reducible repeat (first | refine blk_drewN ?_ _ | refine blk_drew ?_ | refine blk_alloc ?_ _)); exact BK101.out) hb); have n1_ := Aside0.mk (below_step (by repeat (first | (with_reducible first | exact HB.out | apply below_alloc | apply pw_below_drewN | apply below_drew1 | refine below_set ?_ GE101.out) | exact HB.out)) hb); have n2_ := Aside0.mk (hbox); have n3_ := Aside0.mk ((by rw [hg]; exact (below_size (by repeat (first | (with_reducible first | exact HB.out | apply below_alloc | apply pw_below_drewN | apply below_drew1 | refine below_set ?_ GE101.out) | exact HB.out))) : w.heap.size ≤ gb102)); have n4_ := Aside0.mk ((by rw [hg]; exact (below_size (by repeat (first | (with_reducible first | exact HB.out | apply below_alloc | apply pw_below_drewN | apply below_drew1 | refine below_set ?_ GE101.out) | exact HB.out))) : w.heap.size ≤ gb102)); have n5_ := Aside0.mk ((by rw [hg]; exact Nat.ne_of_lt (blk_lt (g := gb101) (o := .cells #[.int .i64 a0_0, .slice A0_1 l0_1.length c0_1, .slice A0_2 l0_2.length c0_2] 29 (0, 0)) (by (with_reducible repeat (first | refine blk_drewN ?_ _ | refine blk_drew ?_ | refine blk_alloc ?_ _)); exact BK101.out)) : gb101 ≠ gb102)); have n6_ := Aside0.mk ((by rw [hg]; exact Nat.ne_of_gt (blk_lt (g := gb101) (o := .cells #[.int .i64 a0_0, .slice A0_1 l0_1.length c0_1, .slice A0_2 l0_2.length c0_2] 29 (0, 0)) (by (with_reducible repeat (first | refine blk_drewN ?_ _ | refine blk_drew ?_ | refine blk_alloc ?_ _)); exact BK101.out)) : gb102 ≠ gb101)); clear BK101; clear HB; have BK101 := n0_; have HB := n1_; have BK102 := n2_; have GW102 := n3_; have GE102 := n4_; have NB101_102 := n5_; have NB102_101 := n6_; clear n0_ n1_ n2_ n3_ n4_ n5_ n6_; clear hb hbox hg))
        have n0_ := Aside0.mk (blk_drew BK101.out)
        have n1_ := Aside0.mk (blk_drew BK102.out)
        have n2_ := Aside0.mk (below_drew1 HB.out)
        clear BK101
        clear BK102
        clear HB
        have BK101 := n0_
        have BK102 := n1_
        have HB := n2_
        clear n0_ n1_ n2_
        obtain ⟨i09, hi09, _, hsz9, _⟩ := info_parts info3
        obtain ⟨hcut9, hA9, hC9⟩ := print_take_of (P := Try.prog) (Value.int .i64) 0 26 3 .i64 Try.underlying26 hi09 hsz9 A0_1 c0_1 l0_1 (ji2) (of_decide_eq_true (by first | (with_reducible assumption) | assumption)) (of_decide_eq_true (by first | (with_reducible assumption) | assumption)) HC0_1.out
        have HR106 := Aside0.mk (Kd.C_of_reads (h1 := fun _ => rfl) (hA9 _ (Kd.reads_of_C HR0_1.out)))
        have HC106 := Aside0.mk hC9
        clear hA9 hC9 hi09 hsz9
        refine start_ (n := 14) (S := fun w' => w'.cell? ⟨gb101, 0, none⟩ = some (.int .i64 a0_0) ∧ w'.cell? ⟨gb101, 1, none⟩ = some (.slice A0_1 l0_1.length c0_1) ∧ w'.cell? ⟨gb101, 2, none⟩ = some (.slice A0_2 l0_2.length c0_2)) (ds := []) #[false, false, false, false, false, false, false, false, false, false, false, false, false, false] (by kernel_rfl) rfl rfl ⟨(blk_cell BK101.out 0).trans rfl, (blk_cell BK101.out 1).trans rfl, (blk_cell BK101.out 2).trans rfl⟩ (fun hHeld => ?_); refine with_tabW carcanetlaw09_small.tab1 carcanetlaw09_small.bits1 (fun HT_ HW_ => ?_)
        generalize w7.drew = w8 at BK101 BK102 HB HR106 hHeld ⊢
        refine pure_ (i := 0) (N := some 5) (v := ?_) (a' := ?_) #[true, false, false, false, false, false, false, false, false, false, false, false, false, false] rfl rfl (any_of HT_.out (by kernel_rfl)) (fun _ _ _ h => h) (Or.inl ⟨by rfl, ?_⟩) ?_ ?_
        rotate_left
        · intro w'
          go_simp
          with_reducible rfl
        rotate_left
        · simp only [Act.put, List.setIfInBounds_toArray, List.set_cons_zero, List.set_cons_succ, i64_w, i32_w]
          rfl
        refine pure_ (i := 3) (N := some 8) (v := ?_) (a' := ?_) #[true, false, false, true, false, false, false, false, false, false, false, false, false, false] rfl rfl (any_of HT_.out (by kernel_rfl)) (fun _ _ _ h => h) (Or.inl ⟨by rfl, ?_⟩) ?_ ?_
        rotate_left
        · intro w'
          go_simp
          with_reducible rfl
        rotate_left
        · simp only [Act.put, List.setIfInBounds_toArray, List.set_cons_zero, List.set_cons_succ, i64_w, i32_w]
          rfl
        refine pure_ (i := 5) (N := some 10) (v := ?_) (a' := ?_) #[true, false, false, true, false, true, false, false, false, false, false, false, false, false] rfl rfl (any_of HT_.out (by kernel_rfl)) (fun _ _ _ h => h) (Or.inl ⟨by rfl, ?_⟩) ?_ ?_
        rotate_left
        · intro w'
          go_simp
          with_reducible rfl
        rotate_left
        · simp only [Act.put, List.setIfInBounds_toArray, List.set_cons_zero, List.set_cons_succ, i64_w, i32_w]
          rfl
        refine take_ (i := 1) (N := some 6) (v := ?_) (a' := ?_) #[true, true, false, true, false, true, false, false, false, false, false, false, false, false] rfl rfl (take_ofW HT_.out HW_.out (by kernel_rfl)) (fun _ _ _ h => h) (Or.inl ⟨by rfl, ?_⟩) hHeld ?_ ?_
        rotate_left
        · rintro w' ⟨s0, s1, s2⟩
          go_simp
          with_reducible rfl
        rotate_left
        · simp only [Act.put, List.setIfInBounds_toArray, List.set_cons_zero, List.set_cons_succ, i64_w, i32_w]
          rfl
        refine take_ (i := 4) (N := some 9) (v := ?_) (a' := ?_) #[true, true, false, true, true, true, false, false, false, false, false, false, false, false] rfl rfl (take_ofW HT_.out HW_.out (by kernel_rfl)) (fun _ _ _ h => h) (Or.inl ⟨by rfl, ?_⟩) hHeld ?_ ?_
        rotate_left
        · rintro w' ⟨s0, s1, s2⟩
          go_simp
          with_reducible rfl
        rotate_left
        · simp only [Act.put, List.setIfInBounds_toArray, List.set_cons_zero, List.set_cons_succ, i64_w, i32_w]
          rfl
        refine take_ (i := 6) (N := some 11) (v := ?_) (a' := ?_) #[true, true, false, true, true, true, true, false, false, false, false, false, false, false] rfl rfl (take_ofW HT_.out HW_.out (by kernel_rfl)) (fun _ _ _ h => h) (Or.inl ⟨by rfl, ?_⟩) hHeld ?_ ?_
        rotate_left
        · rintro w' ⟨s0, s1, s2⟩
          go_simp
          with_reducible rfl
        rotate_left
        · simp only [Act.put, List.setIfInBounds_toArray, List.set_cons_zero, List.set_cons_succ, i64_w, i32_w]
          rfl
        refine pure_ (i := 7) (N := some 12) (v := ?_) (a' := ?_) #[true, true, false, true, true, true, true, true, false, false, false, false, false, false] rfl rfl (any_of HT_.out (by kernel_rfl)) (fun _ _ _ h => h) (Or.inl ⟨by rfl, ?_⟩) ?_ ?_
        rotate_left
        · intro w'
          go_simp
          with_reducible rfl
        rotate_left
        · simp only [Act.put, List.setIfInBounds_toArray, List.set_cons_zero, List.set_cons_succ, i64_w, i32_w]
          rfl
        refine pure_ (i := 8) (N := some 13) (v := ?_) (a' := ?_) #[true, true, false, true, true, true, true, true, true, false, false, false, false, false] rfl rfl (any_of HT_.out (by kernel_rfl)) (fun _ _ _ h => h) (Or.inl ⟨by rfl, ?_⟩) ?_ ?_
        rotate_left
        · intro w'
          go_simp
          with_reducible rfl
        rotate_left
        · simp only [Act.put, List.setIfInBounds_toArray, List.set_cons_zero, List.set_cons_succ, i64_w, i32_w]
          rfl
        refine pure_ (i := 9) (N := some 14) (v := ?_) (a' := ?_) #[true, true, false, true, true, true, true, true, true, true, false, false, false, false] rfl rfl (any_of HT_.out (by kernel_rfl)) (fun _ _ _ h => h) (Or.inl ⟨by rfl, ?_⟩) ?_ ?_
        rotate_left
        · intro w'
          go_simp
          with_reducible rfl
        rotate_left
        · simp only [Act.put, List.setIfInBounds_toArray, List.set_cons_zero, List.set_cons_succ, i64_w, i32_w]
          rfl
        refine join_ (σ := Value × Value × Nat) 1 #[true, true, true, true, true, true, true, true, true, true, true, true, true, false] (fun s_ => [(7, s_.1), (15, s_.2.1), (3, .pointer (some ⟨s_.2.2, 0, none⟩)), (16, .agg #[.int .i64 a0_0, s_.2.1, .slice none 0 0])]) (fun s_ w' => (w'.cell? ⟨gb101, 0, none⟩ = some (.int .i64 a0_0) ∧ w'.cell? ⟨gb101, 1, none⟩ = some (.slice A0_1 l0_1.length c0_1) ∧ w'.cell? ⟨gb101, 2, none⟩ = some (.slice A0_2 l0_2.length c0_2)) ∧ (Kd.R (Kd.int .i64) 3 w' w.heap.size (fun _ => True) s_.2.1 y107) ∧ (w'.heap[gb101]? = some (.cells #[.int .i64 a0_0, .slice A0_1 l0_1.length c0_1, .slice A0_2 l0_2.length c0_2] 29 (0, 0))) ∧ (w'.heap[gb102]? = some (.cells #[.int .i64 0, .slice none 0 0, .slice none 0 0] 36 (0, 0))) ∧ (w'.heap[s_.2.2]? = some (.cells #[.int .i64 0, .slice none 0 0, .slice none 0 0] 36 (0, 0))) ∧ (w.heap.size ≤ s_.2.2) ∧ (w.heap.size ≤ s_.2.2) ∧ (gb101 ≠ s_.2.2) ∧ (s_.2.2 ≠ gb101) ∧ (gb102 ≠ s_.2.2) ∧ (s_.2.2 ≠ gb102) ∧ (Below w.heap.size w w')) ?_ ?_
        rotate_left
        · intro hCont
          refine two_ (i := 2) (j := 12) (Ni := some 7) (Nj := some 3) #[true, true, true, true, true, true, true, true, true, true, false, false, false, false] #[true, true, false, true, true, true, true, true, true, true, false, false, true, false] rfl rfl rfl rfl (two_of HT_.out (by kernel_rfl)) (by decide) (by decide) (fun K hK => ?_) (fun K hK => ?_)
          · skip
            refine Kd.R_lit_step (Kd.int .i64) _ 3 ?hg (N := 7) ?hd (xs := ([] : List Int)) (inner := []) (ok := fun _ => True) (okp := fun _ => True) ?hr ?hp (fun _ hk => hk) trivial (Below.refl _ _) (Nat.le_refl _) (by simp) ?_; (case hd => rfl); (case hg => rfl); (case hr => first | (go_simp; done) | (go_simp; rfl)); (case hp => exact (Reps.none _ _))
            intro v104 w10 ho11 hb hg_ hnew_
            clear hg_ hnew_
            (first | rw [← Ny103.out] at ho11 | (simp only [Int.reduceToNat] at ho11; rw [← Ny103.out] at ho11))
            have n0_ := Aside0.mk (Kd.R_lower ho11 (below_size (by repeat (first | (with_reducible first | exact HB.out | apply below_alloc | apply pw_below_drewN | apply below_drew1 | refine below_set ?_ GE101.out | refine below_set ?_ GE102.out) | exact HB.out))))
            have n1_ := Aside0.mk (blk_below (g := gb101) (o := .cells #[.int .i64 a0_0, .slice A0_1 l0_1.length c0_1, .slice A0_2 l0_2.length c0_2] 29 (0, 0)) (by (with_reducible repeat (first | refine blk_drewN ?_ _ | refine blk_drew ?_ | refine blk_alloc ?_ _)); exact BK101.out) hb)
            have n2_ := Aside0.mk (blk_below (g := gb102) (o := .cells #[.int .i64 0, .slice none 0 0, .slice none 0 0] 36 (0, 0)) (by (with_reducible repeat (first | refine blk_drewN ?_ _ | refine blk_drew ?_ | refine blk_alloc ?_ _)); exact BK102.out) hb)
            have n3_ := Aside0.mk (below_step (by repeat (first | (with_reducible first | exact HB.out | apply below_alloc | apply pw_below_drewN | apply below_drew1 | refine below_set ?_ GE101.out | refine below_set ?_ GE102.out) | exact HB.out)) hb)
            clear BK101
            clear BK102
            clear HB
            have HO105 := n0_
            have BK101 := n1_
            have BK102 := n2_
            have HB := n3_
            clear n0_ n1_ n2_ n3_
            clear hb ho11
            refine hK.out _ _ ⟨(blk_cell BK101.out 0).trans rfl, (blk_cell BK101.out 1).trans rfl, (blk_cell BK101.out 2).trans rfl⟩ (fun hHeld => ?_)
            clear hK K
            refine norm_ (a' := ?_) ?_ ?_
            rotate_left
            · show Act.put _ (some 7) _ = _
              simp only [Act.put, List.setIfInBounds_toArray, List.set_cons_zero, List.set_cons_succ, i64_w, i32_w]
              rfl
            refine two_ (i := 10) (j := 12) (Ni := some 15) (Nj := some 3) #[true, true, true, true, true, true, true, true, true, true, true, false, false, false] #[true, true, true, true, true, true, true, true, true, true, false, false, true, false] rfl rfl rfl rfl (two_of HT_.out (by kernel_rfl)) (by decide) (by decide) (fun K hK => ?_) (fun K hK => ?_)
            · skip
              refine Kd.R_append_rows_step (Kd.int .i64) (w0 := w) w.heap.size (by rfl) (.tmp 7) (.tmp 14) 26 3 (.int .i64 0) 8 rfl Try.underlying26 info3 rfl (by decide) (by omega) v104 y103 (l0_1.take ((ji2) : Int).toNat) _ _ _ (fun _ => True) (fun _ => False) rfl rfl ?aO ?aR (fun _ _ h => h) (fun _ h => h.elim) ?aF ?aB ?aS ?aL ?_
              (case aR => first | (refine (fun {a_ : Type} {R_ : a_ → List Value → Prop} {s_ : Nat} {w_ : World} {A_ : Option Addr} {n_ : Nat} {xs_ : List a_} (h_ : ReadsRow R_ s_ w_ A_ xs_.length xs_) (e_ : xs_.length = n_) => (by subst e_; exact h_ : ReadsRow R_ s_ w_ A_ n_ xs_)) ?_ (show (l0_1.take ((ji2) : Int).toNat).length = (ji2).toNat from (by rw [List.length_take]; have h_ : ((ji2) : Int) ≤ (l0_1.length : Int) := of_decide_eq_true (by first | (with_reducible assumption) | assumption); omega)); repeat (first | exact (Kd.C_below HR106.out HB.out) | (with_reducible refine Kd.C_alloc ?_ _) | (with_reducible refine Kd.C_drewN ?_ _) | (with_reducible refine Kd.C_drew ?_))) | (repeat (first | exact (Kd.C_below HR106.out HB.out) | (with_reducible refine Kd.C_alloc ?_ _) | (with_reducible refine Kd.C_drewN ?_ _) | (with_reducible refine Kd.C_drew ?_))))
              (case aB => exact (by repeat (first | (with_reducible first | exact HB.out | apply below_alloc | apply pw_below_drewN | apply below_drew1 | refine below_set ?_ GE101.out | refine below_set ?_ GE102.out) | exact HB.out)))
              (case aF => exact (fun _ _ => trivial))
              (case aO => exact (by (with_reducible repeat (first | apply Kd.R_alloc | apply Kd.R_drewN | apply Kd.R_drew)); exact HO105.out))
              (case aS => exact (below_size (by repeat (first | (with_reducible first | exact HB.out | apply below_alloc | apply pw_below_drewN | apply below_drew1 | refine below_set ?_ GE101.out | refine below_set ?_ GE102.out) | exact HB.out))))
              (case aL => have := LMc5.out; have hlx_ := (show (l0_1.take ((ji2) : Int).toNat).length = (ji2).toNat from (by rw [List.length_take]; have h_ : ((ji2) : Int) ≤ (l0_1.length : Int) := of_decide_eq_true (by first | (with_reducible assumption) | assumption); omega)); omega)
              intro v108 w12 ho hb hg hat
              rw [← Ny107.out] at ho
              have n0_ := Aside0.mk (blk_grown (g := gb101) (o := .cells #[.int .i64 a0_0, .slice A0_1 l0_1.length c0_1, .slice A0_2 l0_2.length c0_2] 29 (0, 0)) (by (with_reducible repeat (first | refine blk_drewN ?_ _ | refine blk_drew ?_ | refine blk_alloc ?_ _)); exact BK101.out) hg (Kd.R_ne HO105.out BK101.out (by decide)))
              have n1_ := Aside0.mk (blk_grown (g := gb102) (o := .cells #[.int .i64 0, .slice none 0 0, .slice none 0 0] 36 (0, 0)) (by (with_reducible repeat (first | refine blk_drewN ?_ _ | refine blk_drew ?_ | refine blk_alloc ?_ _)); exact BK102.out) hg (Kd.R_ne HO105.out BK102.out (by decide)))
              have n2_ := Aside0.mk (hb)
              have n3_ := Aside0.mk (ho)
              clear BK101
              clear BK102
              clear HB
              clear HO105
              have BK101 := n0_
              have BK102 := n1_
              have HB := n2_
              have HO109 := n3_
              clear n0_ n1_ n2_ n3_
              clear ho hb hg hat
              obtain ⟨Ao13, co13, eo13⟩ := Kd.R_slice HO109.out
              (first | subst eo13 | (injection eo13 with f1_ f2_ f3_; have f4_ := f1_.symm; have f5_ := f3_.symm; clear f1_ f2_ f3_; subst f4_; subst f5_))
              refine hK.out _ _ ⟨(blk_cell BK101.out 0).trans rfl, (blk_cell BK101.out 1).trans rfl, (blk_cell BK101.out 2).trans rfl⟩ (fun hHeld => ?_)
              clear hK K
              refine norm_ (a' := ?_) ?_ ?_
              rotate_left
              · show Act.put _ (some 15) _ = _
                simp only [Act.put, List.setIfInBounds_toArray, List.set_cons_zero, List.set_cons_succ, i64_w, i32_w]
                rfl
              refine pure_ (i := 11) (N := some 16) (v := ?_) (a' := ?_) #[true, true, true, true, true, true, true, true, true, true, true, true, false, false] rfl rfl (any_of HT_.out (by kernel_rfl)) (fun _ _ _ h => h) (Or.inl ⟨by rfl, ?_⟩) ?_ ?_
              rotate_left
              · intro w'
                go_simp
                with_reducible rfl
              rotate_left
              · simp only [Act.put, List.setIfInBounds_toArray, List.set_cons_zero, List.set_cons_succ, i64_w, i32_w]
                rfl
              refine one_ (i := 12) (N := some 3) #[true, true, true, true, true, true, true, true, true, true, true, true, true, false] rfl rfl (one_of HT_.out (by kernel_rfl)) (by decide) (fun K hK => ?_)
              refine box_step ?hg (N := 3) ?hd (cs := #[.int .i64 0, .slice none 0 0, .slice none 0 0]) (t := 36) ?hr ?_; (case hd => rfl); (case hg => rfl); (case hr => first | (go_simp; done) | (go_simp; rfl))
              intro gb110 hg w14 hbox hb
              have n0_ := Aside0.mk (Kd.R_below (by (with_reducible repeat (first | apply Kd.R_alloc | apply Kd.R_drewN | apply Kd.R_drew)); exact HO109.out) hb)
              have n1_ := Aside0.mk (blk_below (g := gb101) (o := .cells #[.int .i64 a0_0, .slice A0_1 l0_1.length c0_1, .slice A0_2 l0_2.length c0_2] 29 (0, 0)) (by (with_reducible repeat (first | refine blk_drewN ?_ _ | refine blk_drew ?_ | refine blk_alloc ?_ _)); exact BK101.out) hb)
              have n2_ := Aside0.mk (blk_below (g := gb102) (o := .cells #[.int .i64 0, .slice none 0 0, .slice none 0 0] 36 (0, 0)) (by (with_reducible repeat (first | refine blk_drewN ?_ _ | refine blk_drew ?_ | refine blk_alloc ?_ _)); exact BK102.out) hb)
              have n3_ := Aside0.mk (below_step (by repeat (first | (with_reducible first | exact HB.out | apply below_alloc | apply pw_below_drewN | apply below_drew1 | refine below_set ?_ GE101.out | refine below_set ?_ GE102.out) | exact HB.out)) hb)
              have n4_ := Aside0.mk (hbox)
              have n5_ := Aside0.mk ((by rw [hg]; exact (below_size (by repeat (first | (with_reducible first | exact HB.out | apply below_alloc | apply pw_below_drewN | apply below_drew1 | refine below_set ?_ GE101.out | refine below_set ?_ GE102.out) | exact HB.out))) : w.heap.size ≤ gb110))
              have n6_ := Aside0.mk ((by rw [hg]; exact (below_size (by repeat (first | (with_reducible first | exact HB.out | apply below_alloc | apply pw_below_drewN | apply below_drew1 | refine below_set ?_ GE101.out | refine below_set ?_ GE102.out) | exact HB.out))) : w.heap.size ≤ gb110))
              have n7_ := Aside0.mk ((by rw [hg]; exact Nat.ne_of_lt (blk_lt (g := gb101) (o := .cells #[.int .i64 a0_0, .slice A0_1 l0_1.length c0_1, .slice A0_2 l0_2.length c0_2] 29 (0, 0)) (by (with_reducible repeat (first | refine blk_drewN ?_ _ | refine blk_drew ?_ | refine blk_alloc ?_ _)); exact BK101.out)) : gb101 ≠ gb110))
              have n8_ := Aside0.mk ((by rw [hg]; exact Nat.ne_of_gt (blk_lt (g := gb101) (o := .cells #[.int .i64 a0_0, .slice A0_1 l0_1.length c0_1, .slice A0_2 l0_2.length c0_2] 29 (0, 0)) (by (with_reducible repeat (first | refine blk_drewN ?_ _ | refine blk_drew ?_ | refine blk_alloc ?_ _)); exact BK101.out)) : gb110 ≠ gb101))
              have n9_ := Aside0.mk ((by rw [hg]; exact Nat.ne_of_lt (blk_lt (g := gb102) (o := .cells #[.int .i64 0, .slice none 0 0, .slice none 0 0] 36 (0, 0)) (by (with_reducible repeat (first | refine blk_drewN ?_ _ | refine blk_drew ?_ | refine blk_alloc ?_ _)); exact BK102.out)) : gb102 ≠ gb110))
              have n10_ := Aside0.mk ((by rw [hg]; exact Nat.ne_of_gt (blk_lt (g := gb102) (o := .cells #[.int .i64 0, .slice none 0 0, .slice none 0 0] 36 (0, 0)) (by (with_reducible repeat (first | refine blk_drewN ?_ _ | refine blk_drew ?_ | refine blk_alloc ?_ _)); exact BK102.out)) : gb110 ≠ gb102))
              clear HO109
              clear BK101
              clear BK102
              clear HB
              have HO109 := n0_
              have BK101 := n1_
              have BK102 := n2_
              have HB := n3_
              have BK110 := n4_
              have GW110 := n5_
              have GE110 := n6_
              have NB101_110 := n7_
              have NB110_101 := n8_
              have NB102_110 := n9_
              have NB110_102 := n10_
              clear n0_ n1_ n2_ n3_ n4_ n5_ n6_ n7_ n8_ n9_ n10_
              clear hb hbox hg
              refine hK.out _ _ ⟨(blk_cell BK101.out 0).trans rfl, (blk_cell BK101.out 1).trans rfl, (blk_cell BK101.out 2).trans rfl⟩ (fun hHeld => ?_)
              clear hK K
              refine norm_ (a' := ?_) ?_ ?_
              rotate_left
              · show Act.put _ (some 3) _ = _
                simp only [Act.put, List.setIfInBounds_toArray, List.set_cons_zero, List.set_cons_succ, i64_w, i32_w]
                rfl
              exact norm_ (by simp only [putAll, Act.put, List.setIfInBounds_toArray, List.set_cons_zero, List.set_cons_succ]) (hCont (v104, .slice Ao13 y107.length co13, gb110) _ ⟨hHeld, (by (with_reducible repeat (first | apply Kd.R_alloc | apply Kd.R_drewN | apply Kd.R_drew)); exact HO109.out), (by (with_reducible repeat (first | refine blk_drewN ?_ _ | refine blk_drew ?_ | refine blk_alloc ?_ _)); exact BK101.out), (by (with_reducible repeat (first | refine blk_drewN ?_ _ | refine blk_drew ?_ | refine blk_alloc ?_ _)); exact BK102.out), (by (with_reducible repeat (first | refine blk_drewN ?_ _ | refine blk_drew ?_ | refine blk_alloc ?_ _)); exact BK110.out), GW110.out, GE110.out, NB101_110.out, NB110_101.out, NB102_110.out, NB110_102.out, (by repeat (first | (with_reducible first | exact HB.out | apply below_alloc | apply pw_below_drewN | apply below_drew1 | refine below_set ?_ GE101.out | refine below_set ?_ GE102.out | refine below_set ?_ GE110.out) | exact HB.out))⟩)
            · skip
              refine box_step ?hg (N := 3) ?hd (cs := #[.int .i64 0, .slice none 0 0, .slice none 0 0]) (t := 36) ?hr ?_; (case hd => rfl); (case hg => rfl); (case hr => first | (go_simp; done) | (go_simp; rfl))
              intro gb110 hg w12 hbox hb
              have n0_ := Aside0.mk (Kd.R_below (by (with_reducible repeat (first | apply Kd.R_alloc | apply Kd.R_drewN | apply Kd.R_drew)); exact HO105.out) hb)
              have n1_ := Aside0.mk (blk_below (g := gb101) (o := .cells #[.int .i64 a0_0, .slice A0_1 l0_1.length c0_1, .slice A0_2 l0_2.length c0_2] 29 (0, 0)) (by (with_reducible repeat (first | refine blk_drewN ?_ _ | refine blk_drew ?_ | refine blk_alloc ?_ _)); exact BK101.out) hb)
              have n2_ := Aside0.mk (blk_below (g := gb102) (o := .cells #[.int .i64 0, .slice none 0 0, .slice none 0 0] 36 (0, 0)) (by (with_reducible repeat (first | refine blk_drewN ?_ _ | refine blk_drew ?_ | refine blk_alloc ?_ _)); exact BK102.out) hb)
              have n3_ := Aside0.mk (below_step (by repeat (first | (with_reducible first | exact HB.out | apply below_alloc | apply pw_below_drewN | apply below_drew1 | refine below_set ?_ GE101.out | refine below_set ?_ GE102.out) | exact HB.out)) hb)
              have n4_ := Aside0.mk (hbox)
              have n5_ := Aside0.mk ((by rw [hg]; exact (below_size (by repeat (first | (with_reducible first | exact HB.out | apply below_alloc | apply pw_below_drewN | apply below_drew1 | refine below_set ?_ GE101.out | refine below_set ?_ GE102.out) | exact HB.out))) : w.heap.size ≤ gb110))
              have n6_ := Aside0.mk ((by rw [hg]; exact (below_size (by repeat (first | (with_reducible first | exact HB.out | apply below_alloc | apply pw_below_drewN | apply below_drew1 | refine below_set ?_ GE101.out | refine below_set ?_ GE102.out) | exact HB.out))) : w.heap.size ≤ gb110))
              have n7_ := Aside0.mk ((by rw [hg]; exact Nat.ne_of_lt (blk_lt (g := gb101) (o := .cells #[.int .i64 a0_0, .slice A0_1 l0_1.length c0_1, .slice A0_2 l0_2.length c0_2] 29 (0, 0)) (by (with_reducible repeat (first | refine blk_drewN ?_ _ | refine blk_drew ?_ | refine blk_alloc ?_ _)); exact BK101.out)) : gb101 ≠ gb110))
              have n8_ := Aside0.mk ((by rw [hg]; exact Nat.ne_of_gt (blk_lt (g := gb101) (o := .cells #[.int .i64 a0_0, .slice A0_1 l0_1.length c0_1, .slice A0_2 l0_2.length c0_2] 29 (0, 0)) (by (with_reducible repeat (first | refine blk_drewN ?_ _ | refine blk_drew ?_ | refine blk_alloc ?_ _)); exact BK101.out)) : gb110 ≠ gb101))
              have n9_ := Aside0.mk ((by rw [hg]; exact Nat.ne_of_lt (blk_lt (g := gb102) (o := .cells #[.int .i64 0, .slice none 0 0, .slice none 0 0] 36 (0, 0)) (by (with_reducible repeat (first | refine blk_drewN ?_ _ | refine blk_drew ?_ | refine blk_alloc ?_ _)); exact BK102.out)) : gb102 ≠ gb110))
              have n10_ := Aside0.mk ((by rw [hg]; exact Nat.ne_of_gt (blk_lt (g := gb102) (o := .cells #[.int .i64 0, .slice none 0 0, .slice none 0 0] 36 (0, 0)) (by (with_reducible repeat (first | refine blk_drewN ?_ _ | refine blk_drew ?_ | refine blk_alloc ?_ _)); exact BK102.out)) : gb110 ≠ gb102))
              clear HO105
              clear BK101
              clear BK102
              clear HB
              have HO105 := n0_
              have BK101 := n1_
              have BK102 := n2_
              have HB := n3_
              have BK110 := n4_
              have GW110 := n5_
              have GE110 := n6_
              have NB101_110 := n7_
              have NB110_101 := n8_
              have NB102_110 := n9_
              have NB110_102 := n10_
              clear n0_ n1_ n2_ n3_ n4_ n5_ n6_ n7_ n8_ n9_ n10_
              clear hb hbox hg
              refine hK.out _ _ ⟨(blk_cell BK101.out 0).trans rfl, (blk_cell BK101.out 1).trans rfl, (blk_cell BK101.out 2).trans rfl⟩ (fun hHeld => ?_)
              clear hK K
              refine norm_ (a' := ?_) ?_ ?_
              rotate_left
              · show Act.put _ (some 3) _ = _
                simp only [Act.put, List.setIfInBounds_toArray, List.set_cons_zero, List.set_cons_succ, i64_w, i32_w]
                rfl
              refine one_ (i := 10) (N := some 15) #[true, true, true, true, true, true, true, true, true, true, true, false, true, false] rfl rfl (one_of HT_.out (by kernel_rfl)) (by decide) (fun K hK => ?_)
              refine Kd.R_append_rows_step (Kd.int .i64) (w0 := w) w.heap.size (by rfl) (.tmp 7) (.tmp 14) 26 3 (.int .i64 0) 8 rfl Try.underlying26 info3 rfl (by decide) (by omega) v104 y103 (l0_1.take ((ji2) : Int).toNat) _ _ _ (fun _ => True) (fun _ => False) rfl rfl ?aO ?aR (fun _ _ h => h) (fun _ h => h.elim) ?aF ?aB ?aS ?aL ?_
              (case aR => first | (refine (fun {a_ : Type} {R_ : a_ → List Value → Prop} {s_ : Nat} {w_ : World} {A_ : Option Addr} {n_ : Nat} {xs_ : List a_} (h_ : ReadsRow R_ s_ w_ A_ xs_.length xs_) (e_ : xs_.length = n_) => (by subst e_; exact h_ : ReadsRow R_ s_ w_ A_ n_ xs_)) ?_ (show (l0_1.take ((ji2) : Int).toNat).length = (ji2).toNat from (by rw [List.length_take]; have h_ : ((ji2) : Int) ≤ (l0_1.length : Int) := of_decide_eq_true (by first | (with_reducible assumption) | assumption); omega)); repeat (first | exact (Kd.C_below HR106.out HB.out) | (with_reducible refine Kd.C_alloc ?_ _) | (with_reducible refine Kd.C_drewN ?_ _) | (with_reducible refine Kd.C_drew ?_))) | (repeat (first | exact (Kd.C_below HR106.out HB.out) | (with_reducible refine Kd.C_alloc ?_ _) | (with_reducible refine Kd.C_drewN ?_ _) | (with_reducible refine Kd.C_drew ?_))))
              (case aB => exact (by repeat (first | (with_reducible first | exact HB.out | apply below_alloc | apply pw_below_drewN | apply below_drew1 | refine below_set ?_ GE101.out | refine below_set ?_ GE102.out | refine below_set ?_ GE110.out) | exact HB.out)))
              (case aF => exact (fun _ _ => trivial))
              (case aO => exact (by (with_reducible repeat (first | apply Kd.R_alloc | apply Kd.R_drewN | apply Kd.R_drew)); exact HO105.out))
              (case aS => exact (below_size (by repeat (first | (with_reducible first | exact HB.out | apply below_alloc | apply pw_below_drewN | apply below_drew1 | refine below_set ?_ GE101.out | refine below_set ?_ GE102.out | refine below_set ?_ GE110.out) | exact HB.out))))
              (case aL => have := LMc5.out; have hlx_ := (show (l0_1.take ((ji2) : Int).toNat).length = (ji2).toNat from (by rw [List.length_take]; have h_ : ((ji2) : Int) ≤ (l0_1.length : Int) := of_decide_eq_true (by first | (with_reducible assumption) | assumption); omega)); omega)
              intro v108 w13 ho hb hg hat
              rw [← Ny107.out] at ho
              have n0_ := Aside0.mk (blk_grown (g := gb101) (o := .cells #[.int .i64 a0_0, .slice A0_1 l0_1.length c0_1, .slice A0_2 l0_2.length c0_2] 29 (0, 0)) (by (with_reducible repeat (first | refine blk_drewN ?_ _ | refine blk_drew ?_ | refine blk_alloc ?_ _)); exact BK101.out) hg (Kd.R_ne HO105.out BK101.out (by decide)))
              have n1_ := Aside0.mk (blk_grown (g := gb102) (o := .cells #[.int .i64 0, .slice none 0 0, .slice none 0 0] 36 (0, 0)) (by (with_reducible repeat (first | refine blk_drewN ?_ _ | refine blk_drew ?_ | refine blk_alloc ?_ _)); exact BK102.out) hg (Kd.R_ne HO105.out BK102.out (by decide)))
              have n2_ := Aside0.mk (blk_grown (g := gb110) (o := .cells #[.int .i64 0, .slice none 0 0, .slice none 0 0] 36 (0, 0)) (by (with_reducible repeat (first | refine blk_drewN ?_ _ | refine blk_drew ?_ | refine blk_alloc ?_ _)); exact BK110.out) hg (Kd.R_ne HO105.out BK110.out (by decide)))
              have n3_ := Aside0.mk (hb)
              have n4_ := Aside0.mk (ho)
              clear BK101
              clear BK102
              clear BK110
              clear HB
              clear HO105
              have BK101 := n0_
              have BK102 := n1_
              have BK110 := n2_
              have HB := n3_
              have HO109 := n4_
              clear n0_ n1_ n2_ n3_ n4_
              clear ho hb hg hat
              obtain ⟨Ao14, co14, eo14⟩ := Kd.R_slice HO109.out
              (first | subst eo14 | (injection eo14 with f1_ f2_ f3_; have f4_ := f1_.symm; have f5_ := f3_.symm; clear f1_ f2_ f3_; subst f4_; subst f5_))
              refine hK.out _ _ ⟨(blk_cell BK101.out 0).trans rfl, (blk_cell BK101.out 1).trans rfl, (blk_cell BK101.out 2).trans rfl⟩ (fun hHeld => ?_)
              clear hK K
              refine norm_ (a' := ?_) ?_ ?_
              rotate_left
              · show Act.put _ (some 15) _ = _
                simp only [Act.put, List.setIfInBounds_toArray, List.set_cons_zero, List.set_cons_succ, i64_w, i32_w]
                rfl
              refine pure_ (i := 11) (N := some 16) (v := ?_) (a' := ?_) #[true, true, true, true, true, true, true, true, true, true, true, true, true, false] rfl rfl (any_of HT_.out (by kernel_rfl)) (fun _ _ _ h => h) (Or.inl ⟨by rfl, ?_⟩) ?_ ?_
              rotate_left
              · intro w'
                go_simp
                with_reducible rfl
              rotate_left
              · simp only [Act.put, List.setIfInBounds_toArray, List.set_cons_zero, List.set_cons_succ, i64_w, i32_w]
                rfl
              exact norm_ (by simp only [putAll, Act.put, List.setIfInBounds_toArray, List.set_cons_zero, List.set_cons_succ]) (hCont (v104, .slice Ao14 y107.length co14, gb110) _ ⟨hHeld, (by (with_reducible repeat (first | apply Kd.R_alloc | apply Kd.R_drewN | apply Kd.R_drew)); exact HO109.out), (by (with_reducible repeat (first | refine blk_drewN ?_ _ | refine blk_drew ?_ | refine blk_alloc ?_ _)); exact BK101.out), (by (with_reducible repeat (first | refine blk_drewN ?_ _ | refine blk_drew ?_ | refine blk_alloc ?_ _)); exact BK102.out), (by (with_reducible repeat (first | refine blk_drewN ?_ _ | refine blk_drew ?_ | refine blk_alloc ?_ _)); exact BK110.out), GW110.out, GE110.out, NB101_110.out, NB110_101.out, NB102_110.out, NB110_102.out, (by repeat (first | (with_reducible first | exact HB.out | apply below_alloc | apply pw_below_drewN | apply below_drew1 | refine below_set ?_ GE101.out | refine below_set ?_ GE102.out | refine below_set ?_ GE110.out) | exact HB.out))⟩)
          · skip
            refine box_step ?hg (N := 3) ?hd (cs := #[.int .i64 0, .slice none 0 0, .slice none 0 0]) (t := 36) ?hr ?_; (case hd => rfl); (case hg => rfl); (case hr => first | (go_simp; done) | (go_simp; rfl))
            intro gb110 hg w10 hbox hb
            have n0_ := Aside0.mk (blk_below (g := gb101) (o := .cells #[.int .i64 a0_0, .slice A0_1 l0_1.length c0_1, .slice A0_2 l0_2.length c0_2] 29 (0, 0)) (by (with_reducible repeat (first | refine blk_drewN ?_ _ | refine blk_drew ?_ | refine blk_alloc ?_ _)); exact BK101.out) hb)
            have n1_ := Aside0.mk (blk_below (g := gb102) (o := .cells #[.int .i64 0, .slice none 0 0, .slice none 0 0] 36 (0, 0)) (by (with_reducible repeat (first | refine blk_drewN ?_ _ | refine blk_drew ?_ | refine blk_alloc ?_ _)); exact BK102.out) hb)
            have n2_ := Aside0.mk (below_step (by repeat (first | (with_reducible first | exact HB.out | apply below_alloc | apply pw_below_drewN | apply below_drew1 | refine below_set ?_ GE101.out | refine below_set ?_ GE102.out) | exact HB.out)) hb)
            have n3_ := Aside0.mk (hbox)
            have n4_ := Aside0.mk ((by rw [hg]; exact (below_size (by repeat (first | (with_reducible first | exact HB.out | apply below_alloc | apply pw_below_drewN | apply below_drew1 | refine below_set ?_ GE101.out | refine below_set ?_ GE102.out) | exact HB.out))) : w.heap.size ≤ gb110))
            have n5_ := Aside0.mk ((by rw [hg]; exact (below_size (by repeat (first | (with_reducible first | exact HB.out | apply below_alloc | apply pw_below_drewN | apply below_drew1 | refine below_set ?_ GE101.out | refine below_set ?_ GE102.out) | exact HB.out))) : w.heap.size ≤ gb110))
            have n6_ := Aside0.mk ((by rw [hg]; exact Nat.ne_of_lt (blk_lt (g := gb101) (o := .cells #[.int .i64 a0_0, .slice A0_1 l0_1.length c0_1, .slice A0_2 l0_2.length c0_2] 29 (0, 0)) (by (with_reducible repeat (first | refine blk_drewN ?_ _ | refine blk_drew ?_ | refine blk_alloc ?_ _)); exact BK101.out)) : gb101 ≠ gb110))
            have n7_ := Aside0.mk ((by rw [hg]; exact Nat.ne_of_gt (blk_lt (g := gb101) (o := .cells #[.int .i64 a0_0, .slice A0_1 l0_1.length c0_1, .slice A0_2 l0_2.length c0_2] 29 (0, 0)) (by (with_reducible repeat (first | refine blk_drewN ?_ _ | refine blk_drew ?_ | refine blk_alloc ?_ _)); exact BK101.out)) : gb110 ≠ gb101))
            have n8_ := Aside0.mk ((by rw [hg]; exact Nat.ne_of_lt (blk_lt (g := gb102) (o := .cells #[.int .i64 0, .slice none 0 0, .slice none 0 0] 36 (0, 0)) (by (with_reducible repeat (first | refine blk_drewN ?_ _ | refine blk_drew ?_ | refine blk_alloc ?_ _)); exact BK102.out)) : gb102 ≠ gb110))
            have n9_ := Aside0.mk ((by rw [hg]; exact Nat.ne_of_gt (blk_lt (g := gb102) (o := .cells #[.int .i64 0, .slice none 0 0, .slice none 0 0] 36 (0, 0)) (by (with_reducible repeat (first | refine blk_drewN ?_ _ | refine blk_drew ?_ | refine blk_alloc ?_ _)); exact BK102.out)) : gb110 ≠ gb102))
            clear BK101
            clear BK102
            clear HB
            have BK101 := n0_
            have BK102 := n1_
            have HB := n2_
            have BK110 := n3_
            have GW110 := n4_
            have GE110 := n5_
            have NB101_110 := n6_
            have NB110_101 := n7_
            have NB102_110 := n8_
            have NB110_102 := n9_
            clear n0_ n1_ n2_ n3_ n4_ n5_ n6_ n7_ n8_ n9_
            clear hb hbox hg
            refine hK.out _ _ ⟨(blk_cell BK101.out 0).trans rfl, (blk_cell BK101.out 1).trans rfl, (blk_cell BK101.out 2).trans rfl⟩ (fun hHeld => ?_)
            clear hK K
            refine norm_ (a' := ?_) ?_ ?_
            rotate_left
            · show Act.put _ (some 3) _ = _
              simp only [Act.put, List.setIfInBounds_toArray, List.set_cons_zero, List.set_cons_succ, i64_w, i32_w]
              rfl
            refine one_ (i := 2) (N := some 7) #[true, true, true, true, true, true, true, true, true, true, false, false, true, false] rfl rfl (one_of HT_.out (by kernel_rfl)) (by decide) (fun K hK => ?_)
            refine Kd.R_lit_step (Kd.int .i64) _ 3 ?hg (N := 7) ?hd (xs := ([] : List Int)) (inner := []) (ok := fun _ => True) (okp := fun _ => True) ?hr ?hp (fun _ hk => hk) trivial (Below.refl _ _) (Nat.le_refl _) (by simp) ?_; (case hd => rfl); (case hg => rfl); (case hr => first | (go_simp; done) | (go_simp; rfl)); (case hp => exact (Reps.none _ _))
            intro v104 w11 ho12 hb hg_ hnew_
            clear hg_ hnew_
            (first | rw [← Ny103.out] at ho12 | (simp only [Int.reduceToNat] at ho12; rw [← Ny103.out] at ho12))
            have n0_ := Aside0.mk (Kd.R_lower ho12 (below_size (by repeat (first | (with_reducible first | exact HB.out | apply below_alloc | apply pw_below_drewN | apply below_drew1 | refine below_set ?_ GE101.out | refine below_set ?_ GE102.out | refine below_set ?_ GE110.out) | exact HB.out))))
            have n1_ := Aside0.mk (blk_below (g := gb101) (o := .cells #[.int .i64 a0_0, .slice A0_1 l0_1.length c0_1, .slice A0_2 l0_2.length c0_2] 29 (0, 0)) (by (with_reducible repeat (first | refine blk_drewN ?_ _ | refine blk_drew ?_ | refine blk_alloc ?_ _)); exact BK101.out) hb)
            have n2_ := Aside0.mk (blk_below (g := gb102) (o := .cells #[.int .i64 0, .slice none 0 0, .slice none 0 0] 36 (0, 0)) (by (with_reducible repeat (first | refine blk_drewN ?_ _ | refine blk_drew ?_ | refine blk_alloc ?_ _)); exact BK102.out) hb)
            have n3_ := Aside0.mk (blk_below (g := gb110) (o := .cells #[.int .i64 0, .slice none 0 0, .slice none 0 0] 36 (0, 0)) (by (with_reducible repeat (first | refine blk_drewN ?_ _ | refine blk_drew ?_ | refine blk_alloc ?_ _)); exact BK110.out) hb)
            have n4_ := Aside0.mk (below_step (by repeat (first | (with_reducible first | exact HB.out | apply below_alloc | apply pw_below_drewN | apply below_drew1 | refine below_set ?_ GE101.out | refine below_set ?_ GE102.out | refine below_set ?_ GE110.out) | exact HB.out)) hb)
            clear BK101
            clear BK102
            clear BK110
            clear HB
            have HO105 := n0_
            have BK101 := n1_
            have BK102 := n2_
            have BK110 := n3_
            have HB := n4_
            clear n0_ n1_ n2_ n3_ n4_
            clear hb ho12
            refine hK.out _ _ ⟨(blk_cell BK101.out 0).trans rfl, (blk_cell BK101.out 1).trans rfl, (blk_cell BK101.out 2).trans rfl⟩ (fun hHeld => ?_)
            clear hK K
            refine norm_ (a' := ?_) ?_ ?_
            rotate_left
            · show Act.put _ (some 7) _ = _
              simp only [Act.put, List.setIfInBounds_toArray, List.set_cons_zero, List.set_cons_succ, i64_w, i32_w]
              rfl
            refine one_ (i := 10) (N := some 15) #[true, true, true, true, true, true, true, true, true, true, true, false, true, false] rfl rfl (one_of HT_.out (by kernel_rfl)) (by decide) (fun K hK => ?_)
            refine Kd.R_append_rows_step (Kd.int .i64) (w0 := w) w.heap.size (by rfl) (.tmp 7) (.tmp 14) 26 3 (.int .i64 0) 8 rfl Try.underlying26 info3 rfl (by decide) (by omega) v104 y103 (l0_1.take ((ji2) : Int).toNat) _ _ _ (fun _ => True) (fun _ => False) rfl rfl ?aO ?aR (fun _ _ h => h) (fun _ h => h.elim) ?aF ?aB ?aS ?aL ?_
            (case aR => first | (refine (fun {a_ : Type} {R_ : a_ → List Value → Prop} {s_ : Nat} {w_ : World} {A_ : Option Addr} {n_ : Nat} {xs_ : List a_} (h_ : ReadsRow R_ s_ w_ A_ xs_.length xs_) (e_ : xs_.length = n_) => (by subst e_; exact h_ : ReadsRow R_ s_ w_ A_ n_ xs_)) ?_ (show (l0_1.take ((ji2) : Int).toNat).length = (ji2).toNat from (by rw [List.length_take]; have h_ : ((ji2) : Int) ≤ (l0_1.length : Int) := of_decide_eq_true (by first | (with_reducible assumption) | assumption); omega)); repeat (first | exact (Kd.C_below HR106.out HB.out) | (with_reducible refine Kd.C_alloc ?_ _) | (with_reducible refine Kd.C_drewN ?_ _) | (with_reducible refine Kd.C_drew ?_))) | (repeat (first | exact (Kd.C_below HR106.out HB.out) | (with_reducible refine Kd.C_alloc ?_ _) | (with_reducible refine Kd.C_drewN ?_ _) | (with_reducible refine Kd.C_drew ?_))))
            (case aB => exact (by repeat (first | (with_reducible first | exact HB.out | apply below_alloc | apply pw_below_drewN | apply below_drew1 | refine below_set ?_ GE101.out | refine below_set ?_ GE102.out | refine below_set ?_ GE110.out) | exact HB.out)))
            (case aF => exact (fun _ _ => trivial))
            (case aO => exact (by (with_reducible repeat (first | apply Kd.R_alloc | apply Kd.R_drewN | apply Kd.R_drew)); exact HO105.out))
            (case aS => exact (below_size (by repeat (first | (with_reducible first | exact HB.out | apply below_alloc | apply pw_below_drewN | apply below_drew1 | refine below_set ?_ GE101.out | refine below_set ?_ GE102.out | refine below_set ?_ GE110.out) | exact HB.out))))
            (case aL => have := LMc5.out; have hlx_ := (show (l0_1.take ((ji2) : Int).toNat).length = (ji2).toNat from (by rw [List.length_take]; have h_ : ((ji2) : Int) ≤ (l0_1.length : Int) := of_decide_eq_true (by first | (with_reducible assumption) | assumption); omega)); omega)
            intro v108 w13 ho hb hg hat
            rw [← Ny107.out] at ho
            have n0_ := Aside0.mk (blk_grown (g := gb101) (o := .cells #[.int .i64 a0_0, .slice A0_1 l0_1.length c0_1, .slice A0_2 l0_2.length c0_2] 29 (0, 0)) (by (with_reducible repeat (first | refine blk_drewN ?_ _ | refine blk_drew ?_ | refine blk_alloc ?_ _)); exact BK101.out) hg (Kd.R_ne HO105.out BK101.out (by decide)))
            have n1_ := Aside0.mk (blk_grown (g := gb102) (o := .cells #[.int .i64 0, .slice none 0 0, .slice none 0 0] 36 (0, 0)) (by (with_reducible repeat (first | refine blk_drewN ?_ _ | refine blk_drew ?_ | refine blk_alloc ?_ _)); exact BK102.out) hg (Kd.R_ne HO105.out BK102.out (by decide)))
            have n2_ := Aside0.mk (blk_grown (g := gb110) (o := .cells #[.int .i64 0, .slice none 0 0, .slice none 0 0] 36 (0, 0)) (by (with_reducible repeat (first | refine blk_drewN ?_ _ | refine blk_drew ?_ | refine blk_alloc ?_ _)); exact BK110.out) hg (Kd.R_ne HO105.out BK110.out (by decide)))
            have n3_ := Aside0.mk (hb)
            have n4_ := Aside0.mk (ho)
            clear BK101
            clear BK102
            clear BK110
            clear HB
            clear HO105
            have BK101 := n0_
            have BK102 := n1_
            have BK110 := n2_
            have HB := n3_
            have HO109 := n4_
            clear n0_ n1_ n2_ n3_ n4_
            clear ho hb hg hat
            obtain ⟨Ao14, co14, eo14⟩ := Kd.R_slice HO109.out
            (first | subst eo14 | (injection eo14 with f1_ f2_ f3_; have f4_ := f1_.symm; have f5_ := f3_.symm; clear f1_ f2_ f3_; subst f4_; subst f5_))
            refine hK.out _ _ ⟨(blk_cell BK101.out 0).trans rfl, (blk_cell BK101.out 1).trans rfl, (blk_cell BK101.out 2).trans rfl⟩ (fun hHeld => ?_)
            clear hK K
            refine norm_ (a' := ?_) ?_ ?_
            rotate_left
            · show Act.put _ (some 15) _ = _
              simp only [Act.put, List.setIfInBounds_toArray, List.set_cons_zero, List.set_cons_succ, i64_w, i32_w]
              rfl
            refine pure_ (i := 11) (N := some 16) (v := ?_) (a' := ?_) #[true, true, true, true, true, true, true, true, true, true, true, true, true, false] rfl rfl (any_of HT_.out (by kernel_rfl)) (fun _ _ _ h => h) (Or.inl ⟨by rfl, ?_⟩) ?_ ?_
            rotate_left
            · intro w'
              go_simp
              with_reducible rfl
            rotate_left
            · simp only [Act.put, List.setIfInBounds_toArray, List.set_cons_zero, List.set_cons_succ, i64_w, i32_w]
              rfl
            exact norm_ (by simp only [putAll, Act.put, List.setIfInBounds_toArray, List.set_cons_zero, List.set_cons_succ]) (hCont (v104, .slice Ao14 y107.length co14, gb110) _ ⟨hHeld, (by (with_reducible repeat (first | apply Kd.R_alloc | apply Kd.R_drewN | apply Kd.R_drew)); exact HO109.out), (by (with_reducible repeat (first | refine blk_drewN ?_ _ | refine blk_drew ?_ | refine blk_alloc ?_ _)); exact BK101.out), (by (with_reducible repeat (first | refine blk_drewN ?_ _ | refine blk_drew ?_ | refine blk_alloc ?_ _)); exact BK102.out), (by (with_reducible repeat (first | refine blk_drewN ?_ _ | refine blk_drew ?_ | refine blk_alloc ?_ _)); exact BK110.out), GW110.out, GE110.out, NB101_110.out, NB110_101.out, NB102_110.out, NB110_102.out, (by repeat (first | (with_reducible first | exact HB.out | apply below_alloc | apply pw_below_drewN | apply below_drew1 | refine below_set ?_ GE101.out | refine below_set ?_ GE102.out | refine below_set ?_ GE110.out) | exact HB.out))⟩)
        rintro ⟨v104, v108, gb110⟩ w15 ⟨hS_, h0_, h1_, h2_, h3_, h4_, h5_, h6_, h7_, h8_, h9_, h10_⟩
        have n0_ : Aside0 (Kd.R (Kd.int .i64) 3 w15 w.heap.size (fun _ => True) v108 y107) := ⟨h0_⟩
        have n1_ : Aside0 (w15.heap[gb101]? = some (.cells #[.int .i64 a0_0, .slice A0_1 l0_1.length c0_1, .slice A0_2 l0_2.length c0_2] 29 (0, 0))) := ⟨h1_⟩
        have n2_ : Aside0 (w15.heap[gb102]? = some (.cells #[.int .i64 0, .slice none 0 0, .slice none 0 0] 36 (0, 0))) := ⟨h2_⟩
        have n3_ : Aside0 (w15.heap[gb110]? = some (.cells #[.int .i64 0, .slice none 0 0, .slice none 0 0] 36 (0, 0))) := ⟨h3_⟩
        have n4_ : Aside0 (w.heap.size ≤ gb110) := ⟨h4_⟩
        have n5_ : Aside0 (w.heap.size ≤ gb110) := ⟨h5_⟩
        have n6_ : Aside0 (gb101 ≠ gb110) := ⟨h6_⟩
        have n7_ : Aside0 (gb110 ≠ gb101) := ⟨h7_⟩
        have n8_ : Aside0 (gb102 ≠ gb110) := ⟨h8_⟩
        have n9_ : Aside0 (gb110 ≠ gb102) := ⟨h9_⟩
        have n10_ : Aside0 (Below w.heap.size w w15) := ⟨h10_⟩
        clear BK101
        clear BK102
        clear HB
        clear h0_ h1_ h2_ h3_ h4_ h5_ h6_ h7_ h8_ h9_ h10_
        have HO109 := n0_
        have BK101 := n1_
        have BK102 := n2_
        have BK110 := n3_
        have GW110 := n4_
        have GE110 := n5_
        have NB101_110 := n6_
        have NB110_101 := n7_
        have NB102_110 := n8_
        have NB110_102 := n9_
        have HB := n10_
        clear n0_ n1_ n2_ n3_ n4_ n5_ n6_ n7_ n8_ n9_ n10_
        have hHeld : w15.cell? ⟨gb101, 0, none⟩ = some (.int .i64 a0_0) ∧ w15.cell? ⟨gb101, 1, none⟩ = some (.slice A0_1 l0_1.length c0_1) ∧ w15.cell? ⟨gb101, 2, none⟩ = some (.slice A0_2 l0_2.length c0_2) := hS_
        obtain ⟨Ao16, co16, eo16⟩ := Kd.R_slice HO109.out
        (first | subst eo16 | (injection eo16 with f1_ f2_ f3_; have f4_ := f1_.symm; have f5_ := f3_.symm; clear f1_ f2_ f3_; subst f4_; subst f5_))
        refine norm_ (a' := ?_) ?_ ?_
        rotate_left
        · simp only [putAll, Act.put, List.setIfInBounds_toArray, List.set_cons_zero, List.set_cons_succ]
          rfl
        refine one_ (i := 13) (N := none) #[true, true, true, true, true, true, true, true, true, true, true, true, true, true] rfl rfl (one_of HT_.out (by kernel_rfl)) (by decide) (fun K hK => ?_)
        have hs17 : w15.cell? ⟨gb110, 0, none⟩ = some (.int .i64 0) := (blk_cell BK110.out 0).trans rfl
        have hfs17 := blk_frozen BK110.out 0
        have hns17_0 := NB101_110.out
        have hns17_1 := NB102_110.out
        have hms17_0 := NB110_101.out
        have hms17_1 := NB110_102.out
        have hs18 : w15.cell? ⟨gb110, 1, none⟩ = some (.slice none 0 0) := (blk_cell BK110.out 1).trans rfl
        have hfs18 := blk_frozen BK110.out 1
        have hns18_0 := NB101_110.out
        have hns18_1 := NB102_110.out
        have hms18_0 := NB110_101.out
        have hms18_1 := NB110_102.out
        have hs19 : w15.cell? ⟨gb110, 2, none⟩ = some (.slice none 0 0) := (blk_cell BK110.out 2).trans rfl
        have hfs19 := blk_frozen BK110.out 2
        have hns19_0 := NB101_110.out
        have hns19_1 := NB102_110.out
        have hms19_0 := NB110_101.out
        have hms19_1 := NB110_102.out
        refine skip_ (w1 := ?_) (by rfl) rfl ?_ ?_
        rotate_left
        · go_simp
          rfl
        refine hK.out _ _ ⟨((cell_far (p := ⟨gb110, _, none⟩) NB101_110.out _).trans (((cell_far (p := ⟨gb110, _, none⟩) NB101_110.out _).trans (((cell_far (p := ⟨gb110, _, none⟩) NB101_110.out _).trans (hHeld.1)))))), ((cell_far (p := ⟨gb110, _, none⟩) NB101_110.out _).trans (((cell_far (p := ⟨gb110, _, none⟩) NB101_110.out _).trans (((cell_far (p := ⟨gb110, _, none⟩) NB101_110.out _).trans (hHeld.2.1)))))), ((cell_far (p := ⟨gb110, _, none⟩) NB101_110.out _).trans (((cell_far (p := ⟨gb110, _, none⟩) NB101_110.out _).trans (((cell_far (p := ⟨gb110, _, none⟩) NB101_110.out _).trans (hHeld.2.2))))))⟩ (fun hHeld => ?_)
        clear hK K
        refine done_ (done_of HT_.out (by kernel_rfl)) ?_
        try go_wp2
        go_loopg [4] k (fun kq v4 w' => ∃ (x4_1 : Int) (x111002_1 : List (List Int)) (u111002 : Value), v4 = .int .i64 x4_1 ∧ Aside0 (carcanetlaw09_small.l0 kq x4_1 a0_0 l0_1 l0_2 a0_0 y107 x111002_1 = some (r1, r2, r3)) ∧ Aside0 (kq ≤ k) ∧ Aside0 (Kd.R (Kd.int .i64) 3 w' w.heap.size (fun _ => True) (.slice Ao16 y107.length co16) y107) ∧ Aside0 (Kd.S (Kd.slice 3 (Kd.int .i64)) 26 w' w.heap.size (fun k_ => some k_ ≠ ((.slice Ao16 y107.length co16) : Value).ownBlock) u111002 x111002_1) ∧ Aside0 (w'.heap[gb101]? = some (.cells #[.int .i64 a0_0, (.slice A0_1 l0_1.length c0_1), (.slice A0_2 l0_2.length c0_2)] 29 (0, 0))) ∧ Aside0 (w'.heap[gb102]? = some (.cells #[.int .i64 0, (.slice none 0 0), (.slice none 0 0)] 36 (0, 0))) ∧ Aside0 (w'.heap[gb110]? = some (.cells #[.int .i64 a0_0, (.slice Ao16 y107.length co16), u111002] 36 (0, 0))) ∧ Aside0 (Below w.heap.size w w'))
        case atStart => exact ⟨(0), (([] : List (List Int))), (.slice none 0 0), (by first | rfl | (simp; done) | (simp [*]; done)), H', ⟨Nat.le_refl _⟩, ⟨by (with_reducible repeat (first | apply Kd.R_alloc | apply Kd.R_drewN | apply Kd.R_drew)); exact Kd.R_mono (Kd.R_far (p := ⟨gb110, 2, none⟩) (Kd.R_far (p := ⟨gb110, 1, none⟩) (Kd.R_far (p := ⟨gb110, 0, none⟩) (Kd.R_types HO109.out BK110.out (by decide)) (fun _ hk => hk.2) (.int .i64 a0_0)) (fun _ hk => hk.2) (.slice Ao16 y107.length co16)) (fun _ hk => hk.2) (.slice none 0 0)) (fun _ hk => trivial)⟩, ⟨by first | exact Kd.S_nil _ _ _ _ _ | exact Kd.N_nil _ _ _ _ _ | exact Kd.V_nil _ _ _ _ _ | exact Kd.Q_nil _ _ _ _ _ | exact Kd.R_nil _ _ _ _ _⟩, ⟨by (with_reducible repeat (first | refine blk_drewN ?_ _ | refine blk_drew ?_ | refine blk_alloc ?_ _)); refine blk_far ?_ NB101_110.out _; (with_reducible repeat (first | refine blk_drewN ?_ _ | refine blk_drew ?_ | refine blk_alloc ?_ _)); refine blk_far ?_ NB101_110.out _; (with_reducible repeat (first | refine blk_drewN ?_ _ | refine blk_drew ?_ | refine blk_alloc ?_ _)); refine blk_far ?_ NB101_110.out _; (with_reducible repeat (first | refine blk_drewN ?_ _ | refine blk_drew ?_ | refine blk_alloc ?_ _)); exact BK101.out⟩, ⟨by (with_reducible repeat (first | refine blk_drewN ?_ _ | refine blk_drew ?_ | refine blk_alloc ?_ _)); refine blk_far ?_ NB102_110.out _; (with_reducible repeat (first | refine blk_drewN ?_ _ | refine blk_drew ?_ | refine blk_alloc ?_ _)); refine blk_far ?_ NB102_110.out _; (with_reducible repeat (first | refine blk_drewN ?_ _ | refine blk_drew ?_ | refine blk_alloc ?_ _)); refine blk_far ?_ NB102_110.out _; (with_reducible repeat (first | refine blk_drewN ?_ _ | refine blk_drew ?_ | refine blk_alloc ?_ _)); exact BK102.out⟩, ⟨by (with_reducible repeat (first | refine blk_drewN ?_ _ | refine blk_drew ?_ | refine blk_alloc ?_ _)); refine blk_put (cs := #[.int .i64 a0_0, .slice Ao16 y107.length co16, .slice none 0 0]) ?_ 2 _ rfl; (with_reducible repeat (first | refine blk_drewN ?_ _ | refine blk_drew ?_ | refine blk_alloc ?_ _)); refine blk_put (cs := #[.int .i64 a0_0, .slice none 0 0, .slice none 0 0]) ?_ 1 _ rfl; (with_reducible repeat (first | refine blk_drewN ?_ _ | refine blk_drew ?_ | refine blk_alloc ?_ _)); refine blk_put (cs := #[.int .i64 0, .slice none 0 0, .slice none 0 0]) ?_ 0 _ rfl; (with_reducible repeat (first | refine blk_drewN ?_ _ | refine blk_drew ?_ | refine blk_alloc ?_ _)); exact BK110.out⟩, ⟨by repeat (first | (with_reducible first | exact HB.out | apply below_alloc | apply pw_below_drewN | apply below_drew1 | refine below_set ?_ GE101.out | refine below_set ?_ GE102.out | refine below_set ?_ GE110.out) | exact HB.out)⟩⟩
        case round =>
          clear H'
          try clear c1
          try clear p2
          try clear c3
          try clear c3b0
          try clear c3b1
          try clear c4
          try clear c4b0
          try clear c4b1
          try clear c5
          try clear c19
          obtain ⟨x4_1, x111002_1, u111002, rfl, HA, HK1, HO_111001, HO_111002, BK101, BK102, BK110, HB⟩ := hrel
          cases gk with
          | zero => exact absurd HA.out (by simp [carcanetlaw09_small.l0])
          | succ k1 =>
            have H := HA.out
            clear HA
            simp only [carcanetlaw09_small.l0] at H
            by_cases c20 : x4_1 < (l0_2.length : Int)
            · rw [if_pos c20] at H
              have c20b0 : decide (x4_1 < (l0_2.length : Int)) = true := decide_eq_true c20
              clear c20
              by_cases c21 : x4_1 < 8
              · rw [if_pos c21] at H
                have c21b0 : decide (x4_1 < 8) = true := decide_eq_true c21
                clear c21
                obtain ⟨y111, hy111⟩ : ∃ y_ : List Int, y_ = (([] : List Int)) := ⟨_, rfl⟩
                replace H : (if 0 ≤ x4_1 then (if 0 ≤ (mn ((rd_L14 l0_2 x4_1).length : Int) 20) then (if (mn ((rd_L14 l0_2 x4_1).length : Int) 20) ≤ ((rd_L14 l0_2 x4_1).length : Int) then (if y111.length + ((rd_L14 l0_2 x4_1).take ((mn ((rd_L14 l0_2 x4_1).length : Int) 20) : Int).toNat).length < 17592186044416 then (if x111002_1.length < 5864062014805 then (carcanetlaw09_small.l0 k1 (wrap64 (x4_1 + 1)) a0_0 l0_1 l0_2 a0_0 y107 (x111002_1 ++ [(y111 ++ ((rd_L14 l0_2 x4_1).take ((mn ((rd_L14 l0_2 x4_1).length : Int) 20) : Int).toNat))])) else (none)) else (none)) else (none)) else (none)) else (none)) = some (r1, r2, r3) := by first | (rw [hy111]; with_reducible exact H) | (have H2_ := (Option.bind_some _ _).symm.trans H; rw [hy111]; with_reducible exact H2_) | (have H2_ := (Option.bind_some _ _).symm.trans H; with_reducible exact H2_) | with_reducible exact H | (rw [hy111]; exact H) | exact H
                have Ny111 := Aside0.mk hy111
                clear hy111
                by_cases c22 : 0 ≤ x4_1
                · rw [if_pos c22] at H
                  have c22b0 : decide (0 ≤ x4_1) = true := decide_eq_true c22
                  clear c22
                  obtain ⟨ji23, hji23⟩ : ∃ j_ : Int, (mn ((rd_L14 l0_2 x4_1).length : Int) 20) = j_ := ⟨_, rfl⟩
                  replace H : (if 0 ≤ (ji23) then (if (ji23) ≤ ((rd_L14 l0_2 x4_1).length : Int) then (if y111.length + ((rd_L14 l0_2 x4_1).take ((ji23) : Int).toNat).length < 17592186044416 then (if x111002_1.length < 5864062014805 then (carcanetlaw09_small.l0 k1 (wrap64 (x4_1 + 1)) a0_0 l0_1 l0_2 a0_0 y107 (x111002_1 ++ [(y111 ++ ((rd_L14 l0_2 x4_1).take ((ji23) : Int).toNat))])) else (none)) else (none)) else (none)) else (none)) = some (r1, r2, r3) := by first | (rw [hji23] at H; exact H) | (simp only [hji23] at H ⊢; exact H)
                  have hji23_ : (if 20 < ((rd_L14 l0_2 x4_1).length : Int) then 20 else ((rd_L14 l0_2 x4_1).length : Int)) = ji23 := hji23
                  by_cases c24 : 0 ≤ (ji23)
                  · rw [if_pos c24] at H
                    have c24b0 := eq_true c24
                    have c24b1 : decide (0 ≤ (ji23)) = true := decide_eq_true c24
                    clear c24
                    by_cases c25 : (ji23) ≤ ((rd_L14 l0_2 x4_1).length : Int)
                    · rw [if_pos c25] at H
                      have c25b0 := eq_true c25
                      have c25b1 : decide ((ji23) ≤ ((rd_L14 l0_2 x4_1).length : Int)) = true := decide_eq_true c25
                      clear c25
                      by_cases c26 : y111.length + ((rd_L14 l0_2 x4_1).take ((ji23) : Int).toNat).length < 17592186044416
                      · rw [if_pos c26] at H
                        have LMc26 := Aside0.mk c26
                        clear c26
                        obtain ⟨y117, hy117⟩ : ∃ y_ : List Int, y_ = (y111 ++ ((rd_L14 l0_2 x4_1).take ((ji23) : Int).toNat)) := ⟨_, rfl⟩
                        replace H : (if x111002_1.length < 5864062014805 then (carcanetlaw09_small.l0 k1 (wrap64 (x4_1 + 1)) a0_0 l0_1 l0_2 a0_0 y107 (x111002_1 ++ [y117])) else (none)) = some (r1, r2, r3) := by first | (rw [hy117]; with_reducible exact H) | (have H2_ := (Option.bind_some _ _).symm.trans H; rw [hy117]; with_reducible exact H2_) | (have H2_ := (Option.bind_some _ _).symm.trans H; with_reducible exact H2_) | with_reducible exact H | (rw [hy117]; exact H) | exact H
                        have Ny117 := Aside0.mk hy117
                        clear hy117
                        by_cases c27 : x111002_1.length < 5864062014805
                        · rw [if_pos c27] at H
                          have LMc27 := Aside0.mk c27
                          clear c27
                          obtain ⟨y120, hy120⟩ : ∃ y_ : List (List Int), y_ = (x111002_1 ++ [y117]) := ⟨_, rfl⟩
                          replace H : (carcanetlaw09_small.l0 k1 (wrap64 (x4_1 + 1)) a0_0 l0_1 l0_2 a0_0 y107 y120) = some (r1, r2, r3) := by first | (rw [hy120]; with_reducible exact H) | (have H2_ := (Option.bind_some _ _).symm.trans H; rw [hy120]; with_reducible exact H2_) | (have H2_ := (Option.bind_some _ _).symm.trans H; with_reducible exact H2_) | with_reducible exact H | (rw [hy120]; exact H) | exact H
                          have Ny120 := Aside0.mk hy120
                          clear hy120
                          have H' := Aside0.mk H
                          clear H
                          have hnb28 := NB101_102.out
                          have hnc28 := NB102_101.out
                          have hnb29 := NB101_110.out
                          have hnc29 := NB110_101.out
                          have hcz30_0 : wr.cell? ⟨gb101, 0, none⟩ = some (.int .i64 a0_0) := (blk_cell BK101.out 0).trans rfl
                          have hcz30_1 : wr.cell? ⟨gb101, 1, none⟩ = some (.slice A0_1 l0_1.length c0_1) := (blk_cell BK101.out 1).trans rfl
                          have hcz30_2 : wr.cell? ⟨gb101, 2, none⟩ = some (.slice A0_2 l0_2.length c0_2) := (blk_cell BK101.out 2).trans rfl
                          have hfz30_0 := blk_frozen BK101.out 0
                          have hfz30_1 := blk_frozen BK101.out 1
                          have hfz30_2 := blk_frozen BK101.out 2
                          try go_wp2
                          have n0_ := Aside0.mk (Kd.R_drew HO_111001.out)
                          have n1_ := Aside0.mk (Kd.S_drew HO_111002.out)
                          have n2_ := Aside0.mk (blk_drew BK101.out)
                          have n3_ := Aside0.mk (blk_drew BK102.out)
                          have n4_ := Aside0.mk (blk_drew BK110.out)
                          have n5_ := Aside0.mk (below_drew1 HB.out)
                          clear HO_111001
                          clear HO_111002
                          clear BK101
                          clear BK102
                          clear BK110
                          clear HB
                          have HO_111001 := n0_
                          have HO_111002 := n1_
                          have BK101 := n2_
                          have BK102 := n3_
                          have BK110 := n4_
                          have HB := n5_
                          clear n0_ n1_ n2_ n3_ n4_ n5_
                          have p114 : 0 ≤ (x4_1 : Int) := of_decide_eq_true (by first | (with_reducible assumption) | assumption)
                          have q114 : x4_1 < (l0_2.length : Int) := of_decide_eq_true (by first | (with_reducible assumption) | assumption)
                          obtain ⟨ad114, A114_0, c114_0, e114, hx114_0, hl114_0, hi114_0⟩ := at_L14 HR0_2.out x4_1 p114 q114
                          have hw114_0 := hx114_0
                          cases e114
                          replace hx114_0 := (HB.out.cell (World.block_lt_of_cell? w _ hx114_0)).trans hx114_0
                          have HR114_0 := Aside0.mk hi114_0
                          have HC114_0 := Aside0.mk hl114_0
                          clear hi114_0 hl114_0
                          replace p114 := eq_true p114
                          replace q114 := eq_true q114
                          have p115 : 0 ≤ (x4_1 : Int) := of_decide_eq_true (by first | (with_reducible assumption) | assumption)
                          have q115 : x4_1 < (l0_2.length : Int) := of_decide_eq_true (by first | (with_reducible assumption) | assumption)
                          obtain ⟨ad115, A115_0, c115_0, e115, hx115_0, hl115_0, hi115_0⟩ := at_L14 HR0_2.out x4_1 p115 q115
                          have hw115_0 := hx115_0
                          obtain rfl : ad114 = ad115 := (by injection e115)
                          replace hx115_0 := (HB.out.cell (World.block_lt_of_cell? w _ hx115_0)).trans hx115_0
                          have HR115_0 := Aside0.mk hi115_0
                          have HC115_0 := Aside0.mk hl115_0
                          clear hi115_0 hl115_0
                          replace p115 := eq_true p115
                          replace q115 := eq_true q115
                          have ea_ := Option.some.inj (hx114_0.symm.trans hx115_0)
                          injection ea_ with ea_ en_ ec_
                          subst ea_
                          subst ec_
                          clear en_
                          obtain ⟨i032, hi032, _, hsz32, _⟩ := info_parts info3
                          obtain ⟨hcut32, hA32, hC32⟩ := print_take_of (P := Try.prog) (Value.int .i64) 0 26 3 .i64 Try.underlying26 hi032 hsz32 A114_0 c114_0 (rd_L14 l0_2 x4_1) (ji23) (of_decide_eq_true (by first | (with_reducible assumption) | assumption)) (of_decide_eq_true (by first | (with_reducible assumption) | assumption)) HC114_0.out
                          have HR116 := Aside0.mk (Kd.C_of_reads (h1 := fun _ => rfl) (hA32 _ (Kd.reads_of_C HR114_0.out)))
                          have HC116 := Aside0.mk hC32
                          clear hA32 hC32 hi032 hsz32
                          refine start_ (n := 21) (S := fun w' => w'.cell? ⟨gb110, 0, none⟩ = some (.int .i64 a0_0) ∧ w'.cell? ⟨gb110, 1, none⟩ = some (.slice Ao16 y107.length co16) ∧ w'.cell? ⟨gb110, 2, none⟩ = some (u111002) ∧ w'.cell? ⟨gb101, 0, none⟩ = some (.int .i64 a0_0) ∧ w'.cell? ⟨gb101, 1, none⟩ = some (.slice A0_1 l0_1.length c0_1) ∧ w'.cell? ⟨gb101, 2, none⟩ = some (.slice (some ad114) l0_2.length c0_2) ∧ w'.cell? (ad114.add (x4_1).toNat) = some (.slice A114_0 (rd_L14 l0_2 x4_1).length c114_0) ∧ w'.cell? (ad114.add (x4_1).toNat) = some (.slice A114_0 (rd_L14 l0_2 x4_1).length c114_0)) (ds := [20]) #[false, false, false, false, false, false, false, false, false, false, false, false, false, false, false, false, false, false, false, false, false] (by kernel_rfl) rfl rfl ⟨(blk_cell BK110.out 0).trans rfl, (blk_cell BK110.out 1).trans rfl, (blk_cell BK110.out 2).trans rfl, (blk_cell BK101.out 0).trans rfl, (blk_cell BK101.out 1).trans rfl, (blk_cell BK101.out 2).trans rfl, ((HB.out.cell (World.block_lt_of_cell? w _ hw114_0)).trans hw114_0), ((HB.out.cell (World.block_lt_of_cell? w _ hw115_0)).trans hw115_0)⟩ (fun hHeld => ?_); refine with_tabW carcanetlaw09_small.tab5 carcanetlaw09_small.bits5 (fun HT_ HW_ => ?_)
                          generalize wr.drew = w31 at HO_111001 HO_111002 BK101 BK102 BK110 HB HR114_0 HR115_0 HR116 hx114_0 hx115_0 hHeld ⊢
                          refine pure_ (i := 0) (N := some 28) (v := ?_) (a' := ?_) #[true, false, false, false, false, false, false, false, false, false, false, false, false, false, false, false, false, false, false, false, false] rfl rfl (any_of HT_.out (by kernel_rfl)) (fun _ _ _ h => h) (Or.inl ⟨by rfl, ?_⟩) ?_ ?_
                          rotate_left
                          · intro w'
                            go_simp
                            with_reducible rfl
                          rotate_left
                          · simp only [Act.put, List.setIfInBounds_toArray, List.set_cons_zero, List.set_cons_succ, i64_w, i32_w]
                            rfl
                          refine pure_ (i := 3) (N := some 31) (v := ?_) (a' := ?_) #[true, false, false, true, false, false, false, false, false, false, false, false, false, false, false, false, false, false, false, false, false] rfl rfl (any_of HT_.out (by kernel_rfl)) (fun _ _ _ h => h) (Or.inl ⟨by rfl, ?_⟩) ?_ ?_
                          rotate_left
                          · intro w'
                            go_simp
                            with_reducible rfl
                          rotate_left
                          · simp only [Act.put, List.setIfInBounds_toArray, List.set_cons_zero, List.set_cons_succ, i64_w, i32_w]
                            rfl
                          refine pure_ (i := 5) (N := some 33) (v := ?_) (a' := ?_) #[true, false, false, true, false, true, false, false, false, false, false, false, false, false, false, false, false, false, false, false, false] rfl rfl (any_of HT_.out (by kernel_rfl)) (fun _ _ _ h => h) (Or.inl ⟨by rfl, ?_⟩) ?_ ?_
                          rotate_left
                          · intro w'
                            go_simp
                            with_reducible rfl
                          rotate_left
                          · simp only [Act.put, List.setIfInBounds_toArray, List.set_cons_zero, List.set_cons_succ, i64_w, i32_w]
                            rfl
                          refine pure_ (i := 8) (N := some 36) (v := ?_) (a' := ?_) #[true, false, false, true, false, true, false, false, true, false, false, false, false, false, false, false, false, false, false, false, false] rfl rfl (any_of HT_.out (by kernel_rfl)) (fun _ _ _ h => h) (Or.inl ⟨by rfl, ?_⟩) ?_ ?_
                          rotate_left
                          · intro w'
                            go_simp
                            with_reducible rfl
                          rotate_left
                          · simp only [Act.put, List.setIfInBounds_toArray, List.set_cons_zero, List.set_cons_succ, i64_w, i32_w]
                            rfl
                          refine pure_ (i := 10) (N := some 38) (v := ?_) (a' := ?_) #[true, false, false, true, false, true, false, false, true, false, true, false, false, false, false, false, false, false, false, false, false] rfl rfl (any_of HT_.out (by kernel_rfl)) (fun _ _ _ h => h) (Or.inl ⟨by rfl, ?_⟩) ?_ ?_
                          rotate_left
                          · intro w'
                            go_simp
                            with_reducible rfl
                          rotate_left
                          · simp only [Act.put, List.setIfInBounds_toArray, List.set_cons_zero, List.set_cons_succ, i64_w, i32_w]
                            rfl
                          refine take_ (i := 1) (N := some 29) (v := ?_) (a' := ?_) #[true, true, false, true, false, true, false, false, true, false, true, false, false, false, false, false, false, false, false, false, false] rfl rfl (take_ofW HT_.out HW_.out (by kernel_rfl)) (fun _ _ _ h => h) (Or.inl ⟨by rfl, ?_⟩) hHeld ?_ ?_
                          rotate_left
                          · rintro w' ⟨s0, s1, s2, s3, s4, s5, s6, s7⟩
                            go_simp
                            with_reducible rfl
                          rotate_left
                          · simp only [Act.put, List.setIfInBounds_toArray, List.set_cons_zero, List.set_cons_succ, i64_w, i32_w]
                            rfl
                          refine take_ (i := 4) (N := some 32) (v := ?_) (a' := ?_) #[true, true, false, true, true, true, false, false, true, false, true, false, false, false, false, false, false, false, false, false, false] rfl rfl (take_ofW HT_.out HW_.out (by kernel_rfl)) (fun _ _ _ h => h) (Or.inl ⟨by rfl, ?_⟩) hHeld ?_ ?_
                          rotate_left
                          · rintro w' ⟨s0, s1, s2, s3, s4, s5, s6, s7⟩
                            go_simp
                            with_reducible rfl
                          rotate_left
                          · simp only [Act.put, List.setIfInBounds_toArray, List.set_cons_zero, List.set_cons_succ, i64_w, i32_w]
                            rfl
                          refine pure_ (i := 6) (N := some 34) (v := ?_) (a' := ?_) #[true, true, false, true, true, true, true, false, true, false, true, false, false, false, false, false, false, false, false, false, false] rfl rfl (any_of HT_.out (by kernel_rfl)) (fun _ _ _ h => h) (Or.inl ⟨by rfl, ?_⟩) ?_ ?_
                          rotate_left
                          · intro w'
                            go_simp
                            with_reducible rfl
                          rotate_left
                          · simp only [Act.put, List.setIfInBounds_toArray, List.set_cons_zero, List.set_cons_succ, i64_w, i32_w]
                            rfl
                          refine take_ (i := 7) (N := some 35) (v := ?_) (a' := ?_) #[true, true, false, true, true, true, true, true, true, false, true, false, false, false, false, false, false, false, false, false, false] rfl rfl (take_ofW HT_.out HW_.out (by kernel_rfl)) (fun _ _ _ h => h) (Or.inl ⟨by rfl, ?_⟩) hHeld ?_ ?_
                          rotate_left
                          · rintro w' ⟨s0, s1, s2, s3, s4, s5, s6, s7⟩
                            go_simp
                            with_reducible rfl
                          rotate_left
                          · simp only [Act.put, List.setIfInBounds_toArray, List.set_cons_zero, List.set_cons_succ, i64_w, i32_w]
                            rfl
                          refine take_ (i := 9) (N := some 37) (v := ?_) (a' := ?_) #[true, true, false, true, true, true, true, true, true, true, true, false, false, false, false, false, false, false, false, false, false] rfl rfl (take_ofW HT_.out HW_.out (by kernel_rfl)) (fun _ _ _ h => h) (Or.inl ⟨by rfl, ?_⟩) hHeld ?_ ?_
                          rotate_left
                          · rintro w' ⟨s0, s1, s2, s3, s4, s5, s6, s7⟩
                            go_simp
                            with_reducible rfl
                          rotate_left
                          · simp only [Act.put, List.setIfInBounds_toArray, List.set_cons_zero, List.set_cons_succ, i64_w, i32_w]
                            rfl
                          refine pure_ (i := 11) (N := some 39) (v := ?_) (a' := ?_) #[true, true, false, true, true, true, true, true, true, true, true, true, false, false, false, false, false, false, false, false, false] rfl rfl (any_of HT_.out (by kernel_rfl)) (fun _ _ _ h => h) (Or.inl ⟨by rfl, ?_⟩) ?_ ?_
                          rotate_left
                          · intro w'
                            go_simp
                            with_reducible rfl
                          rotate_left
                          · simp only [Act.put, List.setIfInBounds_toArray, List.set_cons_zero, List.set_cons_succ, i64_w, i32_w]
                            rfl
                          refine take_ (i := 12) (N := some 40) (v := ?_) (a' := ?_) #[true, true, false, true, true, true, true, true, true, true, true, true, true, false, false, false, false, false, false, false, false] rfl rfl (take_ofW HT_.out HW_.out (by kernel_rfl)) (fun _ _ _ h => h) (Or.inl ⟨by rfl, ?_⟩) hHeld ?_ ?_
                          rotate_left
                          · rintro w' ⟨s0, s1, s2, s3, s4, s5, s6, s7⟩
                            go_simp
                            with_reducible rfl
                          rotate_left
                          · simp only [Act.put, List.setIfInBounds_toArray, List.set_cons_zero, List.set_cons_succ, i64_w, i32_w]
                            rfl
                          refine pure_ (i := 13) (N := some 41) (v := ?_) (a' := ?_) #[true, true, false, true, true, true, true, true, true, true, true, true, true, true, false, false, false, false, false, false, false] rfl rfl (any_of HT_.out (by kernel_rfl)) (fun _ _ _ h => h) (Or.inl ⟨by rfl, ?_⟩) ?_ ?_
                          rotate_left
                          · intro w'
                            go_simp
                            with_reducible rfl
                          rotate_left
                          · simp only [Act.put, List.setIfInBounds_toArray, List.set_cons_zero, List.set_cons_succ, i64_w, i32_w]
                            rfl
                          refine pure_ (i := 14) (N := some 42) (v := ?_) (a' := ?_) #[true, true, false, true, true, true, true, true, true, true, true, true, true, true, true, false, false, false, false, false, false] rfl rfl (any_of HT_.out (by kernel_rfl)) (fun _ _ _ h => h) (Or.inl ⟨by rfl, ?_⟩) ?_ ?_
                          rotate_left
                          · intro w'
                            go_simp
                            with_reducible rfl
                          rotate_left
                          · simp only [Act.put, List.setIfInBounds_toArray, List.set_cons_zero, List.set_cons_succ, i64_w, i32_w]
                            rfl
                          refine pure_ (i := 15) (N := some 43) (v := ?_) (a' := ?_) #[true, true, false, true, true, true, true, true, true, true, true, true, true, true, true, true, false, false, false, false, false] rfl rfl (any_of HT_.out (by kernel_rfl)) (fun _ _ _ h => h) (Or.inl ⟨by rfl, ?_⟩) ?_ ?_
                          rotate_left
                          · intro w'
                            go_simp
                            with_reducible rfl
                          rotate_left
                          · simp only [Act.put, List.setIfInBounds_toArray, List.set_cons_zero, List.set_cons_succ, i64_w, i32_w]
                            rfl
                          refine one_ (i := 2) (N := some 30) #[true, true, true, true, true, true, true, true, true, true, true, true, true, true, true, true, false, false, false, false, false] rfl rfl (one_of HT_.out (by kernel_rfl)) (by decide) (fun K hK => ?_)
                          refine Kd.R_lit_step (Kd.int .i64) _ 3 ?hg (N := 30) ?hd (xs := ([] : List Int)) (inner := []) (ok := fun _ => True) (okp := fun _ => True) ?hr ?hp (fun _ hk => hk) trivial (Below.refl _ _) (Nat.le_refl _) (by simp) ?_; (case hd => rfl); (case hg => rfl); (case hr => first | (go_simp; done) | (go_simp; rfl)); (case hp => exact (Reps.none _ _))
                          intro v112 w33 ho34 hb hg_ hnew_
                          clear hg_ hnew_
                          (first | rw [← Ny111.out] at ho34 | (simp only [Int.reduceToNat] at ho34; rw [← Ny111.out] at ho34))
                          have n0_ := Aside0.mk (Kd.R_elder' (by (with_reducible repeat (first | apply Kd.R_alloc | apply Kd.R_drewN | apply Kd.R_drew)); exact HO_111001.out) (Kd.R_base ho34) hb)
                          have n1_ := Aside0.mk (Kd.S_elder' (by (with_reducible repeat (first | apply Kd.S_alloc | apply Kd.S_drewN | apply Kd.S_drew)); exact HO_111002.out) (Kd.R_base ho34) hb)
                          have n2_ := Aside0.mk (Kd.R_lower (Kd.R_new' ho34 (Kd.R_lt (by (with_reducible repeat (first | apply Kd.R_alloc | apply Kd.R_drewN | apply Kd.R_drew)); exact HO_111001.out))) (below_size (by repeat (first | (with_reducible first | exact HB.out | apply below_alloc | apply pw_below_drewN | apply below_drew1 | refine below_set ?_ GE101.out | refine below_set ?_ GE102.out | refine below_set ?_ GE110.out) | exact HB.out))))
                          have n3_ := Aside0.mk (blk_below (g := gb101) (o := .cells #[.int .i64 a0_0, .slice A0_1 l0_1.length c0_1, .slice (some ad114) l0_2.length c0_2] 29 (0, 0)) (by (with_reducible repeat (first | refine blk_drewN ?_ _ | refine blk_drew ?_ | refine blk_alloc ?_ _)); exact BK101.out) hb)
                          have n4_ := Aside0.mk (blk_below (g := gb102) (o := .cells #[.int .i64 0, .slice none 0 0, .slice none 0 0] 36 (0, 0)) (by (with_reducible repeat (first | refine blk_drewN ?_ _ | refine blk_drew ?_ | refine blk_alloc ?_ _)); exact BK102.out) hb)
                          have n5_ := Aside0.mk (blk_below (g := gb110) (o := .cells #[.int .i64 a0_0, .slice Ao16 y107.length co16, u111002] 36 (0, 0)) (by (with_reducible repeat (first | refine blk_drewN ?_ _ | refine blk_drew ?_ | refine blk_alloc ?_ _)); exact BK110.out) hb)
                          have n6_ := Aside0.mk (below_step (by repeat (first | (with_reducible first | exact HB.out | apply below_alloc | apply pw_below_drewN | apply below_drew1 | refine below_set ?_ GE101.out | refine below_set ?_ GE102.out | refine below_set ?_ GE110.out) | exact HB.out)) hb)
                          clear HO_111001
                          clear HO_111002
                          clear BK101
                          clear BK102
                          clear BK110
                          clear HB
                          have HO_111001 := n0_
                          have HO_111002 := n1_
                          have HO113 := n2_
                          have BK101 := n3_
                          have BK102 := n4_
                          have BK110 := n5_
                          have HB := n6_
                          clear n0_ n1_ n2_ n3_ n4_ n5_ n6_
                          clear hb ho34
                          refine hK.out _ _ ⟨(blk_cell BK110.out 0).trans rfl, (blk_cell BK110.out 1).trans rfl, (blk_cell BK110.out 2).trans rfl, (blk_cell BK101.out 0).trans rfl, (blk_cell BK101.out 1).trans rfl, (blk_cell BK101.out 2).trans rfl, ((HB.out.cell (World.block_lt_of_cell? w _ hw114_0)).trans hw114_0), ((HB.out.cell (World.block_lt_of_cell? w _ hw115_0)).trans hw115_0)⟩ (fun hHeld => ?_)
                          clear hK K
                          refine norm_ (a' := ?_) ?_ ?_
                          rotate_left
                          · show Act.put _ (some 30) _ = _
                            simp only [Act.put, List.setIfInBounds_toArray, List.set_cons_zero, List.set_cons_succ, i64_w, i32_w]
                            rfl
                          refine one_ (i := 16) (N := some 44) #[true, true, true, true, true, true, true, true, true, true, true, true, true, true, true, true, true, false, false, false, false] rfl rfl (one_of HT_.out (by kernel_rfl)) (by decide) (fun K hK => ?_)
                          refine Kd.R_append_rows_step (Kd.int .i64) (w0 := w) w.heap.size (by rfl) (.tmp 30) (.tmp 43) 26 3 (.int .i64 0) 8 rfl Try.underlying26 info3 rfl (by decide) (by omega) v112 y111 ((rd_L14 l0_2 x4_1).take ((ji23) : Int).toNat) _ _ _ (fun k_ => some k_ ≠ (.slice Ao16 y107.length co16 : Value).ownBlock) (fun _ => False) rfl rfl ?aO ?aR (fun _ _ h => h) (fun _ h => h.elim) ?aF ?aB ?aS ?aL ?_
                          (case aR => first | (refine (fun {a_ : Type} {R_ : a_ → List Value → Prop} {s_ : Nat} {w_ : World} {A_ : Option Addr} {n_ : Nat} {xs_ : List a_} (h_ : ReadsRow R_ s_ w_ A_ xs_.length xs_) (e_ : xs_.length = n_) => (by subst e_; exact h_ : ReadsRow R_ s_ w_ A_ n_ xs_)) ?_ (show ((rd_L14 l0_2 x4_1).take ((ji23) : Int).toNat).length = (ji23).toNat from (by rw [List.length_take]; have h_ : ((ji23) : Int) ≤ ((rd_L14 l0_2 x4_1).length : Int) := of_decide_eq_true (by first | (with_reducible assumption) | assumption); omega)); repeat (first | exact (Kd.C_below HR116.out HB.out) | (with_reducible refine Kd.C_alloc ?_ _) | (with_reducible refine Kd.C_drewN ?_ _) | (with_reducible refine Kd.C_drew ?_))) | (repeat (first | exact (Kd.C_below HR116.out HB.out) | (with_reducible refine Kd.C_alloc ?_ _) | (with_reducible refine Kd.C_drewN ?_ _) | (with_reducible refine Kd.C_drew ?_))))
                          (case aB => exact (by repeat (first | (with_reducible first | exact HB.out | apply below_alloc | apply pw_below_drewN | apply below_drew1 | refine below_set ?_ GE101.out | refine below_set ?_ GE102.out | refine below_set ?_ GE110.out) | exact HB.out)))
                          (case aF => exact (fun k_ hk => Kd.fresh' (Kd.R_lt (by (with_reducible repeat (first | apply Kd.R_alloc | apply Kd.R_drewN | apply Kd.R_drew)); exact HO_111001.out)) k_ hk))
                          (case aO => exact (by (with_reducible repeat (first | apply Kd.R_alloc | apply Kd.R_drewN | apply Kd.R_drew)); exact Kd.R_mono HO113.out (fun _ hk => hk.2)))
                          (case aS => exact (below_size (by repeat (first | (with_reducible first | exact HB.out | apply below_alloc | apply pw_below_drewN | apply below_drew1 | refine below_set ?_ GE101.out | refine below_set ?_ GE102.out | refine below_set ?_ GE110.out) | exact HB.out))))
                          (case aL => have := LMc26.out; have hlx_ := (show ((rd_L14 l0_2 x4_1).take ((ji23) : Int).toNat).length = (ji23).toNat from (by rw [List.length_take]; have h_ : ((ji23) : Int) ≤ ((rd_L14 l0_2 x4_1).length : Int) := of_decide_eq_true (by first | (with_reducible assumption) | assumption); omega)); omega)
                          intro v118 w35 ho hb hg hat
                          rw [← Ny117.out] at ho
                          have n0_ := Aside0.mk (Kd.R_after (ok := (fun _ => True)) (by (with_reducible repeat (first | apply Kd.R_alloc | apply Kd.R_drewN | apply Kd.R_drew)); exact HO_111001.out) hg hat)
                          have n1_ := Aside0.mk (Kd.S_after (ok := (fun k_ => some k_ ≠ (.slice Ao16 y107.length co16 : Value).ownBlock)) (by (with_reducible repeat (first | apply Kd.S_alloc | apply Kd.S_drewN | apply Kd.S_drew)); exact HO_111002.out) hg hat)
                          have n2_ := Aside0.mk (blk_grown (g := gb101) (o := .cells #[.int .i64 a0_0, .slice A0_1 l0_1.length c0_1, .slice (some ad114) l0_2.length c0_2] 29 (0, 0)) (by (with_reducible repeat (first | refine blk_drewN ?_ _ | refine blk_drew ?_ | refine blk_alloc ?_ _)); exact BK101.out) hg (Kd.R_ne HO113.out BK101.out (by decide)))
                          have n3_ := Aside0.mk (blk_grown (g := gb102) (o := .cells #[.int .i64 0, .slice none 0 0, .slice none 0 0] 36 (0, 0)) (by (with_reducible repeat (first | refine blk_drewN ?_ _ | refine blk_drew ?_ | refine blk_alloc ?_ _)); exact BK102.out) hg (Kd.R_ne HO113.out BK102.out (by decide)))
                          have n4_ := Aside0.mk (blk_grown (g := gb110) (o := .cells #[.int .i64 a0_0, .slice Ao16 y107.length co16, u111002] 36 (0, 0)) (by (with_reducible repeat (first | refine blk_drewN ?_ _ | refine blk_drew ?_ | refine blk_alloc ?_ _)); exact BK110.out) hg (Kd.R_ne HO113.out BK110.out (by decide)))
                          have n5_ := Aside0.mk (hb)
                          have n6_ := Aside0.mk (ho)
                          clear HO_111001
                          clear HO_111002
                          clear BK101
                          clear BK102
                          clear BK110
                          clear HB
                          clear HO113
                          have HO_111001 := n0_
                          have HO_111002 := n1_
                          have BK101 := n2_
                          have BK102 := n3_
                          have BK110 := n4_
                          have HB := n5_
                          have HO119 := n6_
                          clear n0_ n1_ n2_ n3_ n4_ n5_ n6_
                          clear ho hb hg hat
                          obtain ⟨Ao37, co37, eo37⟩ := Kd.R_slice HO119.out
                          (first | subst eo37 | (injection eo37 with f1_ f2_ f3_; have f4_ := f1_.symm; have f5_ := f3_.symm; clear f1_ f2_ f3_; subst f4_; subst f5_))
                          refine hK.out _ _ ⟨(blk_cell BK110.out 0).trans rfl, (blk_cell BK110.out 1).trans rfl, (blk_cell BK110.out 2).trans rfl, (blk_cell BK101.out 0).trans rfl, (blk_cell BK101.out 1).trans rfl, (blk_cell BK101.out 2).trans rfl, ((HB.out.cell (World.block_lt_of_cell? w _ hw114_0)).trans hw114_0), ((HB.out.cell (World.block_lt_of_cell? w _ hw115_0)).trans hw115_0)⟩ (fun hHeld => ?_)
                          clear hK K
                          refine norm_ (a' := ?_) ?_ ?_
                          rotate_left
                          · show Act.put _ (some 44) _ = _
                            simp only [Act.put, List.setIfInBounds_toArray, List.set_cons_zero, List.set_cons_succ, i64_w, i32_w]
                            rfl
                          refine one_ (i := 17) (N := some 45) #[true, true, true, true, true, true, true, true, true, true, true, true, true, true, true, true, true, true, false, false, false] rfl rfl (one_of HT_.out (by kernel_rfl)) (by decide) (fun K hK => ?_)
                          refine value_ (w1 := ?_) (v := ?_) (by rfl) rfl ?_ ?_
                          rotate_left 2
                          · go_simp
                            constructor
                            · rfl
                            · rfl
                          refine hK.out _ _ ⟨(blk_cell (blk_alloc BK110.out _) 0).trans rfl, (blk_cell (blk_alloc BK110.out _) 1).trans rfl, (blk_cell (blk_alloc BK110.out _) 2).trans rfl, (blk_cell (blk_alloc BK101.out _) 0).trans rfl, (blk_cell (blk_alloc BK101.out _) 1).trans rfl, (blk_cell (blk_alloc BK101.out _) 2).trans rfl, (World.cell?_alloc_lt _ _ _ (World.block_lt_of_cell? _ _ (((HB.out.cell (World.block_lt_of_cell? w _ hw114_0)).trans hw114_0)))).trans (((HB.out.cell (World.block_lt_of_cell? w _ hw114_0)).trans hw114_0)), (World.cell?_alloc_lt _ _ _ (World.block_lt_of_cell? _ _ (((HB.out.cell (World.block_lt_of_cell? w _ hw115_0)).trans hw115_0)))).trans (((HB.out.cell (World.block_lt_of_cell? w _ hw115_0)).trans hw115_0))⟩ (fun hHeld => ?_)
                          clear hK K
                          refine norm_ (a' := ?_) ?_ ?_
                          rotate_left
                          · show Act.put _ (some 45) _ = _
                            simp only [Act.put, List.setIfInBounds_toArray, List.set_cons_zero, List.set_cons_succ, i64_w, i32_w]
                            rfl
                          refine one_ (i := 18) (N := some 46) #[true, true, true, true, true, true, true, true, true, true, true, true, true, true, true, true, true, true, true, false, false] rfl rfl (one_of HT_.out (by kernel_rfl)) (by decide) (fun K hK => ?_)
                          refine Kd.S_append_step (Kd.slice 3 (Kd.int .i64)) (w0 := w) w.heap.size (by rfl) (.tmp 29) (.tmp 45) 27 26 (.slice none 0 0) 24 rfl Try.underlying27 info26 rfl (by decide) (by omega) u111002 x111002_1 y117 [.slice Ao37 y117.length co37] (fun k_ => some k_ ≠ (.slice Ao16 y107.length co16 : Value).ownBlock) (fun k_ => some k_ = (.slice Ao37 y117.length co37 : Value).ownBlock) rfl rfl ?aP (fun k_ hk_ => ((Kd.R_mono (ok' := fun k_ => ((fun k_ => some k_ ≠ (.slice Ao16 y107.length co16 : Value).ownBlock)) k_ ∧ some k_ ≠ (u111002 : Value).ownBlock) (Kd.R_apart' (HO119.out) (Kd.S_typed HO_111002.out) (by decide)) (fun k_ hk => ⟨hk.1, hk.2⟩))).1 k_ hk_.symm) ?aF ?aO ?aB ?aS ?aL ?_
                          (case aP => exact Kd.M_row (Kd.R_mono (Kd.R_tight rfl (Kd.R_mono (ok' := fun k_ => ((fun k_ => some k_ ≠ (.slice Ao16 y107.length co16 : Value).ownBlock)) k_ ∧ some k_ ≠ (u111002 : Value).ownBlock) (Kd.R_apart' (HO119.out) (Kd.S_typed HO_111002.out) (by decide)) (fun k_ hk => ⟨hk.1, hk.2⟩))) (fun _ h_ => h_)))
                          (case aB => exact (by repeat (first | (with_reducible first | exact HB.out | apply below_alloc | apply pw_below_drewN | apply below_drew1 | refine below_set ?_ GE101.out | refine below_set ?_ GE102.out | refine below_set ?_ GE110.out) | exact HB.out)))
                          (case aF => exact (fun k_ hk => Kd.fresh' (Kd.R_lt (by (with_reducible repeat (first | apply Kd.R_alloc | apply Kd.R_drewN | apply Kd.R_drew)); exact HO_111001.out)) k_ hk))
                          (case aO => exact (by (with_reducible repeat (first | apply Kd.S_alloc | apply Kd.S_drewN | apply Kd.S_drew)); exact Kd.S_mono HO_111002.out (fun k_ hk => ⟨hk.1, fun e_ => hk.2 e_⟩)))
                          (case aS => exact (below_size (by repeat (first | (with_reducible first | exact HB.out | apply below_alloc | apply pw_below_drewN | apply below_drew1 | refine below_set ?_ GE101.out | refine below_set ?_ GE102.out | refine below_set ?_ GE110.out) | exact HB.out))))
                          (case aL => have := LMc27.out; omega)
                          intro v121 w36 ho hb hg hat
                          rw [← Ny120.out] at ho
                          have n0_ := Aside0.mk (Kd.R_over' (by (with_reducible repeat (first | apply Kd.R_alloc | apply Kd.R_drewN | apply Kd.R_drew)); exact HO_111001.out) (Kd.S_typed (by (with_reducible repeat (first | apply Kd.S_alloc | apply Kd.S_drewN | apply Kd.S_drew)); exact HO_111002.out)) (by decide) hg)
                          have n1_ := Aside0.mk (blk_grown (g := gb101) (o := .cells #[.int .i64 a0_0, .slice A0_1 l0_1.length c0_1, .slice (some ad114) l0_2.length c0_2] 29 (0, 0)) (by (with_reducible repeat (first | refine blk_drewN ?_ _ | refine blk_drew ?_ | refine blk_alloc ?_ _)); exact BK101.out) hg (Kd.S_ne HO_111002.out BK101.out (by decide)))
                          have n2_ := Aside0.mk (blk_grown (g := gb102) (o := .cells #[.int .i64 0, .slice none 0 0, .slice none 0 0] 36 (0, 0)) (by (with_reducible repeat (first | refine blk_drewN ?_ _ | refine blk_drew ?_ | refine blk_alloc ?_ _)); exact BK102.out) hg (Kd.S_ne HO_111002.out BK102.out (by decide)))
                          have n3_ := Aside0.mk (blk_grown (g := gb110) (o := .cells #[.int .i64 a0_0, .slice Ao16 y107.length co16, u111002] 36 (0, 0)) (by (with_reducible repeat (first | refine blk_drewN ?_ _ | refine blk_drew ?_ | refine blk_alloc ?_ _)); exact BK110.out) hg (Kd.S_ne HO_111002.out BK110.out (by decide)))
                          have n4_ := Aside0.mk (hb)
                          have n5_ := Aside0.mk (ho)
                          clear HO_111001
                          clear BK101
                          clear BK102
                          clear BK110
                          clear HB
                          clear HO_111002
                          clear HO119
                          have HO_111001 := n0_
                          have BK101 := n1_
                          have BK102 := n2_
                          have BK110 := n3_
                          have HB := n4_
                          have HO122 := n5_
                          clear n0_ n1_ n2_ n3_ n4_ n5_
                          clear ho hb hg hat
                          obtain ⟨Ao38, co38, eo38⟩ := Kd.S_slice HO122.out
                          (first | subst eo38 | (injection eo38 with f1_ f2_ f3_; have f4_ := f1_.symm; have f5_ := f3_.symm; clear f1_ f2_ f3_; subst f4_; subst f5_))
                          refine hK.out _ _ ⟨(blk_cell BK110.out 0).trans rfl, (blk_cell BK110.out 1).trans rfl, (blk_cell BK110.out 2).trans rfl, (blk_cell BK101.out 0).trans rfl, (blk_cell BK101.out 1).trans rfl, (blk_cell BK101.out 2).trans rfl, ((HB.out.cell (World.block_lt_of_cell? w _ hw114_0)).trans hw114_0), ((HB.out.cell (World.block_lt_of_cell? w _ hw115_0)).trans hw115_0)⟩ (fun hHeld => ?_)
                          clear hK K
                          refine norm_ (a' := ?_) ?_ ?_
                          rotate_left
                          · show Act.put _ (some 46) _ = _
                            simp only [Act.put, List.setIfInBounds_toArray, List.set_cons_zero, List.set_cons_succ, i64_w, i32_w]
                            rfl
                          refine pure_ (i := 19) (N := some 47) (v := ?_) (a' := ?_) #[true, true, true, true, true, true, true, true, true, true, true, true, true, true, true, true, true, true, true, true, false] rfl rfl (any_of HT_.out (by kernel_rfl)) (fun _ _ _ h => h) (Or.inl ⟨by rfl, ?_⟩) ?_ ?_
                          rotate_left
                          · intro w'
                            go_simp
                            with_reducible rfl
                          rotate_left
                          · simp only [Act.put, List.setIfInBounds_toArray, List.set_cons_zero, List.set_cons_succ, i64_w, i32_w]
                            rfl
                          refine last_ (i := 20) (N := none) #[true, true, true, true, true, true, true, true, true, true, true, true, true, true, true, true, true, true, true, true, true] rfl rfl (one_of HT_.out (by kernel_rfl)) (by decide) (fun K hK => ?_)
                          have hs39 : w36.cell? ⟨gb110, 2, none⟩ = some (u111002) := (blk_cell BK110.out 2).trans rfl
                          have hfs39 := blk_frozen BK110.out 2
                          have hns39_0 := NB101_110.out
                          have hns39_1 := NB102_110.out
                          have hms39_0 := NB110_101.out
                          have hms39_1 := NB110_102.out
                          refine skip_ (w1 := ?_) (by rfl) rfl ?_ ?_
                          rotate_left
                          · go_simp
                            rfl
                          refine hK.out _ _ ?_
                          clear hK K
                          refine done_ (done_of HT_.out (by kernel_rfl)) ?_
                          try go_wp2
                          go_roundg k1
                          case measure => have := HK1.out; omega
                          case rel => exact ⟨(wrap64 (x4_1 + 1)), (y120), (.slice Ao38 y120.length co38), (by first | rfl | (simp; done) | (simp [*]; done)), H', ⟨by have := HK1.out; omega⟩, ⟨by (with_reducible repeat (first | apply Kd.R_alloc | apply Kd.R_drewN | apply Kd.R_drew)); exact Kd.R_mono (Kd.R_far (p := ⟨gb110, 2, none⟩) (Kd.R_types HO_111001.out BK110.out (by decide)) (fun _ hk => hk.2) (.slice Ao38 y120.length co38)) (fun _ hk => trivial)⟩, ⟨by (with_reducible repeat (first | apply Kd.S_alloc | apply Kd.S_drewN | apply Kd.S_drew)); exact Kd.S_mono (Kd.S_far (p := ⟨gb110, 2, none⟩) (Kd.S_types HO122.out BK110.out (by decide)) (fun _ hk => hk.2) (.slice Ao38 y120.length co38)) (fun _ hk => hk.1)⟩, ⟨by (with_reducible repeat (first | refine blk_drewN ?_ _ | refine blk_drew ?_ | refine blk_alloc ?_ _)); refine blk_far ?_ NB101_110.out _; (with_reducible repeat (first | refine blk_drewN ?_ _ | refine blk_drew ?_ | refine blk_alloc ?_ _)); exact BK101.out⟩, ⟨by (with_reducible repeat (first | refine blk_drewN ?_ _ | refine blk_drew ?_ | refine blk_alloc ?_ _)); refine blk_far ?_ NB102_110.out _; (with_reducible repeat (first | refine blk_drewN ?_ _ | refine blk_drew ?_ | refine blk_alloc ?_ _)); exact BK102.out⟩, ⟨by (with_reducible repeat (first | refine blk_drewN ?_ _ | refine blk_drew ?_ | refine blk_alloc ?_ _)); refine blk_put (cs := #[.int .i64 a0_0, .slice Ao16 y107.length co16, u111002]) ?_ 2 _ rfl; (with_reducible repeat (first | refine blk_drewN ?_ _ | refine blk_drew ?_ | refine blk_alloc ?_ _)); exact BK110.out⟩, ⟨by repeat (first | (with_reducible first | exact HB.out | apply below_alloc | apply pw_below_drewN | apply below_drew1 | refine below_set ?_ GE101.out | refine below_set ?_ GE102.out | refine below_set ?_ GE110.out) | exact HB.out)⟩⟩
                        · rw [if_neg c27] at H
                          exact absurd H (by simp)
                      · rw [if_neg c26] at H
                        exact absurd H (by simp)
                    · rw [if_neg c25] at H
                      exact absurd H (by simp)
                  · rw [if_neg c24] at H
                    exact absurd H (by simp)
                · rw [if_neg c22] at H
                  exact absurd H (by simp)
              · rw [if_neg c21] at H
                have c21b0 : decide (x4_1 < 8) = false := decide_eq_false c21
                clear c21
                simp only [Option.some.injEq, Prod.mk.injEq] at H
                obtain ⟨rfl, rfl, rfl⟩ := H
                have hnb40 := NB101_102.out
                have hnc40 := NB102_101.out
                have hnb41 := NB101_110.out
                have hnc41 := NB110_101.out
                have hcz42_0 : wr.cell? ⟨gb101, 0, none⟩ = some (.int .i64 a0_0) := (blk_cell BK101.out 0).trans rfl
                have hcz42_1 : wr.cell? ⟨gb101, 1, none⟩ = some (.slice A0_1 l0_1.length c0_1) := (blk_cell BK101.out 1).trans rfl
                have hcz42_2 : wr.cell? ⟨gb101, 2, none⟩ = some (.slice A0_2 l0_2.length c0_2) := (blk_cell BK101.out 2).trans rfl
                have hfz42_0 := blk_frozen BK101.out 0
                have hfz42_1 := blk_frozen BK101.out 1
                have hfz42_2 := blk_frozen BK101.out 2
                have hnb43 := NB110_102.out
                have hnc43 := NB102_110.out
                have hcz44_0 : wr.cell? ⟨gb110, 0, none⟩ = some (.int .i64 a0_0) := (blk_cell BK110.out 0).trans rfl
                have hcz44_1 : wr.cell? ⟨gb110, 1, none⟩ = some (.slice Ao16 y107.length co16) := (blk_cell BK110.out 1).trans rfl
                have hcz44_2 : wr.cell? ⟨gb110, 2, none⟩ = some (u111002) := (blk_cell BK110.out 2).trans rfl
                have hfz44_0 := blk_frozen BK110.out 0
                have hfz44_1 := blk_frozen BK110.out 1
                have hfz44_2 := blk_frozen BK110.out 2
                have hcz45_0 : wr.cell? ⟨gb102, 0, none⟩ = some (.int .i64 0) := (blk_cell BK102.out 0).trans rfl
                have hcz45_1 : wr.cell? ⟨gb102, 1, none⟩ = some (.slice none 0 0) := (blk_cell BK102.out 1).trans rfl
                have hcz45_2 : wr.cell? ⟨gb102, 2, none⟩ = some (.slice none 0 0) := (blk_cell BK102.out 2).trans rfl
                have hfz45_0 := blk_frozen BK102.out 0
                have hfz45_1 := blk_frozen BK102.out 1
                have hfz45_2 := blk_frozen BK102.out 2
                obtain ⟨Ao46, co46, eo46⟩ := Kd.S_slice HO_111002.out
                subst eo46
                go_wp2
                refine bodyPost_ret (results_cell_row rfl _ _ gb102 36 #[.int .i64 a0_0, .slice Ao16 y107.length co16, .slice Ao46 x111002_1.length co46] (0, 0) _ rfl (by (with_reducible repeat (first | refine blk_drewN ?_ _ | refine blk_drew ?_ | refine blk_alloc ?_ _)); refine blk_put (cs := #[.int .i64 a0_0, .slice Ao16 y107.length co16, .slice none 0 0]) ?_ 2 _ rfl; (with_reducible repeat (first | refine blk_drewN ?_ _ | refine blk_drew ?_ | refine blk_alloc ?_ _)); refine blk_put (cs := #[.int .i64 a0_0, .slice none 0 0, .slice none 0 0]) ?_ 1 _ rfl; (with_reducible repeat (first | refine blk_drewN ?_ _ | refine blk_drew ?_ | refine blk_alloc ?_ _)); refine blk_put (cs := #[.int .i64 0, .slice none 0 0, .slice none 0 0]) ?_ 0 _ rfl; (with_reducible repeat (first | refine blk_drewN ?_ _ | refine blk_drew ?_ | refine blk_alloc ?_ _)); exact BK102.out) Try.underlying36 rfl (by kernel_rfl)) rfl ?_
                exact ⟨_, _, by first | rfl | (simp [errW_none, errW_some] <;> rfl) | (simp only [← hji2]; first | rfl | (simp [errW_none, errW_some] <;> rfl)) | (simp [*, errW_none, errW_some] <;> rfl), by (with_reducible repeat (first | apply Kd.R_alloc | apply Kd.R_drewN | apply Kd.R_drew)); exact Kd.R_mono (Kd.R_far (p := ⟨gb102, 2, none⟩) (Kd.R_far (p := ⟨gb102, 1, none⟩) (Kd.R_far (p := ⟨gb102, 0, none⟩) (Kd.R_types HO_111001.out BK102.out (by decide)) (fun _ hk => hk.2) (.int .i64 a0_0)) (fun _ hk => hk.2) (.slice Ao16 y107.length co16)) (fun _ hk => hk.2) (.slice Ao46 x111002_1.length co46)) (fun _ hk => trivial), by (with_reducible repeat (first | apply Kd.S_alloc | apply Kd.S_drewN | apply Kd.S_drew)); exact Kd.S_mono (Kd.S_far (p := ⟨gb102, 2, none⟩) (Kd.S_far (p := ⟨gb102, 1, none⟩) (Kd.S_far (p := ⟨gb102, 0, none⟩) (Kd.S_types HO_111002.out BK102.out (by decide)) (fun _ hk => hk.2) (.int .i64 a0_0)) (fun _ hk => hk.2) (.slice Ao16 y107.length co16)) (fun _ hk => hk.2) (.slice Ao46 x111002_1.length co46)) (fun _ hk => hk.1), by repeat (first | (with_reducible first | exact HB.out | apply below_alloc | apply pw_below_drewN | apply below_drew1 | refine below_set ?_ GE101.out | refine below_set ?_ GE102.out | refine below_set ?_ GE110.out) | exact HB.out)⟩
            · rw [if_neg c20] at H
              have c20b0 : decide (x4_1 < (l0_2.length : Int)) = false := decide_eq_false c20
              clear c20
              simp only [Option.some.injEq, Prod.mk.injEq] at H
              obtain ⟨rfl, rfl, rfl⟩ := H
              have hnb47 := NB101_102.out
              have hnc47 := NB102_101.out
              have hnb48 := NB101_110.out
              have hnc48 := NB110_101.out
              have hcz49_0 : wr.cell? ⟨gb101, 0, none⟩ = some (.int .i64 a0_0) := (blk_cell BK101.out 0).trans rfl
              have hcz49_1 : wr.cell? ⟨gb101, 1, none⟩ = some (.slice A0_1 l0_1.length c0_1) := (blk_cell BK101.out 1).trans rfl
              have hcz49_2 : wr.cell? ⟨gb101, 2, none⟩ = some (.slice A0_2 l0_2.length c0_2) := (blk_cell BK101.out 2).trans rfl
              have hfz49_0 := blk_frozen BK101.out 0
              have hfz49_1 := blk_frozen BK101.out 1
              have hfz49_2 := blk_frozen BK101.out 2
              have hnb50 := NB110_102.out
              have hnc50 := NB102_110.out
              have hcz51_0 : wr.cell? ⟨gb110, 0, none⟩ = some (.int .i64 a0_0) := (blk_cell BK110.out 0).trans rfl
              have hcz51_1 : wr.cell? ⟨gb110, 1, none⟩ = some (.slice Ao16 y107.length co16) := (blk_cell BK110.out 1).trans rfl
              have hcz51_2 : wr.cell? ⟨gb110, 2, none⟩ = some (u111002) := (blk_cell BK110.out 2).trans rfl
              have hfz51_0 := blk_frozen BK110.out 0
              have hfz51_1 := blk_frozen BK110.out 1
              have hfz51_2 := blk_frozen BK110.out 2
              have hcz52_0 : wr.cell? ⟨gb102, 0, none⟩ = some (.int .i64 0) := (blk_cell BK102.out 0).trans rfl
              have hcz52_1 : wr.cell? ⟨gb102, 1, none⟩ = some (.slice none 0 0) := (blk_cell BK102.out 1).trans rfl
              have hcz52_2 : wr.cell? ⟨gb102, 2, none⟩ = some (.slice none 0 0) := (blk_cell BK102.out 2).trans rfl
              have hfz52_0 := blk_frozen BK102.out 0
              have hfz52_1 := blk_frozen BK102.out 1
              have hfz52_2 := blk_frozen BK102.out 2
              obtain ⟨Ao53, co53, eo53⟩ := Kd.S_slice HO_111002.out
              subst eo53
              go_wp2
              refine bodyPost_ret (results_cell_row rfl _ _ gb102 36 #[.int .i64 a0_0, .slice Ao16 y107.length co16, .slice Ao53 x111002_1.length co53] (0, 0) _ rfl (by (with_reducible repeat (first | refine blk_drewN ?_ _ | refine blk_drew ?_ | refine blk_alloc ?_ _)); refine blk_put (cs := #[.int .i64 a0_0, .slice Ao16 y107.length co16, .slice none 0 0]) ?_ 2 _ rfl; (with_reducible repeat (first | refine blk_drewN ?_ _ | refine blk_drew ?_ | refine blk_alloc ?_ _)); refine blk_put (cs := #[.int .i64 a0_0, .slice none 0 0, .slice none 0 0]) ?_ 1 _ rfl; (with_reducible repeat (first | refine blk_drewN ?_ _ | refine blk_drew ?_ | refine blk_alloc ?_ _)); refine blk_put (cs := #[.int .i64 0, .slice none 0 0, .slice none 0 0]) ?_ 0 _ rfl; (with_reducible repeat (first | refine blk_drewN ?_ _ | refine blk_drew ?_ | refine blk_alloc ?_ _)); exact BK102.out) Try.underlying36 rfl (by kernel_rfl)) rfl ?_
              exact ⟨_, _, by first | rfl | (simp [errW_none, errW_some] <;> rfl) | (simp only [← hji2]; first | rfl | (simp [errW_none, errW_some] <;> rfl)) | (simp [*, errW_none, errW_some] <;> rfl), by (with_reducible repeat (first | apply Kd.R_alloc | apply Kd.R_drewN | apply Kd.R_drew)); exact Kd.R_mono (Kd.R_far (p := ⟨gb102, 2, none⟩) (Kd.R_far (p := ⟨gb102, 1, none⟩) (Kd.R_far (p := ⟨gb102, 0, none⟩) (Kd.R_types HO_111001.out BK102.out (by decide)) (fun _ hk => hk.2) (.int .i64 a0_0)) (fun _ hk => hk.2) (.slice Ao16 y107.length co16)) (fun _ hk => hk.2) (.slice Ao53 x111002_1.length co53)) (fun _ hk => trivial), by (with_reducible repeat (first | apply Kd.S_alloc | apply Kd.S_drewN | apply Kd.S_drew)); exact Kd.S_mono (Kd.S_far (p := ⟨gb102, 2, none⟩) (Kd.S_far (p := ⟨gb102, 1, none⟩) (Kd.S_far (p := ⟨gb102, 0, none⟩) (Kd.S_types HO_111002.out BK102.out (by decide)) (fun _ hk => hk.2) (.int .i64 a0_0)) (fun _ hk => hk.2) (.slice Ao16 y107.length co16)) (fun _ hk => hk.2) (.slice Ao53 x111002_1.length co53)) (fun _ hk => hk.1), by repeat (first | (with_reducible first | exact HB.out | apply below_alloc | apply pw_below_drewN | apply below_drew1 | refine below_set ?_ GE101.out | refine below_set ?_ GE102.out | refine below_set ?_ GE110.out) | exact HB.out)⟩
      · rw [if_neg c5] at H
        exact absurd H (by simp)
    · rw [if_neg c4] at H
      exact absurd H (by simp)
  · rw [if_neg c3] at H
    exact absurd H (by simp)
end Go.Proofs.Ytkemhnfaheplhaa.F
namespace Go.Proofs.Ytkemhnfaheplhaa.F
open Go.RowKit Go.Proofs.YtkemhnfaheplhaaW.PrintWords Go.Proofs.YtkemhnfaheplhaaW.PrintLast Go.Proofs.YtkemhnfaheplhaaW.PrintMore
attribute [local go_sem] max2_int min2_int max_two min_two max_three min_three max_four min_four
set_option linter.unusedVariables false
set_option linter.unusedSimpArgs false
def graph_Add.j0 : Nat → Int → Int → Bool → Int → List (S69) → Option (Int × (List (S69)) × Int)
  | 0, _, _, _, _, _ => none
  | k + 1, x1, x2, x13, x102000, x102001 => if x13 = true then (some (0, ([] : List (S69)), 4)) else (if x1 = x2 then (some (0, ([] : List (S69)), 1)) else ((api_Edge_63.f x102001).bind fun t104 => ((some (([(⟨x1, x2⟩ : S69)] : List (S69)) : List (S69))).bind fun y107 => (if t104.length + y107.length < 8796093022208 then ((graph_Normal.f x102000 (t104 ++ y107)).bind fun bt113 => (some (bt113.1, bt113.2.1, bt113.2.2))) else (none)))))
def graph_Add.f (k : Nat) (a0_0 : Int) (l0_1 : List (S69)) (a1 : Int) (a2 : Int) : Option (Int × (List (S69)) × Int) := (graph_Right.f a0_0 l0_1).bind fun t103 => (if t103 = true then (if (mn a1 a2) < 0 then (graph_Add.j0 k a1 a2 true a0_0 l0_1) else (graph_Add.j0 k a1 a2 (decide ((mx a1 a2) ≥ a0_0)) a0_0 l0_1)) else (some (0, ([] : List (S69)), 1)))
theorem graph_Add.mono_l : ∀ k, (∀ y0 y1 y2 y3 y4, LeO (graph_Add.j0 k y0 y1 y2 y3 y4) (graph_Add.j0 (k + 1) y0 y1 y2 y3 y4))
  | 0 => fun _ _ _ _ _ r h => by simp [graph_Add.j0] at h
  | k + 1 => by
    have ih0 := graph_Add.mono_l k
    · intro y0 y1 y2 y3 y4
      unfold graph_Add.j0
      repeat' first
      | (with_reducible exact ih0 _ _ _ _ _)
      | (with_reducible exact LeO.refl _)
      | (with_reducible exact LeO.none _)
      | (with_reducible refine LeO.ite ?_ ?_)
      | (with_reducible refine LeO.bind ?_ (fun _ => ?_))
      | exact ih0 _ _ _ _ _
      | exact LeO.none _
      | refine LeO.ite ?_ ?_
      | refine LeO.bind ?_ (fun _ => ?_)
theorem graph_Add.mono : ∀ a0 a1 a2 a3 k, LeO (graph_Add.f k a0 a1 a2 a3) (graph_Add.f (k + 1) a0 a1 a2 a3) := by
  intro a0 a1 a2 a3 k
  have ih0 := graph_Add.mono_l k
  unfold graph_Add.f
  repeat' first
      | (with_reducible exact ih0 _ _ _ _ _)
      | (with_reducible exact LeO.refl _)
      | (with_reducible exact LeO.none _)
      | (with_reducible refine LeO.ite ?_ ?_)
      | (with_reducible refine LeO.bind ?_ (fun _ => ?_))
      | exact ih0 _ _ _ _ _
      | exact LeO.none _
      | refine LeO.ite ?_ ?_
      | refine LeO.bind ?_ (fun _ => ?_)
def graph_Add.T7 : Bool × List (List Nat × List Nat) := (true, [([], []), ([0], [0]), ([], []), ([2], [2]), ([3], [3]), ([], []), ([], []), ([5, 6], [5, 6]), ([7], [7]), ([4, 8, 4], [4, 8]), ([1, 9, 9], [1, 9]), ([10], [10]), ([10], [10]), ([11, 10, 0, 1, 2, 3, 4, 5, 6, 7, 8, 9, 10, 11, 12], [11]), ([12, 13, 0, 1, 2, 3, 4, 5, 6, 7, 8, 9, 10, 11, 12, 13], [12])])
def graph_Add.B7 : List Nat := [0, 1, 0, 4, 12, 0, 0, 96, 224, 508, 1023, 2047, 2047, 8191, 16383]
theorem graph_Add.tab7 : rtab .any (opsOf Try.f18 7) = graph_Add.T7 := by kernel_rfl
theorem graph_Add.bits7 : waitsOk graph_Add.T7.2 graph_Add.B7 = true := by kernel_rfl
set_option maxHeartbeats 8000000 in
set_option maxRecDepth 100000 in
theorem graph_Add.calls (k : Nat) (a0_0 : Int) (A0_1 : Option Addr) (c0_1 : Nat) (l0_1 : List (S69)) (a1 : Int) (a2 : Int) (r1 : Int) (r2 : List (S69)) (r3 : Int) (w : World) (hr0_1 : Kd.C k69 w A0_1 l0_1.length l0_1) (hc0_1 : l0_1.length ≤ c0_1) (h : graph_Add.f k a0_0 l0_1 a1 a2 = some (r1, r2, r3)) :
    Calls Try.prog 18 #[.agg #[.int .i64 a0_0, .slice A0_1 l0_1.length c0_1], .int .i64 a1, .int .i64 a2] w fun e w' => ∃ v1_ : Value, e = .returned (.tuple #[.agg #[.int .i64 r1, v1_], .int .i64 r3]) ∧ Kd.R k69 69 w' w.heap.size (fun _ => True) v1_ r2 ∧ Below w.heap.size w w' := by
  have hu31 := Try.underlying31
  have hu69 := Try.underlying69
  have HR0_1 := Aside0.mk hr0_1
  have HC0_1 := Aside0.mk hc0_1
  clear hr0_1 hc0_1
  have HB := Aside0.mk (Below.refl w.heap.size w)
  have H : ((graph_Right.f a0_0 l0_1).bind fun t103 => (if t103 = true then (if (mn a1 a2) < 0 then (graph_Add.j0 k a1 a2 true a0_0 l0_1) else (graph_Add.j0 k a1 a2 (decide ((mx a1 a2) ≥ a0_0)) a0_0 l0_1)) else (some (0, ([] : List (S69)), 1)))) = some (r1, r2, r3) := h
  clear h
  replace H := Option.bind_eq_some_iff.mp H
  obtain ⟨t103, A40, H⟩ := H
  replace H : (if t103 = true then (if (mn a1 a2) < 0 then (graph_Add.j0 k a1 a2 true a0_0 l0_1) else (graph_Add.j0 k a1 a2 (decide ((mx a1 a2) ≥ a0_0)) a0_0 l0_1)) else (some (0, ([] : List (S69)), 1))) = some (r1, r2, r3) := H
  have A4 := Aside0.mk A40
  clear A40
  by_cases c5 : t103 = true
  · subst c5
    have H1 : (if (mn a1 a2) < 0 then (graph_Add.j0 k a1 a2 true a0_0 l0_1) else (graph_Add.j0 k a1 a2 (decide ((mx a1 a2) ≥ a0_0)) a0_0 l0_1)) = some (r1, r2, r3) := by rw [if_pos rfl] at H; exact H
    clear H
    have H := H1
    clear H1
    have HC6 := Aside0.mk H
    clear H
    go_enter Try.func18, Try.ntmps18
    go_upto_region 3 with (first | ((with_reducible refine gate_dst (N := 3) rfl ?_); (try (refine gate_guard (by rfl) ?_; dsimp only)); refine box_event ?hg (N := 3) ?hd (cs := #[.int .i64 a0_0, .slice A0_1 l0_1.length c0_1]) (t := 31) ?hr ?_; (case hd => rfl); (case hg => rfl); (case hr => first | (go_simp; done) | (go_simp; rfl)); intro gb101 hg w7 hbox hb; have n0_ := Aside0.mk (below_step (by repeat (first | (with_reducible first | exact HB.out | apply below_alloc | apply pw_below_drewN | apply below_drew1) | exact HB.out)) hb); have n1_ := Aside0.mk (hbox); have n2_ := Aside0.mk ((by rw [hg]; exact (below_size (by repeat (first | (with_reducible first | exact HB.out | apply below_alloc | apply pw_below_drewN | apply below_drew1) | exact HB.out))) : w.heap.size ≤ gb101)); have n3_ := Aside0.mk ((by rw [hg]; exact (below_size (by repeat (first | (with_reducible first | exact HB.out | apply below_alloc | apply pw_below_drewN | apply below_drew1) | exact HB.out))) : w.heap.size ≤ gb101)); clear HB; have HB := n0_; have BK101 := n1_; have GW101 := n2_; have GE101 := n3_; clear n0_ n1_ n2_ n3_; clear hb hbox hg) | ((with_reducible refine gate_dst (N := 6) rfl ?_); (try (refine gate_guard (by rfl) ?_; dsimp only)); refine box_event ?hg (N := 6) ?hd (cs := #[.int .i64 0, .slice none 0 0]) (t := 31) ?hr ?_; (case hd => rfl); (case hg => rfl); (case hr => first | (go_simp; done) | (go_simp; rfl)); intro gb102 hg w8 hbox hb; have n0_ := Aside0.mk (blk_below (g := gb101) (o := .cells #[.int .i64 a0_0, .slice A0_1 l0_1.length c0_1] 31 (0, 0)) (by (with_reducible repeat (first | refine blk_drewN ?_ _ | refine blk_drew ?_ | refine blk_alloc ?_ _)); exact BK101.out) hb); have n1_ := Aside0.mk (below_step (by repeat (first | (with_reducible first | exact HB.out | apply below_alloc | apply pw_below_drewN | apply below_drew1 | refine below_set ?_ GE101.out) | exact HB.out)) hb); have n2_ := Aside0.mk (hbox); have n3_ := Aside0.mk ((by rw [hg]; exact (below_size (by repeat (first | (with_reducible first | exact HB.out | apply below_alloc | apply pw_below_drewN | apply below_drew1 | refine below_set ?_ GE101.out) | exact HB.out))) : w.heap.size ≤ gb102)); have n4_ := Aside0.mk ((by rw [hg]; exact (below_size (by repeat (first | (with_reducible first | exact HB.out | apply below_alloc | apply pw_below_drewN | apply below_drew1 | refine below_set ?_ GE101.out) | exact HB.out))) : w.heap.size ≤ gb102)); have n5_ := Aside0.mk ((by rw [hg]; exact Nat.ne_of_lt (blk_lt (g := gb101) (o := .cells #[.int .i64 a0_0, .slice A0_1 l0_1.length c0_1] 31 (0, 0)) (by (with_reducible repeat (first | refine blk_drewN ?_ _ | refine blk_drew ?_ | refine blk_alloc ?_ _)); exact BK101.out)) : gb101 ≠ gb102)); have n6_ := Aside0.mk ((by rw [hg]; exact Nat.ne_of_gt (blk_lt (g := gb101) (o := .cells #[.int .i64 a0_0, .slice A0_1 l0_1.length c0_1] 31 (0, 0)) (by (with_reducible repeat (first | refine blk_drewN ?_ _ | refine blk_drew ?_ | refine blk_alloc ?_ _)); exact BK101.out)) : gb102 ≠ gb101)); clear BK101; clear HB; have BK101 := n0_; have HB := n1_; have BK102 := n2_; have GW102 := n3_; have GE102 := n4_; have NB101_102 := n5_; have NB102_101 := n6_; clear n0_ n1_ n2_ n3_ n4_ n5_ n6_; clear hb hbox hg; have hnb9 := NB101_102.out; have hnc9 := NB102_101.out; have hcz10_0 : w8.cell? ⟨gb101, 0, none⟩ = some (.int .i64 a0_0) := (blk_cell BK101.out 0).trans rfl; have hcz10_1 : w8.cell? ⟨gb101, 1, none⟩ = some (.slice A0_1 l0_1.length c0_1) := (blk_cell BK101.out 1).trans rfl; have hfz10_0 := blk_frozen BK101.out 0; have hfz10_1 := blk_frozen BK101.out 1) | ((with_reducible refine gate_callee (f := 55) rfl ?_); refine goesL_ (some 10) rfl rfl Try.func55 (by kernel_rfl) rfl #[.agg #[.int .i64 a0_0, .slice A0_1 l0_1.length c0_1]] rfl (by (try simp only [List.map_toArray, List.map_cons, List.map_nil]); first | done | rfl | (simp only [List.length_drop, List.length_take]; rfl)) ?_; (with_reducible refine (graph_Right.calls a0_0 _ _ l0_1 true _ ?side1 ?side2 A4.out).mono ?_); (case side1 => repeat (first | exact (Kd.C_below HR0_1.out HB.out) | (with_reducible refine Kd.C_alloc ?_ _) | (with_reducible refine Kd.C_drewN ?_ _) | (with_reducible refine Kd.C_drew ?_))); (case side2 => exact HC0_1.out); rintro e w11 ⟨rfl, hb⟩; refine ⟨_, rfl, ?_⟩; have n0_ := Aside0.mk (blk_below (g := gb101) (o := .cells #[.int .i64 a0_0, .slice A0_1 l0_1.length c0_1] 31 (0, 0)) (by (with_reducible repeat (first | refine blk_drewN ?_ _ | refine blk_drew ?_ | refine blk_alloc ?_ _)); exact BK101.out) hb); have n1_ := Aside0.mk (blk_below (g := gb102) (o := .cells #[.int .i64 0, .slice none 0 0] 31 (0, 0)) (by (with_reducible repeat (first | refine blk_drewN ?_ _ | refine blk_drew ?_ | refine blk_alloc ?_ _)); exact BK102.out) hb); have n2_ := Aside0.mk (below_step (by repeat (first | (with_reducible first | exact HB.out | apply below_alloc | apply pw_below_drewN | apply below_drew1 | refine below_set ?_ GE101.out | refine below_set ?_ GE102.out) | exact HB.out)) hb); clear BK101; clear BK102; clear HB; have BK101 := n0_; have BK102 := n1_; have HB := n2_; clear n0_ n1_ n2_; (try clear hb); (try clear hb2); (try clear hk); (try clear hi)))
    (try simp only [Act.put, List.setIfInBounds_toArray, List.set_cons_zero, List.set_cons_succ])
    go_cut [13] (fun v13 wc => ∃ (kq : Nat) (x13_5 : Bool), v13 = .bool x13_5 ∧ Aside0 (graph_Add.j0 kq a1 a2 x13_5 a0_0 l0_1 = some (r1, r2, r3)) ∧ Aside0 (kq ≤ k) ∧ Aside0 (wc.heap[gb101]? = some (.cells #[.int .i64 a0_0, (.slice A0_1 l0_1.length c0_1)] 31 (0, 0))) ∧ Aside0 (wc.heap[gb102]? = some (.cells #[.int .i64 0, (.slice none 0 0)] 31 (0, 0))) ∧ Aside0 (Below w.heap.size w wc))
    case first =>
      have H := HC6.out
      clear HC6
      obtain ⟨ji12, hji12⟩ : ∃ j_ : Int, (mn a1 a2) = j_ := ⟨_, rfl⟩
      replace H : (if (ji12) < 0 then (graph_Add.j0 k a1 a2 true a0_0 l0_1) else (graph_Add.j0 k a1 a2 (decide ((mx a1 a2) ≥ a0_0)) a0_0 l0_1)) = some (r1, r2, r3) := by first | (rw [hji12] at H; exact H) | (simp only [hji12] at H ⊢; exact H)
      have hji12_ : (if a2 < a1 then a2 else a1) = ji12 := hji12
      by_cases c13 : (ji12) < 0
      · rw [if_pos c13] at H
        have c13b0 : decide ((ji12) < 0) = true := decide_eq_true c13
        clear c13
        (first | rw [c13b0] | (simp only [i64_w, i32_w]; rw [c13b0]) | skip)
        have H' := Aside0.mk H
        clear H
        go_wp2
        go_meet
        case rel => exact ⟨_, (true), (by first | rfl | (simp; done) | (simp [*]; done)), H', ⟨by first | omega | exact Nat.le_refl _⟩, ⟨by (with_reducible repeat (first | refine blk_drewN ?_ _ | refine blk_drew ?_ | refine blk_alloc ?_ _)); exact BK101.out⟩, ⟨by (with_reducible repeat (first | refine blk_drewN ?_ _ | refine blk_drew ?_ | refine blk_alloc ?_ _)); exact BK102.out⟩, ⟨by repeat (first | (with_reducible first | exact HB.out | apply below_alloc | apply pw_below_drewN | apply below_drew1 | refine below_set ?_ GE101.out | refine below_set ?_ GE102.out) | exact HB.out)⟩⟩
      · rw [if_neg c13] at H
        have c13b0 : decide ((ji12) < 0) = false := decide_eq_false c13
        clear c13
        (first | rw [c13b0] | (simp only [i64_w, i32_w]; rw [c13b0]) | skip)
        obtain ⟨ji14, hji14⟩ : ∃ j_ : Int, (mx a1 a2) = j_ := ⟨_, rfl⟩
        replace H : (graph_Add.j0 k a1 a2 (decide ((ji14) ≥ a0_0)) a0_0 l0_1) = some (r1, r2, r3) := by first | (rw [hji14] at H; exact H) | (simp only [hji14] at H ⊢; exact H)
        have hji14_ : (if a1 < a2 then a2 else a1) = ji14 := hji14
        have H' := Aside0.mk H
        clear H
        have hnb15 := NB101_102.out
        have hnc15 := NB102_101.out
        have hcz16_0 : w11.cell? ⟨gb101, 0, none⟩ = some (.int .i64 a0_0) := (blk_cell BK101.out 0).trans rfl
        have hcz16_1 : w11.cell? ⟨gb101, 1, none⟩ = some (.slice A0_1 l0_1.length c0_1) := (blk_cell BK101.out 1).trans rfl
        have hfz16_0 := blk_frozen BK101.out 0
        have hfz16_1 := blk_frozen BK101.out 1
        go_wp2
        go_meet
        case rel => exact ⟨_, (decide ((ji14) ≥ a0_0)), (by first | rfl | (simp; done) | (simp only [← hji14] <;> (first | rfl | simp)) | (simp [*]; done)), H', ⟨by first | omega | exact Nat.le_refl _⟩, ⟨by (with_reducible repeat (first | refine blk_drewN ?_ _ | refine blk_drew ?_ | refine blk_alloc ?_ _)); exact BK101.out⟩, ⟨by (with_reducible repeat (first | refine blk_drewN ?_ _ | refine blk_drew ?_ | refine blk_alloc ?_ _)); exact BK102.out⟩, ⟨by repeat (first | (with_reducible first | exact HB.out | apply below_alloc | apply pw_below_drewN | apply below_drew1 | refine below_set ?_ GE101.out | refine below_set ?_ GE102.out) | exact HB.out)⟩⟩
    case rest =>
      clear HC6
      try clear c1
      try clear p2
      try clear c5
      try clear c9
      try clear c13
      try clear c13b0
      try clear c15
      try clear hcz10_0
      try clear hcz10_1
      try clear hcz16_0
      try clear hcz16_1
      try clear hfz10_0
      try clear hfz10_1
      try clear hfz16_0
      try clear hfz16_1
      obtain ⟨kq, x13_5, rfl, HA, HJ5, BK101, BK102, HB⟩ := hcut
      cases kq with
      | zero => exact absurd HA.out (by simp [graph_Add.j0])
      | succ kj5 =>
        have H := HA.out
        clear HA
        simp only [graph_Add.j0] at H
        by_cases c17 : x13_5 = true
        · subst c17
          have H1 : (some (0, ([] : List (S69)), 4)) = some (r1, r2, r3) := by rw [if_pos rfl] at H; exact H
          clear H
          have H := H1
          clear H1
          simp only [Option.some.injEq, Prod.mk.injEq] at H
          obtain ⟨rfl, rfl, rfl⟩ := H
          have hnb18 := NB102_101.out
          have hnc18 := NB101_102.out
          have hcz19_0 : wc.cell? ⟨gb102, 0, none⟩ = some (.int .i64 0) := (blk_cell BK102.out 0).trans rfl
          have hcz19_1 : wc.cell? ⟨gb102, 1, none⟩ = some (.slice none 0 0) := (blk_cell BK102.out 1).trans rfl
          have hfz19_0 := blk_frozen BK102.out 0
          have hfz19_1 := blk_frozen BK102.out 1
          go_wp2
          refine bodyPost_ret (results_ct rfl _ _ gb102 31 #[.int .i64 0, .slice none 0 0] (0, 0) _ rfl (by (with_reducible repeat (first | refine blk_drewN ?_ _ | refine blk_drew ?_ | refine blk_alloc ?_ _)); refine blk_put (cs := #[.int .i64 0, .slice none 0 0]) ?_ 1 _ rfl; (with_reducible repeat (first | refine blk_drewN ?_ _ | refine blk_drew ?_ | refine blk_alloc ?_ _)); refine blk_put (cs := #[.int .i64 0, .slice none 0 0]) ?_ 0 _ rfl; (with_reducible repeat (first | refine blk_drewN ?_ _ | refine blk_drew ?_ | refine blk_alloc ?_ _)); exact BK102.out) Try.underlying31 rfl (by kernel_rfl)) rfl ?_
          exact ⟨_, by first | rfl | (simp [errW_none, errW_some] <;> rfl) | (simp [*, errW_none, errW_some] <;> rfl), by first | exact Kd.R_nil _ _ _ _ _ | exact Kd.N_nil _ _ _ _ _ | exact Kd.V_nil _ _ _ _ _ | exact Kd.Q_nil _ _ _ _ _ | exact Kd.S_nil _ _ _ _ _, by repeat (first | (with_reducible first | exact HB.out | apply below_alloc | apply pw_below_drewN | apply below_drew1 | refine below_set ?_ GE101.out | refine below_set ?_ GE102.out) | exact HB.out)⟩
        · replace c17 := Bool.eq_false_iff.mpr c17
          subst c17
          have H1 : (if a1 = a2 then (some (0, ([] : List (S69)), 1)) else ((api_Edge_63.f l0_1).bind fun t104 => ((some (([(⟨a1, a2⟩ : S69)] : List (S69)) : List (S69))).bind fun y107 => (if t104.length + y107.length < 8796093022208 then ((graph_Normal.f a0_0 (t104 ++ y107)).bind fun bt113 => (some (bt113.1, bt113.2.1, bt113.2.2))) else (none))))) = some (r1, r2, r3) := by rw [if_neg (show ¬ (false = true) by decide)] at H; exact H
          clear H
          have H := H1
          clear H1
          by_cases c20 : a1 = a2
          · rw [if_pos c20] at H
            have c20b0 : (a1 == a2) = true := beq_iff_eq.mpr c20
            have c20b1 : (a1 != a2) = false := bne_eq_false_iff_eq.mpr c20
            clear c20
            simp only [Option.some.injEq, Prod.mk.injEq] at H
            obtain ⟨rfl, rfl, rfl⟩ := H
            have hnb21 := NB102_101.out
            have hnc21 := NB101_102.out
            have hcz22_0 : wc.cell? ⟨gb102, 0, none⟩ = some (.int .i64 0) := (blk_cell BK102.out 0).trans rfl
            have hcz22_1 : wc.cell? ⟨gb102, 1, none⟩ = some (.slice none 0 0) := (blk_cell BK102.out 1).trans rfl
            have hfz22_0 := blk_frozen BK102.out 0
            have hfz22_1 := blk_frozen BK102.out 1
            go_wp2
            refine bodyPost_ret (results_ct rfl _ _ gb102 31 #[.int .i64 0, .slice none 0 0] (0, 0) _ rfl (by (with_reducible repeat (first | refine blk_drewN ?_ _ | refine blk_drew ?_ | refine blk_alloc ?_ _)); refine blk_put (cs := #[.int .i64 0, .slice none 0 0]) ?_ 1 _ rfl; (with_reducible repeat (first | refine blk_drewN ?_ _ | refine blk_drew ?_ | refine blk_alloc ?_ _)); refine blk_put (cs := #[.int .i64 0, .slice none 0 0]) ?_ 0 _ rfl; (with_reducible repeat (first | refine blk_drewN ?_ _ | refine blk_drew ?_ | refine blk_alloc ?_ _)); exact BK102.out) Try.underlying31 rfl (by kernel_rfl)) rfl ?_
            exact ⟨_, by first | rfl | (simp [errW_none, errW_some] <;> rfl) | (simp [*, errW_none, errW_some] <;> rfl), by first | exact Kd.R_nil _ _ _ _ _ | exact Kd.N_nil _ _ _ _ _ | exact Kd.V_nil _ _ _ _ _ | exact Kd.Q_nil _ _ _ _ _ | exact Kd.S_nil _ _ _ _ _, by repeat (first | (with_reducible first | exact HB.out | apply below_alloc | apply pw_below_drewN | apply below_drew1 | refine below_set ?_ GE101.out | refine below_set ?_ GE102.out) | exact HB.out)⟩
          · rw [if_neg c20] at H
            have c20b0 : (a1 == a2) = false := beq_eq_false_iff_ne.mpr c20
            have c20b1 : (a1 != a2) = true := bne_iff_ne.mpr c20
            replace H := Option.bind_eq_some_iff.mp H
            obtain ⟨t104, A230, H⟩ := H
            replace H : ((some (([(⟨a1, a2⟩ : S69)] : List (S69)) : List (S69))).bind fun y107 => (if t104.length + y107.length < 8796093022208 then ((graph_Normal.f a0_0 (t104 ++ y107)).bind fun bt113 => (some (bt113.1, bt113.2.1, bt113.2.2))) else (none))) = some (r1, r2, r3) := H
            have A23 := Aside0.mk A230
            clear A230
            obtain ⟨y107, hy107⟩ : ∃ y_ : List (S69), y_ = (([(⟨a1, a2⟩ : S69)] : List (S69))) := ⟨_, rfl⟩
            replace H : (if t104.length + y107.length < 8796093022208 then ((graph_Normal.f a0_0 (t104 ++ y107)).bind fun bt113 => (some (bt113.1, bt113.2.1, bt113.2.2))) else (none)) = some (r1, r2, r3) := by first | (rw [hy107]; with_reducible exact H) | (have H2_ := (Option.bind_some _ _).symm.trans H; rw [hy107]; with_reducible exact H2_) | (have H2_ := (Option.bind_some _ _).symm.trans H; with_reducible exact H2_) | with_reducible exact H | (rw [hy107]; exact H) | exact H
            have Ny107 := Aside0.mk hy107
            clear hy107
            by_cases c24 : t104.length + y107.length < 8796093022208
            · rw [if_pos c24] at H
              have LMc24 := Aside0.mk c24
              clear c24
              obtain ⟨y110, hy110⟩ : ∃ y_ : List (S69), y_ = (t104 ++ y107) := ⟨_, rfl⟩
              replace H : ((graph_Normal.f a0_0 y110).bind fun bt113 => (some (bt113.1, bt113.2.1, bt113.2.2))) = some (r1, r2, r3) := by first | (rw [hy110]; with_reducible exact H) | (have H2_ := (Option.bind_some _ _).symm.trans H; rw [hy110]; with_reducible exact H2_) | (have H2_ := (Option.bind_some _ _).symm.trans H; with_reducible exact H2_) | with_reducible exact H | (rw [hy110]; exact H) | exact H
              have Ny110 := Aside0.mk hy110
              clear hy110
              replace H := Option.bind_eq_some_iff.mp H
              obtain ⟨⟨t113, t114, t117⟩, A250, H⟩ := H
              replace H : (some (t113, t114, t117)) = some (r1, r2, r3) := H
              have A25 := Aside0.mk A250
              clear A250
              simp only [Option.some.injEq, Prod.mk.injEq] at H
              obtain ⟨rfl, rfl, rfl⟩ := H
              try go_wp2
              have n0_ := Aside0.mk (blk_drew BK101.out)
              have n1_ := Aside0.mk (blk_drew BK102.out)
              have n2_ := Aside0.mk (below_drew1 HB.out)
              clear BK101
              clear BK102
              clear HB
              have BK101 := n0_
              have BK102 := n1_
              have HB := n2_
              clear n0_ n1_ n2_
              refine start_ (n := 15) (S := fun w' => w'.cell? ⟨gb101, 0, none⟩ = some (.int .i64 a0_0) ∧ w'.cell? ⟨gb101, 1, none⟩ = some (.slice A0_1 l0_1.length c0_1)) (ds := []) #[false, false, false, false, false, false, false, false, false, false, false, false, false, false, false] (by kernel_rfl) rfl rfl ⟨(blk_cell BK101.out 0).trans rfl, (blk_cell BK101.out 1).trans rfl⟩ (fun hHeld => ?_); refine with_tabW graph_Add.tab7 graph_Add.bits7 (fun HT_ HW_ => ?_)
              generalize wc.drew = w26 at BK101 BK102 HB hHeld ⊢
              refine pure_ (i := 0) (N := some 32) (v := ?_) (a' := ?_) #[true, false, false, false, false, false, false, false, false, false, false, false, false, false, false] rfl rfl (any_of HT_.out (by kernel_rfl)) (fun _ _ _ h => h) (Or.inl ⟨by rfl, ?_⟩) ?_ ?_
              rotate_left
              · intro w'
                go_simp
                with_reducible rfl
              rotate_left
              · simp only [Act.put, List.setIfInBounds_toArray, List.set_cons_zero, List.set_cons_succ, i64_w, i32_w]
                rfl
              refine pure_ (i := 2) (N := some 34) (v := ?_) (a' := ?_) #[true, false, true, false, false, false, false, false, false, false, false, false, false, false, false] rfl rfl (any_of HT_.out (by kernel_rfl)) (fun _ _ _ h => h) (Or.inl ⟨by rfl, ?_⟩) ?_ ?_
              rotate_left
              · intro w'
                go_simp
                with_reducible rfl
              rotate_left
              · simp only [Act.put, List.setIfInBounds_toArray, List.set_cons_zero, List.set_cons_succ, i64_w, i32_w]
                rfl
              refine pure_ (i := 5) (N := some 37) (v := ?_) (a' := ?_) #[true, false, true, false, false, true, false, false, false, false, false, false, false, false, false] rfl rfl (any_of HT_.out (by kernel_rfl)) (fun _ _ _ h => h) (Or.inl ⟨by rfl, ?_⟩) ?_ ?_
              rotate_left
              · intro w'
                go_simp
                with_reducible rfl
              rotate_left
              · simp only [Act.put, List.setIfInBounds_toArray, List.set_cons_zero, List.set_cons_succ, i64_w, i32_w]
                rfl
              refine pure_ (i := 6) (N := some 38) (v := ?_) (a' := ?_) #[true, false, true, false, false, true, true, false, false, false, false, false, false, false, false] rfl rfl (any_of HT_.out (by kernel_rfl)) (fun _ _ _ h => h) (Or.inl ⟨by rfl, ?_⟩) ?_ ?_
              rotate_left
              · intro w'
                go_simp
                with_reducible rfl
              rotate_left
              · simp only [Act.put, List.setIfInBounds_toArray, List.set_cons_zero, List.set_cons_succ, i64_w, i32_w]
                rfl
              refine pure_ (i := 7) (N := some 39) (v := ?_) (a' := ?_) #[true, false, true, false, false, true, true, true, false, false, false, false, false, false, false] rfl rfl (any_of HT_.out (by kernel_rfl)) (fun _ _ _ h => h) (Or.inl ⟨by rfl, ?_⟩) ?_ ?_
              rotate_left
              · intro w'
                go_simp
                with_reducible rfl
              rotate_left
              · simp only [Act.put, List.setIfInBounds_toArray, List.set_cons_zero, List.set_cons_succ, i64_w, i32_w]
                rfl
              refine take_ (i := 1) (N := some 33) (v := ?_) (a' := ?_) #[true, true, true, false, false, true, true, true, false, false, false, false, false, false, false] rfl rfl (take_ofW HT_.out HW_.out (by kernel_rfl)) (fun _ _ _ h => h) (Or.inl ⟨by rfl, ?_⟩) hHeld ?_ ?_
              rotate_left
              · rintro w' ⟨s0, s1⟩
                go_simp
                with_reducible rfl
              rotate_left
              · simp only [Act.put, List.setIfInBounds_toArray, List.set_cons_zero, List.set_cons_succ, i64_w, i32_w]
                rfl
              refine take_ (i := 3) (N := some 35) (v := ?_) (a' := ?_) #[true, true, true, true, false, true, true, true, false, false, false, false, false, false, false] rfl rfl (take_ofW HT_.out HW_.out (by kernel_rfl)) (fun _ _ _ h => h) (Or.inl ⟨by rfl, ?_⟩) hHeld ?_ ?_
              rotate_left
              · rintro w' ⟨s0, s1⟩
                go_simp
                with_reducible rfl
              rotate_left
              · simp only [Act.put, List.setIfInBounds_toArray, List.set_cons_zero, List.set_cons_succ, i64_w, i32_w]
                rfl
              refine join_ (σ := Value × Value) 6 #[true, true, true, true, true, true, true, true, true, false, false, false, false, false, false] (fun s_ => [(36, s_.1), (40, s_.2)]) (fun s_ w' => (w'.cell? ⟨gb101, 0, none⟩ = some (.int .i64 a0_0) ∧ w'.cell? ⟨gb101, 1, none⟩ = some (.slice A0_1 l0_1.length c0_1)) ∧ (Kd.R k69 69 w' w.heap.size (fun k_ => some k_ ≠ (s_.2 : Value).ownBlock) s_.1 t104) ∧ (Kd.R k69 69 w' w.heap.size (fun k_ => some k_ ≠ (s_.1 : Value).ownBlock) s_.2 y107) ∧ (w'.heap[gb101]? = some (.cells #[.int .i64 a0_0, .slice A0_1 l0_1.length c0_1] 31 (0, 0))) ∧ (w'.heap[gb102]? = some (.cells #[.int .i64 0, .slice none 0 0] 31 (0, 0))) ∧ (Below w.heap.size w w')) ?_ ?_
              rotate_left
              · intro hCont
                refine two_ (i := 4) (j := 8) (Ni := some 36) (Nj := some 40) #[true, true, true, true, true, true, true, true, false, false, false, false, false, false, false] #[true, true, true, true, false, true, true, true, true, false, false, false, false, false, false] rfl rfl rfl rfl (two_of HT_.out (by kernel_rfl)) (by decide) (by decide) (fun K hK => ?_) (fun K hK => ?_)
                · skip
                  refine goes_ Try.func63 (by kernel_rfl) rfl #[.slice A0_1 l0_1.length c0_1] (by rfl) rfl rfl (by (try simp only [List.map_toArray, List.map_cons, List.map_nil]); first | done | rfl | (simp only [List.length_drop, List.length_take]; rfl)) ?_
                  with_reducible refine (api_Edge_63.calls _ _ l0_1 t104 _ ?side1 ?side2 A23.out).mono ?_
                  (case side1 => repeat (first | exact (Kd.C_below HR0_1.out HB.out) | (with_reducible refine Kd.C_alloc ?_ _) | (with_reducible refine Kd.C_drewN ?_ _) | (with_reducible refine Kd.C_drew ?_)))
                  (case side2 => exact HC0_1.out)
                  rintro e w27 ⟨v105, rfl, ho0, hb⟩
                  refine ⟨_, rfl, ?_⟩
                  have n0_ := Aside0.mk (Kd.R_lower ho0 (below_size (by repeat (first | (with_reducible first | exact HB.out | apply below_alloc | apply pw_below_drewN | apply below_drew1 | refine below_set ?_ GE101.out | refine below_set ?_ GE102.out) | exact HB.out))))
                  have n1_ := Aside0.mk (blk_below (g := gb101) (o := .cells #[.int .i64 a0_0, .slice A0_1 l0_1.length c0_1] 31 (0, 0)) (by (with_reducible repeat (first | refine blk_drewN ?_ _ | refine blk_drew ?_ | refine blk_alloc ?_ _)); exact BK101.out) hb)
                  have n2_ := Aside0.mk (blk_below (g := gb102) (o := .cells #[.int .i64 0, .slice none 0 0] 31 (0, 0)) (by (with_reducible repeat (first | refine blk_drewN ?_ _ | refine blk_drew ?_ | refine blk_alloc ?_ _)); exact BK102.out) hb)
                  have n3_ := Aside0.mk (below_step (by repeat (first | (with_reducible first | exact HB.out | apply below_alloc | apply pw_below_drewN | apply below_drew1 | refine below_set ?_ GE101.out | refine below_set ?_ GE102.out) | exact HB.out)) hb)
                  clear BK101
                  clear BK102
                  clear HB
                  have HO106 := n0_
                  have BK101 := n1_
                  have BK102 := n2_
                  have HB := n3_
                  clear n0_ n1_ n2_ n3_
                  (try clear hb)
                  (try clear hb2)
                  (try clear hk)
                  (try clear hi)
                  (try clear ho0)
                  refine hK.out _ _ ⟨(blk_cell BK101.out 0).trans rfl, (blk_cell BK101.out 1).trans rfl⟩ (fun hHeld => ?_)
                  clear hK K
                  refine norm_ (a' := ?_) ?_ ?_
                  rotate_left
                  · show Act.put _ (some 36) _ = _
                    simp only [Act.put, List.setIfInBounds_toArray, List.set_cons_zero, List.set_cons_succ, i64_w, i32_w]
                    rfl
                  refine one_ (i := 8) (N := some 40) #[true, true, true, true, true, true, true, true, true, false, false, false, false, false, false] rfl rfl (one_of HT_.out (by kernel_rfl)) (by decide) (fun K hK => ?_)
                  refine Kd.R_lit_step k69 _ 69 ?hg (N := 40) ?hd (xs := ([(⟨a1, a2⟩ : S69)] : List (S69))) (inner := [.int .i64 a1, .int .i64 a2]) (ok := fun _ => True) (okp := fun _ => True) ?hr ?hp (fun _ hk => hk) trivial (Below.refl _ _) (Nat.le_refl _) (by simp) ?_; (case hd => rfl); (case hg => rfl); (case hr => first | (go_simp; done) | (go_simp; rfl)); (case hp => exact (Reps.c2 (show Kd.M k69 _ _ _ (⟨a1, a2⟩ : S69) [.int .i64 a1, .int .i64 a2] from (k69_mkM _ _ _ (⟨a1, a2⟩ : S69) )) (Reps.none _ _)))
                  intro v108 w28 ho29 hb hg_ hnew_
                  clear hg_ hnew_
                  (first | rw [← Ny107.out] at ho29 | (simp only [Int.reduceToNat] at ho29; rw [← Ny107.out] at ho29))
                  have n0_ := Aside0.mk (Kd.R_elder' (by (with_reducible repeat (first | apply Kd.R_alloc | apply Kd.R_drewN | apply Kd.R_drew)); exact HO106.out) (Kd.R_base ho29) hb)
                  have n1_ := Aside0.mk (Kd.R_lower (Kd.R_new' ho29 (Kd.R_lt (by (with_reducible repeat (first | apply Kd.R_alloc | apply Kd.R_drewN | apply Kd.R_drew)); exact HO106.out))) (below_size (by repeat (first | (with_reducible first | exact HB.out | apply below_alloc | apply pw_below_drewN | apply below_drew1 | refine below_set ?_ GE101.out | refine below_set ?_ GE102.out) | exact HB.out))))
                  have n2_ := Aside0.mk (blk_below (g := gb101) (o := .cells #[.int .i64 a0_0, .slice A0_1 l0_1.length c0_1] 31 (0, 0)) (by (with_reducible repeat (first | refine blk_drewN ?_ _ | refine blk_drew ?_ | refine blk_alloc ?_ _)); exact BK101.out) hb)
                  have n3_ := Aside0.mk (blk_below (g := gb102) (o := .cells #[.int .i64 0, .slice none 0 0] 31 (0, 0)) (by (with_reducible repeat (first | refine blk_drewN ?_ _ | refine blk_drew ?_ | refine blk_alloc ?_ _)); exact BK102.out) hb)
                  have n4_ := Aside0.mk (below_step (by repeat (first | (with_reducible first | exact HB.out | apply below_alloc | apply pw_below_drewN | apply below_drew1 | refine below_set ?_ GE101.out | refine below_set ?_ GE102.out) | exact HB.out)) hb)
                  clear HO106
                  clear BK101
                  clear BK102
                  clear HB
                  have HO106 := n0_
                  have HO109 := n1_
                  have BK101 := n2_
                  have BK102 := n3_
                  have HB := n4_
                  clear n0_ n1_ n2_ n3_ n4_
                  clear hb ho29
                  refine hK.out _ _ ⟨(blk_cell BK101.out 0).trans rfl, (blk_cell BK101.out 1).trans rfl⟩ (fun hHeld => ?_)
                  clear hK K
                  refine norm_ (a' := ?_) ?_ ?_
                  rotate_left
                  · show Act.put _ (some 40) _ = _
                    simp only [Act.put, List.setIfInBounds_toArray, List.set_cons_zero, List.set_cons_succ, i64_w, i32_w]
                    rfl
                  exact norm_ (by simp only [putAll, Act.put, List.setIfInBounds_toArray, List.set_cons_zero, List.set_cons_succ]) (hCont (v105, v108) _ ⟨hHeld, (by (with_reducible repeat (first | apply Kd.R_alloc | apply Kd.R_drewN | apply Kd.R_drew)); exact Kd.R_mono HO106.out (fun _ hk => hk.2)), (by (with_reducible repeat (first | apply Kd.R_alloc | apply Kd.R_drewN | apply Kd.R_drew)); exact Kd.R_mono HO109.out (fun _ hk => hk.2)), (by (with_reducible repeat (first | refine blk_drewN ?_ _ | refine blk_drew ?_ | refine blk_alloc ?_ _)); exact BK101.out), (by (with_reducible repeat (first | refine blk_drewN ?_ _ | refine blk_drew ?_ | refine blk_alloc ?_ _)); exact BK102.out), (by repeat (first | (with_reducible first | exact HB.out | apply below_alloc | apply pw_below_drewN | apply below_drew1 | refine below_set ?_ GE101.out | refine below_set ?_ GE102.out) | exact HB.out))⟩)
                · skip
                  refine Kd.R_lit_step k69 _ 69 ?hg (N := 40) ?hd (xs := ([(⟨a1, a2⟩ : S69)] : List (S69))) (inner := [.int .i64 a1, .int .i64 a2]) (ok := fun _ => True) (okp := fun _ => True) ?hr ?hp (fun _ hk => hk) trivial (Below.refl _ _) (Nat.le_refl _) (by simp) ?_; (case hd => rfl); (case hg => rfl); (case hr => first | (go_simp; done) | (go_simp; rfl)); (case hp => exact (Reps.c2 (show Kd.M k69 _ _ _ (⟨a1, a2⟩ : S69) [.int .i64 a1, .int .i64 a2] from (k69_mkM _ _ _ (⟨a1, a2⟩ : S69) )) (Reps.none _ _)))
                  intro v108 w27 ho28 hb hg_ hnew_
                  clear hg_ hnew_
                  (first | rw [← Ny107.out] at ho28 | (simp only [Int.reduceToNat] at ho28; rw [← Ny107.out] at ho28))
                  have n0_ := Aside0.mk (Kd.R_lower ho28 (below_size (by repeat (first | (with_reducible first | exact HB.out | apply below_alloc | apply pw_below_drewN | apply below_drew1 | refine below_set ?_ GE101.out | refine below_set ?_ GE102.out) | exact HB.out))))
                  have n1_ := Aside0.mk (blk_below (g := gb101) (o := .cells #[.int .i64 a0_0, .slice A0_1 l0_1.length c0_1] 31 (0, 0)) (by (with_reducible repeat (first | refine blk_drewN ?_ _ | refine blk_drew ?_ | refine blk_alloc ?_ _)); exact BK101.out) hb)
                  have n2_ := Aside0.mk (blk_below (g := gb102) (o := .cells #[.int .i64 0, .slice none 0 0] 31 (0, 0)) (by (with_reducible repeat (first | refine blk_drewN ?_ _ | refine blk_drew ?_ | refine blk_alloc ?_ _)); exact BK102.out) hb)
                  have n3_ := Aside0.mk (below_step (by repeat (first | (with_reducible first | exact HB.out | apply below_alloc | apply pw_below_drewN | apply below_drew1 | refine below_set ?_ GE101.out | refine below_set ?_ GE102.out) | exact HB.out)) hb)
                  clear BK101
                  clear BK102
                  clear HB
                  have HO109 := n0_
                  have BK101 := n1_
                  have BK102 := n2_
                  have HB := n3_
                  clear n0_ n1_ n2_ n3_
                  clear hb ho28
                  refine hK.out _ _ ⟨(blk_cell BK101.out 0).trans rfl, (blk_cell BK101.out 1).trans rfl⟩ (fun hHeld => ?_)
                  clear hK K
                  refine norm_ (a' := ?_) ?_ ?_
                  rotate_left
                  · show Act.put _ (some 40) _ = _
                    simp only [Act.put, List.setIfInBounds_toArray, List.set_cons_zero, List.set_cons_succ, i64_w, i32_w]
                    rfl
                  refine one_ (i := 4) (N := some 36) #[true, true, true, true, true, true, true, true, true, false, false, false, false, false, false] rfl rfl (one_of HT_.out (by kernel_rfl)) (by decide) (fun K hK => ?_)
                  refine goes_ Try.func63 (by kernel_rfl) rfl #[.slice A0_1 l0_1.length c0_1] (by rfl) rfl rfl (by (try simp only [List.map_toArray, List.map_cons, List.map_nil]); first | done | rfl | (simp only [List.length_drop, List.length_take]; rfl)) ?_
                  with_reducible refine (api_Edge_63.calls _ _ l0_1 t104 _ ?side1 ?side2 A23.out).mono ?_
                  (case side1 => repeat (first | exact (Kd.C_below HR0_1.out HB.out) | (with_reducible refine Kd.C_alloc ?_ _) | (with_reducible refine Kd.C_drewN ?_ _) | (with_reducible refine Kd.C_drew ?_)))
                  (case side2 => exact HC0_1.out)
                  rintro e w29 ⟨v105, rfl, ho0, hb⟩
                  refine ⟨_, rfl, ?_⟩
                  have n0_ := Aside0.mk (Kd.R_elder' (by (with_reducible repeat (first | apply Kd.R_alloc | apply Kd.R_drewN | apply Kd.R_drew)); exact HO109.out) (Kd.R_base ho0) hb)
                  have n1_ := Aside0.mk (Kd.R_lower (Kd.R_new' ho0 (Kd.R_lt (by (with_reducible repeat (first | apply Kd.R_alloc | apply Kd.R_drewN | apply Kd.R_drew)); exact HO109.out))) (below_size (by repeat (first | (with_reducible first | exact HB.out | apply below_alloc | apply pw_below_drewN | apply below_drew1 | refine below_set ?_ GE101.out | refine below_set ?_ GE102.out) | exact HB.out))))
                  have n2_ := Aside0.mk (blk_below (g := gb101) (o := .cells #[.int .i64 a0_0, .slice A0_1 l0_1.length c0_1] 31 (0, 0)) (by (with_reducible repeat (first | refine blk_drewN ?_ _ | refine blk_drew ?_ | refine blk_alloc ?_ _)); exact BK101.out) hb)
                  have n3_ := Aside0.mk (blk_below (g := gb102) (o := .cells #[.int .i64 0, .slice none 0 0] 31 (0, 0)) (by (with_reducible repeat (first | refine blk_drewN ?_ _ | refine blk_drew ?_ | refine blk_alloc ?_ _)); exact BK102.out) hb)
                  have n4_ := Aside0.mk (below_step (by repeat (first | (with_reducible first | exact HB.out | apply below_alloc | apply pw_below_drewN | apply below_drew1 | refine below_set ?_ GE101.out | refine below_set ?_ GE102.out) | exact HB.out)) hb)
                  clear HO109
                  clear BK101
                  clear BK102
                  clear HB
                  have HO109 := n0_
                  have HO106 := n1_
                  have BK101 := n2_
                  have BK102 := n3_
                  have HB := n4_
                  clear n0_ n1_ n2_ n3_ n4_
                  (try clear hb)
                  (try clear hb2)
                  (try clear hk)
                  (try clear hi)
                  (try clear ho0)
                  refine hK.out _ _ ⟨(blk_cell BK101.out 0).trans rfl, (blk_cell BK101.out 1).trans rfl⟩ (fun hHeld => ?_)
                  clear hK K
                  refine norm_ (a' := ?_) ?_ ?_
                  rotate_left
                  · show Act.put _ (some 36) _ = _
                    simp only [Act.put, List.setIfInBounds_toArray, List.set_cons_zero, List.set_cons_succ, i64_w, i32_w]
                    rfl
                  exact norm_ (by simp only [putAll, Act.put, List.setIfInBounds_toArray, List.set_cons_zero, List.set_cons_succ]) (hCont (v105, v108) _ ⟨hHeld, (by (with_reducible repeat (first | apply Kd.R_alloc | apply Kd.R_drewN | apply Kd.R_drew)); exact Kd.R_mono HO106.out (fun _ hk => hk.2)), (by (with_reducible repeat (first | apply Kd.R_alloc | apply Kd.R_drewN | apply Kd.R_drew)); exact Kd.R_mono HO109.out (fun _ hk => hk.2)), (by (with_reducible repeat (first | refine blk_drewN ?_ _ | refine blk_drew ?_ | refine blk_alloc ?_ _)); exact BK101.out), (by (with_reducible repeat (first | refine blk_drewN ?_ _ | refine blk_drew ?_ | refine blk_alloc ?_ _)); exact BK102.out), (by repeat (first | (with_reducible first | exact HB.out | apply below_alloc | apply pw_below_drewN | apply below_drew1 | refine below_set ?_ GE101.out | refine below_set ?_ GE102.out) | exact HB.out))⟩)
              rintro ⟨v105, v108⟩ w30 ⟨hS_, h0_, h1_, h2_, h3_, h4_⟩
              have n0_ : Aside0 (Kd.R k69 69 w30 w.heap.size (fun k_ => some k_ ≠ (v108 : Value).ownBlock) v105 t104) := ⟨h0_⟩
              have n1_ : Aside0 (Kd.R k69 69 w30 w.heap.size (fun k_ => some k_ ≠ (v105 : Value).ownBlock) v108 y107) := ⟨h1_⟩
              have n2_ : Aside0 (w30.heap[gb101]? = some (.cells #[.int .i64 a0_0, .slice A0_1 l0_1.length c0_1] 31 (0, 0))) := ⟨h2_⟩
              have n3_ : Aside0 (w30.heap[gb102]? = some (.cells #[.int .i64 0, .slice none 0 0] 31 (0, 0))) := ⟨h3_⟩
              have n4_ : Aside0 (Below w.heap.size w w30) := ⟨h4_⟩
              clear BK101
              clear BK102
              clear HB
              clear h0_ h1_ h2_ h3_ h4_
              have HO106 := n0_
              have HO109 := n1_
              have BK101 := n2_
              have BK102 := n3_
              have HB := n4_
              clear n0_ n1_ n2_ n3_ n4_
              have hHeld : w30.cell? ⟨gb101, 0, none⟩ = some (.int .i64 a0_0) ∧ w30.cell? ⟨gb101, 1, none⟩ = some (.slice A0_1 l0_1.length c0_1) := hS_
              obtain ⟨Ao32, co32, eo32⟩ := Kd.R_slice HO109.out
              (first | subst eo32 | (injection eo32 with f1_ f2_ f3_; have f4_ := f1_.symm; have f5_ := f3_.symm; clear f1_ f2_ f3_; subst f4_; subst f5_))
              refine norm_ (a' := ?_) ?_ ?_
              rotate_left
              · simp only [putAll, Act.put, List.setIfInBounds_toArray, List.set_cons_zero, List.set_cons_succ]
                rfl
              refine one_ (i := 9) (N := some 41) #[true, true, true, true, true, true, true, true, true, true, false, false, false, false, false] rfl rfl (one_of HT_.out (by kernel_rfl)) (by decide) (fun K hK => ?_)
              refine Kd.R_append_rows_step k69 (w0 := w) w.heap.size (by rfl) (.tmp 36) (.tmp 40) 22 69 (.agg #[(.int .i64 0), (.int .i64 0)]) 16 rfl Try.underlying22 info69 rfl (by decide) (by omega) v105 t104 y107 _ _ _ (fun k_ => some k_ ≠ (.slice Ao32 y107.length co32 : Value).ownBlock) (fun _ => False) rfl rfl ?aO ?aR (fun _ _ h => h) (fun _ h => h.elim) ?aF ?aB ?aS ?aL ?_
              (case aR => repeat (first | exact (Kd.R_reads' HO109.out).2.2 | (with_reducible refine Kd.C_alloc ?_ _) | (with_reducible refine Kd.C_drewN ?_ _) | (with_reducible refine Kd.C_drew ?_)))
              (case aB => exact (by repeat (first | (with_reducible first | exact HB.out | apply below_alloc | apply pw_below_drewN | apply below_drew1 | refine below_set ?_ GE101.out | refine below_set ?_ GE102.out) | exact HB.out)))
              (case aF => exact (fun k_ hk => Kd.fresh' (Kd.R_lt (by (with_reducible repeat (first | apply Kd.R_alloc | apply Kd.R_drewN | apply Kd.R_drew)); exact HO109.out)) k_ hk))
              (case aO => exact (by (with_reducible repeat (first | apply Kd.R_alloc | apply Kd.R_drewN | apply Kd.R_drew)); exact HO106.out))
              (case aS => exact (below_size (by repeat (first | (with_reducible first | exact HB.out | apply below_alloc | apply pw_below_drewN | apply below_drew1 | refine below_set ?_ GE101.out | refine below_set ?_ GE102.out) | exact HB.out))))
              (case aL => have := LMc24.out; omega)
              intro v111 w31 ho hb hg hat
              rw [← Ny110.out] at ho
              have n0_ := Aside0.mk (blk_grown (g := gb101) (o := .cells #[.int .i64 a0_0, .slice A0_1 l0_1.length c0_1] 31 (0, 0)) (by (with_reducible repeat (first | refine blk_drewN ?_ _ | refine blk_drew ?_ | refine blk_alloc ?_ _)); exact BK101.out) hg (Kd.R_ne HO106.out BK101.out (by decide)))
              have n1_ := Aside0.mk (blk_grown (g := gb102) (o := .cells #[.int .i64 0, .slice none 0 0] 31 (0, 0)) (by (with_reducible repeat (first | refine blk_drewN ?_ _ | refine blk_drew ?_ | refine blk_alloc ?_ _)); exact BK102.out) hg (Kd.R_ne HO106.out BK102.out (by decide)))
              have n2_ := Aside0.mk (Kd.R_after (ok := (fun _ => True)) (by (with_reducible repeat (first | apply Kd.R_alloc | apply Kd.R_drewN | apply Kd.R_drew)); exact Kd.R_mono HO109.out (fun _ hk => ⟨trivial, hk⟩)) hg hat)
              have n3_ := Aside0.mk (hb)
              have n4_ := Aside0.mk (ho)
              clear BK101
              clear BK102
              clear HO109
              clear HB
              clear HO106
              have BK101 := n0_
              have BK102 := n1_
              have HO109 := n2_
              have HB := n3_
              have HO112 := n4_
              clear n0_ n1_ n2_ n3_ n4_
              clear ho hb hg hat
              obtain ⟨Ao33, co33, eo33⟩ := Kd.R_slice HO112.out
              (first | subst eo33 | (injection eo33 with f1_ f2_ f3_; have f4_ := f1_.symm; have f5_ := f3_.symm; clear f1_ f2_ f3_; subst f4_; subst f5_))
              refine hK.out _ _ ⟨(blk_cell BK101.out 0).trans rfl, (blk_cell BK101.out 1).trans rfl⟩ (fun hHeld => ?_)
              clear hK K
              refine norm_ (a' := ?_) ?_ ?_
              rotate_left
              · show Act.put _ (some 41) _ = _
                simp only [Act.put, List.setIfInBounds_toArray, List.set_cons_zero, List.set_cons_succ, i64_w, i32_w]
                rfl
              refine one_ (i := 10) (N := some 42) #[true, true, true, true, true, true, true, true, true, true, true, false, false, false, false] rfl rfl (one_of HT_.out (by kernel_rfl)) (by decide) (fun K hK => ?_)
              refine goes_ Try.func62 (by kernel_rfl) rfl #[.int .i64 a0_0, .slice Ao33 y110.length co33] (by rfl) rfl rfl (by (try simp only [List.map_toArray, List.map_cons, List.map_nil]); first | done | rfl | (simp only [List.length_drop, List.length_take]; rfl)) ?_
              with_reducible refine (graph_Normal.calls a0_0 _ _ y110 t113 t114 t117 _ ?side1 ?side2 A25.out).mono ?_
              (case side1 => repeat (first | exact (Kd.R_reads' HO112.out).2.2 | (with_reducible refine Kd.C_alloc ?_ _) | (with_reducible refine Kd.C_drewN ?_ _) | (with_reducible refine Kd.C_drew ?_)))
              (case side2 => exact (Kd.R_reads' HO112.out).2.1)
              rintro e w34 ⟨v115, rfl, ho0, hb⟩
              refine ⟨_, rfl, ?_⟩
              have n0_ := Aside0.mk (Kd.R_elder' (by (with_reducible repeat (first | apply Kd.R_alloc | apply Kd.R_drewN | apply Kd.R_drew)); exact HO109.out) (Kd.R_base ho0) hb)
              have n1_ := Aside0.mk (Kd.R_elder' (by (with_reducible repeat (first | apply Kd.R_alloc | apply Kd.R_drewN | apply Kd.R_drew)); exact HO112.out) (Kd.R_base ho0) hb)
              have n2_ := Aside0.mk (Kd.R_lower (Kd.R_new' (Kd.R_new' ho0 (Kd.R_lt (by (with_reducible repeat (first | apply Kd.R_alloc | apply Kd.R_drewN | apply Kd.R_drew)); exact HO109.out))) (Kd.R_lt (by (with_reducible repeat (first | apply Kd.R_alloc | apply Kd.R_drewN | apply Kd.R_drew)); exact HO112.out))) (below_size (by repeat (first | (with_reducible first | exact HB.out | apply below_alloc | apply pw_below_drewN | apply below_drew1 | refine below_set ?_ GE101.out | refine below_set ?_ GE102.out) | exact HB.out))))
              have n3_ := Aside0.mk (blk_below (g := gb101) (o := .cells #[.int .i64 a0_0, .slice A0_1 l0_1.length c0_1] 31 (0, 0)) (by (with_reducible repeat (first | refine blk_drewN ?_ _ | refine blk_drew ?_ | refine blk_alloc ?_ _)); exact BK101.out) hb)
              have n4_ := Aside0.mk (blk_below (g := gb102) (o := .cells #[.int .i64 0, .slice none 0 0] 31 (0, 0)) (by (with_reducible repeat (first | refine blk_drewN ?_ _ | refine blk_drew ?_ | refine blk_alloc ?_ _)); exact BK102.out) hb)
              have n5_ := Aside0.mk (below_step (by repeat (first | (with_reducible first | exact HB.out | apply below_alloc | apply pw_below_drewN | apply below_drew1 | refine below_set ?_ GE101.out | refine below_set ?_ GE102.out) | exact HB.out)) hb)
              clear HO109
              clear HO112
              clear BK101
              clear BK102
              clear HB
              have HO109 := n0_
              have HO112 := n1_
              have HO116 := n2_
              have BK101 := n3_
              have BK102 := n4_
              have HB := n5_
              clear n0_ n1_ n2_ n3_ n4_ n5_
              (try clear hb)
              (try clear hb2)
              (try clear hk)
              (try clear hi)
              (try clear ho0)
              obtain ⟨Ao36, co36, eo36⟩ := Kd.R_slice HO116.out
              (first | subst eo36 | (injection eo36 with f1_ f2_ f3_; have f4_ := f1_.symm; have f5_ := f3_.symm; clear f1_ f2_ f3_; subst f4_; subst f5_))
              refine hK.out _ _ ⟨(blk_cell BK101.out 0).trans rfl, (blk_cell BK101.out 1).trans rfl⟩ (fun hHeld => ?_)
              clear hK K
              refine norm_ (a' := ?_) ?_ ?_
              rotate_left
              · show Act.put _ (some 42) _ = _
                simp only [Act.put, List.setIfInBounds_toArray, List.set_cons_zero, List.set_cons_succ, i64_w, i32_w]
                rfl
              refine pure_ (i := 11) (N := some 43) (v := ?_) (a' := ?_) #[true, true, true, true, true, true, true, true, true, true, true, true, false, false, false] rfl rfl (any_of HT_.out (by kernel_rfl)) (fun _ _ _ h => h) (Or.inl ⟨by rfl, ?_⟩) ?_ ?_
              rotate_left
              · intro w'
                go_simp
                with_reducible rfl
              rotate_left
              · simp only [Act.put, List.setIfInBounds_toArray, List.set_cons_zero, List.set_cons_succ, i64_w, i32_w]
                rfl
              refine pure_ (i := 12) (N := some 44) (v := ?_) (a' := ?_) #[true, true, true, true, true, true, true, true, true, true, true, true, true, false, false] rfl rfl (any_of HT_.out (by kernel_rfl)) (fun _ _ _ h => h) (Or.inl ⟨by rfl, ?_⟩) ?_ ?_
              rotate_left
              · intro w'
                go_simp
                with_reducible rfl
              rotate_left
              · simp only [Act.put, List.setIfInBounds_toArray, List.set_cons_zero, List.set_cons_succ, i64_w, i32_w]
                rfl
              refine one_ (i := 13) (N := none) #[true, true, true, true, true, true, true, true, true, true, true, true, true, true, false] rfl rfl (one_of HT_.out (by kernel_rfl)) (by decide) (fun K hK => ?_)
              have hs35 : w34.cell? ⟨gb102, 0, none⟩ = some (.int .i64 0) := (blk_cell BK102.out 0).trans rfl
              have hfs35 := blk_frozen BK102.out 0
              have hns35_0 := NB101_102.out
              have hms35_0 := NB102_101.out
              have hs37 : w34.cell? ⟨gb102, 1, none⟩ = some (.slice none 0 0) := (blk_cell BK102.out 1).trans rfl
              have hfs37 := blk_frozen BK102.out 1
              have hns37_0 := NB101_102.out
              have hms37_0 := NB102_101.out
              refine skip_ (w1 := ?_) (by rfl) rfl ?_ ?_
              rotate_left
              · go_simp
                rfl
              refine hK.out _ _ ⟨((cell_far (p := ⟨gb102, _, none⟩) NB101_102.out _).trans (((cell_far (p := ⟨gb102, _, none⟩) NB101_102.out _).trans (hHeld.1)))), ((cell_far (p := ⟨gb102, _, none⟩) NB101_102.out _).trans (((cell_far (p := ⟨gb102, _, none⟩) NB101_102.out _).trans (hHeld.2))))⟩ (fun hHeld => ?_)
              clear hK K
              refine pure_ (i := 14) (N := some 7) (v := ?_) (a' := ?_) #[true, true, true, true, true, true, true, true, true, true, true, true, true, true, true] rfl rfl (any_of HT_.out (by kernel_rfl)) (fun _ _ _ h => h) (Or.inl ⟨by rfl, ?_⟩) ?_ ?_
              rotate_left
              · intro w'
                go_simp
                with_reducible rfl
              rotate_left
              · simp only [Act.put, List.setIfInBounds_toArray, List.set_cons_zero, List.set_cons_succ, i64_w, i32_w]
                rfl
              refine done_ (done_of HT_.out (by kernel_rfl)) ?_
              try go_wp2
              refine bodyPost_ret (results_ct rfl _ _ gb102 31 #[.int .i64 t113, .slice Ao36 t114.length co36] (0, 0) _ rfl (by (with_reducible repeat (first | refine blk_drewN ?_ _ | refine blk_drew ?_ | refine blk_alloc ?_ _)); refine blk_put (cs := #[.int .i64 t113, .slice none 0 0]) ?_ 1 _ rfl; (with_reducible repeat (first | refine blk_drewN ?_ _ | refine blk_drew ?_ | refine blk_alloc ?_ _)); refine blk_put (cs := #[.int .i64 0, .slice none 0 0]) ?_ 0 _ rfl; (with_reducible repeat (first | refine blk_drewN ?_ _ | refine blk_drew ?_ | refine blk_alloc ?_ _)); exact BK102.out) Try.underlying31 rfl (by kernel_rfl)) rfl ?_
              exact ⟨_, by first | rfl | (simp [errW_none, errW_some] <;> rfl) | (simp [*, errW_none, errW_some] <;> rfl), by (with_reducible repeat (first | apply Kd.R_alloc | apply Kd.R_drewN | apply Kd.R_drew)); exact Kd.R_mono (Kd.R_far (p := ⟨gb102, 1, none⟩) (Kd.R_far (p := ⟨gb102, 0, none⟩) (Kd.R_types HO116.out BK102.out (by decide)) (fun _ hk => hk.2) (.int .i64 t113)) (fun _ hk => hk.2) (.slice Ao36 t114.length co36)) (fun _ hk => trivial), by repeat (first | (with_reducible first | exact HB.out | apply below_alloc | apply pw_below_drewN | apply below_drew1 | refine below_set ?_ GE101.out | refine below_set ?_ GE102.out) | exact HB.out)⟩
            · rw [if_neg c24] at H
              exact absurd H (by simp)
  · replace c5 := Bool.eq_false_iff.mpr c5
    subst c5
    have H1 : (some (0, ([] : List (S69)), 1)) = some (r1, r2, r3) := by rw [if_neg (show ¬ (false = true) by decide)] at H; exact H
    clear H
    have H := H1
    clear H1
    simp only [Option.some.injEq, Prod.mk.injEq] at H
    obtain ⟨rfl, rfl, rfl⟩ := H
    go_enter Try.func18, Try.ntmps18
    go_wp2_with (first | ((with_reducible refine gate_dst (N := 3) rfl ?_); (try (refine gate_guard (by rfl) ?_; dsimp only)); refine box_event ?hg (N := 3) ?hd (cs := #[.int .i64 a0_0, .slice A0_1 l0_1.length c0_1]) (t := 31) ?hr ?_; (case hd => rfl); (case hg => rfl); (case hr => first | (go_simp; done) | (go_simp; rfl)); intro gb101 hg w38 hbox hb; have n0_ := Aside0.mk (below_step (by repeat (first | (with_reducible first | exact HB.out | apply below_alloc | apply pw_below_drewN | apply below_drew1) | exact HB.out)) hb); have n1_ := Aside0.mk (hbox); have n2_ := Aside0.mk ((by rw [hg]; exact (below_size (by repeat (first | (with_reducible first | exact HB.out | apply below_alloc | apply pw_below_drewN | apply below_drew1) | exact HB.out))) : w.heap.size ≤ gb101)); have n3_ := Aside0.mk ((by rw [hg]; exact (below_size (by repeat (first | (with_reducible first | exact HB.out | apply below_alloc | apply pw_below_drewN | apply below_drew1) | exact HB.out))) : w.heap.size ≤ gb101)); clear HB; have HB := n0_; have BK101 := n1_; have GW101 := n2_; have GE101 := n3_; clear n0_ n1_ n2_ n3_; clear hb hbox hg) | ((with_reducible refine gate_dst (N := 6) rfl ?_); (try (refine gate_guard (by rfl) ?_; dsimp only)); refine box_event ?hg (N := 6) ?hd (cs := #[.int .i64 0, .slice none 0 0]) (t := 31) ?hr ?_; (case hd => rfl); (case hg => rfl); (case hr => first | (go_simp; done) | (go_simp; rfl)); intro gb102 hg w39 hbox hb; have n0_ := Aside0.mk (blk_below (g := gb101) (o := .cells #[.int .i64 a0_0, .slice A0_1 l0_1.length c0_1] 31 (0, 0)) (by (with_reducible repeat (first | refine blk_drewN ?_ _ | refine blk_drew ?_ | refine blk_alloc ?_ _)); exact BK101.out) hb); have n1_ := Aside0.mk (below_step (by repeat (first | (with_reducible first | exact HB.out | apply below_alloc | apply pw_below_drewN | apply below_drew1 | refine below_set ?_ GE101.out) | exact HB.out)) hb); have n2_ := Aside0.mk (hbox); have n3_ := Aside0.mk ((by rw [hg]; exact (below_size (by repeat (first | (with_reducible first | exact HB.out | apply below_alloc | apply pw_below_drewN | apply below_drew1 | refine below_set ?_ GE101.out) | exact HB.out))) : w.heap.size ≤ gb102)); have n4_ := Aside0.mk ((by rw [hg]; exact (below_size (by repeat (first | (with_reducible first | exact HB.out | apply below_alloc | apply pw_below_drewN | apply below_drew1 | refine below_set ?_ GE101.out) | exact HB.out))) : w.heap.size ≤ gb102)); have n5_ := Aside0.mk ((by rw [hg]; exact Nat.ne_of_lt (blk_lt (g := gb101) (o := .cells #[.int .i64 a0_0, .slice A0_1 l0_1.length c0_1] 31 (0, 0)) (by (with_reducible repeat (first | refine blk_drewN ?_ _ | refine blk_drew ?_ | refine blk_alloc ?_ _)); exact BK101.out)) : gb101 ≠ gb102)); have n6_ := Aside0.mk ((by rw [hg]; exact Nat.ne_of_gt (blk_lt (g := gb101) (o := .cells #[.int .i64 a0_0, .slice A0_1 l0_1.length c0_1] 31 (0, 0)) (by (with_reducible repeat (first | refine blk_drewN ?_ _ | refine blk_drew ?_ | refine blk_alloc ?_ _)); exact BK101.out)) : gb102 ≠ gb101)); clear BK101; clear HB; have BK101 := n0_; have HB := n1_; have BK102 := n2_; have GW102 := n3_; have GE102 := n4_; have NB101_102 := n5_; have NB102_101 := n6_; clear n0_ n1_ n2_ n3_ n4_ n5_ n6_; clear hb hbox hg; have hnb40 := NB101_102.out; have hnc40 := NB102_101.out; have hcz41_0 : w39.cell? ⟨gb101, 0, none⟩ = some (.int .i64 a0_0) := (blk_cell BK101.out 0).trans rfl; have hcz41_1 : w39.cell? ⟨gb101, 1, none⟩ = some (.slice A0_1 l0_1.length c0_1) := (blk_cell BK101.out 1).trans rfl; have hfz41_0 := blk_frozen BK101.out 0; have hfz41_1 := blk_frozen BK101.out 1) | ((with_reducible refine gate_callee (f := 55) rfl ?_); refine goesL_ (some 10) rfl rfl Try.func55 (by kernel_rfl) rfl #[.agg #[.int .i64 a0_0, .slice A0_1 l0_1.length c0_1]] rfl (by (try simp only [List.map_toArray, List.map_cons, List.map_nil]); first | done | rfl | (simp only [List.length_drop, List.length_take]; rfl)) ?_; (with_reducible refine (graph_Right.calls a0_0 _ _ l0_1 false _ ?side1 ?side2 A4.out).mono ?_); (case side1 => repeat (first | exact (Kd.C_below HR0_1.out HB.out) | (with_reducible refine Kd.C_alloc ?_ _) | (with_reducible refine Kd.C_drewN ?_ _) | (with_reducible refine Kd.C_drew ?_))); (case side2 => exact HC0_1.out); rintro e w42 ⟨rfl, hb⟩; refine ⟨_, rfl, ?_⟩; have n0_ := Aside0.mk (blk_below (g := gb101) (o := .cells #[.int .i64 a0_0, .slice A0_1 l0_1.length c0_1] 31 (0, 0)) (by (with_reducible repeat (first | refine blk_drewN ?_ _ | refine blk_drew ?_ | refine blk_alloc ?_ _)); exact BK101.out) hb); have n1_ := Aside0.mk (blk_below (g := gb102) (o := .cells #[.int .i64 0, .slice none 0 0] 31 (0, 0)) (by (with_reducible repeat (first | refine blk_drewN ?_ _ | refine blk_drew ?_ | refine blk_alloc ?_ _)); exact BK102.out) hb); have n2_ := Aside0.mk (below_step (by repeat (first | (with_reducible first | exact HB.out | apply below_alloc | apply pw_below_drewN | apply below_drew1 | refine below_set ?_ GE101.out | refine below_set ?_ GE102.out) | exact HB.out)) hb); clear BK101; clear BK102; clear HB; have BK101 := n0_; have BK102 := n1_; have HB := n2_; clear n0_ n1_ n2_; (try clear hb); (try clear hb2); (try clear hk); (try clear hi); have hcz43_0 : w42.cell? ⟨gb102, 0, none⟩ = some (.int .i64 0) := (blk_cell BK102.out 0).trans rfl; have hcz43_1 : w42.cell? ⟨gb102, 1, none⟩ = some (.slice none 0 0) := (blk_cell BK102.out 1).trans rfl; have hfz43_0 := blk_frozen BK102.out 0; have hfz43_1 := blk_frozen BK102.out 1))
    refine bodyPost_ret (results_ct rfl _ _ gb102 31 #[.int .i64 0, .slice none 0 0] (0, 0) _ rfl (by (with_reducible repeat (first | refine blk_drewN ?_ _ | refine blk_drew ?_ | refine blk_alloc ?_ _)); refine blk_put (cs := #[.int .i64 0, .slice none 0 0]) ?_ 1 _ rfl; (with_reducible repeat (first | refine blk_drewN ?_ _ | refine blk_drew ?_ | refine blk_alloc ?_ _)); refine blk_put (cs := #[.int .i64 0, .slice none 0 0]) ?_ 0 _ rfl; (with_reducible repeat (first | refine blk_drewN ?_ _ | refine blk_drew ?_ | refine blk_alloc ?_ _)); exact BK102.out) Try.underlying31 rfl (by kernel_rfl)) rfl ?_
    exact ⟨_, by first | rfl | (simp [errW_none, errW_some] <;> rfl) | (simp [*, errW_none, errW_some] <;> rfl), by first | exact Kd.R_nil _ _ _ _ _ | exact Kd.N_nil _ _ _ _ _ | exact Kd.V_nil _ _ _ _ _ | exact Kd.Q_nil _ _ _ _ _ | exact Kd.S_nil _ _ _ _ _, by repeat (first | (with_reducible first | exact HB.out | apply below_alloc | apply pw_below_drewN | apply below_drew1 | refine below_set ?_ GE101.out | refine below_set ?_ GE102.out) | exact HB.out)⟩
end Go.Proofs.Ytkemhnfaheplhaa.F
namespace Go.Proofs.Ytkemhnfaheplhaa.F
open Go.RowKit Go.Proofs.YtkemhnfaheplhaaW.PrintWords Go.Proofs.YtkemhnfaheplhaaW.PrintLast Go.Proofs.YtkemhnfaheplhaaW.PrintMore
set_option linter.unusedVariables false
set_option linter.unusedSimpArgs false
theorem small9_l0 (x0 : Int) (x1 : List Int) (x2 : List (List Int)) (r0 : Int) (r1 : List Int) : ∀ (m i : Nat) (out : List (List Int)), i + m = 8 → out.length ≤ i → (∀ p ∈ out, p.length ≤ 20) →
    ∃ r, r.length ≤ 8 ∧ (∀ p ∈ r, p.length ≤ 20) ∧ Ev (fun k => carcanetlaw09_small.l0 k i x0 x1 x2 r0 r1 out) (r0, r1, r) := by
  intro m
  induction m with
  | zero =>
    intro i out h ho hp
    refine ⟨out, by omega, hp, Ev.step (f := fun _ => some _) (fun k => ?_) (Ev.now _)⟩
    simp only [carcanetlaw09_small.l0]
    by_cases c : (i : Int) < x2.length
    · rw [if_pos c, if_neg (by omega)]
    · rw [if_neg c]
  | succ m ih =>
    intro i out h ho hp
    by_cases c : (i : Int) < x2.length
    · have hi : i < x2.length := by omega
      obtain ⟨r, h1, h2, h3⟩ := ih (i + 1) (out ++ [[] ++ (rd_L14 x2 i).take (mn ((rd_L14 x2 i).length : Int) 20).toNat]) (by omega) (by simp; omega) (fun p hp' => by
        rcases List.mem_append.1 hp' with hp' | hp'
        · exact hp p hp'
        · obtain rfl : p = _ := by simpa using hp'
          rw [mn_eq]; simp; omega)
      refine ⟨r, h1, h2, Ev.step (fun k => ?_) h3⟩
      simp only [carcanetlaw09_small.l0]
      rw [if_pos c, if_pos (by omega), Option.bind_some, if_pos (by omega), mn_eq, if_pos (by omega), if_pos (by omega), if_pos (by simp; omega), if_pos (by omega), wrap_in (by omega) (by omega)]
      rfl
    · refine ⟨out, by omega, hp, Ev.step (f := fun _ => some _) (fun k => ?_) (Ev.now _)⟩
      simp only [carcanetlaw09_small.l0]
      rw [if_neg c]
theorem flat_bound : ∀ (r : List (List Int)) (B : Nat), (∀ p ∈ r, p.length ≤ B) → r.flatten.length ≤ r.length * B
  | [], _, _ => by simp
  | p :: r, B, h => by
    have h1 := flat_bound r B (fun q hq => h q (List.mem_cons_of_mem _ hq))
    have h2 := h p List.mem_cons_self
    rw [List.flatten_cons, List.length_append, List.length_cons, Nat.add_mul]
    omega
theorem small9_ev (kd : Int) (tops : List Int) (paths : List (List Int)) : ∃ t r k, t.length ≤ 6 ∧ r.length ≤ 8 ∧ r.flatten.length ≤ 160 ∧ carcanetlaw09_small.f k kd tops paths = some (kd, t, r) := by
  obtain ⟨r, h1, h2, h3⟩ := small9_l0 kd tops paths kd ([] ++ tops.take (mn (tops.length : Int) 6).toNat) 8 0 [] (by omega) (by simp) (by simp)
  obtain ⟨k, hk⟩ := h3.rounds
  refine ⟨[] ++ tops.take (mn (tops.length : Int) 6).toNat, r, k, by rw [mn_eq]; simp; omega, h1, Nat.le_trans (flat_bound r 20 h2) (by omega), ?_⟩
  · simp only [carcanetlaw09_small.f]
    rw [Option.bind_some, if_pos (by rw [mn_eq]; omega), if_pos (by rw [mn_eq]; omega), if_pos (by rw [mn_eq]; simp; omega)]
    exact hk
theorem add_ok {N : Int} {E : List S69} (hr : rightB N E = true) (hl : E.length ≤ 3000) {a b : Int} (ha : 0 ≤ a ∧ a < N) (hb : 0 ≤ b ∧ b < N) (hab : a ≠ b) :
    ∃ E', graph_Add.f 1 N E a b = some (N, E', 0) ∧ rightB N E' = true ∧ (∀ x ∈ E, x ∈ E') ∧ E'.length ≤ E.length + 1 := by
  obtain ⟨E', h1, h2, h3, h4⟩ := norm_add hr hl ha hb
  refine ⟨E', ?_, h2, h3, h4⟩
  simp only [graph_Add.f, graph_Right.f, hr, Option.bind_some, if_true]
  rw [mn_eq, mx_eq, if_neg (by omega), decide_eq_false (by omega)]
  simp only [graph_Add.j0, Bool.false_eq_true, if_false, if_neg hab]
  rw [show api_Edge_63.f E = some E from if_pos (by omega), Option.bind_some, Option.bind_some, if_pos (by simp; omega)]
  rw [show graph_Normal.f N (E ++ [⟨a, b⟩]) = some (normG N (E ++ [⟨a, b⟩])) from if_pos (by simp; omega), h1]
  rfl
theorem ends_ne {N a t : Int} (h2 : 2 ≤ N) (ha : 0 ≤ a ∧ a < N) (ht : 0 ≤ t ∧ t < N - 1) : a ≠ (a + 1 + t) % N ∧ 0 ≤ (a + 1 + t) % N ∧ (a + 1 + t) % N < N := by
  refine ⟨?_, Int.emod_nonneg _ (by omega), Int.emod_lt_of_pos _ (by omega)⟩
  by_cases c : a + 1 + t < N
  · rw [Int.emod_eq_of_lt (by omega) c]; omega
  · have : (a + 1 + t) % N = a + 1 + t - N := by
      rw [← Int.sub_emod_right, Int.emod_eq_of_lt (by omega) (by omega)]
    omega
end Go.Proofs.Ytkemhnfaheplhaa.F
namespace Go.Proofs.Ytkemhnfaheplhaa.F
open Go.RowKit Go.Proofs.YtkemhnfaheplhaaW.PrintWords Go.Proofs.YtkemhnfaheplhaaW.PrintLast Go.Proofs.YtkemhnfaheplhaaW.PrintMore Go.Proofs.Ytkemhnfaheplhaa.Mix
set_option linter.unusedVariables false
set_option linter.unusedSimpArgs false
theorem size_drewN0 (W : World) (n : Nat) : (W.drewN n).heap.size = W.heap.size := rfl
set_option maxHeartbeats 4000000 in
set_option maxRecDepth 100000 in
theorem topoGrows_calls (N0 : Int) (A : Option Addr) (c : Nat) (l : List S69) (e0 e1 kd : Int) (T : Option Addr) (ct : Nat) (tops : List Int) (B : Option Addr) (cp : Nat) (paths : List (List Int)) (w : World)
    (hr : Kd.C k69 w A l.length l) (hc : l.length ≤ c) (ht : Kd.C (Kd.int .i64) w T tops.length tops) (hct : tops.length ≤ ct) (hp : Kd.C (Kd.slice 3 (Kd.int .i64)) w B paths.length paths) (hcp : paths.length ≤ cp) :
    Calls Try.prog 3 #[.agg #[.int .i64 N0, .slice A l.length c], .agg #[.int .i64 e0, .int .i64 e1], .agg #[.int .i64 kd, .slice T tops.length ct, .slice B paths.length cp]] w fun e w' => e = .returned (.bool true) ∧ Below w.heap.size w w' := by
  have hu31 := Try.underlying31
  have hu24 := Try.underlying24
  have huS := Try.underlying36
  obtain ⟨N, E, hN0, hN1, hR, hE3, kof, hof⟩ : ∃ N E, 0 ≤ N ∧ N ≤ 20 ∧ rightB N E = true ∧ E.length ≤ 300 ∧ ∃ k, carcanetref03_Of.f k N0 l 20 = some (N, E) := by
    obtain ⟨N, E, h1, h2, h3, h4, h5⟩ := ref_of N0 l 20 (by decide) (by decide)
    exact ⟨N, E, h1, h2, h3, h4, h5.rounds⟩
  obtain ⟨t, r, ks, ht6, hr8, hrf, hsm⟩ := small9_ev kd tops paths
  obtain ⟨x0, hx0⟩ : ∃ x, Go.bits .and .i64 e0 65535 = x := ⟨_, rfl⟩
  obtain ⟨x1, hx1⟩ : ∃ x, Go.bits .and .i64 e1 65535 = x := ⟨_, rfl⟩
  have hb0 := and_range e0
  have hb1 := and_range e1
  rw [hx0] at hb0
  rw [hx1] at hb1
  have HR := Aside0.mk hr
  have HT := Aside0.mk ht
  have HP := Aside0.mk hp
  have HRB := Aside0.mk hR
  have HOF := Aside0.mk hof
  have HSM := Aside0.mk hsm
  clear hr ht hp hR hof hsm
  obtain ⟨W0, hW0⟩ : ∃ W, ((w.alloc (.cells #[.int .i64 N0, .slice A l.length c] 24)).alloc (.cells #[.int .i64 e0, .int .i64 e1] 25)).alloc (.cells #[.int .i64 kd, .slice T tops.length ct, .slice B paths.length cp] 29) = W := ⟨_, rfl⟩
  have hs0 : W0.heap.size = w.heap.size + 3 := by rw [← hW0]; simp
  have HB0 : Aside0 (Below w.heap.size w W0) := ⟨by rw [← hW0]; exact below_alloc (below_alloc (below_alloc (Below.refl _ _) _) _) _⟩
  have HK0 : Aside0 (W0.heap[w.heap.size]? = some (.cells #[.int .i64 N0, .slice A l.length c] 24 (0, 0))) := ⟨by rw [← hW0]; exact blk_alloc (blk_alloc (heap_alloc_new w _) _) _⟩
  have HK1 : Aside0 (W0.heap[w.heap.size + 1]? = some (.cells #[.int .i64 e0, .int .i64 e1] 25 (0, 0))) := ⟨by
    rw [← hW0]; refine blk_alloc ?_ _
    have := heap_alloc_new (w.alloc (.cells #[.int .i64 N0, .slice A l.length c] 24)) (.cells #[.int .i64 e0, .int .i64 e1] 25); rwa [World.size_alloc] at this⟩
  have HK2 : Aside0 (W0.heap[w.heap.size + 1 + 1]? = some (.cells #[.int .i64 kd, .slice T tops.length ct, .slice B paths.length cp] 29 (0, 0))) := ⟨by
    rw [← hW0]
    have := heap_alloc_new ((w.alloc (.cells #[.int .i64 N0, .slice A l.length c] 24)).alloc (.cells #[.int .i64 e0, .int .i64 e1] 25)) (.cells #[.int .i64 kd, .slice T tops.length ct, .slice B paths.length cp] 29); rwa [World.size_alloc, World.size_alloc] at this⟩
  have HW0 := Aside0.mk hW0
  clear hW0
  have HSH : Aside0 (Calls Try.prog 16 #[] W0 fun e w' => e = .returned (.bool true) ∧ Below W0.heap.size W0 w') := ⟨shown9_calls W0⟩
  go_enter Try.func3, Try.ntmps3
  by_cases cN : N < 2
  · go_wp2_with (first | (go_at_call 16; rw [HW0.out]; refine HSH.out.mono ?_; rintro e w1 ⟨rfl, hb⟩; have hs1 := hb.size; have HK01 := Aside0.mk ((hb.block w.heap.size (by omega)).trans HK0.out); have HK11 := Aside0.mk ((hb.block (w.heap.size + 1) (by omega)).trans HK1.out); have HK21 := Aside0.mk ((hb.block (w.heap.size + 1 + 1) (by omega)).trans HK2.out); have HB1 := Aside0.mk (HB0.out.trans (hb.mono (by omega))); have hq := HK01.out; have a0 : w1.cell? ⟨w.heap.size, 0, none⟩ = some (.int .i64 N0) := (blk_cell hq 0).trans rfl; have a1 : w1.cell? ⟨w.heap.size, 1, none⟩ = some (.slice A l.length c) := (blk_cell hq 1).trans rfl; clear hb hq) | (go_at_call 17; refine (carcanetref03_Of.calls kof N0 A c l 20 N E _ (Kd.C_below HR.out HB1.out) hc HOF.out).mono ?_; rintro e w2 ⟨v1, rfl, h1, hb⟩; obtain ⟨A1, c1, e⟩ := Kd.R_slice h1; subst e; have hs2 := hb.size; have hc1 := (Kd.R_reads' h1).2.1; have HE2 := Aside0.mk (Kd.R_reads' h1).2.2; have HK12 := Aside0.mk (blk_alloc ((hb.block (w.heap.size + 1) (by omega)).trans HK11.out) (.cells #[.int .i64 N, .slice A1 E.length c1] 31)); have HK22 := Aside0.mk (blk_alloc ((hb.block (w.heap.size + 1 + 1) (by omega)).trans HK21.out) (.cells #[.int .i64 N, .slice A1 E.length c1] 31)); have HB2 := Aside0.mk (HB1.out.trans (hb.mono (by omega))); have hq := HK12.out; have b0 : (w2.alloc (.cells #[.int .i64 N, .slice A1 E.length c1] 31)).cell? ⟨w.heap.size + 1, 0, none⟩ = some (.int .i64 e0) := (blk_cell hq 0).trans rfl; have b1 : (w2.alloc (.cells #[.int .i64 N, .slice A1 E.length c1] 31)).cell? ⟨w.heap.size + 1, 1, none⟩ = some (.int .i64 e1) := (blk_cell hq 1).trans rfl; clear h1 hb hq))
    go_ret
    exact ⟨rfl, HB2.out.alloc (by have := HB2.out.size; omega) _⟩
  · have hN2 : 2 ≤ N := by omega
    clear cN
    go_wp2_with (first | (go_at_call 16; rw [HW0.out]; refine HSH.out.mono ?_; rintro e w1 ⟨rfl, hb⟩; have hs1 := hb.size; have HK01 := Aside0.mk ((hb.block w.heap.size (by omega)).trans HK0.out); have HK11 := Aside0.mk ((hb.block (w.heap.size + 1) (by omega)).trans HK1.out); have HK21 := Aside0.mk ((hb.block (w.heap.size + 1 + 1) (by omega)).trans HK2.out); have HB1 := Aside0.mk (HB0.out.trans (hb.mono (by omega))); have hq := HK01.out; have a0 : w1.cell? ⟨w.heap.size, 0, none⟩ = some (.int .i64 N0) := (blk_cell hq 0).trans rfl; have a1 : w1.cell? ⟨w.heap.size, 1, none⟩ = some (.slice A l.length c) := (blk_cell hq 1).trans rfl; clear hb hq) | (go_at_call 17; refine (carcanetref03_Of.calls kof N0 A c l 20 N E _ (Kd.C_below HR.out HB1.out) hc HOF.out).mono ?_; rintro e w2 ⟨v1, rfl, h1, hb⟩; obtain ⟨A1, c1, e⟩ := Kd.R_slice h1; subst e; have hs2 := hb.size; have hc1 := (Kd.R_reads' h1).2.1; have HE2 := Aside0.mk (Kd.R_reads' h1).2.2; have HK12 := Aside0.mk (blk_alloc ((hb.block (w.heap.size + 1) (by omega)).trans HK11.out) (.cells #[.int .i64 N, .slice A1 E.length c1] 31)); have HK22 := Aside0.mk (blk_alloc ((hb.block (w.heap.size + 1 + 1) (by omega)).trans HK21.out) (.cells #[.int .i64 N, .slice A1 E.length c1] 31)); have HB2 := Aside0.mk (HB1.out.trans (hb.mono (by omega))); have hq := HK12.out; have b0 : (w2.alloc (.cells #[.int .i64 N, .slice A1 E.length c1] 31)).cell? ⟨w.heap.size + 1, 0, none⟩ = some (.int .i64 e0) := (blk_cell hq 0).trans rfl; have b1 : (w2.alloc (.cells #[.int .i64 N, .slice A1 E.length c1] 31)).cell? ⟨w.heap.size + 1, 1, none⟩ = some (.int .i64 e1) := (blk_cell hq 1).trans rfl; clear h1 hb hq))
    obtain ⟨a, ha⟩ : ∃ a, x0 % N = a := ⟨_, rfl⟩
    have ha0 : 0 ≤ a := by rw [← ha]; exact Int.emod_nonneg _ (by omega)
    have ha1 : a < N := by rw [← ha]; exact Int.emod_lt_of_pos _ (by omega)
    rw [ha]
    obtain ⟨n1, hn1⟩ : ∃ n, N - 1 = n := ⟨_, rfl⟩
    obtain ⟨a1, ha1'⟩ : ∃ n, a + 1 = n := ⟨_, rfl⟩
    obtain ⟨u, hu⟩ : ∃ n, x1 % n1 = n := ⟨_, rfl⟩
    have hu0 : 0 ≤ u := by rw [← hu]; exact Int.emod_nonneg _ (by omega)
    have hu1 : u < n1 := by rw [← hu]; exact Int.emod_lt_of_pos _ (by omega)
    obtain ⟨s, hs⟩ : ∃ n, a1 + u = n := ⟨_, rfl⟩
    obtain ⟨b, hb'⟩ : ∃ n, s % N = n := ⟨_, rfl⟩
    have hw1 : IntKind.i64.wrap (a + 1) = a1 := (IntWalk.i64_in _ (by omega)).trans ha1'
    have hw2 : IntKind.i64.wrap (N - 1) = n1 := (IntWalk.i64_in _ (by omega)).trans hn1
    have hw3 : IntKind.i64.wrap (a1 + u) = s := (IntWalk.i64_in _ (by omega)).trans hs
    have hm1 : Int.tmod x1 n1 = u := by rw [Int.tmod_eq_emod_of_nonneg hb1.1]; exact hu
    have hm2 : Int.tmod s N = b := by rw [Int.tmod_eq_emod_of_nonneg (by omega)]; exact hb'
    have hz1 : (n1 == 0) = false := beq_eq_false_iff_ne.mpr (by omega)
    have hz2 : (N == 0) = false := beq_eq_false_iff_ne.mpr (by omega)
    have hne := ends_ne hN2 ⟨ha0, ha1⟩ ⟨hu0, show u < N - 1 by omega⟩
    rw [show a + 1 + u = s by omega, hb'] at hne
    obtain ⟨E', had, hR', hsub, hlen'⟩ := add_ok HRB.out (by omega) ⟨ha0, ha1⟩ ⟨hne.2.1, hne.2.2⟩ hne.1
    have HAD := Aside0.mk had
    have HR' := Aside0.mk (And.intro hR' hsub)
    have HNE := Aside0.mk hne
    clear ha hn1 ha1' hu hs hb' had hR' hsub hne
    go_quiet (fail)
    obtain ⟨q, hq⟩ : ∃ q, topoB N E kd t r = q := ⟨_, rfl⟩
    have HQ1 : Aside0 (∀ (A1 A4 B4 : Option Addr) (c4 d4 : Nat) (W : World), Kd.C k69 W A1 E.length E → E.length ≤ c1 → Kd.C (Kd.int .i64) W A4 t.length t → t.length ≤ c4 → Kd.C (Kd.slice 3 (Kd.int .i64)) W B4 r.length r → r.length ≤ d4 → Calls Try.prog 20 #[.agg #[.int .i64 N, .slice A1 E.length c1], .agg #[.int .i64 kd, .slice A4 t.length c4, .slice B4 r.length d4]] W fun e w' => e = .returned (.bool q) ∧ Below W.heap.size W w') := ⟨fun A1 A4 B4 c4 d4 W h1 h2 h3 h4 h5 h6 => by
      rw [← hq]; exact topoCheck_calls N A1 c1 E kd A4 c4 t B4 d4 r W h1 h2 h3 h4 h5 h6 (by omega)⟩
    have HQ2 : Aside0 (∀ (A1 A4 B4 : Option Addr) (c3 c4 : Nat) (d4 : Nat) (W : World), Kd.C k69 W A1 E'.length E' → E'.length ≤ c3 → Kd.C (Kd.int .i64) W A4 t.length t → t.length ≤ c4 → Kd.C (Kd.slice 3 (Kd.int .i64)) W B4 r.length r → r.length ≤ d4 → Calls Try.prog 20 #[.agg #[.int .i64 N, .slice A1 E'.length c3], .agg #[.int .i64 kd, .slice A4 t.length c4, .slice B4 r.length d4]] W fun e w' => e = .returned (.bool (topoB N E' kd t r)) ∧ Below W.heap.size W w') := ⟨fun A1 A4 B4 c3 c4 d4 W h1 h2 h3 h4 h5 h6 => topoCheck_calls N A1 c3 E' kd A4 c4 t B4 d4 r W h1 h2 h3 h4 h5 h6 (by omega)⟩
    have HQ := Aside0.mk hq
    clear hq
    cases q with
    | false =>
      go_wp2_with (first | (go_at_call 18; (refine (graph_Add.calls 1 N A1 c1 E a b N E' 0 _ (Kd.C_drewN (Kd.C_alloc HE2.out _) nq) hc1 HAD.out).mono ?_; rintro e w3 ⟨v3, rfl, h3, hb⟩; obtain ⟨A3, c3, e⟩ := Kd.R_slice h3; subst e; have hs3 := hb.size; have hc3 := (Kd.R_reads' h3).2.1; have hbb := below_then (pw_below_drewN (below_alloc (Below.refl w2.heap.size w2) (.cells #[.int .i64 N, .slice A1 E.length c1] 31)) nq) (by rw [size_drewN0, World.size_alloc]; try omega) hb; have hs3' : w2.heap.size + 1 ≤ w3.heap.size := (by have := hb.size; rw [size_drewN0, World.size_alloc] at this; exact this); have HE3 := Aside0.mk (And.intro (Kd.C_below HE2.out hbb) (Kd.R_reads' h3).2.2); have HG3 := Aside0.mk ((hb.block w2.heap.size (by rw [size_drewN0, World.size_alloc]; try omega)).trans (heap_alloc_new w2 (.cells #[.int .i64 N, .slice A1 E.length c1] 31))); have HK23 := Aside0.mk (blk_alloc ((hb.block (w.heap.size + 1 + 1) (by rw [size_drewN0, World.size_alloc]; try omega)).trans HK22.out) (.cells #[.int .i64 N, .slice A3 E'.length c3] 31)); have HB3 := Aside0.mk (HB2.out.trans (hbb.mono (by omega))); have hq := HK23.out; have d0 : (w3.alloc (.cells #[.int .i64 N, .slice A3 E'.length c3] 31)).cell? ⟨w.heap.size + 1 + 1, 0, none⟩ = some (.int .i64 kd) := (blk_cell hq 0).trans rfl; have d1 : (w3.alloc (.cells #[.int .i64 N, .slice A3 E'.length c3] 31)).cell? ⟨w.heap.size + 1 + 1, 1, none⟩ = some (.slice T tops.length ct) := (blk_cell hq 1).trans rfl; have d2 : (w3.alloc (.cells #[.int .i64 N, .slice A3 E'.length c3] 31)).cell? ⟨w.heap.size + 1 + 1, 2, none⟩ = some (.slice B paths.length cp) := (blk_cell hq 2).trans rfl; clear h3 hb hbb hq hs3)) | (go_at_call 19; refine (carcanetlaw09_small.calls ks kd T ct tops B cp paths kd t r _ (Kd.C_alloc (Kd.C_below HT.out HB3.out) _) hct (Kd.C_alloc (Kd.C_below HP.out HB3.out) _) hcp HSM.out).mono ?_; rintro e w4 ⟨v4, v5, rfl, h4, h5, hb⟩; obtain ⟨A4, c4, e⟩ := Kd.R_slice h4; subst e; obtain ⟨B4, d4, e⟩ := Kd.S_slice h5; subst e; have hs4 : w3.heap.size + 1 ≤ w4.heap.size := (by have := hb.size; rw [World.size_alloc] at this; exact this); have hbb := below_then (below_alloc (Below.refl w3.heap.size w3) (.cells #[.int .i64 N, .slice A3 E'.length c3] 31)) (by rw [World.size_alloc]; try omega) hb; have hc4 := (Kd.R_reads' h4).2.1; have hd4 := (Kd.S_reads' h5).2.1; have HT4 := Aside0.mk (And.intro (Kd.R_reads' h4).2.2 (Kd.S_reads' h5).2.2); have HE4 := Aside0.mk (And.intro (Kd.C_below HE3.out.1 hbb) (Kd.C_below HE3.out.2 hbb)); have HH4 := Aside0.mk (blk_alloc ((hb.block w3.heap.size (by rw [World.size_alloc]; try omega)).trans (heap_alloc_new w3 (.cells #[.int .i64 N, .slice A3 E'.length c3] 31))) (.cells #[.int .i64 kd, .slice A4 t.length c4, .slice B4 r.length d4] 36)); have HG4 := Aside0.mk (blk_alloc ((hb.block w2.heap.size (by rw [World.size_alloc]; try omega)).trans (blk_alloc HG3.out _)) (.cells #[.int .i64 kd, .slice A4 t.length c4, .slice B4 r.length d4] 36)); have HB4 := Aside0.mk (HB3.out.trans (hbb.mono (by omega))); have hq := HG4.out; have g0 : (w4.alloc (.cells #[.int .i64 kd, .slice A4 t.length c4, .slice B4 r.length d4] 36)).cell? ⟨w2.heap.size, 0, none⟩ = some (.int .i64 N) := (blk_cell hq 0).trans rfl; have g1 : (w4.alloc (.cells #[.int .i64 kd, .slice A4 t.length c4, .slice B4 r.length d4] 36)).cell? ⟨w2.heap.size, 1, none⟩ = some (.slice A1 E.length c1) := (blk_cell hq 1).trans rfl; clear h4 h5 hb hbb hq) | (go_at_call 20; (with_reducible refine (HQ1.out _ _ _ _ _ _ (Kd.C_alloc HE4.out.1 _) hc1 (Kd.C_alloc HT4.out.1 _) hc4 (Kd.C_alloc HT4.out.2 _) hd4).mono ?_); rintro e w5 ⟨rfl, hb⟩;  have HB5 := Aside0.mk ((HB4.out.alloc (by omega) _).trans (hb.mono (by rw [World.size_alloc]; try omega))); clear hb))

      go_ret
      exact ⟨rfl, HB5.out⟩
    | true =>
      rw [topo_mono HR'.out.1 HR'.out.2 HQ.out] at HQ2
      go_wp2_with (first | (go_at_call 18; (refine (graph_Add.calls 1 N A1 c1 E a b N E' 0 _ (Kd.C_drewN (Kd.C_alloc HE2.out _) nq) hc1 HAD.out).mono ?_; rintro e w3 ⟨v3, rfl, h3, hb⟩; obtain ⟨A3, c3, e⟩ := Kd.R_slice h3; subst e; have hs3 := hb.size; have hc3 := (Kd.R_reads' h3).2.1; have hbb := below_then (pw_below_drewN (below_alloc (Below.refl w2.heap.size w2) (.cells #[.int .i64 N, .slice A1 E.length c1] 31)) nq) (by rw [size_drewN0, World.size_alloc]; try omega) hb; have hs3' : w2.heap.size + 1 ≤ w3.heap.size := (by have := hb.size; rw [size_drewN0, World.size_alloc] at this; exact this); have HE3 := Aside0.mk (And.intro (Kd.C_below HE2.out hbb) (Kd.R_reads' h3).2.2); have HG3 := Aside0.mk ((hb.block w2.heap.size (by rw [size_drewN0, World.size_alloc]; try omega)).trans (heap_alloc_new w2 (.cells #[.int .i64 N, .slice A1 E.length c1] 31))); have HK23 := Aside0.mk (blk_alloc ((hb.block (w.heap.size + 1 + 1) (by rw [size_drewN0, World.size_alloc]; try omega)).trans HK22.out) (.cells #[.int .i64 N, .slice A3 E'.length c3] 31)); have HB3 := Aside0.mk (HB2.out.trans (hbb.mono (by omega))); have hq := HK23.out; have d0 : (w3.alloc (.cells #[.int .i64 N, .slice A3 E'.length c3] 31)).cell? ⟨w.heap.size + 1 + 1, 0, none⟩ = some (.int .i64 kd) := (blk_cell hq 0).trans rfl; have d1 : (w3.alloc (.cells #[.int .i64 N, .slice A3 E'.length c3] 31)).cell? ⟨w.heap.size + 1 + 1, 1, none⟩ = some (.slice T tops.length ct) := (blk_cell hq 1).trans rfl; have d2 : (w3.alloc (.cells #[.int .i64 N, .slice A3 E'.length c3] 31)).cell? ⟨w.heap.size + 1 + 1, 2, none⟩ = some (.slice B paths.length cp) := (blk_cell hq 2).trans rfl; clear h3 hb hbb hq hs3)) | (go_at_call 19; refine (carcanetlaw09_small.calls ks kd T ct tops B cp paths kd t r _ (Kd.C_alloc (Kd.C_below HT.out HB3.out) _) hct (Kd.C_alloc (Kd.C_below HP.out HB3.out) _) hcp HSM.out).mono ?_; rintro e w4 ⟨v4, v5, rfl, h4, h5, hb⟩; obtain ⟨A4, c4, e⟩ := Kd.R_slice h4; subst e; obtain ⟨B4, d4, e⟩ := Kd.S_slice h5; subst e; have hs4 : w3.heap.size + 1 ≤ w4.heap.size := (by have := hb.size; rw [World.size_alloc] at this; exact this); have hbb := below_then (below_alloc (Below.refl w3.heap.size w3) (.cells #[.int .i64 N, .slice A3 E'.length c3] 31)) (by rw [World.size_alloc]; try omega) hb; have hc4 := (Kd.R_reads' h4).2.1; have hd4 := (Kd.S_reads' h5).2.1; have HT4 := Aside0.mk (And.intro (Kd.R_reads' h4).2.2 (Kd.S_reads' h5).2.2); have HE4 := Aside0.mk (And.intro (Kd.C_below HE3.out.1 hbb) (Kd.C_below HE3.out.2 hbb)); have HH4 := Aside0.mk (blk_alloc ((hb.block w3.heap.size (by rw [World.size_alloc]; try omega)).trans (heap_alloc_new w3 (.cells #[.int .i64 N, .slice A3 E'.length c3] 31))) (.cells #[.int .i64 kd, .slice A4 t.length c4, .slice B4 r.length d4] 36)); have HG4 := Aside0.mk (blk_alloc ((hb.block w2.heap.size (by rw [World.size_alloc]; try omega)).trans (blk_alloc HG3.out _)) (.cells #[.int .i64 kd, .slice A4 t.length c4, .slice B4 r.length d4] 36)); have HB4 := Aside0.mk (HB3.out.trans (hbb.mono (by omega))); have hq := HG4.out; have g0 : (w4.alloc (.cells #[.int .i64 kd, .slice A4 t.length c4, .slice B4 r.length d4] 36)).cell? ⟨w2.heap.size, 0, none⟩ = some (.int .i64 N) := (blk_cell hq 0).trans rfl; have g1 : (w4.alloc (.cells #[.int .i64 kd, .slice A4 t.length c4, .slice B4 r.length d4] 36)).cell? ⟨w2.heap.size, 1, none⟩ = some (.slice A1 E.length c1) := (blk_cell hq 1).trans rfl; clear h4 h5 hb hbb hq) | (go_at_call 20; (with_reducible refine (HQ1.out _ _ _ _ _ _ (Kd.C_alloc HE4.out.1 _) hc1 (Kd.C_alloc HT4.out.1 _) hc4 (Kd.C_alloc HT4.out.2 _) hd4).mono ?_); rintro e w5 ⟨rfl, hb⟩; have hs5 := hb.size; rw [World.size_alloc] at hs5; have HS5 := Aside0.mk ((hb.block w4.heap.size (by rw [World.size_alloc]; try omega)).trans (heap_alloc_new w4 (.cells #[.int .i64 kd, .slice A4 t.length c4, .slice B4 r.length d4] 36))); have HH5 := Aside0.mk ((hb.block w3.heap.size (by rw [World.size_alloc]; try omega)).trans HH4.out); have hbb := below_then (below_alloc (Below.refl w4.heap.size w4) (.cells #[.int .i64 kd, .slice A4 t.length c4, .slice B4 r.length d4] 36)) (by rw [World.size_alloc]; try omega) hb; have HT5 := Aside0.mk (And.intro (Kd.C_below HE4.out.2 hbb) (And.intro (Kd.C_below HT4.out.1 hbb) (Kd.C_below HT4.out.2 hbb))); have hq := HS5.out; have hz := HH5.out; have s0 : w5.cell? ⟨w4.heap.size, 0, none⟩ = some (.int .i64 kd) := (blk_cell hq 0).trans rfl; have s1 : w5.cell? ⟨w4.heap.size, 1, none⟩ = some (.slice A4 t.length c4) := (blk_cell hq 1).trans rfl; have s2 : w5.cell? ⟨w4.heap.size, 2, none⟩ = some (.slice B4 r.length d4) := (blk_cell hq 2).trans rfl;have h0 : w5.cell? ⟨w3.heap.size, 0, none⟩ = some (.int .i64 N) := (blk_cell hz 0).trans rfl; have h1 : w5.cell? ⟨w3.heap.size, 1, none⟩ = some (.slice A3 E'.length c3) := (blk_cell hz 1).trans rfl; clear hbb hq hz; have HB5 := Aside0.mk ((HB4.out.alloc (by omega) _).trans (hb.mono (by rw [World.size_alloc]; try omega))); clear hb) | (go_at_call 20; (with_reducible refine (HQ2.out _ _ _ _ _ _ _ HT5.out.1 hc3 HT5.out.2.1 hc4 HT5.out.2.2 hd4).mono ?_); rintro e w6 ⟨rfl, hb⟩; have HB6 := Aside0.mk (HB5.out.trans (hb.mono HB5.out.size)); clear hb))
      go_ret
      exact ⟨rfl, HB6.out⟩
end Go.Proofs.Ytkemhnfaheplhaa.F
namespace Go.Proofs.Ytkemhnfaheplhaa.F
open Go.RowKit Go.ChangeShapes Go.WideShapes Go.Deep Go.Proofs.YtkemhnfaheplhaaW.PrintWords Go.Proofs.YtkemhnfaheplhaaW.PrintLast Go.Proofs.YtkemhnfaheplhaaW.PrintMore
set_option linter.unusedVariables false
set_option linter.unusedSimpArgs false
section
variable {H : Type} {enc : TypeId × Value → H} {w : World} {base : Nat} {held : Bool}
theorem opened_ints {P : Program} {t e : TypeId} (ht : P.underlying t = some (.slice e)) (he : P.underlying e = some (.int .i64)) (hc : P.cellsOf e = 1) {fuel : Nat} {v : Value} {y : DataW H × List MemPlace}
    (h : DataW.trod enc P w base (fun _ => true) held fuel t [v] = some y) : ∃ A c zs, v = .slice A zs.length c ∧ zs.length ≤ c ∧ Kd.C (Kd.int .i64) w A zs.length zs := by
  rcases open_ints ht he hc h with ⟨hcs, _⟩ | ⟨a, len, cap, zs, hcs, _, hl, hm, hz, _, hcell, _⟩
  · simp only [List.cons.injEq, and_true] at hcs
    subst hcs
    exact ⟨none, 0, [], rfl, Nat.le_refl _, Kd.C_nil _ _⟩
  · simp only [List.cons.injEq, and_true] at hcs
    subst hcs
    simp only [if_true] at hz
    have e1 : (zs.take len).length = len := by rw [List.length_take]; omega
    refine ⟨some a, cap, zs.take len, by rw [e1], by omega, ⟨rfl, by rw [e1]; unfold maxLen at hm; omega, fun hn => ⟨a, rfl, fun j p hj => ⟨[.int .i64 p], rfl, rfl, fun u x hu => ?_⟩⟩⟩⟩
    have hj' : j < (zs.take len).length := (List.getElem?_eq_some_iff.1 hj).1
    have hp : zs.getD j 0 = p := by
      rw [List.getElem?_take, if_pos (by omega)] at hj
      simp [List.getD_eq_getElem?_getD, hj]
    cases u with
    | zero =>
      have := hcell j (by omega)
      rw [hp] at this
      simp at hu
      subst hu
      simpa [Kd.int, Kd.scalar] using this
    | succ u => simp at hu
theorem K_C_ints {A : Option Addr} {L c : Nat} {Z : List Int} (hl : L ≤ c) (hm : c ≤ maxLen) (hz : Z.length = c) (hn : A = none → c = 0) (hA : ∀ a', A = some a' → ∀ i, i < c → w.cell? (a'.add i) = some (.int .i64 (Z.getD i 0))) :
    (Z.take L).length = L ∧ Kd.C (Kd.int .i64) w A L (Z.take L) := by
  have e1 : (Z.take L).length = L := by rw [List.length_take]; omega
  refine ⟨e1, e1, by unfold maxLen at hm; omega, fun hp => ?_⟩
  cases A with
  | none => have := hn rfl; omega
  | some a =>
    refine ⟨a, rfl, fun j p hj => ⟨[.int .i64 p], rfl, rfl, fun u x hu => ?_⟩⟩
    have hj' : j < (Z.take L).length := (List.getElem?_eq_some_iff.1 hj).1
    have hp : Z.getD j 0 = p := by
      rw [List.getElem?_take, if_pos (by omega)] at hj
      simp [List.getD_eq_getElem?_getD, hj]
    cases u with
    | zero =>
      have := hA a rfl j (by omega)
      rw [hp] at this
      simp at hu
      subst hu
      simpa [Kd.int, Kd.scalar] using this
    | succ u => simp at hu
theorem opened_rows {P : Program} {t e q : TypeId} (ht : P.underlying t = some (.slice e)) (he : P.underlying e = some (.slice q)) (hq : P.underlying q = some (.int .i64)) (ce : P.cellsOf e = 1) (cq : P.cellsOf q = 1) {fuel : Nat} {v : Value} {y : DataW H × List MemPlace}
    (h : DataW.trod enc P w base (fun _ => true) held fuel t [v] = some y) : ∃ A c zs, v = .slice A zs.length c ∧ zs.length ≤ c ∧ Kd.C (Kd.slice q (Kd.int .i64)) w A zs.length zs := by
  rcases open_int_rows ht he hq ce cq h with ⟨hcs, _⟩ | ⟨a, len, cap, A, L, C, Z, hcs, _, hl, hm, _, hr⟩
  · simp only [List.cons.injEq, and_true] at hcs
    subst hcs
    exact ⟨none, 0, [], rfl, Nat.le_refl _, Kd.C_nil _ _⟩
  · simp only [List.cons.injEq, and_true] at hcs
    subst hcs
    have e1 : ((List.range len).map fun r => (Z r).take (L r)).length = len := by simp
    refine ⟨some a, cap, (List.range len).map fun r => (Z r).take (L r), by rw [e1], by omega, ?_⟩
    rw [e1]
    refine ⟨e1, by unfold maxLen at hm; omega, fun hn => ⟨a, rfl, fun j p hj => ?_⟩⟩
    have hj' : j < len := by have := (List.getElem?_eq_some_iff.1 hj).1; omega
    have hp : (Z j).take (L j) = p := by simpa [hj'] using hj
    obtain ⟨h1, h2, h3, h4, _, h6, h7⟩ := hr j (by omega)
    obtain ⟨e2, hC⟩ := K_C_ints (w := w) h2 h3 h4 h6 (fun a' ha' => (h7 a' ha').2)
    rw [hp] at e2 hC
    refine ⟨[.slice (A j) (L j) (C j)], rfl, ⟨A j, C j, by rw [e2], by omega, by rw [e2]; exact hC⟩, fun u x hu => ?_⟩
    cases u with
    | zero =>
      simp at hu
      subst hu
      simpa [Kd.slice] using h1
    | succ u => simp at hu
theorem opened_edges {P : Program} {t e : TypeId} {f0 f1 : Field} (ht : P.underlying t = some (.slice e)) (he : P.underlying e = some (.struct #[f0, f1])) (ce : P.cellsOf e = 2) (o0 : f0.offset = 0) (o1 : f1.offset = 1)
    (h0 : P.underlying f0.type = some (.int .i64)) (h1 : P.underlying f1.type = some (.int .i64)) (c0 : P.cellsOf f0.type = 1) (c1 : P.cellsOf f1.type = 1) {fuel : Nat} {v : Value} {y : DataW H × List MemPlace}
    (h : DataW.trod enc P w base (fun _ => true) held fuel t [v] = some y) : ∃ (A : Option Addr) (c : Nat) (zs : List (Int × Int)), v = .slice A zs.length c ∧ zs.length ≤ c ∧ (zs.length ≤ 9223372036854775807 ∧ (0 < zs.length → ∃ ad, A = some ad ∧ ∀ j p, zs[j]? = some p → w.cell? (ad.add (j * 2)) = some (.int .i64 p.1) ∧ w.cell? (ad.add (j * 2 + 1)) = some (.int .i64 p.2))) := by
  rcases open_slice_pairs ht he ce o0 o1 c0 c1 h with ⟨hcs, _⟩ | ⟨a, len, cap, m, n, V0, V1, D0, D1, P0, P1, hcs, _, hl, hm, hmm, _, hr⟩
  · simp only [List.cons.injEq, and_true] at hcs
    subst hcs
    exact ⟨none, 0, [], rfl, Nat.le_refl _, by simp, fun h => absurd h (by simp)⟩
  · simp only [List.cons.injEq, and_true] at hcs
    subst hcs
    simp only [if_true] at hmm
    subst hmm
    have num : ∀ i, i < m → ∃ q : Int × Int, w.cell? (a.add (i * 2)) = some (.int .i64 q.1) ∧ w.cell? (a.add (i * 2 + 1)) = some (.int .i64 q.2) := fun i hi => by
      obtain ⟨g0, g1, g2, g3⟩ := hr i hi
      obtain ⟨n0, e0, _, _⟩ := DataW.trod_int h0 g2
      obtain ⟨n1, e1, _, _⟩ := DataW.trod_int h1 g3
      simp only [List.cons.injEq, and_true] at e0 e1
      exact ⟨(n0, n1), by rw [g0, e0], by rw [g1, e1]⟩
    obtain ⟨Q, hQ⟩ := choose_lt num
    have e1 : ((List.range len).map Q).length = len := by simp
    refine ⟨some a, m, (List.range len).map Q, by rw [e1], by omega, by unfold maxLen at hm; omega, fun hn => ⟨a, rfl, fun j p hj => ?_⟩⟩
    have hj' : j < len := by have := (List.getElem?_eq_some_iff.1 hj).1; omega
    have hp : Q j = p := by simpa [hj'] using hj
    rw [← hp]
    exact hQ j (by omega)
theorem opened_E {t : TypeId} {f0 f1 : Field} (ht : Try.prog.underlying t = some (.slice 69)) (he : Try.prog.underlying 69 = some (.struct #[f0, f1])) (ce : Try.prog.cellsOf 69 = 2) (o0 : f0.offset = 0) (o1 : f1.offset = 1)
    (h0 : Try.prog.underlying f0.type = some (.int .i64)) (h1 : Try.prog.underlying f1.type = some (.int .i64)) (c0 : Try.prog.cellsOf f0.type = 1) (c1 : Try.prog.cellsOf f1.type = 1) {fuel : Nat} {v : Value} {y : DataW H × List MemPlace}
    (h : DataW.trod enc Try.prog w base (fun _ => true) held fuel t [v] = some y) : ∃ (A : Option Addr) (c : Nat) (zs : List S69), v = .slice A zs.length c ∧ zs.length ≤ c ∧ Kd.C k69 w A zs.length zs := by
  obtain ⟨A, c, zs, e1, e2, e3, e4⟩ := opened_edges ht he ce o0 o1 h0 h1 c0 c1 h
  have el : (zs.map fun p => (⟨p.1, p.2⟩ : S69)).length = zs.length := by simp
  refine ⟨A, c, zs.map fun p => ⟨p.1, p.2⟩, by rw [el]; exact e1, by omega, ?_⟩
  rw [el]
  refine ⟨el, e3, fun hn => ?_⟩
  obtain ⟨ad, ha, hc⟩ := e4 hn
  refine ⟨ad, ha, fun j p hj => ⟨[.int .i64 p.f0, .int .i64 p.f1], rfl, k69_mk w p, fun u x hu => ?_⟩⟩
  rw [List.getElem?_map] at hj
  cases hz : zs[j]? with
  | none => rw [hz] at hj; simp at hj
  | some q =>
    rw [hz] at hj
    simp at hj
    subst hj
    obtain ⟨g0, g1⟩ := hc j q hz
    match u, hu with
    | 0, hu => simp at hu; subst hu; exact g0
    | 1, hu => simp at hu; subst hu; exact g1
    | u + 2, hu => simp at hu
theorem trod_array2 {P : Program} {spare : Nat → Bool} {t e : TypeId} {fuel : Nat} {c0 c1 : Value} {x : DataW H × List MemPlace} (ht : P.underlying t = some (.array 2 e)) (hce : P.cellsOf e = 1)
    (h : DataW.trod enc P w base spare held fuel t [c0, c1] = some x) :
    ∃ y0 y1 n, x = (.agg [y0.1, y1.1], y0.2 ++ y1.2) ∧ DataW.trod enc P w base spare held n e [c0] = some y0 ∧ DataW.trod enc P w base spare held n e [c1] = some y1 := by
  cases fuel with
  | zero => simp [DataW.trod] at h
  | succ n =>
    unfold DataW.trod at h
    rw [ht] at h
    have r2 : List.range 2 = [0, 1] := rfl
    simp [r2, hce] at h
    obtain ⟨_, h⟩ := h
    cases h0 : DataW.trod enc P w base spare held n e [c0] with
    | none => simp [h0] at h
    | some y0 =>
      cases h1 : DataW.trod enc P w base spare held n e [c1] with
      | none => simp [h0, h1] at h
      | some y1 =>
        simp [h0, h1] at h
        exact ⟨y0, y1, n, h.symm, h0, h1⟩
theorem okWide_arr2 {P : Program} {r : Reach} {b0 : Nat} {t e : TypeId} {v : Value} (ht : P.underlying t = some (.array 2 e)) (hc : P.cellsOf t = 2) (hv : Value.okWide P w r b0 t v) : ∃ c0 c1, v = .agg #[c0, c1] := by
  unfold Value.okWide at hv
  rw [ht] at hv
  obtain ⟨cs, rfl, hsz, _⟩ := hv
  rw [hc] at hsz
  obtain ⟨c0, c1, rfl⟩ := Go.Joins.array2 hsz
  exact ⟨c0, c1, rfl⟩
theorem opened_pair {P : Program} {r : Reach} {b0 : Nat} {spare : Nat → Bool} {t e : TypeId} {v : Value} {d : DataW H} {p : List MemPlace} (ht : P.underlying t = some (.array 2 e)) (he : P.underlying e = some (.int .i64)) (hc : P.cellsOf t = 2) (hce : P.cellsOf e = 1) (hv : Value.okWide P w r b0 t v) (h : DataW.Trod enc P w base spare held t v d p) : ∃ x y : Int, v = .agg #[.int .i64 x, .int .i64 y] := by
  obtain ⟨c0, c1, rfl⟩ := okWide_arr2 ht hc hv
  obtain ⟨fuel, hf⟩ := h
  obtain ⟨y0, y1, n, _, h0, h1⟩ := trod_array2 ht hce (by simpa [Value.cells] using hf)
  obtain ⟨m0, e0, _, _⟩ := DataW.trod_int he h0
  obtain ⟨m1, e1, _, _⟩ := DataW.trod_int he h1
  simp only [List.cons.injEq, and_true] at e0 e1
  exact ⟨m0, m1, by rw [e0, e1]⟩
set_option maxRecDepth 100000 in
theorem opened_net {r : Reach} {b0 : Nat} {v : Value} {d : DataW H} {p : List MemPlace} {t : TypeId} {f0 f1 g0 g1 : Field} (hs : Try.prog.underlying t = some (.struct #[f0, f1])) (hone : oneCellFields Try.prog #[f0, f1] = true) (hC : Try.prog.cellsOf t = 2) (h0 : Try.prog.underlying f0.type = some (.int .i64))
    (ht : Try.prog.underlying f1.type = some (.slice 69)) (he : Try.prog.underlying 69 = some (.struct #[g0, g1])) (ce : Try.prog.cellsOf 69 = 2) (o0 : g0.offset = 0) (o1 : g1.offset = 1)
    (k0 : Try.prog.underlying g0.type = some (.int .i64)) (k1 : Try.prog.underlying g1.type = some (.int .i64)) (c0 : Try.prog.cellsOf g0.type = 1) (c1 : Try.prog.cellsOf g1.type = 1)
    (hv : Value.okWide Try.prog w r b0 t v) (h : DataW.Trod enc Try.prog w base (fun _ => true) held t v d p) : ∃ (N : Int) (A : Option Addr) (c : Nat) (zs : List S69), v = .agg #[.int .i64 N, .slice A zs.length c] ∧ zs.length ≤ c ∧ Kd.C k69 w A zs.length zs := by
  obtain ⟨v0, v1, y0, y1, n, rfl, _, _, t0, t1⟩ := Go.Joins.open_agg2 hs hone hC hv h
  obtain ⟨m0, e0, _, _⟩ := DataW.trod_int h0 t0
  simp only [List.cons.injEq, and_true] at e0
  obtain ⟨A, c, zs, rfl, h1, h2⟩ := opened_E ht he ce o0 o1 k0 k1 c0 c1 t1
  exact ⟨m0, A, c, zs, by rw [e0], h1, h2⟩
set_option maxRecDepth 100000 in
theorem opened_sub {P : Program} {r : Reach} {b0 : Nat} {v : Value} {d : DataW H} {p : List MemPlace} {t e : TypeId} {f0 f1 f2 : Field} (hs : P.underlying t = some (.struct #[f0, f1, f2])) (hone : oneCellFields P #[f0, f1, f2] = true) (hC : P.cellsOf t = 3) (h0 : P.underlying f0.type = some (.int .i64))
    (h1 : P.underlying f1.type = some (.slice e)) (he : P.underlying e = some (.int .i64)) (ce : P.cellsOf e = 1) (h2 : P.underlying f2.type = some (.slice f1.type)) (c2 : P.cellsOf f1.type = 1)
    (hv : Value.okWide P w r b0 t v) (h : DataW.Trod enc P w base (fun _ => true) held t v d p) : ∃ (k : Int) (A : Option Addr) (c : Nat) (zs : List Int) (B : Option Addr) (c' : Nat) (ps : List (List Int)), v = .agg #[.int .i64 k, .slice A zs.length c, .slice B ps.length c'] ∧ zs.length ≤ c ∧ Kd.C (Kd.int .i64) w A zs.length zs ∧ ps.length ≤ c' ∧ Kd.C (Kd.slice e (Kd.int .i64)) w B ps.length ps := by
  obtain ⟨v0, v1, v2, y0, y1, y2, n, rfl, _, _, t0, t1, t2⟩ := Go.Joins.open_agg3 hs hone hC hv h
  obtain ⟨m0, e0, _, _⟩ := DataW.trod_int h0 t0
  simp only [List.cons.injEq, and_true] at e0
  obtain ⟨A, c, zs, rfl, g1, g2⟩ := opened_ints h1 he ce t1
  obtain ⟨B, c', ps, rfl, g3, g4⟩ := opened_rows h2 h1 he c2 ce t2
  exact ⟨m0, A, c, zs, B, c', ps, by rw [e0], g1, g2, g3, g4⟩
end
end Go.Proofs.Ytkemhnfaheplhaa.F
