/-
  topo.Check: whether a subdivision lies in a graph.
  slices.SortFunc at rows of numbers, by topo.Read's closure.
  topo.Read: a graph read as a subdivision.
  topo.Model: the model that a subdivision is.
  graph.Normal: each edge turned, sorted, once.
  topo.Edges: the edges of a subdivision, sorted, once.
  Sorting by setting each number in its place is sorting.
  Graphs as lists of edges: what a right list is, who is beside whom, and what Normal makes.
  What is shown of topo in any case: the values, in plain words.
  What is shown of topo in any case is true.
  Fcarcanetref03In: a function's answer, or words of the walks.
-/
import Derived.Lib.SliceRun
import Derived.Test.YtkemhnfaheplhaaTopoGrows3
import Derived.Test.YtkemhnfaheplhaaTopoGrows5
import Derived.Test.YtkemhnfaheplhaaTopoGrows1
namespace Go.Proofs.Ytkemhnfaheplhaa.F
open Go.RowKit Go.Proofs.YtkemhnfaheplhaaW.PrintWords Go.Proofs.YtkemhnfaheplhaaW.PrintLast Go.Proofs.YtkemhnfaheplhaaW.PrintMore Go.Proofs.Ytkemhnfaheplhaa.Mix
set_option linter.unusedVariables false
set_option linter.unusedSimpArgs false
def topsN (k : Int) : Int := if k = 1 then 4 else 2
theorem tops_calls (k : Int) (w : World) : Calls Try.prog 65 #[.int .i64 k] w fun e w' => e = .returned (.int .i64 (topsN k)) ∧ Drawn0 w w' :=
  topo_tops.calls k _ w (by simp only [topo_tops.f, topsN]; split <;> rfl)
def checkOne (N : Int) (E : List S69) (k : Int) (tops : List Int) (i : Nat) (p : List Int) : Bool :=
  isPathB N E p && decide (rd p 0 = rd tops ((pairsL k).getD i (0, 0)).1) && decide (rd p ((p.length : Int) - 1) = rd tops ((pairsL k).getD i (0, 0)).2) && decide (2 ≤ p.length) && !(decide (k = 2) && decide (p.length < 3))
def checkFrom (N : Int) (E : List S69) (k : Int) (tops : List Int) : Nat → List (List Int) → Bool
  | _, [] => true
  | i, p :: r => checkOne N E k tops i p && checkFrom N E k tops (i + 1) r
def topoB (N : Int) (E : List S69) (k : Int) (tops : List Int) (paths : List (List Int)) : Bool :=
  decide (0 < (pairsL k).length) && decide ((tops.length : Int) = topsN k) && decide (paths.length = (pairsL k).length) && checkFrom N E k tops 0 paths && apartB paths
theorem checkFrom_next (N : Int) (E : List S69) (k : Int) (tops : List Int) (l : List (List Int)) (i : Int) (h0 : 0 ≤ i) (hi : i < l.length) :
    checkFrom N E k tops i.toNat (l.drop i.toNat) = (checkOne N E k tops i.toNat (rd_L14 l i) && checkFrom N E k tops (i + 1).toNat (l.drop (i + 1).toNat)) := by
  have hi' : i.toNat < l.length := by omega
  rw [List.drop_eq_getElem_cons hi']
  have : rd_L14 l i = l[i.toNat] := by simp [rd_L14, List.getD_eq_getElem?_getD, hi']
  rw [this, show (i + 1).toNat = i.toNat + 1 by omega]
  rfl
theorem len_flat (l : List (List Int)) (i : Int) (h0 : 0 ≤ i) (hi : i < l.length) : (rd_L14 l i).length ≤ l.flatten.length := by
  have h := flat_le l (i + 1).toNat
  rw [flat_next l i h0 hi, List.length_append] at h
  have e : rd_L14 l i = l.getD i.toNat [] := rfl
  rw [e]
  omega
theorem pairs_range (k : Int) (i : Nat) (h : i < (pairsL k).length) : 0 ≤ ((pairsL k).getD i (0, 0)).1 ∧ ((pairsL k).getD i (0, 0)).1 < topsN k ∧ 0 ≤ ((pairsL k).getD i (0, 0)).2 ∧ ((pairsL k).getD i (0, 0)).2 < topsN k := by
  unfold pairsL topsN at *
  by_cases h1 : k = 1
  · rw [if_pos h1] at h ⊢
    rw [if_pos h1]
    have h6 : i < 6 := h
    rcases i with _ | _ | _ | _ | _ | _ | i <;> first | decide | omega
  · rw [if_neg h1] at h ⊢
    rw [if_neg h1]
    by_cases h2 : k = 2
    · rw [if_pos h2] at h ⊢
      have h3 : i < 3 := h
      rcases i with _ | _ | _ | i <;> first | decide | omega
    · rw [if_neg h2] at h
      simp at h
theorem isPath_pos {N : Int} {E : List S69} {p : List Int} (h : isPathB N E p = true) : 0 < p.length := by
  simp [isPathB] at h
  omega
set_option maxHeartbeats 4000000 in
set_option maxRecDepth 100000 in
theorem topoCheck_calls (N : Int) (A : Option Addr) (c : Nat) (E : List S69) (k : Int) (T : Option Addr) (ct : Nat) (tops : List Int) (B : Option Addr) (cp : Nat) (paths : List (List Int)) (w : World)
    (hr : Kd.C k69 w A E.length E) (hc : E.length ≤ c) (ht : Kd.C (Kd.int .i64) w T tops.length tops) (hct : tops.length ≤ ct) (hp : Kd.C (Kd.slice 3 (Kd.int .i64)) w B paths.length paths) (hcp : paths.length ≤ cp) (hf : paths.flatten.length ≤ 8000000) :
    Calls Try.prog 20 #[.agg #[.int .i64 N, .slice A E.length c], .agg #[.int .i64 k, .slice T tops.length ct, .slice B paths.length cp]] w fun e w' => e = .returned (.bool (topoB N E k tops paths)) ∧ Below w.heap.size w w' := by
  have hu31 := Try.underlying31
  have huS := Try.underlying36
  have q102 : ∀ (w : World) (a : Option Addr) (n c n' c' : Nat), (binOp .eql 102 (.slice a n c) (.slice none n' c')).run Try.prog w = .ok (.bool a.isNone) w := fun w a n c n' c' => Go.Lib.run_eql_slice_nil w _ _ a n c n' c' Try.underlying102
  have HE := Aside0.mk hr
  have HT := Aside0.mk ht
  have HP := Aside0.mk hp
  have hpl : (paths.length : Int) ≤ 9223372036854775807 := by have := hp.2.1; omega
  clear hr ht hp
  obtain ⟨res, hres⟩ : ∃ res, topoB N E k tops paths = res := ⟨_, rfl⟩
  rw [hres]
  have HRES := Aside0.mk hres
  clear hres
  obtain ⟨W1, hW1⟩ : ∃ W1, (w.alloc (.cells #[.int .i64 N, .slice A E.length c] 31)).alloc (.cells #[.int .i64 k, .slice T tops.length ct, .slice B paths.length cp] 36) = W1 := ⟨_, rfl⟩
  have HPR : Aside0 (Calls Try.prog 64 #[.int .i64 k] W1 fun e w' => ∃ v, e = .returned v ∧ PairsAt w' v k ∧ Below W1.heap.size W1 w') := ⟨pairs_calls k W1⟩
  have HW1 := Aside0.mk hW1
  clear hW1
  have hs1 : W1.heap.size = w.heap.size + 2 := by rw [← HW1.out]; simp
  have HBW : Aside0 (Below w.heap.size w W1) := ⟨by rw [← HW1.out]; exact below_alloc (below_alloc (Below.refl _ _) _) _⟩
  have HK0 : Aside0 (W1.heap[w.heap.size]? = some (.cells #[.int .i64 N, .slice A E.length c] 31 (0, 0))) := ⟨by rw [← HW1.out]; exact blk_alloc (heap_alloc_new w _) _⟩
  have HK1 : Aside0 (W1.heap[w.heap.size + 1]? = some (.cells #[.int .i64 k, .slice T tops.length ct, .slice B paths.length cp] 36 (0, 0))) := ⟨by
    rw [← HW1.out]; have := heap_alloc_new (w.alloc (.cells #[.int .i64 N, .slice A E.length c] 31)) (.cells #[.int .i64 k, .slice T tops.length ct, .slice B paths.length cp] 36); rwa [World.size_alloc] at this⟩
  go_enter Try.func20, Try.ntmps20
  go_wp2_with (go_at_call 64; rw [HW1.out]; refine HPR.out.mono ?_; rintro e w1 ⟨v, rfl, hv, hb⟩; have HV := Aside0.mk hv; have HB := Aside0.mk hb; clear hv hb)
  have hb0 := (HB.out.block _ (by omega)).trans HK0.out
  have hb1 := (HB.out.block _ (by omega)).trans HK1.out
  have HB0 := Aside0.mk hb0
  have HB1 := Aside0.mk hb1
  have g2 : w1.cell? ⟨w.heap.size + 1, 0, none⟩ = some (.int .i64 k) := (blk_cell hb1 0).trans rfl
  have g3 : w1.cell? ⟨w.heap.size + 1, 1, none⟩ = some (.slice T tops.length ct) := (blk_cell hb1 1).trans rfl
  have g4 : w1.cell? ⟨w.heap.size + 1, 2, none⟩ = some (.slice B paths.length cp) := (blk_cell hb1 2).trans rfl
  have z2 : ∀ x : BW w1, x.val.cell? ⟨w.heap.size + 1, 0, none⟩ = some (.int .i64 k) := fun x => bw_cell x g2
  have z3 : ∀ x : BW w1, x.val.cell? ⟨w.heap.size + 1, 1, none⟩ = some (.slice T tops.length ct) := fun x => bw_cell x g3
  have z4 : ∀ x : BW w1, x.val.cell? ⟨w.heap.size + 1, 2, none⟩ = some (.slice B paths.length cp) := fun x => bw_cell x g4
  have hsz : w.heap.size + 2 ≤ w1.heap.size := by have := HB.out.size; omega
  have HBA : Aside0 (Below w.heap.size w w1) := ⟨HBW.out.trans (HB.out.mono (by omega))⟩
  clear hb0 hb1 HPR HW1 HK0 HK1 HBW HB
  obtain ⟨tn, htn⟩ : ∃ tn, topsN k = tn := ⟨_, rfl⟩
  have HTC : Aside0 (∀ W, Calls Try.prog 65 #[.int .i64 k] W fun e w' => e = .returned (.int .i64 tn) ∧ Drawn0 W w') := ⟨fun W => by rw [← htn]; exact tops_calls k W⟩
  have HTN := Aside0.mk htn
  clear htn
  rcases HV.out with ⟨hnil, rfl⟩ | ⟨hnn, gp, cpp, rfl, hgp, hgc⟩
  · have HF : Aside0 (res = false) := ⟨by rw [← HRES.out, topoB, hnil]; rfl⟩
    go_wp2
    refine region_bw (by kernel_rfl) (by kernel_rfl) ?_
    repeat (go_big_quiet_step (exact calls_bw_drawn (HTC.out _)))
    refine wpQuiet_nil ?_
    rintro _ ⟨⟨w2, hb2⟩, rfl⟩
    go_wp2
    go_ret
    exact ⟨ret_bool HF.out.symm, below_then HBA.out HBA.out.size hb2⟩
  · have hne : 0 < (pairsL k).length := List.length_pos_iff.2 hnn
    obtain ⟨pl, hpl'⟩ : ∃ pl, (pairsL k).length = pl := ⟨_, rfl⟩
    rw [hpl'] at hne hgc
    have HPL := Aside0.mk hpl'
    rw [hpl']
    clear hpl'
    by_cases c1 : (tops.length : Int) = tn
    · by_cases c2 : paths.length = pl
      · subst c2
        have d1 : ((tops.length : Int) != tn) = false := bne_eq_false_iff_eq.mpr c1
        have d2 : ((paths.length : Int) != (paths.length : Int)) = false := bne_eq_false_iff_eq.mpr rfl
        go_wp2
        refine region_bw (by kernel_rfl) (by kernel_rfl) ?_
        repeat (go_big_quiet_step (exact calls_bw_drawn (HTC.out _)))
        refine wpQuiet_nil ?_
        rintro _ ⟨⟨w2, hb2⟩, rfl⟩
        have HB2 := Aside0.mk hb2
        have y2 := pw_cell_below hb2 g2
        have y3 := pw_cell_below hb2 g3
        have y4 := pw_cell_below hb2 g4
        clear hb2 g2 g3 g4 z2 z3 z4
        have HFR : Aside0 (checkFrom N E k tops 0 paths = checkFrom N E k tops 0 paths) := ⟨rfl⟩
        have HRES2 : Aside0 ((checkFrom N E k tops 0 paths && apartB paths) = res) := ⟨by rw [← HRES.out, topoB, HPL.out, decide_eq_true hne, decide_eq_true (by rw [HTN.out]; exact c1), decide_eq_true rfl]; simp⟩
        go_wp2
        go_loopw [35] (fun p wr => ∃ i : Int, 0 ≤ i ∧ i ≤ paths.length ∧ p = .int .i64 i ∧ Aside0 (checkFrom N E k tops 0 paths = checkFrom N E k tops i.toNat (paths.drop i.toNat)) ∧ Aside0 (Below w1.heap.size w1 wr))
          (fun p _ => paths.length - (intOf p).toNat)
        case atStart => exact ⟨0, by omega, by omega, rfl, ⟨rfl⟩, HB2⟩
        case round =>
          obtain ⟨i, hi0, hi, rfl, HFR, HBI⟩ := hrel
          clear y2 y3 y4
          have hbi := HBI.out
          have hq0 := (hbi.block _ (by omega)).trans HB0.out
          have hq1 := (hbi.block _ (by omega)).trans HB1.out
          have y0 : wr.cell? ⟨w.heap.size, 0, none⟩ = some (.int .i64 N) := (blk_cell hq0 0).trans rfl
          have y1 : wr.cell? ⟨w.heap.size, 1, none⟩ = some (.slice A E.length c) := (blk_cell hq0 1).trans rfl
          have y2 : wr.cell? ⟨w.heap.size + 1, 0, none⟩ = some (.int .i64 k) := (blk_cell hq1 0).trans rfl
          have y3 : wr.cell? ⟨w.heap.size + 1, 1, none⟩ = some (.slice T tops.length ct) := (blk_cell hq1 1).trans rfl
          have y4 : wr.cell? ⟨w.heap.size + 1, 2, none⟩ = some (.slice B paths.length cp) := (blk_cell hq1 2).trans rfl
          have hsi : w1.heap.size ≤ wr.heap.size := hbi.size
          have HBW := Aside0.mk (HBA.out.trans (hbi.mono (by omega)))
          clear hbi hq0 hq1
          by_cases hlt : i < paths.length
          · obtain ⟨adp, P0, cp0, e, x0, hcp0, hC0⟩ := at_L14 (Kd.C_below HP.out HBW.out) i hi0 hlt
            cases e
            have HC0 := Aside0.mk hC0
            have hpr := pairs_range k i.toNat (by rw [HPL.out]; omega)
            have hpc := hgc i.toNat (by omega)
            have hlf := len_flat paths i hi0 hlt
            have HN := Aside0.mk (checkFrom_next N E k tops paths i hi0 hlt)
            obtain ⟨p, hp⟩ : ∃ p, rd_L14 paths i = p := ⟨_, rfl⟩
            rw [hp] at x0 hcp0 HC0 HN hlf
            clear hp hC0
            obtain ⟨pa, hpa⟩ : ∃ a, ((pairsL k).getD i.toNat (0, 0)).1 = a := ⟨_, rfl⟩
            obtain ⟨pb, hpb⟩ : ∃ a, ((pairsL k).getD i.toNat (0, 0)).2 = a := ⟨_, rfl⟩
            rw [hpa, hpb, HTN.out, ← c1] at hpr
            rw [hpa, hpb] at hpc
            rw [checkOne, hpa, hpb] at HN
            obtain ⟨r0, r1, r2, r3⟩ := hpr
            have u0 : wr.cell? ⟨gp, i.toNat * 2, none⟩ = some (.int .i64 pa) := (HBI.out.cell (p := ⟨gp, i.toNat * 2, none⟩) hgp).trans hpc.1
            have u1 : wr.cell? ⟨gp, i.toNat * 2 + 1, none⟩ = some (.int .i64 pb) := (HBI.out.cell (p := ⟨gp, i.toNat * 2 + 1, none⟩) hgp).trans hpc.2
            have HPA := Aside0.mk (And.intro hpa hpb)
            clear hpa hpb hpc
            obtain ⟨adt, e, v0⟩ := Kd.at_int (Kd.C_below HT.out HBW.out) pa r0 r1
            cases e
            obtain ⟨_, e, v1⟩ := Kd.at_int (Kd.C_below HT.out HBW.out) pb r2 r3
            cases e
            obtain ⟨ta, hta⟩ : ∃ a, rd tops pa = a := ⟨_, rfl⟩
            obtain ⟨tb, htb⟩ : ∃ a, rd tops pb = a := ⟨_, rfl⟩
            rw [hta] at v0 HN
            rw [htb] at v1 HN
            clear hta htb
            have HIP : Aside0 (∀ n, Calls Try.prog 66 #[.agg #[.int .i64 N, .slice A E.length c], .slice P0 p.length cp0] (wr.drewN n) fun e w' => e = .returned (.bool (isPathB N E p)) ∧ Below wr.heap.size wr w') := ⟨fun n => (isPath_calls N A c E P0 cp0 p (wr.drewN n) (Kd.C_drewN (Kd.C_below HE.out HBW.out) n) hc (Kd.C_drewN HC0.out n) hcp0 (by omega)).mono fun e w' ⟨h1, h2⟩ => ⟨h1, (bwN wr n).trans h2⟩⟩
            have HPOS := Aside0.mk (fun h : isPathB N E p = true => isPath_pos h)
            obtain ⟨ip, hip⟩ : ∃ b, isPathB N E p = b := ⟨_, rfl⟩
            rw [hip] at HIP HN HPOS
            clear hip
            go_wp2
            go_quiet (fail)
            cases ip with
            | false =>
              have HF : Aside0 (res = false) := ⟨by rw [← HRES2.out, HFR.out, HN.out]; simp []⟩
              go_wp2_with (go_at_call 66; refine (HIP.out _).mono ?_; rintro e w3 ⟨rfl, hb3⟩; have HB3 := Aside0.mk hb3; clear hb3)
              go_ret
              exact ⟨ret_bool HF.out.symm, below_then HBW.out HBW.out.size HB3.out⟩
            | true =>
              have hpos := HPOS.out rfl
              obtain ⟨jl, hjl⟩ : ∃ j, (p.length : Int) - 1 = j := ⟨_, rfl⟩
              have hw1 : IntKind.i64.wrap ((p.length : Int) - 1) = jl := (IntWalk.i64_in _ (by omega)).trans hjl
              have j0 : 0 ≤ jl := by omega
              have j1 : jl < (p.length : Int) := by omega
              have hp0 : (0 : Int) < (p.length : Int) := by omega
              obtain ⟨ap, e, z0⟩ := Kd.at_int HC0.out 0 (by omega) hp0
              subst e
              obtain ⟨_, e, z1⟩ := Kd.at_int HC0.out jl j0 j1
              cases e
              have z0 : wr.cell? ap = some (.int .i64 (rd p 0)) := z0
              rw [hjl] at HN
              have HJL := Aside0.mk hjl
              obtain ⟨f0, hf0⟩ : ∃ a, rd p 0 = a := ⟨_, rfl⟩
              obtain ⟨f1, hf1⟩ : ∃ a, rd p jl = a := ⟨_, rfl⟩
              rw [hf0] at z0 HN
              rw [hf1] at z1 HN
              clear hf0 hf1 hjl
              by_cases e1 : f0 = ta
              · have b1 : (f0 != ta) = false := bne_eq_false_iff_eq.mpr e1
                by_cases e2 : f1 = tb
                · have b2 : (f1 != tb) = false := bne_eq_false_iff_eq.mpr e2
                  by_cases e3 : (p.length : Int) < 2
                  · have b3 : decide ((p.length : Int) < 2) = true := decide_eq_true e3
                    have HF : Aside0 (res = false) := ⟨by rw [← HRES2.out, HFR.out, HN.out]; simp [e1, e2, show ¬ 2 ≤ p.length by omega]⟩
                    go_wp2_with (go_at_call 66; refine (HIP.out _).mono ?_; rintro e w3 ⟨rfl, hb3⟩; have HB3 := Aside0.mk hb3; have q0 := pw_cell_below hb3 z0; have q1 := pw_cell_below hb3 z1; have q2 := pw_cell_below hb3 y2; clear hb3)
                    go_ret
                    exact ⟨ret_bool HF.out.symm, below_then HBW.out HBW.out.size HB3.out⟩
                  · have b3 : decide ((p.length : Int) < 2) = false := decide_eq_false e3
                    by_cases e4 : k = 2
                    · have b4 : (k == 2) = true := beq_iff_eq.mpr e4
                      have HE4 := Aside0.mk e4
                      clear e4
                      by_cases e5 : (p.length : Int) < 3
                      · have b5 : decide ((p.length : Int) < 3) = true := decide_eq_true e5
                        have HF : Aside0 (res = false) := ⟨by rw [← HRES2.out, HFR.out, HN.out]; simp [e1, e2, HE4.out, show 2 ≤ p.length by omega, show p.length < 3 by omega]⟩
                        go_wp2_with (go_at_call 66; refine (HIP.out _).mono ?_; rintro e w3 ⟨rfl, hb3⟩; have HB3 := Aside0.mk hb3; have q0 := pw_cell_below hb3 z0; have q1 := pw_cell_below hb3 z1; have q2 := pw_cell_below hb3 y2; clear hb3)
                        go_ret
                        exact ⟨ret_bool HF.out.symm, below_then HBW.out HBW.out.size HB3.out⟩
                      · have b5 : decide ((p.length : Int) < 3) = false := decide_eq_false e5
                        have HOK : Aside0 (checkFrom N E k tops i.toNat (paths.drop i.toNat) = checkFrom N E k tops (i + 1).toNat (paths.drop (i + 1).toNat)) := ⟨by rw [HN.out]; simp [e1, e2, HE4.out, show 2 ≤ p.length by omega, show ¬ p.length < 3 by omega]⟩
                        go_wp2_with (go_at_call 66; refine (HIP.out _).mono ?_; rintro e w3 ⟨rfl, hb3⟩; have HB3 := Aside0.mk hb3; have q0 := pw_cell_below hb3 z0; have q1 := pw_cell_below hb3 z1; have q2 := pw_cell_below hb3 y2; clear hb3)
                        go_roundw
                        case rel => exact ⟨i + 1, by omega, by omega, rfl, ⟨by rw [HFR.out, HOK.out]⟩, ⟨below_then HBI.out hsi HB3.out⟩⟩
                        case measure => simp [intOf]; omega
                    · have b4 : (k == 2) = false := beq_eq_false_iff_ne.mpr e4
                      have HOK : Aside0 (checkFrom N E k tops i.toNat (paths.drop i.toNat) = checkFrom N E k tops (i + 1).toNat (paths.drop (i + 1).toNat)) := ⟨by rw [HN.out]; simp [e1, e2, e4, show 2 ≤ p.length by omega]⟩
                      go_wp2_with (go_at_call 66; refine (HIP.out _).mono ?_; rintro e w3 ⟨rfl, hb3⟩; have HB3 := Aside0.mk hb3; have q0 := pw_cell_below hb3 z0; have q1 := pw_cell_below hb3 z1; have q2 := pw_cell_below hb3 y2; clear hb3)
                      go_roundw
                      case rel => exact ⟨i + 1, by omega, by omega, rfl, ⟨by rw [HFR.out, HOK.out]⟩, ⟨below_then HBI.out hsi HB3.out⟩⟩
                      case measure => simp [intOf]; omega
                · have b2 : (f1 != tb) = true := bne_iff_ne.mpr e2
                  have HF : Aside0 (res = false) := ⟨by rw [← HRES2.out, HFR.out, HN.out]; simp [e2]⟩
                  go_wp2_with (go_at_call 66; refine (HIP.out _).mono ?_; rintro e w3 ⟨rfl, hb3⟩; have HB3 := Aside0.mk hb3; have q0 := pw_cell_below hb3 z0; have q1 := pw_cell_below hb3 z1; have q2 := pw_cell_below hb3 y2; clear hb3)
                  go_ret
                  exact ⟨ret_bool HF.out.symm, below_then HBW.out HBW.out.size HB3.out⟩
              · have b1 : (f0 != ta) = true := bne_iff_ne.mpr e1
                have HF : Aside0 (res = false) := ⟨by rw [← HRES2.out, HFR.out, HN.out]; simp [e1]⟩
                go_wp2_with (go_at_call 66; refine (HIP.out _).mono ?_; rintro e w3 ⟨rfl, hb3⟩; have HB3 := Aside0.mk hb3; have q0 := pw_cell_below hb3 z0; have q1 := pw_cell_below hb3 z1; have q2 := pw_cell_below hb3 y2; clear hb3)
                go_ret
                exact ⟨ret_bool HF.out.symm, below_then HBW.out HBW.out.size HB3.out⟩
          · have HAP : Aside0 (Calls Try.prog 67 #[.slice B paths.length cp] wr fun e w' => e = .returned (.bool res) ∧ Below wr.heap.size wr w') := ⟨by
              have h := apart_calls B cp paths wr (Kd.C_below HP.out HBW.out) hcp hf
              have hr := HRES2.out
              rw [HFR.out, show i.toNat = paths.length by omega, List.drop_length] at hr
              rw [show apartB paths = res by rw [← hr]; simp [checkFrom]] at h
              exact h⟩
            go_wp2_with (go_at_call 67; refine HAP.out.mono ?_; rintro e w3 ⟨rfl, hb3⟩; have HB3 := Aside0.mk hb3; clear hb3)
            go_ret
            exact ⟨rfl, below_then HBW.out HBW.out.size HB3.out⟩
      · have d1 : ((tops.length : Int) != tn) = false := bne_eq_false_iff_eq.mpr c1
        have d2 : ((paths.length : Int) != (pl : Int)) = true := bne_iff_ne.mpr (by omega)
        have HF : Aside0 (res = false) := ⟨by rw [← HRES.out, topoB, HPL.out, decide_eq_false c2]; simp⟩
        go_wp2
        refine region_bw (by kernel_rfl) (by kernel_rfl) ?_
        repeat (go_big_quiet_step (exact calls_bw_drawn (HTC.out _)))
        refine wpQuiet_nil ?_
        rintro _ ⟨⟨w2, hb2⟩, rfl⟩
        go_wp2
        go_ret
        exact ⟨ret_bool HF.out.symm, below_then HBA.out HBA.out.size hb2⟩
    · have d1 : ((tops.length : Int) != tn) = true := bne_iff_ne.mpr c1
      have HF : Aside0 (res = false) := ⟨by rw [← HRES.out, topoB, HTN.out, decide_eq_false c1]; simp⟩
      go_wp2
      refine region_bw (by kernel_rfl) (by kernel_rfl) ?_
      repeat (go_big_quiet_step (exact calls_bw_drawn (HTC.out _)))
      refine wpQuiet_nil ?_
      rintro _ ⟨⟨w2, hb2⟩, rfl⟩
      go_wp2
      go_ret
      exact ⟨ret_bool HF.out.symm, below_then HBA.out HBA.out.size hb2⟩
end Go.Proofs.Ytkemhnfaheplhaa.F
namespace Go.Proofs.Ytkemhnfaheplhaa.F
open Go.RowKit Go.Proofs.YtkemhnfaheplhaaW.PrintWords Go.Proofs.YtkemhnfaheplhaaW.PrintLast Go.Proofs.YtkemhnfaheplhaaW.PrintMore Go.Proofs.Ytkemhnfaheplhaa.Mix
set_option linter.unusedVariables false
set_option linter.unusedSimpArgs false
def sortP (paths : List (List Int)) : List (List Int) := paths.mergeSort fun x y => !decide (cmpP y x < 0)
def noTie (paths : List (List Int)) : Bool := decide (paths.Pairwise fun x y => cmpP x y ≠ 0 ∧ cmpP y x ≠ 0)
def ltT (a b c a' b' c' : Int) : Prop := a < a' ∨ (a = a' ∧ (b < b' ∨ (b = b' ∧ c < c')))
theorem cmpP_lt (x y : List Int) : cmpP x y < 0 ↔ ltT (rd x 0) (rd x (x.length - 1)) (rd x 1) (rd y 0) (rd y (y.length - 1)) (rd y 1) := by
  unfold cmpP ltT
  generalize rd x 0 = a
  generalize rd x (x.length - 1) = b
  generalize rd x 1 = c
  generalize rd y 0 = a'
  generalize rd y (y.length - 1) = b'
  generalize rd y 1 = c'
  simp only [orL, cmpI]
  repeat' split
  all_goals simp
  all_goals omega
theorem cmpP_eq (x y : List Int) : cmpP x y = 0 ↔ rd x 0 = rd y 0 ∧ rd x (x.length - 1) = rd y (y.length - 1) ∧ rd x 1 = rd y 1 := by
  unfold cmpP
  generalize rd x 0 = a
  generalize rd x (x.length - 1) = b
  generalize rd x 1 = c
  generalize rd y 0 = a'
  generalize rd y (y.length - 1) = b'
  generalize rd y 1 = c'
  simp only [orL, cmpI]
  repeat' split
  all_goals simp
  all_goals omega
def cmpF (l : List (List Int)) (i j : Fin l.length) : Int := cmpP l[i.val] l[j.val]
theorem ltF (l : List (List Int)) (i j : Fin l.length) : Go.Proofs.ltOf (cmpF l) i j = true ↔ cmpP l[i.val] l[j.val] < 0 := by
  unfold Go.Proofs.ltOf cmpF
  rw [decide_eq_true_eq]
theorem swoF (l : List (List Int)) : Sort.SWO (Go.Proofs.ltOf (cmpF l)) where
  irrefl x := by
    rw [← Bool.not_eq_true, ltF, cmpP_lt]; unfold ltT; omega
  trans x y z h1 h2 := by
    rw [ltF, cmpP_lt] at *; unfold ltT at *; omega
  ntrans x y z h1 h2 := by
    rw [← Bool.not_eq_true, ltF, cmpP_lt] at *; unfold ltT at *; omega
theorem totF (l : List (List Int)) (hn : noTie l = true) (i j : Fin l.length) (h1 : Go.Proofs.ltOf (cmpF l) i j = false) (h2 : Go.Proofs.ltOf (cmpF l) j i = false) : i = j := by
  rw [← Bool.not_eq_true, ltF, cmpP_lt] at h1 h2
  have h0 : cmpP l[i.val] l[j.val] = 0 ∧ cmpP l[j.val] l[i.val] = 0 := by
    rw [cmpP_eq, cmpP_eq]; unfold ltT at h1 h2; omega
  have hp := of_decide_eq_true hn
  rw [List.pairwise_iff_getElem] at hp
  rcases Nat.lt_trichotomy i.val j.val with h | h | h
  · exact absurd h0.1 (hp i.val j.val i.isLt j.isLt h).1
  · exact Fin.ext h
  · exact absurd h0.2 (hp j.val i.val j.isLt i.isLt h).1
theorem sortP_len (l : List (List Int)) : (sortP l).length = l.length := List.length_mergeSort _
theorem sortP_fin (l : List (List Int)) : sortP l = ((List.finRange l.length).mergeSort fun x y => !(Go.Proofs.ltOf (cmpF l)) y x).map fun i => l[i.val] := by
  have e : (List.finRange l.length).map (fun i => l[i.val]) = l := by
    apply List.ext_getElem
    · simp
    · intro i h1 h2; simp
  have h := List.map_mergeSort (f := fun i : Fin l.length => l[i.val]) (l := List.finRange l.length) (r := fun x y => !(Go.Proofs.ltOf (cmpF l)) y x) (s := fun x y => !decide (cmpP y x < 0)) (fun i _ j _ => rfl)
  rw [e] at h
  exact h.symm
theorem idx_nodup {α : Type} [BEq α] [LawfulBEq α] (L : List α) (hn : L.Nodup) (j : Nat) (hj : j < L.length) : L.idxOf L[j] = j := by
  have h1 : L.idxOf L[j] < L.length := List.idxOf_lt_length_of_mem (List.getElem_mem hj)
  have h2 : L[L.idxOf L[j]] = L[j] := List.getElem_idxOf h1
  exact (List.getElem_inj hn).1 h2
set_option maxHeartbeats 1000000 in
set_option maxRecDepth 100000 in
theorem sortP_calls (v : Value) (l : List (List Int)) (base : Nat) (w : World) (hbw : base ≤ w.heap.size) (ho : Kd.S (Kd.slice 3 (Kd.int .i64)) 26 w base (fun _ => True) v l) (h2 : ∀ p ∈ l, 2 ≤ p.length) (hnt : noTie l = true) (hlen : l.length < 4611686018427387904) (hne : l = [] → v = .slice none 0 0) :
    Calls Try.prog 124 #[v, .func (.func 125) #[] #[]] w fun e w' => e = .returned (.tuple #[]) ∧ Kd.S (Kd.slice 3 (Kd.int .i64)) 26 w' base (fun _ => True) v (sortP l) ∧ Below base w w' := by
  have hent : ∀ args w, (callFunc 125 args).run Try.prog w = .ok (.enter 125 args) w := enters_of Try.func125 (by kernel_rfl) rfl
  have ho' := ho
  obtain ⟨f, hok, inner, hown, hreps⟩ := ho'
  rw [List.length_zipIdx] at hown
  rcases hown.2 with ⟨rfl, h0⟩ | ⟨b, cap, cur, rfl, hb, hg, hn, hm, hs, ht⟩
  · obtain rfl : l = [] := List.eq_nil_of_length_eq_zero h0
    refine (AnyF.slices_SortFunc_none Ytkemhnfaheplhaa.L.sortRo none 0 _ w).mono ?_
    rintro e w' ⟨rfl, rfl⟩
    exact ⟨rfl, by simpa [sortP] using ho, Below.refl _ _⟩
  · obtain ⟨hH, hlt⟩ := own_holds hown
    have hil : inner.length = l.length := by have := hreps.1; simpa [Kd.tag, Kd.slice] using this
    -- each element: a value, and the row that it leads to
    have each : ∀ j (hj : j < l.length), ∃ c : Nat, ∃ A : Option Addr, inner[j]? = some (.slice A (l[j]).length c) ∧ (l[j]).length ≤ c ∧ Kd.R (Kd.int .i64) 3 w base (fun k => (True ∧ some k ≠ some b) ∧ f k = j) (.slice A (l[j]).length c) l[j] := fun j hj => by
      have := hreps.2 j (l[j], j) (by rw [List.getElem?_zipIdx, List.getElem?_eq_getElem hj]; simp)
      obtain ⟨v', e1, hR⟩ := this
      obtain ⟨A, c, rfl⟩ := Kd.R_slice hR
      have e1' : (inner.drop j).take 1 = [.slice A (l[j]).length c] := by
        have e1 : (inner.drop (j * 1)).take 1 = [.slice A (l[j]).length c] := e1
        rwa [Nat.mul_one] at e1
      have e2 : inner[j]? = some (.slice A (l[j]).length c) := by
        have e3 := congrArg (fun L => L[0]?) e1'
        simpa [List.getElem?_take, List.getElem?_drop] using e3
      exact ⟨c, A, e2, (Kd.R_reads' hR).2.1, hR⟩
    have hbk : ∀ (m : Nat) (F : Array Value) (os : Array Obj), F.size = l.length → w.grownBy (Sort.grow (Sort.putRow id (Sort.ahead w m) b 0 F) os) (some b) := fun m F os hF => (put_own (m := m) (F := F) (os := os) hown (by rw [hF]; exact (Nat.mul_one _).symm)).2
    have hpos : 0 < l.length := by
      rcases Nat.eq_zero_or_pos l.length with hz | hz
      · have := hne (List.eq_nil_of_length_eq_zero hz)
        cases this
      · exact hz
    haveI : Inhabited (Fin l.length) := ⟨⟨0, hpos⟩⟩
    obtain ⟨enc, henc⟩ : ∃ enc : Fin l.length → Value, ∀ i, enc i = inner[i.val]'(by have := i.isLt; omega) := ⟨fun i => inner[i.val]'(by have := i.isLt; omega), fun _ => rfl⟩
    have hform : ∀ i : Fin l.length, ∃ A c, enc i = .slice A (l[i.val]).length c ∧ (l[i.val]).length ≤ c ∧ Kd.R (Kd.int .i64) 3 w base (fun k => (True ∧ some k ≠ some b) ∧ f k = i.val) (.slice A (l[i.val]).length c) l[i.val] := fun i => by
      obtain ⟨c, A, e1, e2, e3⟩ := each i.val i.isLt
      refine ⟨A, c, ?_, e2, e3⟩
      rw [henc i]
      have := i.isLt
      rw [List.getElem?_eq_getElem (by omega)] at e1
      exact Option.some.inj e1
    have hmap : ∀ L : List (Fin l.length), (L.toArray.map enc) = (L.map enc).toArray := fun L => by simp
    have hd : ((List.finRange l.length).map enc) = inner := by
      apply List.ext_getElem
      · simp [hil]
      · intro i h1 h2
        simp [henc]
    have hH' : Sort.Holds enc w b 0 (List.finRange l.length).toArray := holds_map (by rw [hmap, hd]; exact hH)
    have hgrow : ∀ (m : Nat) (dk : Array (Fin l.length)) (os : Array Obj), dk.size = l.length → w.grownBy (Go.Proofs.sortWorld enc w b 0 m dk os) (some b) := fun m dk os hdk => by
      unfold Go.Proofs.sortWorld
      rw [putRow_map]
      exact hbk m (dk.map enc) os (by simpa using hdk)
    have hcl : ∀ (m : Nat) (os : Array Obj) (dk : Array (Fin l.length)), dk.size = l.length → ∀ x y : Fin l.length, Calls Try.prog 125 #[enc x, enc y] (Go.Proofs.sortWorld enc w b 0 m dk os) fun e w' => e = .returned (.int .i64 (cmpF l x y)) ∧ Laid (Go.Proofs.sortWorld enc w b 0 m dk os) w' := fun m os dk hdk x y => by
      obtain ⟨A, c, e1, e2, e3⟩ := hform x
      obtain ⟨B, d, e4, e5, e6⟩ := hform y
      have hg2 := hgrow m dk os hdk
      have hx := (Kd.R_reads' (Kd.R_grown e3 hg2 (fun k hk => hk.1.2))).2.2
      have hy := (Kd.R_reads' (Kd.R_grown e6 hg2 (fun k hk => hk.1.2))).2.2
      rw [e1, e4]
      exact Read1_laid A B c d _ _ _ hx hy (h2 _ (List.getElem_mem _)) (h2 _ (List.getElem_mem _))
    have hone : OneCell enc := fun i => by obtain ⟨A, c, e, _⟩ := hform i; rw [e]; rfl
    have hcon := Any.slices_SortFunc_total Ytkemhnfaheplhaa.L.sortR enc hone (cmpF l) (swoF l) 125 #[] b 0 cap (List.finRange l.length).toArray w hent (fun m os dk hdk x y => (hcl m os dk (by simpa using hdk) x y).mono fun _ _ ⟨he, hl⟩ => ⟨he, hl.out⟩) hH' hlt (by simpa using hlen) (totF l hnt)
    have hsz : (List.finRange l.length).toArray.size = l.length := by simp
    rw [hsz] at hcon
    refine hcon.mono ?_
    · rintro e w' ⟨rfl, n, os, rfl⟩
      obtain ⟨L, hL⟩ : ∃ L, ((List.finRange l.length).mergeSort fun x y => !(Go.Proofs.ltOf (cmpF l)) y x) = L := ⟨_, rfl⟩
      have hperm : L.Perm (List.finRange l.length) := by rw [← hL]; exact List.mergeSort_perm _ _
      have hnd : L.Nodup := hperm.nodup_iff.2 (List.nodup_finRange _)
      have hLl : L.length = l.length := by rw [hperm.length_eq]; simp
      have hsp : sortP l = L.map fun i => l[i.val] := by rw [sortP_fin, hL]
      show _ ∧ Kd.S _ _ (Go.Proofs.sortWorld enc w b 0 n ((List.finRange l.length).mergeSort fun x y => !(Go.Proofs.ltOf (cmpF l)) y x).toArray os) _ _ _ _ ∧ Below base w (Go.Proofs.sortWorld enc w b 0 n ((List.finRange l.length).mergeSort fun x y => !(Go.Proofs.ltOf (cmpF l)) y x).toArray os)
      rw [hL]
      have hg2 := hgrow n L.toArray os (by simpa using hLl)
      have hq : (Go.Proofs.sortWorld enc w b 0 n L.toArray os).ownsRow base 26 1 (.slice (some ⟨b, 0, none⟩) l.length cap) l.length (L.map enc) := by
        have := (put_own (m := n) (F := L.toArray.map enc) (os := os) hown (by simpa [Kd.tag, Kd.slice] using hLl)).1
        unfold Go.Proofs.sortWorld
        rw [putRow_map]
        simpa [Kd.tag, Kd.slice] using this
      refine ⟨rfl, ?_, (Below.refl _ _).grown hg2 hbw (fun k e => by cases e; exact hb)⟩
      rw [hsp]
      refine ⟨fun k => if h : f k < l.length then L.idxOf ⟨f k, h⟩ else 0, fun k hk => trivial, L.map enc, ?_, ?_⟩
      · have e9 : ((L.map fun i => l[i.val]).zipIdx).length = l.length := by simp [hLl]
        rw [e9]
        have e10 : (Value.slice (some ⟨b, 0, none⟩) l.length cap) = .slice (some ⟨b, 0, none⟩) l.length cap := rfl
        exact hq
      · refine ⟨by simp [Kd.tag, Kd.slice], fun j p hj => ?_⟩
        have hjl : j < L.length := by have := (List.getElem?_eq_some_iff.1 hj).1; simpa using this
        have hp : p = (l[(L[j]).val], j) := by
          rw [List.getElem?_zipIdx, List.getElem?_map, List.getElem?_eq_getElem hjl] at hj
          simpa [eq_comm] using hj
        subst hp
        obtain ⟨A, c, e1, e2, e3⟩ := hform L[j]
        show ∃ v', _ = [v'] ∧ Kd.R _ _ _ _ _ v' l[(L[j]).val]
        refine ⟨enc L[j], ?_, ?_⟩
        · show ((L.map enc).drop (j * 1)).take 1 = _
          rw [Nat.mul_one, List.drop_eq_getElem_cons (by simpa using hjl)]
          simp
        · rw [e1]
          refine Kd.R_mono (Kd.R_grown e3 hg2 (fun k hk => hk.1.2)) (fun k hk => ⟨⟨trivial, fun e => hk.1.2 (by simpa [Value.ownBlock] using e)⟩, ?_⟩)
          show (if h : f k < l.length then L.idxOf ⟨f k, h⟩ else 0) = j
          have hfk : f k = (L[j]).val := hk.2
          rw [dif_pos (by rw [hfk]; exact (L[j]).isLt)]
          have : (⟨f k, by rw [hfk]; exact (L[j]).isLt⟩ : Fin l.length) = L[j] := Fin.ext hfk
          rw [this]
          exact idx_nodup L hnd j hjl
end Go.Proofs.Ytkemhnfaheplhaa.F
namespace Go.Proofs.Ytkemhnfaheplhaa.F
open Go.RowKit Go.Proofs.YtkemhnfaheplhaaW.PrintWords Go.Proofs.YtkemhnfaheplhaaW.PrintLast Go.Proofs.YtkemhnfaheplhaaW.PrintMore Go.Proofs.Ytkemhnfaheplhaa.Mix
set_option linter.unusedVariables false
set_option linter.unusedSimpArgs false
def nearAll (N : Int) (E : List S69) : List (List Int) := List.map (fun v : Nat => nearL (v : Int) E) (List.range N.toNat)
def topsFrom : Int → List (List Int) → Option (List Int)
  | _, [] => some []
  | v, l :: r => if l.length = 0 ∨ l.length = 2 then topsFrom (v + 1) r else if l.length = 3 then (topsFrom (v + 1) r).map (v :: ·) else none
def rdr (nr : List (List Int)) (x : Int) : List Int := nr.getD x.toNat []
def followR (nr : List (List Int)) : Nat → List Int → Int → Option (List Int × Int)
  | 0, _, _ => none
  | n + 1, p, x => if 0 ≤ x ∧ x < nr.length then
      (if (rdr nr x).length = 2 then followR nr n (p ++ [wrap64 (wrap64 (rd (rdr nr x) 0 + rd (rdr nr x) 1) - rd p ((p.length : Int) - 2))]) (wrap64 (wrap64 (rd (rdr nr x) 0 + rd (rdr nr x) 1) - rd p ((p.length : Int) - 2))) else some (p, x))
    else none
def pathsFor (nr : List (List Int)) (top : Int) : List Int → Option (List (List Int))
  | [] => some []
  | x :: r => match followR nr (nr.length + 1) [top, x] x, pathsFor nr top r with
    | some (p, y), some rest => some (if y ≤ top then rest else p :: rest)
    | _, _ => none
def pathsAll (nr : List (List Int)) : List Int → Option (List (List Int))
  | [] => some []
  | t :: r => match pathsFor nr t (rdr nr t), pathsAll nr r with
    | some a, some b => some (a ++ b)
    | _, _ => none
def usedOf (paths : List (List Int)) : Nat := (paths.map fun p => p.length - 1).sum
def readL (N : Int) (E : List S69) : Option (Int × List Int × List (List Int) × Bool) :=
  if rightB N E then
    match topsFrom 0 (nearAll N E) with
    | none => some (0, [], [], false)
    | some tops =>
      if tops.length = 4 ∨ tops.length = 2 then
        match pathsAll (nearAll N E) tops with
        | none => none
        | some paths =>
          if noTie paths then
            (if usedOf paths = E.length ∧ topoB N E (if tops.length = 4 then 1 else 2) tops (sortP paths) = true then some ((if tops.length = 4 then 1 else 2), tops, sortP paths, true) else some (0, [], [], false))
          else none
      else some (0, [], [], false)
  else some (0, [], [], false)
theorem right_N {N : Int} {l : List S69} (h : rightB N l = true) : 0 ≤ N ∧ N ≤ 1000 := by
  simp [rightB] at h
  omega
theorem nearAll_len (N : Int) (E : List S69) : (nearAll N E).length = N.toNat := by simp [nearAll]
theorem near_next (N : Int) (E : List S69) (i : Int) (h0 : 0 ≤ i) (hi : i < N) :
    ((nearAll N E).take i.toNat ++ List.replicate (N - i).toNat []).set i.toNat (nearL i E) = (nearAll N E).take (i + 1).toNat ++ List.replicate (N - (i + 1)).toNat [] := by
  have hl := nearAll_len N E
  have e1 : (nearAll N E)[i.toNat]'(by omega) = nearL i E := by simp [nearAll, show (i.toNat : Int) = i by omega]
  rw [show (i + 1).toNat = i.toNat + 1 by omega, List.take_succ_eq_append_getElem (by omega), e1, List.set_append_right _ _ (by rw [List.length_take]; omega), List.length_take, Nat.min_eq_left (by omega), Nat.sub_self,
    show (N - i).toNat = (N - (i + 1)).toNat + 1 by omega, List.replicate_succ, List.set_cons_zero, List.append_assoc]
  rfl
theorem topsFrom_next (nr : List (List Int)) (i : Int) (h0 : 0 ≤ i) (hi : i < nr.length) : topsFrom i (nr.drop i.toNat) = if (rd_L14 nr i).length = 0 ∨ (rd_L14 nr i).length = 2 then topsFrom (i + 1) (nr.drop (i + 1).toNat) else if (rd_L14 nr i).length = 3 then (topsFrom (i + 1) (nr.drop (i + 1).toNat)).map (i :: ·) else none := by
  have hi' : i.toNat < nr.length := by omega
  have : rd_L14 nr i = nr[i.toNat] := by simp [rd_L14, List.getD_eq_getElem?_getD, hi']
  rw [List.drop_eq_getElem_cons hi', this, show (i + 1).toNat = i.toNat + 1 by omega]
  rfl
theorem C_keptS {w : World} {base b : Nat} {A : Option Addr} {n c : Nat} {cells : Array Value} {xs : List (List Int)} (h : Kd.S (Kd.slice 3 (Kd.int .i64)) 26 w base (fun _ => True) (.slice A n c) xs) (hb : w.heap[b]? = some (.cells cells 36 (0, 0))) :
    ∀ W', Kept w W' (fun k => k = b) → n = xs.length ∧ n ≤ c ∧ Kd.C (Kd.slice 3 (Kd.int .i64)) W' A xs.length xs := fun W' hk =>
  Kd.S_reads' (Kd.S_step (Kd.S_types h hb (by decide)) (fun k ho hlt => hk.2 k hlt (fun e => ho.2 e)))
theorem below_grown {w w1 : World} (h : Below w.heap.size w w1) (row : Option Nat) : w.grownBy w1 row := ⟨h.os, h.tape, h.output, h.size, fun k hk _ => h.block k hk⟩
theorem pathsAll_step {nr paths PS : List (List Int)} {TS : List Int} {i : Int} (h : pathsAll nr TS = (pathsAll nr (TS.drop i.toNat)).map (PS ++ ·)) (hp : pathsAll nr TS = some paths) (h0 : 0 ≤ i) (hi : i < TS.length) :
    ∃ a, pathsFor nr (rd TS i) (rdr nr (rd TS i)) = some a ∧ pathsAll nr TS = (pathsAll nr (TS.drop (i + 1).toNat)).map ((PS ++ a) ++ ·) := by
  have hi' : i.toNat < TS.length := by omega
  have e : rd TS i = TS[i.toNat] := by simp [rd, List.getD_eq_getElem?_getD, hi']
  rw [h, List.drop_eq_getElem_cons hi', pathsAll, ← e] at hp
  rw [show (i + 1).toNat = i.toNat + 1 by omega, h, List.drop_eq_getElem_cons hi', pathsAll, ← e]
  cases h1 : pathsFor nr (rd TS i) (rdr nr (rd TS i)) with
  | none => rw [h1] at hp; simp at hp
  | some a =>
    cases h2 : pathsAll nr (TS.drop (i.toNat + 1)) with
    | none => rw [h1, h2] at hp; simp at hp
    | some b => exact ⟨a, rfl, by simp⟩
theorem pathsFor_step {nr a Q : List (List Int)} {top : Int} {l : List Int} {j : Int} (h : pathsFor nr top l = (pathsFor nr top (l.drop j.toNat)).map (Q ++ ·)) (hp : pathsFor nr top l = some a) (h0 : 0 ≤ j) (hj : j < l.length) :
    ∃ p y, followR nr (nr.length + 1) [top, rd l j] (rd l j) = some (p, y) ∧ pathsFor nr top l = (pathsFor nr top (l.drop (j + 1).toNat)).map ((if y ≤ top then Q else Q ++ [p]) ++ ·) := by
  have hj' : j.toNat < l.length := by omega
  have e : rd l j = l[j.toNat] := by simp [rd, List.getD_eq_getElem?_getD, hj']
  rw [h, List.drop_eq_getElem_cons hj', pathsFor, ← e] at hp
  rw [show (j + 1).toNat = j.toNat + 1 by omega, h, List.drop_eq_getElem_cons hj', pathsFor, ← e]
  cases h1 : followR nr (nr.length + 1) [top, rd l j] (rd l j) with
  | none => rw [h1] at hp; simp at hp
  | some r =>
    obtain ⟨p, y⟩ := r
    cases h2 : pathsFor nr top (l.drop (j.toNat + 1)) with
    | none => rw [h1, h2] at hp; simp at hp
    | some b =>
      refine ⟨p, y, rfl, ?_⟩
      by_cases hy : y ≤ top
      · simp [hy]
      · simp [hy]
theorem follow_len (nr : List (List Int)) : ∀ (m : Nat) (p : List Int) (x : Int) (p' : List Int) (y : Int), followR nr m p x = some (p', y) → p.length ≤ p'.length ∧ p'.length ≤ p.length + m
  | 0, _, _, _, _, h => by simp [followR] at h
  | m + 1, p, x, p', y, h => by
    rw [followR] at h
    split at h
    · split at h
      · have := follow_len nr m _ _ _ _ h
        simp at this
        omega
      · simp at h
        obtain ⟨h1, h2⟩ := h
        subst h1
        omega
    · simp at h
theorem rd_mem (TS : List Int) (i : Int) (h0 : 0 ≤ i) (hi : i < TS.length) : rd TS i ∈ TS := by
  have h1 : i.toNat < TS.length := by omega
  rw [rd, List.getD_eq_getElem?_getD, List.getElem?_eq_getElem h1]
  exact List.getElem_mem _
theorem usedOf_add (Q : List (List Int)) (p : List Int) : usedOf (Q ++ [p]) = usedOf Q + (p.length - 1) := by simp [usedOf]
theorem usedOf_le : ∀ (Q : List (List Int)) (B : Nat), (∀ p ∈ Q, p.length ≤ B) → usedOf Q ≤ Q.length * B
  | [], _, _ => by simp [usedOf]
  | p :: r, B, h => by
    have h1 := usedOf_le r B (fun q hq => h q (List.mem_cons_of_mem _ hq))
    have h2 := h p (List.mem_cons_self)
    have : usedOf (p :: r) = (p.length - 1) + usedOf r := by simp [usedOf]
    rw [this, List.length_cons, Nat.add_mul]
    omega
theorem tops_mem : ∀ (nr : List (List Int)) (v : Int) (TS : List Int), topsFrom v nr = some TS → ∀ t ∈ TS, v ≤ t ∧ t < v + nr.length ∧ (nr.getD (t - v).toNat []).length = 3
  | [], _, TS, h => by simp [topsFrom] at h; subst h; simp
  | l :: r, v, TS, h => by
    have key : ∀ TS', topsFrom (v + 1) r = some TS' → ∀ t ∈ TS', v ≤ t ∧ t < v + (l :: r).length ∧ ((l :: r).getD (t - v).toNat []).length = 3 := fun TS' h' t ht => by
      have := tops_mem r (v + 1) TS' h' t ht
      refine ⟨by omega, by simp; omega, ?_⟩
      rw [show (t - v).toNat = (t - (v + 1)).toNat + 1 by omega, List.getD_cons_succ]
      exact this.2.2
    rw [topsFrom] at h
    split at h
    · exact key TS h
    · split at h
      · rename_i h3
        cases h' : topsFrom (v + 1) r with
        | none => rw [h'] at h; simp at h
        | some TS' =>
          rw [h'] at h
          simp at h
          subst h
          intro t ht
          rcases List.mem_cons.1 ht with e | e
          · subst e
            exact ⟨by omega, by simp; omega, by rw [Int.sub_self]; exact h3⟩
          · exact key TS' h' t e
      · simp at h
theorem R_made2 {w : World} (base : Nat) (hb : base ≤ w.heap.size) (u v : Int) : Kd.R (Kd.int .i64) 3 (w.alloc (.cells #[.int .i64 u, .int .i64 v] 3)) base (fun k => k = w.heap.size) (.slice (some ⟨w.heap.size, 0, none⟩) 2 2) [u, v] :=
  Kd.R_of_own (xs := [u, v]) (own_made w base hb [u, v] (by simp [maxLen])) (fun k e => by simpa [Value.ownBlock] using e.symm)
theorem add_block (a : Addr) (m : Nat) : (a.add m).block = a.block := by unfold Addr.add; split <;> rfl
theorem wrap64_is (x : Int) : wrap64 x = IntKind.i64.wrap x := (i64_w x).symm
def sliceLen : Value → Nat
  | .slice _ n _ => n
  | _ => 0
set_option maxHeartbeats 4000000 in
set_option maxRecDepth 100000 in
theorem topoRead_calls (N : Int) (A : Option Addr) (c : Nat) (E : List S69) (w : World) (hr : Kd.C k69 w A E.length E) (hc : E.length ≤ c) (r1 : Int) (r2 : List Int) (r3 : List (List Int)) (r4 : Bool) (h : readL N E = some (r1, r2, r3, r4)) :
    Calls Try.prog 58 #[.agg #[.int .i64 N, .slice A E.length c]] w fun e w' => ∃ v1 v2 : Value, e = .returned (.tuple #[.agg #[.int .i64 r1, v1, v2], .bool r4]) ∧ Kd.R (Kd.int .i64) 3 w' w.heap.size (fun _ => True) v1 r2 ∧ Kd.S (Kd.slice 3 (Kd.int .i64)) 26 w' w.heap.size (fun k_ => some k_ ≠ v1.ownBlock) v2 r3 ∧ Below w.heap.size w w' := by
  have hu31 := Try.underlying31
  have huS := Try.underlying36
  have HE := Aside0.mk hr
  have HC := Aside0.mk hc
  have HRES := Aside0.mk h
  clear hr hc h
  obtain ⟨W1, hW1⟩ : ∃ W1, ((w.alloc (.cells #[.int .i64 N, .slice A E.length c] 31)).alloc (.cells #[.int .i64 0, .slice none 0 0, .slice none 0 0] 36)).alloc (.cells #[.int .i64 0, .slice none 0 0, .slice none 0 0] 36) = W1 := ⟨_, rfl⟩
  have HW1 := Aside0.mk hW1
  clear hW1
  have hs1 : W1.heap.size = w.heap.size + 3 := by rw [← HW1.out]; simp
  have HBW : Aside0 (Below w.heap.size w W1) := ⟨by rw [← HW1.out]; exact below_alloc (below_alloc (below_alloc (Below.refl _ _) _) _) _⟩
  have HK0 : Aside0 (W1.heap[w.heap.size]? = some (.cells #[.int .i64 N, .slice A E.length c] 31 (0, 0))) := ⟨by rw [← HW1.out]; exact blk_alloc (blk_alloc (heap_alloc_new w _) _) _⟩
  have HK1 : Aside0 (W1.heap[w.heap.size + 1]? = some (.cells #[.int .i64 0, .slice none 0 0, .slice none 0 0] 36 (0, 0))) := ⟨by
    rw [← HW1.out]; refine blk_alloc ?_ _
    have := heap_alloc_new (w.alloc (.cells #[.int .i64 N, .slice A E.length c] 31)) (.cells #[.int .i64 0, .slice none 0 0, .slice none 0 0] 36); rwa [World.size_alloc] at this⟩
  have HK2 : Aside0 (W1.heap[w.heap.size + 1 + 1]? = some (.cells #[.int .i64 0, .slice none 0 0, .slice none 0 0] 36 (0, 0))) := ⟨by
    rw [← HW1.out]
    have := heap_alloc_new ((w.alloc (.cells #[.int .i64 N, .slice A E.length c] 31)).alloc (.cells #[.int .i64 0, .slice none 0 0, .slice none 0 0] 36)) (.cells #[.int .i64 0, .slice none 0 0, .slice none 0 0] 36); rwa [World.size_alloc, World.size_alloc] at this⟩
  obtain ⟨q, hq⟩ : ∃ q, rightB N E = q := ⟨_, rfl⟩
  have HQ := Aside0.mk hq
  clear hq
  have HRI : Aside0 (Calls Try.prog 55 #[.agg #[.int .i64 N, .slice A E.length c]] W1 fun e w' => e = .returned (.bool q) ∧ Below W1.heap.size W1 w') := ⟨by rw [← HQ.out]; exact right_calls N A c E W1 (Kd.C_below HE.out HBW.out) HC.out⟩
  go_enter Try.func58, Try.ntmps58
  cases q with
  | false =>
    have hF : (r1, r2, r3, r4) = ((0 : Int), ([] : List Int), ([] : List (List Int)), false) := by
      have := HRES.out
      rw [readL, HQ.out, if_neg (by decide)] at this
      exact (Option.some.inj this).symm
    simp only [Prod.mk.injEq] at hF
    obtain ⟨rfl, rfl, rfl, rfl⟩ := hF
    go_wp2_with (go_at_call 55; rw [HW1.out]; refine HRI.out.mono ?_; rintro e w1 ⟨rfl, hb⟩; have hq1 := (hb.block _ (by omega)).trans HK1.out; have hq2 := (hb.block _ (by omega)).trans HK2.out; have HQ1 := Aside0.mk hq1; have HB := Aside0.mk hb; have y0 := (blk_cell hq1 0).trans rfl; have y1 := (blk_cell hq1 1).trans rfl; have y2 := (blk_cell hq1 2).trans rfl; have f0 := blk_frozen hq1 0; have f1 := blk_frozen hq1 1; have f2 := blk_frozen hq1 2; have u0 := (blk_cell hq2 0).trans rfl; have u1 := (blk_cell hq2 1).trans rfl; have u2 := (blk_cell hq2 2).trans rfl; clear hq1 hq2 hb)
    refine bodyPost_ret (v := .tuple #[.agg #[.int .i64 0, .slice none 0 0, .slice none 0 0], .bool false]) ?_ rfl ?_
    · have hbk3 := blk_put (blk_put (blk_put HQ1.out 0 (.int .i64 0) rfl) 1 (.slice none 0 0) rfl) 2 (.slice none 0 0) rfl
      have c0 := (blk_cell hbk3 0).trans rfl
      have c1 := (blk_cell hbk3 1).trans rfl
      have c2 := (blk_cell hbk3 2).trans rfl
      simp [results, Try.f58, go_sem, c0, c1, c2]
    · exact ⟨_, _, rfl, Kd.R_nil _ _ _ _ _, Kd.S_nil _ _ _ _ _, below_set (below_set (below_set (HBW.out.trans (HB.out.mono (by omega))) (by simp)) (by simp)) (by simp)⟩
  | true =>
    obtain ⟨hN0, hN1⟩ := right_N HQ.out
    go_wp2_with (first | (go_at_call 55; rw [HW1.out]; refine HRI.out.mono ?_; rintro e w1 ⟨rfl, hb⟩; have hq0 := (hb.block _ (by omega)).trans HK0.out; have hq1 := (hb.block _ (by omega)).trans HK1.out; have hq2 := (hb.block _ (by omega)).trans HK2.out; have HQ0 := Aside0.mk hq0; have HQ1 := Aside0.mk hq1; have HQ2 := Aside0.mk hq2; have HB := Aside0.mk (HBW.out.trans (hb.mono (by omega))); have hsz1 := hb.size; have x0 : w1.cell? ⟨w.heap.size, 0, none⟩ = some (.int .i64 N) := (blk_cell hq0 0).trans rfl; clear hq0 hq1 hq2 hb) | ((with_reducible refine gate_dst (N := 22) rfl ?_); refine Kd.S_make (Kd.slice 3 (Kd.int .i64)) (w0 := w1) w1.heap.size 26 rfl (N := 22) rfl 27 _ _ rfl N rfl rfl Try.underlying27 (.slice none 0 0) 24 info26 rfl (by decide) (by omega) [] (ok := fun _ => True) (okp := fun _ => True) ⟨_, rfl, Kd.R_nil _ _ _ _ _⟩ (fun _ hk => hk) trivial hN0 (by omega) (Below.refl _ _) (Nat.le_refl _) ?_; intro v5 w2 hs5 hb5 hg5 hn5; have HS5 := Aside0.mk hs5; have HB5 := Aside0.mk hb5; have hsz5 := hb5.size; obtain ⟨An, cn, hv5⟩ := Kd.S_slice hs5; subst hv5; clear hs5 hb5 hg5 hn5))
    go_loopw [25] (fun p wr => ∃ i : Int, 0 ≤ i ∧ i ≤ N ∧ p = .int .i64 i ∧ Aside0 (Kd.S (Kd.slice 3 (Kd.int .i64)) 26 wr w1.heap.size (fun _ => True) (.slice An N.toNat cn) ((nearAll N E).take i.toNat ++ List.replicate (N - i).toNat [])) ∧ Aside0 (Below w1.heap.size w1 wr))
      (fun p _ => N.toNat - (intOf p).toNat)
    case atStart =>
      refine ⟨0, by omega, by omega, rfl, ⟨?_⟩, HB5⟩
      have := HS5.out
      rw [List.length_replicate] at this
      simpa using this
    case round =>
      obtain ⟨i, hi0, hi, rfl, HO, HBi⟩ := hrel
      have hq0 := (HBi.out.block _ (by omega)).trans HQ0.out
      have x0 : wr.cell? ⟨w.heap.size, 0, none⟩ = some (.int .i64 N) := (blk_cell hq0 0).trans rfl
      have x1 : wr.cell? ⟨w.heap.size, 1, none⟩ = some (.slice A E.length c) := (blk_cell hq0 1).trans rfl
      clear hq0
      by_cases hlt : i < max N 0
      · obtain ⟨gn, cgn, hgv, hgb, hgl, _, _⟩ := Kd.S_form HO.out (by rw [List.length_append, List.length_take, List.length_replicate, nearAll_len]; omega)
        injection hgv with hg1 hg2 hg3
        subst hg1
        clear hg2 hg3
        obtain ⟨oki, va, hca, hfa, hRa, hoka, hcont⟩ := S_grow HO.out i hi0 (by omega)
        have HCT := Aside0.mk @hcont
        have HNX := Aside0.mk (near_next N E i hi0 (by omega))
        have HNE : Aside0 (Calls Try.prog 123 #[.agg #[.int .i64 N, .slice A E.length c], .int .i64 i] wr fun e w' => ∃ v0_ : Value, e = .returned v0_ ∧ Kd.R (Kd.int .i64) 3 w' wr.heap.size (fun _ => True) v0_ (nearL i E) ∧ Below wr.heap.size wr w') := ⟨by
          have h := near_calls N i A c E wr (Kd.C_below HE.out (HB.out.trans (HBi.out.mono (by omega)))) HC.out
          rw [HQ.out] at h
          simpa using h⟩
        clear hcont hRa
        go_wp2_with (go_at_call 123; refine HNE.out.mono ?_; rintro e w4 ⟨v0, rfl, hr4, hb4⟩; obtain ⟨A4, c4, hv4⟩ := Kd.R_slice hr4; subst hv4; obtain ⟨hc4, hf4, hS4, hg4⟩ := HCT.out (Kd.R_mono (Kd.R_lower (Kd.R_bound hr4) (by have := HBi.out.size; omega)) (fun k_ hk => .inr ⟨trivial, hk.2.1⟩)) (below_grown hb4 _); have HS4 := Aside0.mk hS4; have HB4 := Aside0.mk hb4; clear hr4 hb4 hS4 hg4)
        go_roundw
        case rel => exact ⟨i + 1, by omega, by omega, rfl, ⟨by rw [← HNX.out]; exact HS4.out⟩, ⟨below_set (below_then HBi.out HBi.out.size HB4.out) hgb⟩⟩
        case measure => simp [intOf]; omega
      · have HO' : Aside0 (Kd.S (Kd.slice 3 (Kd.int .i64)) 26 wr w1.heap.size (fun _ => True) (.slice An N.toNat cn) (nearAll N E)) := ⟨by
          have := HO.out
          rw [show i.toNat = N.toNat by omega, show (N - i).toNat = 0 by omega, List.take_of_length_le (by rw [nearAll_len]; exact Nat.le_refl _)] at this
          simpa using this⟩
        have hq2 := (HBi.out.block _ (by omega)).trans HQ2.out
        have HNR := Aside0.mk (C_keptS HO'.out hq2)
        have HANE := Aside0.mk (Kd.S_ne HO'.out hq2 (by decide))
        have HBo := Aside0.mk (HB.out.trans (HBi.out.mono (by omega)))
        have hszo : w1.heap.size ≤ wr.heap.size := HBi.out.size
        have HS2 := Aside0.mk hq2
        clear hq2
        obtain ⟨Wo, hWo⟩ : ∃ Wo, Wo = wr := ⟨_, rfl⟩
        subst hWo
        have HWO : Aside0 (Kept Wo Wo (fun k => k = w.heap.size + 1 + 1)) := ⟨Kept.refl _ _⟩
        have hnl : (nearAll N E).length = N.toNat := nearAll_len N E
        go_wp2
        go_loopw [37] (fun p ws => ∃ (j : Int) (tv : Value) (TS : List Int), 0 ≤ j ∧ j ≤ N ∧ p = .int .i64 j ∧ Aside0 (ws.heap[w.heap.size + 1 + 1]? = some (.cells #[.int .i64 0, tv, .slice none 0 0] 36 (0, 0))) ∧ Aside0 (Kd.R (Kd.int .i64) 3 ws Wo.heap.size (fun _ => True) tv TS) ∧ Aside0 (Kept Wo ws (fun k => k = w.heap.size + 1 + 1)) ∧ Aside0 (Below w.heap.size w ws) ∧ Aside0 (topsFrom 0 (nearAll N E) = (topsFrom j ((nearAll N E).drop j.toNat)).map (TS ++ ·)) ∧ Aside0 (TS.length ≤ j))
          (fun p _ => N.toNat - (intOf p).toNat)
        case atStart => exact ⟨0, .slice none 0 0, [], by omega, by omega, rfl, HS2, ⟨Kd.R_nil _ _ _ _ _⟩, HWO, HBo, ⟨by simp⟩, ⟨by simp⟩⟩
        case round =>
          obtain ⟨j, tv, TS, hj0, hj, rfl, HMj, HOj, HKj, HBj, HGO, HTL⟩ := hrel
          have hm := HMj.out
          have m1 : wr.cell? ⟨w.heap.size + 1 + 1, 1, none⟩ = some tv := (blk_cell hm 1).trans rfl
          have m1f : wr.frozen? ⟨w.heap.size + 1 + 1, 1, none⟩ = false := blk_frozen hm 1
          have hmz : w.heap.size + 1 + 1 < wr.heap.size := (Array.getElem?_eq_some_iff.1 hm).1
          clear hm
          have hq1 := (HKj.out.2 (w.heap.size + 1) (by omega) (by omega)).trans ((HBi.out.block _ (by omega)).trans HQ1.out)
          have HQ1j := Aside0.mk hq1
          have f0 : wr.frozen? ⟨w.heap.size + 1, 0, none⟩ = false := blk_frozen hq1 0
          have f1 : wr.frozen? ⟨w.heap.size + 1, 1, none⟩ = false := blk_frozen hq1 1
          have f2 : wr.frozen? ⟨w.heap.size + 1, 2, none⟩ = false := blk_frozen hq1 2
          have y0 : wr.cell? ⟨w.heap.size + 1, 0, none⟩ = some (.int .i64 0) := (blk_cell hq1 0).trans rfl
          have y1 : wr.cell? ⟨w.heap.size + 1, 1, none⟩ = some (.slice none 0 0) := (blk_cell hq1 1).trans rfl
          have y2 : wr.cell? ⟨w.heap.size + 1, 2, none⟩ = some (.slice none 0 0) := (blk_cell hq1 2).trans rfl
          clear hq1
          by_cases hlt2 : j < max N 0
          · obtain ⟨hnn, hncn, hNC⟩ := HNR.out wr HKj.out
            obtain ⟨adn, L0, cl0, e, x0, hcl0, hCL0⟩ := at_L14 hNC j hj0 (by omega)
            cases e
            have HTN := Aside0.mk (topsFrom_next (nearAll N E) j hj0 (by omega))
            obtain ⟨l, hl⟩ : ∃ l, rd_L14 (nearAll N E) j = l := ⟨_, rfl⟩
            rw [hl] at x0 hcl0 HTN
            clear hl hNC hCL0 hnn
            by_cases c0 : l.length = 0
            · have HC0 := Aside0.mk c0
              clear c0
              have b0 : ((l.length : Int) == 0) = true := beq_iff_eq.mpr (by have := HC0.out; omega)
              have HOK : Aside0 (topsFrom 0 (nearAll N E) = (topsFrom (j + 1) ((nearAll N E).drop (j + 1).toNat)).map (TS ++ ·)) := ⟨by rw [HGO.out, HTN.out, if_pos (.inl HC0.out)]⟩
              go_wp2
              go_roundw
              case rel => exact ⟨j + 1, tv, TS, by omega, by omega, rfl, HMj, HOj, HKj, HBj, HOK, ⟨by have := HTL.out; omega⟩⟩
              case measure => simp [intOf]; omega
            by_cases c2 : l.length = 2
            · have HC2 := Aside0.mk c2
              clear c2
              have b0 : ((l.length : Int) == 0) = false := beq_eq_false_iff_ne.mpr (by have := HC2.out; omega)
              have b2 : ((l.length : Int) == 2) = true := beq_iff_eq.mpr (by have := HC2.out; omega)
              have HOK : Aside0 (topsFrom 0 (nearAll N E) = (topsFrom (j + 1) ((nearAll N E).drop (j + 1).toNat)).map (TS ++ ·)) := ⟨by rw [HGO.out, HTN.out, if_pos (.inr HC2.out)]⟩
              go_wp2
              go_roundw
              case rel => exact ⟨j + 1, tv, TS, by omega, by omega, rfl, HMj, HOj, HKj, HBj, HOK, ⟨by have := HTL.out; omega⟩⟩
              case measure => simp [intOf]; omega
            have b0 : ((l.length : Int) == 0) = false := beq_eq_false_iff_ne.mpr (by omega)
            have b2 : ((l.length : Int) == 2) = false := beq_eq_false_iff_ne.mpr (by omega)
            by_cases c3 : l.length = 3
            · have HC3 := Aside0.mk c3
              have b3 : ((l.length : Int) == 3) = true := beq_iff_eq.mpr (by have := HC3.out; omega)
              have HOK : Aside0 (topsFrom 0 (nearAll N E) = (topsFrom (j + 1) ((nearAll N E).drop (j + 1).toNat)).map ((TS ++ [j]) ++ ·)) := ⟨by
                rw [HGO.out, HTN.out, if_neg (by omega), if_pos HC3.out, Option.map_map]
                congr 1
                funext r
                simp⟩
              clear c0 c2 c3
              have hwo : w.heap.size + 1 + 1 < Wo.heap.size := by omega
              have hwr : Wo.heap.size ≤ wr.heap.size := HKj.out.1
              have htl := HTL.out
              go_wp2_with (at_builtin; refine Kd.R_append (Kd.int .i64) (w0 := wr) (W := wr) Wo.heap.size rfl (.tmp 51) (.tmp 53) 26 3 (.int .i64 0) 8 rfl Try.underlying26 info3 rfl (by decide) (by omega) tv TS j [.int .i64 j] (fun _ => True) (fun _ => False) rfl ?aX ?aP (fun _ hk => hk.elim) ?aF ?aO ?aB ?aS ?aL ?_; (case aX => rfl); (case aP => exact rfl); (case aF => exact fun _ _ => trivial); (case aO => exact HOj.out); (case aB => exact Below.refl _ _); (case aS => exact hwr); (case aL => omega); intro v1 w4 ho4 hb4 hg4 hat4; have hm4 := (hb4.block _ hwo).trans HMj.out; have HM4 := Aside0.mk hm4; have HO4 := Aside0.mk ho4; have HB4 := Aside0.mk hb4; have n1 : w4.cell? ⟨w.heap.size + 1 + 1, 1, none⟩ = some tv := (blk_cell hm4 1).trans rfl; have n1f : w4.frozen? ⟨w.heap.size + 1 + 1, 1, none⟩ = false := blk_frozen hm4 1; obtain ⟨A4, c4, hv4⟩ := Kd.R_slice ho4; subst hv4; clear ho4 hb4 hg4 hat4 hm4)
              go_roundw
              case rel =>
                have h5 := Kd.R_set HO4.out HM4.out (by decide) 1 (.slice A4 (TS ++ [j]).length c4)
                have e5 : (TS ++ [j]).length = TS.length + 1 := by simp
                rw [e5] at h5
                refine ⟨j + 1, .slice A4 (TS.length + 1) c4, TS ++ [j], by omega, by omega, rfl, ⟨blk_put HM4.out 1 _ rfl⟩, ⟨h5⟩, ⟨Kept.setCell ⟨Nat.le_trans HKj.out.1 HB4.out.size, fun k hk hne => (HB4.out.block k hk).trans (HKj.out.2 k hk hne)⟩ (.inl rfl) _⟩, ⟨below_set (HBj.out.trans (HB4.out.mono (by omega))) (by omega)⟩, HOK, ⟨by rw [e5]; omega⟩⟩
              case measure => simp [intOf]; omega
            · have b3 : ((l.length : Int) == 3) = false := beq_eq_false_iff_ne.mpr (by omega)
              have hF : (r1, r2, r3, r4) = ((0 : Int), ([] : List Int), ([] : List (List Int)), false) := by
                have h := HRES.out
                rw [readL, if_pos HQ.out, HGO.out, HTN.out, if_neg (by omega), if_neg c3] at h
                exact (Option.some.inj h).symm
              simp only [Prod.mk.injEq] at hF
              obtain ⟨rfl, rfl, rfl, rfl⟩ := hF
              go_wp2
              refine bodyPost_ret (v := .tuple #[.agg #[.int .i64 0, .slice none 0 0, .slice none 0 0], .bool false]) ?_ rfl ?_
              · have hbk3 := blk_put (blk_put (blk_put HQ1j.out 0 (.int .i64 0) rfl) 1 (.slice none 0 0) rfl) 2 (.slice none 0 0) rfl
                have c0 := (blk_cell hbk3 0).trans rfl
                have c1 := (blk_cell hbk3 1).trans rfl
                have c2 := (blk_cell hbk3 2).trans rfl
                simp [results, Try.f58, go_sem, c0, c1, c2]
              · exact ⟨_, _, rfl, Kd.R_nil _ _ _ _ _, Kd.S_nil _ _ _ _ _, below_set (below_set (below_set HBj.out (by simp)) (by simp)) (by simp)⟩
          · have HTS : Aside0 (topsFrom 0 (nearAll N E) = some TS) := ⟨by
              rw [HGO.out, List.drop_of_length_le (by rw [nearAll_len]; omega)]
              simp [topsFrom]⟩
            have HRES3 : Aside0 ((if TS.length = 4 ∨ TS.length = 2 then (match pathsAll (nearAll N E) TS with
                | none => none
                | some paths => if noTie paths then (if usedOf paths = E.length ∧ topoB N E (if TS.length = 4 then 1 else 2) TS (sortP paths) = true then some ((if TS.length = 4 then (1 : Int) else 2), TS, sortP paths, true) else some ((0 : Int), [], [], false)) else none) else some ((0 : Int), [], [], false)) = some (r1, r2, r3, r4)) := ⟨by
              have h := HRES.out
              rw [readL, if_pos HQ.out, HTS.out] at h
              exact h⟩
            obtain ⟨At, ct, htv⟩ := Kd.R_slice HOj.out
            subst htv
            by_cases c4 : TS.length = 4 ∨ TS.length = 2
            · obtain ⟨kd, hkd⟩ : ∃ kd : Int, (if TS.length = 4 then (1 : Int) else 2) = kd := ⟨_, rfl⟩
              obtain ⟨tl, htl⟩ : ∃ tl : Nat, TS.length = tl := ⟨_, rfl⟩
              have HC4 := Aside0.mk c4
              have m0 : wr.cell? ⟨w.heap.size + 1 + 1, 0, none⟩ = some (.int .i64 0) := (blk_cell HMj.out 0).trans rfl
              have m0f : wr.frozen? ⟨w.heap.size + 1 + 1, 0, none⟩ = false := blk_frozen HMj.out 0
              have hk : (((TS.length : Int) == 4) = true ∧ kd = 1) ∨ (((TS.length : Int) == 4) = false ∧ ((TS.length : Int) == 2) = true ∧ kd = 2) := by
                rw [← hkd]
                by_cases c5 : TS.length = 4
                · exact .inl ⟨beq_iff_eq.mpr (by omega), if_pos c5⟩
                · exact .inr ⟨beq_eq_false_iff_ne.mpr (by omega), beq_iff_eq.mpr (by omega), if_neg c5⟩
              have HKD := Aside0.mk hkd
              obtain ⟨W6, hW6⟩ : ∃ W6, wr.setCell ⟨w.heap.size + 1 + 1, 0, none⟩ (.int .i64 kd) = W6 := ⟨_, rfl⟩
              have HM6 : Aside0 (W6.heap[w.heap.size + 1 + 1]? = some (.cells #[.int .i64 kd, .slice At TS.length ct, .slice none 0 0] 36 (0, 0))) := ⟨by rw [← hW6]; exact blk_put HMj.out 0 _ rfl⟩
              have HO6 : Aside0 (Kd.R (Kd.int .i64) 3 W6 Wo.heap.size (fun _ => True) (.slice At TS.length ct) TS) := ⟨by rw [← hW6]; exact Kd.R_set HOj.out HMj.out (by decide) 0 _⟩
              have HK6 : Aside0 (Kept Wo W6 (fun k => k = w.heap.size + 1 + 1)) := ⟨by rw [← hW6]; exact Kept.setCell HKj.out (.inl rfl) _⟩
              have HB6 : Aside0 (Below w.heap.size w W6) := ⟨by rw [← hW6]; exact below_set HBj.out (by omega)⟩
              have HW6 := Aside0.mk hW6
              have y6 : W6.cell? ⟨w.heap.size + 1 + 1, 1, none⟩ = some (.slice At TS.length ct) := (blk_cell HM6.out 1).trans rfl
              clear c4 hkd htl hW6
              obtain ⟨paths, hpaths⟩ : ∃ P, pathsAll (nearAll N E) TS = some P := by
                have h := HRES3.out
                rw [if_pos HC4.out] at h
                cases hp : pathsAll (nearAll N E) TS with
                | none => rw [hp] at h; exact absurd h (by simp)
                | some P => exact ⟨P, rfl⟩
              have HPA := Aside0.mk hpaths
              have HNT : Aside0 (noTie paths = true) := ⟨by
                have h := HRES3.out
                rw [if_pos HC4.out, HPA.out] at h
                cases hn : noTie paths with
                | true => rfl
                | false => simp [hn] at h⟩
              have HRES4 : Aside0 ((if usedOf paths = E.length ∧ topoB N E kd TS (sortP paths) = true then some (kd, TS, sortP paths, true) else some ((0 : Int), [], [], false)) = some (r1, r2, r3, r4)) := ⟨by
                have h := HRES3.out
                rw [if_pos HC4.out, HPA.out] at h
                simp only [HNT.out, if_true, HKD.out] at h
                exact h⟩
              clear hpaths
              have hT4 : TS.length ≤ 4 := by have := HC4.out; omega
              have g6 : w.heap.size + 1 + 1 < W6.heap.size := (Array.getElem?_eq_some_iff.1 HM6.out).1
              rcases hk with ⟨b4, ek⟩ | ⟨b4, b2, ek⟩
              all_goals (
                have EK := Aside0.mk ek
                clear ek
                have HW6e : Aside0 (∀ q : Int, q = kd → wr.setCell ⟨w.heap.size + 1 + 1, 0, none⟩ (.int .i64 q) = W6) := ⟨by rintro q rfl; exact HW6.out⟩
                go_wp2
                rw [HW6e.out _ EK.out.symm]
                go_wp2
                go_loopw [70, 9] (fun p q ws => ∃ (i : Int) (PS : List (List Int)) (pv : Value), 0 ≤ i ∧ i ≤ TS.length ∧ p = .int .i64 i ∧ q = .int .i64 (usedOf PS : Nat) ∧ Aside0 (ws.heap[w.heap.size + 1 + 1]? = some (.cells #[.int .i64 kd, .slice At TS.length ct, pv] 36 (0, 0))) ∧ Aside0 (Kd.S (Kd.slice 3 (Kd.int .i64)) 26 ws W6.heap.size (fun _ => True) pv PS) ∧ Aside0 (Kept W6 ws (fun k => k = w.heap.size + 1 + 1)) ∧ Aside0 (Below w.heap.size w ws) ∧ Aside0 (pathsAll (nearAll N E) TS = (pathsAll (nearAll N E) (TS.drop i.toNat)).map (PS ++ ·)) ∧ Aside0 (PS.length ≤ 3 * i) ∧ Aside0 (∀ p ∈ PS, 2 ≤ p.length ∧ p.length ≤ N.toNat + 3) ∧ Aside0 (PS = [] → pv = .slice none 0 0))
                  (fun p _ _ => TS.length - (intOf p).toNat)
                case atStart => exact ⟨0, [], .slice none 0 0, by omega, by omega, rfl, rfl, HM6, ⟨Kd.S_nil _ _ _ _ _⟩, ⟨Kept.refl _ _⟩, HB6, ⟨by simp⟩, ⟨by simp⟩, ⟨by simp⟩, ⟨fun _ => rfl⟩⟩
                case round =>
                  obtain ⟨i, PS, pv, hi0, hi, rfl, rfl, HMi, HOi, HKi, HBi3, HPi, HLi, HXi, HNi⟩ := hrel
                  have hu4 : usedOf PS ≤ 12 * 1003 := by
                    have h1 := usedOf_le PS 1003 (fun p hp => by have := (HXi.out p hp).2; omega)
                    have h2 := HLi.out
                    have h3 : PS.length ≤ 12 := by omega
                    exact Nat.le_trans h1 (Nat.mul_le_mul_right _ h3)
                  by_cases hlt3 : i < TS.length
                  · have hCT : Kd.C (Kd.int .i64) wr At TS.length TS := (Kd.R_reads' (Kd.R_step (Kd.R_types HO6.out HM6.out (by decide)) (fun k ho hlt => HKi.out.2 k hlt ho.2))).2.2
                    obtain ⟨adt, e, xt⟩ := Kd.at_int hCT i hi0 (by omega)
                    subst e
                    obtain ⟨a, hpa, hpn⟩ := pathsAll_step HPi.out HPA.out hi0 (by omega)
                    have htm := tops_mem _ _ _ HTS.out (rd TS i) (rd_mem _ _ hi0 (by omega))
                    obtain ⟨top, htop⟩ : ∃ t, rd TS i = t := ⟨_, rfl⟩
                    rw [htop] at xt hpa htm
                    obtain ⟨t0, t1, t3⟩ := htm
                    have hKw : Kept Wo wr (fun k => k = w.heap.size + 1 + 1) := HK6.out.then_ HKi.out (fun k h => .inl h)
                    obtain ⟨hnn, hncn, hNC⟩ := HNR.out W6 HK6.out
                    obtain ⟨adn, L0, cl0, e, x06, hcl0, hCL0⟩ := at_L14 hNC top t0 (by omega)
                    subst e
                    have hadn : adn.block ≠ w.heap.size + 1 + 1 := fun e => HANE.out (by simp [Value.ownBlock, e])
                    obtain ⟨l, hl⟩ : ∃ l, rdr (nearAll N E) top = l := ⟨_, rfl⟩
                    have hl' : rd_L14 (nearAll N E) top = l := hl
                    have hl3 : l.length = 3 := by rw [← hl, rdr]; simpa using t3
                    rw [hl'] at x06 hcl0 hCL0
                    have x0 := Go.Proofs.YtkemhnfaheplhaaW.PrintWords.cell_kept x06 HKi.out (fun e => hadn ((add_block adn _).symm.trans e))
                    have HX06 := Aside0.mk x06
                    clear x06
                    rw [hl] at hpa
                    have HPA2 := Aside0.mk hpa
                    have HPN := Aside0.mk hpn
                    have HCL0 := Aside0.mk hCL0
                    have HL3 := Aside0.mk hl3
                    have HLL := Aside0.mk hl'
                    clear hpa hpn hCL0 hl hl' htop t3 hCT hNC hnn hl3
                    obtain ⟨Wi, hWi⟩ : ∃ Wi, Wi = wr := ⟨_, rfl⟩
                    subst hWi
                    go_wp2
                    go_step3
                    go_wp2
                    go_step3
                    go_wp2
                    go_loopw [79, 9] (fun p q ws => ∃ (j : Int) (Q : List (List Int)) (pv : Value), 0 ≤ j ∧ j ≤ 3 ∧ p = .int .i64 j ∧ q = .int .i64 (usedOf (PS ++ Q) : Nat) ∧ Aside0 (ws.heap[w.heap.size + 1 + 1]? = some (.cells #[.int .i64 kd, .slice (some adt) TS.length ct, pv] 36 (0, 0))) ∧ Aside0 (Kd.S (Kd.slice 3 (Kd.int .i64)) 26 ws W6.heap.size (fun _ => True) pv (PS ++ Q)) ∧ Aside0 (Kept W6 ws (fun k => k = w.heap.size + 1 + 1)) ∧ Aside0 (Below w.heap.size w ws) ∧ Aside0 (pathsFor (nearAll N E) top l = (pathsFor (nearAll N E) top (l.drop j.toNat)).map (Q ++ ·)) ∧ Aside0 (Q.length ≤ j) ∧ Aside0 (∀ p ∈ PS ++ Q, 2 ≤ p.length ∧ p.length ≤ N.toNat + 3) ∧ Aside0 (PS ++ Q = [] → pv = .slice none 0 0))
                      (fun p _ _ => 3 - (intOf p).toNat)
                    case atStart => exact ⟨0, [], pv, by omega, by omega, rfl, by simp, HMi, ⟨by simpa using HOi.out⟩, HKi, HBi3, ⟨by simp⟩, ⟨by simp⟩, ⟨by simpa using HXi.out⟩, ⟨by simpa using HNi.out⟩⟩
                    case round =>
                      obtain ⟨k, Q, pv, hk0, hk, rfl, rfl, HMk, HOk, HKk, HBk, HPk, HLk, HXk, HNk⟩ := hrel
                      have hu5 : usedOf (PS ++ Q) ≤ 15 * 1003 := by
                        have h1 := usedOf_le (PS ++ Q) 1003 (fun p hp => by have := (HXk.out p hp).2; omega)
                        have h2 := HLi.out
                        have h4 := HLk.out
                        have h3 : (PS ++ Q).length ≤ 15 := by rw [List.length_append]; omega
                        exact Nat.le_trans h1 (Nat.mul_le_mul_right _ h3)
                      by_cases hlt4 : k < 3
                      · have hKw : Kept Wo wr (fun k => k = w.heap.size + 1 + 1) := HK6.out.then_ HKk.out (fun k h => .inl h)
                        have HNC := Aside0.mk (HNR.out wr hKw).2.2
                        have hcl := Go.Proofs.YtkemhnfaheplhaaW.PrintWords.cell_kept HX06.out HKk.out (fun e => hadn ((add_block adn _).symm.trans e))
                        obtain ⟨adn', L0', cl0', e, x0', hcl0', hCL0'⟩ := at_L14 HNC.out top t0 (by omega)
                        injection e with e
                        subst e
                        rw [HLL.out] at x0' hCL0'
                        rw [hcl] at x0'
                        injection x0' with x0'
                        injection x0' with e1 e2 e3
                        subst e1
                        obtain ⟨adl, e, xl⟩ := Kd.at_int hCL0' k hk0 (by have := HL3.out; omega)
                        subst e
                        obtain ⟨pf, yf, hff, hfn⟩ := pathsFor_step HPk.out HPA2.out hk0 (by have := HL3.out; omega)
                        obtain ⟨x, hx⟩ : ∃ x, rd l k = x := ⟨_, rfl⟩
                        rw [hx] at xl hff
                        have HFF := Aside0.mk hff
                        have HFN := Aside0.mk hfn
                        have hfl := follow_len _ _ _ _ _ _ hff
                        clear hff hfn hx e2 e3 hcl
                        have hkl : k < (l.length : Int) := by have := HL3.out; omega
                        have b5 : decide (k < (l.length : Int)) = true := decide_eq_true hkl
                        obtain ⟨We, hWe⟩ : ∃ We, We = wr := ⟨_, rfl⟩
                        subst hWe
                        have HCK := Aside0.mk (And.intro HMk.out (And.intro hCL0' hcl0'))
                        go_wp2
                        go_loopw [13, 14] (fun xv pw ws => ∃ (y : Int) (p : List Int), xv = .int .i64 y ∧ 2 ≤ p.length ∧ p.length ≤ (nearAll N E).length + 2 ∧ Aside0 (followR (nearAll N E) ((nearAll N E).length + 3 - p.length) p y = some (pf, yf)) ∧ Aside0 (Kd.R (Kd.int .i64) 3 ws We.heap.size (fun _ => True) pw p) ∧ Aside0 (Below We.heap.size We ws)) (fun _ pw _ => (nearAll N E).length + 3 - sliceLen pw)
                        case atStart => exact ⟨x, [top, x], rfl, by simp, by simp, ⟨by rw [show (nearAll N E).length + 3 - [top, x].length = (nearAll N E).length + 1 by simp]; exact HFF.out⟩, ⟨Kd.R_mono (R_made2 We.heap.size (Nat.le_refl _) top x) (fun _ _ => trivial)⟩, ⟨below_alloc (Below.refl _ _) _⟩⟩
                        case round =>
                          obtain ⟨y, p, rfl, hp2, hp3, HFy, HPp, HBp⟩ := hrel
                          obtain ⟨Ap, cp, hpw⟩ := Kd.R_slice HPp.out
                          subst hpw
                          have hKw2 : Kept Wo wr (fun k => k = w.heap.size + 1 + 1) := hKw.below HBp.out
                          obtain ⟨m, hm⟩ : ∃ m, (nearAll N E).length + 3 - p.length = m + 1 := ⟨(nearAll N E).length + 2 - p.length, by omega⟩
                          have hfy := HFy.out
                          rw [hm, followR] at hfy
                          by_cases hyr : 0 ≤ y ∧ y < (nearAll N E).length
                          · rw [if_pos hyr] at hfy
                            obtain ⟨hy0, hy1⟩ := hyr
                            obtain ⟨adn2, L1, cl1, e, xy, hcl1, hCy⟩ := at_L14 (HNR.out wr hKw2).2.2 y hy0 hy1
                            injection e with e
                            subst e
                            obtain ⟨ly, hly⟩ : ∃ l, rdr (nearAll N E) y = l := ⟨_, rfl⟩
                            have hly' : rd_L14 (nearAll N E) y = ly := hly
                            rw [hly'] at xy hcl1 hCy
                            rw [hly] at hfy
                            have HLY := Aside0.mk hly
                            have hy2 : y < (N.toNat : Int) := by omega
                            clear hly hly'
                            by_cases c2 : ly.length = 2
                            · rw [if_pos c2] at hfy
                              obtain ⟨ady, e, xa⟩ := Kd.at_int hCy 0 (by omega) (by omega)
                              subst e
                              obtain ⟨_, e, xb⟩ := Kd.at_int hCy 1 (by omega) (by omega)
                              cases e
                              have hCp := (Kd.R_reads' HPp.out).2.2
                              obtain ⟨adp, e, xp⟩ := Kd.at_int hCp ((p.length : Int) - 2) (by omega) (by omega)
                              subst e
                              obtain ⟨na, hna⟩ : ∃ a, rd ly 0 = a := ⟨_, rfl⟩
                              obtain ⟨nb, hnb⟩ : ∃ a, rd ly 1 = a := ⟨_, rfl⟩
                              obtain ⟨nc, hnc⟩ : ∃ a, rd p ((p.length : Int) - 2) = a := ⟨_, rfl⟩
                              obtain ⟨s1, hs1'⟩ : ∃ a, wrap64 (na + nb) = a := ⟨_, rfl⟩
                              obtain ⟨s2, hs2'⟩ : ∃ a, wrap64 (s1 - nc) = a := ⟨_, rfl⟩
                              rw [hna, hnb, hnc, hs1', hs2'] at hfy
                              rw [hna] at xa
                              rw [hnb] at xb
                              rw [hnc] at xp
                              have HFY := Aside0.mk hfy
                              have HC2 := Aside0.mk c2
                              have HM := Aside0.mk hm
                              obtain ⟨jl, hjl⟩ : ∃ j, (p.length : Int) - 2 = j := ⟨_, rfl⟩
                              have hw1 : IntKind.i64.wrap ((p.length : Int) - 2) = jl := (IntWalk.i64_in _ (by omega)).trans hjl
                              have hw2 : IntKind.i64.wrap (na + nb) = s1 := (wrap64_is _).symm.trans hs1'
                              have hw3 : IntKind.i64.wrap (s1 - nc) = s2 := (wrap64_is _).symm.trans hs2'
                              have j0 : 0 ≤ jl := by omega
                              have j1 : jl < (p.length : Int) := by omega
                              rw [hjl] at xp
                              have b6 : ((ly.length : Int) == 2) = true := beq_iff_eq.mpr (by omega)
                              have l0 : (0 : Int) < (ly.length : Int) := by omega
                              have l1 : (1 : Int) < (ly.length : Int) := by omega
                              have xa' : wr.cell? ady = some (.int .i64 na) := xa
                              have xb' : wr.cell? ⟨ady.block, ady.off + 1, none⟩ = some (.int .i64 nb) := xb
                              clear hfy c2 hm hjl hs1' hs2' hna hnb hnc hCp
                              go_wp2
                              go_quiet (fail)
                              go_wp2_with (at_builtin; refine Kd.R_append (Kd.int .i64) (w0 := wr.drewN nq) (W := wr.drewN nq) We.heap.size rfl (.tmp 112) (.tmp 114) 26 3 (.int .i64 0) 8 rfl Try.underlying26 info3 rfl (by decide) (by omega) (.slice (some adp) p.length cp) p s2 [.int .i64 s2] (fun _ => True) (fun _ => False) rfl ?aX ?aP (fun _ hk => hk.elim) ?aF ?aO ?aB ?aS ?aL ?_; (case aX => rfl); (case aP => exact rfl); (case aF => exact fun _ _ => trivial); (case aO => exact Kd.R_drewN HPp.out _); (case aB => exact Below.refl _ _); (case aS => exact HBp.out.size); (case aL => omega); intro v1 w4 ho4 hb4 hg4 hat4; have HO4 := Aside0.mk ho4; have HB4 := Aside0.mk hb4; obtain ⟨A4, c4, hv4⟩ := Kd.R_slice ho4; subst hv4; clear ho4 hb4 hg4 hat4)
                              go_roundw
                              case rel =>
                                have e5 : (p ++ [s2]).length = p.length + 1 := by simp
                                have ho := HO4.out
                                rw [e5] at ho
                                refine ⟨s2, p ++ [s2], rfl, by omega, ?_, ⟨?_⟩, ⟨ho⟩, ⟨(pw_below_drewN HBp.out nq).trans HB4.out⟩⟩
                                · have := HFY.out
                                  have hm := HM.out
                                  cases m with
                                  | zero => simp [followR] at this
                                  | succ m => omega
                                · rw [e5, show (nearAll N E).length + 3 - (p.length + 1) = m by have := HM.out; omega]
                                  exact HFY.out
                              case measure => simp only [sliceLen]; have := HM.out; omega
                            · rw [if_neg c2] at hfy
                              simp at hfy
                              obtain ⟨e1, e2⟩ := hfy
                              subst e1 e2
                              have b6 : ((ly.length : Int) == 2) = false := beq_eq_false_iff_ne.mpr (by omega)
                              have HP2 := Aside0.mk hp2
                              clear c2 hm
                              have HMw := Aside0.mk ((HBp.out.block _ (show w.heap.size + 1 + 1 < We.heap.size by have := HKk.out.1; omega)).trans HMk.out)
                              have g8 : W6.heap.size ≤ We.heap.size := HKk.out.1
                              have g9 : We.heap.size ≤ wr.heap.size := HBp.out.size
                              have hpl : p.length ≤ N.toNat + 2 := by omega
                              by_cases c6 : y ≤ top
                              · have HFN2 : Aside0 (pathsFor (nearAll N E) top l = (pathsFor (nearAll N E) top (l.drop (k + 1).toNat)).map (Q ++ ·)) := ⟨by have := HFN.out; rwa [if_pos c6] at this⟩
                                go_wp2
                                go_roundw
                                case rel => exact ⟨k + 1, Q, pv, by omega, by omega, rfl, rfl, HMw, ⟨Kd.S_below HOk.out HBp.out⟩, ⟨HKk.out.below HBp.out⟩, ⟨below_then HBk.out HBk.out.size HBp.out⟩, HFN2, ⟨by have := HLk.out; omega⟩, HXk, HNk⟩
                                case measure => simp [intOf]; omega
                              · have HFN2 : Aside0 (pathsFor (nearAll N E) top l = (pathsFor (nearAll N E) top (l.drop (k + 1).toNat)).map ((Q ++ [p]) ++ ·)) := ⟨by have := HFN.out; rwa [if_neg c6] at this⟩
                                have n0 : wr.cell? ⟨w.heap.size + 1 + 1, 2, none⟩ = some pv := (blk_cell HMw.out 2).trans rfl
                                have hq15 : (PS ++ Q).length ≤ 15 := by
                                  have h2 := HLi.out
                                  have h4 := HLk.out
                                  rw [List.length_append]; omega
                                go_wp2_with (at_builtin; refine Kd.S_append (Kd.slice 3 (Kd.int .i64)) (w0 := wr) (W := wr) W6.heap.size rfl (.tmp 121) (.tmp 123) 27 26 (.slice none 0 0) 24 rfl Try.underlying27 info26 rfl (by decide) (by omega) pv (PS ++ Q) p [.slice Ap p.length cp] (fun _ => True) (fun k_ => some k_ = (Value.slice Ap p.length cp).ownBlock) rfl ?aX ?aP ?aK ?aF ?aO ?aB ?aS ?aL ?_; (case aX => rfl); (case aP => exact Kd.M_row (Kd.R_mono (Kd.R_tight rfl (Kd.R_lower HPp.out g8)) (fun _ h => h))); (case aK => exact fun k_ hk => ⟨trivial, fun h => by have h1 := Kd.S_lt HOk.out k_ h.symm; have h2 := Kd.R_base HPp.out k_ hk.symm; omega⟩); (case aF => exact fun _ _ => trivial); (case aO => exact Kd.S_mono (Kd.S_old HOk.out HBp.out) (fun k_ hk => ⟨trivial, fun h => by have h2 := Kd.R_base HPp.out k_ h.symm; omega⟩)); (case aB => exact Below.refl _ _); (case aS => omega); (case aL => omega); intro v1 w4 ho hb4 hg4 hat4; have HO4 := Aside0.mk ho; have HB4 := Aside0.mk hb4; have HG4 := Aside0.mk hg4; have hm4 := (hb4.block _ (by omega)).trans HMw.out; have HM4 := Aside0.mk hm4; have n1f : w4.frozen? ⟨w.heap.size + 1 + 1, 2, none⟩ = false := blk_frozen hm4 2; have n1 : w4.cell? ⟨w.heap.size + 1 + 1, 2, none⟩ = some pv := (blk_cell hm4 2).trans rfl; obtain ⟨A4, c4, hv4⟩ := Kd.S_slice ho; subst hv4; clear ho hb4 hg4 hat4 hm4)
                                go_roundw
                                case rel =>
                                  have e5 : (PS ++ Q ++ [p]).length = PS.length + (Q.length + 1) := by rw [List.length_append, List.length_append]; simp only [List.length_cons, List.length_nil]; omega
                                  have h5 := Kd.S_set HO4.out HM4.out (by decide) 2 (.slice A4 (PS.length + (Q.length + 1)) c4)
                                  rw [e5] at h5
                                  refine ⟨k + 1, Q ++ [p], .slice A4 (PS.length + (Q.length + 1)) c4, by omega, by omega, rfl, ?_, ⟨blk_put HM4.out 2 _ rfl⟩, ⟨by rw [← List.append_assoc]; exact h5⟩, ⟨Kept.setCell ((HKk.out.below HBp.out).then_ (S2 := fun q => W6.heap.size ≤ q) ⟨HB4.out.size, fun q hq hn => HB4.out.block q (by omega)⟩ (fun q hq => .inr hq)) (.inl rfl) _⟩, ⟨below_set (below_then HBk.out HBk.out.size (HBp.out) |>.trans (HB4.out.mono (by omega))) (by omega)⟩, HFN2, ⟨by have := HLk.out; simp; omega⟩, ⟨fun q hq => ?_⟩, ⟨fun h => by simp at h⟩⟩
                                  · rw [← List.append_assoc, usedOf_add]
                                    congr 1
                                    have := HP2.out
                                    omega
                                  · rw [← List.append_assoc, List.mem_append] at hq
                                    rcases hq with hq | hq
                                    · exact HXk.out q hq
                                    · obtain rfl : q = p := by simpa using hq
                                      have := HP2.out
                                      omega
                                case measure => simp [intOf]; omega
                          · rw [if_neg hyr] at hfy
                            simp at hfy
                      · have hk3 : k = 3 := by omega
                        have b5 : decide (k < (l.length : Int)) = false := decide_eq_false (by have := HL3.out; omega)
                        have hkl : (l.length : Int) ≤ k := by have := HL3.out; omega
                        have HQ : Aside0 (a = Q) := ⟨by
                          have h := HPk.out
                          rw [HPA2.out, List.drop_of_length_le (by rw [HL3.out]; omega)] at h
                          simpa [pathsFor] using h⟩
                        clear hk3
                        go_wp2
                        go_roundw
                        case rel => exact ⟨i + 1, PS ++ Q, pv, by omega, by omega, rfl, rfl, HMk, HOk, HKk, HBk, ⟨by rw [HPN.out, HQ.out]⟩, ⟨by have h1 := HLi.out; have h2 := HLk.out; rw [List.length_append]; omega⟩, HXk, HNk⟩
                        case measure => simp [intOf]; omega
                  · obtain ⟨Ap, cp, hpv⟩ := Kd.S_slice HOi.out
                    subst hpv
                    have HPP : Aside0 (paths = PS) := ⟨by
                      have h := HPi.out
                      rw [HPA.out, List.drop_of_length_le (by omega)] at h
                      simpa [pathsAll] using h⟩
                    have hk0 : ∀ q, q < w1.heap.size → q ≠ w.heap.size + 1 + 1 → wr.heap[q]? = w1.heap[q]? := fun q hq hne => (HKi.out.2 q (by have := HK6.out.1; omega) hne).trans ((HK6.out.2 q (by omega) hne).trans (HBi.out.block q hq))
                    have HQ0w := Aside0.mk ((hk0 (w.heap.size) (by omega) (by omega)).trans HQ0.out)
                    have HQ1w := Aside0.mk ((hk0 (w.heap.size + 1) (by omega) (by omega)).trans HQ1.out)
                    have n0 : wr.cell? ⟨w.heap.size + 1 + 1, 2, none⟩ = some (.slice Ap PS.length cp) := (blk_cell HMi.out 2).trans rfl
                    have hps : PS.length ≤ 12 := by have h1 := HLi.out; omega
                    have hW6r : W6.heap.size ≤ wr.heap.size := HKi.out.1
                    have HSC : Aside0 (Calls Try.prog 124 #[(.slice Ap PS.length cp), .func (.func 125) #[] #[]] wr fun e w' => e = .returned (.tuple #[]) ∧ Kd.S (Kd.slice 3 (Kd.int .i64)) 26 w' W6.heap.size (fun _ => True) (.slice Ap PS.length cp) (sortP PS) ∧ Below W6.heap.size wr w') := ⟨sortP_calls (.slice Ap PS.length cp) PS W6.heap.size wr hW6r HOi.out (fun p hp => (HXi.out p hp).1) (by rw [← HPP.out]; exact HNT.out) (by omega) HNi.out⟩
                    obtain ⟨Z, hZ⟩ : ∃ Z, sortP PS = Z := ⟨_, rfl⟩
                    rw [hZ] at HSC
                    have hzf : Z.flatten.length ≤ 8000000 := by
                      have h1 : Z.flatten.length ≤ Z.length * 1003 := by
                        have hz : ∀ p ∈ Z, p.length ≤ 1003 := fun p hp => by
                          rw [← hZ] at hp
                          have := (HXi.out p (List.mem_mergeSort.1 hp)).2
                          omega
                        clear hZ HSC
                        induction Z with
                        | nil => simp
                        | cons x Z ih =>
                          have h1 := ih (fun p hp => hz p (List.mem_cons_of_mem _ hp))
                          have h2 := hz x List.mem_cons_self
                          rw [List.flatten_cons, List.length_append, List.length_cons, Nat.add_mul]
                          omega
                      have h2 : Z.length = PS.length := by rw [← hZ]; exact sortP_len PS
                      rw [h2] at h1
                      exact Nat.le_trans h1 (Nat.le_trans (Nat.mul_le_mul_right _ hps) (by decide))
                    have HZF := Aside0.mk hzf
                    have HZ := Aside0.mk hZ
                    have HT6 := Aside0.mk (Kd.R_types HO6.out HM6.out (by decide))
                    have htl : (TS.length : Int) ≤ 4 := by omega
                    clear hZ hzf hk0
                    have HCC : Aside0 (∀ w5 : World, Kd.S (Kd.slice 3 (Kd.int .i64)) 26 w5 W6.heap.size (fun _ => True) (.slice Ap PS.length cp) Z → Below W6.heap.size wr w5 → Calls Try.prog 20 #[.agg #[.int .i64 N, .slice A E.length c], .agg #[.int .i64 kd, .slice At TS.length ct, (.slice Ap PS.length cp)]] w5 fun e w' => e = .returned (.bool (topoB N E kd TS Z)) ∧ Below w5.heap.size w5 w') := ⟨fun w5 hs5 hb5 => by
                      obtain ⟨h1, h2, h3⟩ := Kd.S_reads' hs5
                      have h4 := Kd.R_reads' (Kd.R_step HT6.out (fun k ho hlt => (hb5.block k hlt).trans (HKi.out.2 k hlt ho.2)))
                      have hz := topoCheck_calls N A c E kd At ct TS Ap cp Z w5 (Kd.C_below HE.out (HBi3.out.trans (hb5.mono (by omega)))) HC.out h4.2.2 h4.2.1 h3 (by omega) HZF.out
                      rw [← h1] at hz
                      exact hz⟩
                    obtain ⟨tb, htb⟩ : ∃ b, topoB N E kd TS Z = b := ⟨_, rfl⟩
                    rw [htb] at HCC
                    have HTB := Aside0.mk htb
                    clear htb
                    have HR5 : Aside0 ((if usedOf PS = E.length ∧ tb = true then some (kd, TS, Z, true) else some ((0 : Int), [], [], false)) = some (r1, r2, r3, r4)) := ⟨by have h := HRES4.out; rwa [HPP.out, HZ.out, HTB.out] at h⟩
                    by_cases c7 : usedOf PS = E.length
                    · have b7 : ((usedOf PS : Nat) != ((E.length : Nat) : Int)) = false := bne_eq_false_iff_eq.mpr (by omega)
                      cases tb with
                      | false =>
                      have hF : (r1, r2, r3, r4) = ((0 : Int), ([] : List Int), ([] : List (List Int)), false) := by
                        have h := HR5.out
                        rw [if_neg (by simp)] at h
                        exact (Option.some.inj h).symm
                      simp only [Prod.mk.injEq] at hF
                      obtain ⟨rfl, rfl, rfl, rfl⟩ := hF
                      go_wp2_with (first | (go_at_call 124; refine HSC.out.mono ?_; rintro e w5 ⟨rfl, hs5, hb5⟩; have HS5b := Aside0.mk hs5; have HB5b := Aside0.mk hb5; have hm5 := (hb5.block _ g6).trans HMi.out; have hq0 := (hb5.block w.heap.size (by omega)).trans HQ0w.out; have hq1 := (hb5.block (w.heap.size + 1) (by omega)).trans HQ1w.out; have HM5 := Aside0.mk hm5; have HQ05 := Aside0.mk hq0; have HQ15 := Aside0.mk hq1; have y0 : w5.cell? ⟨w.heap.size, 0, none⟩ = some (.int .i64 N) := (blk_cell hq0 0).trans rfl; have y1 : w5.cell? ⟨w.heap.size, 1, none⟩ = some (.slice A E.length c) := (blk_cell hq0 1).trans rfl; have y2 : w5.cell? ⟨w.heap.size + 1 + 1, 0, none⟩ = some (.int .i64 kd) := (blk_cell hm5 0).trans rfl; have y3 : w5.cell? ⟨w.heap.size + 1 + 1, 1, none⟩ = some (.slice At TS.length ct) := (blk_cell hm5 1).trans rfl; have y4 : w5.cell? ⟨w.heap.size + 1 + 1, 2, none⟩ = some (.slice Ap PS.length cp) := (blk_cell hm5 2).trans rfl;  have g5 := hb5.size; have HCC5 := Aside0.mk (HCC.out w5 hs5 hb5); clear hs5 hb5 hm5 hq0 hq1) | (go_at_call 20; refine HCC5.out.mono ?_; rintro e w6 ⟨rfl, hb6⟩; have HB6c := Aside0.mk hb6; have hq1 := (hb6.block (w.heap.size + 1) (by omega)).trans HQ15.out; have hm6 := (hb6.block (w.heap.size + 1 + 1) (by omega)).trans HM5.out; have HQ16 := Aside0.mk hq1; have HM6c := Aside0.mk hm6; have z2 : w6.cell? ⟨w.heap.size + 1 + 1, 0, none⟩ = some (.int .i64 kd) := (blk_cell hm6 0).trans rfl; have z3 : w6.cell? ⟨w.heap.size + 1 + 1, 1, none⟩ = some (.slice At TS.length ct) := (blk_cell hm6 1).trans rfl; have z4 : w6.cell? ⟨w.heap.size + 1 + 1, 2, none⟩ = some (.slice Ap PS.length cp) := (blk_cell hm6 2).trans rfl; have u0w6 : w6.cell? ⟨w.heap.size + 1, 0, none⟩ = some (.int .i64 0) := (blk_cell hq1 0).trans rfl; have f0w6 : w6.frozen? ⟨w.heap.size + 1, 0, none⟩ = false := blk_frozen hq1 0; have u1w6 : w6.cell? ⟨w.heap.size + 1, 1, none⟩ = some (.slice none 0 0) := (blk_cell hq1 1).trans rfl; have f1w6 : w6.frozen? ⟨w.heap.size + 1, 1, none⟩ = false := blk_frozen hq1 1; have u2w6 : w6.cell? ⟨w.heap.size + 1, 2, none⟩ = some (.slice none 0 0) := (blk_cell hq1 2).trans rfl; have f2w6 : w6.frozen? ⟨w.heap.size + 1, 2, none⟩ = false := blk_frozen hq1 2; have g7 := hb6.size; clear hb6 hq1 hm6))
                      refine bodyPost_ret (v := .tuple #[.agg #[.int .i64 0, .slice none 0 0, .slice none 0 0], .bool false]) ?_ rfl ?_
                      · have hbk3 := blk_put (blk_put (blk_put HQ16.out 0 (.int .i64 0) rfl) 1 (.slice none 0 0) rfl) 2 (.slice none 0 0) rfl
                        have c0 := (blk_cell hbk3 0).trans rfl
                        have c1 := (blk_cell hbk3 1).trans rfl
                        have c2 := (blk_cell hbk3 2).trans rfl
                        simp [results, Try.f58, go_sem, c0, c1, c2]
                      · exact ⟨_, _, rfl, Kd.R_nil _ _ _ _ _, Kd.S_nil _ _ _ _ _, below_set (below_set (below_set (below_then (HBi3.out.trans (HB5b.out.mono (by omega))) (by omega) HB6c.out) (by simp)) (by simp)) (by simp)⟩
                      | true =>
                      have hF : (kd, TS, Z, true) = (r1, r2, r3, r4) := by
                        have h := HR5.out
                        rw [if_pos ⟨c7, rfl⟩] at h
                        exact Option.some.inj h
                      simp only [Prod.mk.injEq] at hF
                      obtain ⟨rfl, rfl, rfl, rfl⟩ := hF
                      go_wp2_with (first | (go_at_call 124; refine HSC.out.mono ?_; rintro e w5 ⟨rfl, hs5, hb5⟩; have HS5b := Aside0.mk hs5; have HB5b := Aside0.mk hb5; have hm5 := (hb5.block _ g6).trans HMi.out; have hq0 := (hb5.block w.heap.size (by omega)).trans HQ0w.out; have hq1 := (hb5.block (w.heap.size + 1) (by omega)).trans HQ1w.out; have HM5 := Aside0.mk hm5; have HQ05 := Aside0.mk hq0; have HQ15 := Aside0.mk hq1; have y0 : w5.cell? ⟨w.heap.size, 0, none⟩ = some (.int .i64 N) := (blk_cell hq0 0).trans rfl; have y1 : w5.cell? ⟨w.heap.size, 1, none⟩ = some (.slice A E.length c) := (blk_cell hq0 1).trans rfl; have y2 : w5.cell? ⟨w.heap.size + 1 + 1, 0, none⟩ = some (.int .i64 kd) := (blk_cell hm5 0).trans rfl; have y3 : w5.cell? ⟨w.heap.size + 1 + 1, 1, none⟩ = some (.slice At TS.length ct) := (blk_cell hm5 1).trans rfl; have y4 : w5.cell? ⟨w.heap.size + 1 + 1, 2, none⟩ = some (.slice Ap PS.length cp) := (blk_cell hm5 2).trans rfl;  have g5 := hb5.size; have HCC5 := Aside0.mk (HCC.out w5 hs5 hb5); clear hs5 hb5 hm5 hq0 hq1) | (go_at_call 20; refine HCC5.out.mono ?_; rintro e w6 ⟨rfl, hb6⟩; have HB6c := Aside0.mk hb6; have hq1 := (hb6.block (w.heap.size + 1) (by omega)).trans HQ15.out; have hm6 := (hb6.block (w.heap.size + 1 + 1) (by omega)).trans HM5.out; have HQ16 := Aside0.mk hq1; have HM6c := Aside0.mk hm6; have z2 : w6.cell? ⟨w.heap.size + 1 + 1, 0, none⟩ = some (.int .i64 kd) := (blk_cell hm6 0).trans rfl; have z3 : w6.cell? ⟨w.heap.size + 1 + 1, 1, none⟩ = some (.slice At TS.length ct) := (blk_cell hm6 1).trans rfl; have z4 : w6.cell? ⟨w.heap.size + 1 + 1, 2, none⟩ = some (.slice Ap PS.length cp) := (blk_cell hm6 2).trans rfl; have u0w6 : w6.cell? ⟨w.heap.size + 1, 0, none⟩ = some (.int .i64 0) := (blk_cell hq1 0).trans rfl; have f0w6 : w6.frozen? ⟨w.heap.size + 1, 0, none⟩ = false := blk_frozen hq1 0; have u1w6 : w6.cell? ⟨w.heap.size + 1, 1, none⟩ = some (.slice none 0 0) := (blk_cell hq1 1).trans rfl; have f1w6 : w6.frozen? ⟨w.heap.size + 1, 1, none⟩ = false := blk_frozen hq1 1; have u2w6 : w6.cell? ⟨w.heap.size + 1, 2, none⟩ = some (.slice none 0 0) := (blk_cell hq1 2).trans rfl; have f2w6 : w6.frozen? ⟨w.heap.size + 1, 2, none⟩ = false := blk_frozen hq1 2; have g7 := hb6.size; clear hb6 hq1 hm6))
                      have hbk3 := blk_put (blk_put (blk_put HQ16.out 0 (.int .i64 kd) rfl) 1 (.slice At TS.length ct) rfl) 2 (.slice Ap PS.length cp) rfl
                      refine bodyPost_ret (v := .tuple #[.agg #[.int .i64 kd, .slice At TS.length ct, (.slice Ap PS.length cp)], .bool true]) ?_ rfl ?_
                      · have c0 := (blk_cell hbk3 0).trans rfl
                        have c1 := (blk_cell hbk3 1).trans rfl
                        have c2 := (blk_cell hbk3 2).trans rfl
                        simp [results, Try.f58, go_sem, c0, c1, c2]
                      · have hbase : w.heap.size ≤ Wo.heap.size := by omega
                        have ht5 := Kd.R_step HT6.out (w1 := w6) (fun k ho hlt => (HB6c.out.block k (by omega)).trans ((HB5b.out.block k hlt).trans (HKi.out.2 k hlt ho.2)))
                        have hs6 := Kd.S_below (Kd.S_bound HS5b.out) HB6c.out
                        have hlt6 : ∀ k, (Value.slice At TS.length ct).ownBlock = some k → k < W6.heap.size := Kd.R_lt HO6.out
                        have t1 := Kd.R_set ht5 HQ16.out (by decide) 0 (.int .i64 kd)
                        have t2 := Kd.R_set t1 (blk_put HQ16.out 0 (.int .i64 kd) rfl) (by decide) 1 (.slice At TS.length ct)
                        have t3 := Kd.R_set t2 (blk_put (blk_put HQ16.out 0 (.int .i64 kd) rfl) 1 (.slice At TS.length ct) rfl) (by decide) 2 (.slice Ap PS.length cp)
                        have s1 := Kd.S_set hs6 HQ16.out (by decide) 0 (.int .i64 kd)
                        have s2 := Kd.S_set s1 (blk_put HQ16.out 0 (.int .i64 kd) rfl) (by decide) 1 (.slice At TS.length ct)
                        have s3 := Kd.S_set s2 (blk_put (blk_put HQ16.out 0 (.int .i64 kd) rfl) 1 (.slice At TS.length ct) rfl) (by decide) 2 (.slice Ap PS.length cp)
                        exact ⟨_, _, rfl, Kd.R_mono (Kd.R_lower t3 hbase) (fun _ _ => trivial), Kd.S_mono (Kd.S_lower s3 (by omega)) (fun k hk e => by have h1 := hk.2.1; have h2 := hlt6 k e.symm; omega), below_set (below_set (below_set (below_then (HBi3.out.trans (HB5b.out.mono (by omega))) (by omega) HB6c.out) (by simp)) (by simp)) (by simp)⟩
                    · have b7 : ((usedOf PS : Nat) != ((E.length : Nat) : Int)) = true := bne_iff_ne.mpr (by omega)
                      have hF : (r1, r2, r3, r4) = ((0 : Int), ([] : List Int), ([] : List (List Int)), false) := by
                        have h := HR5.out
                        rw [if_neg (fun e => c7 e.1)] at h
                        exact (Option.some.inj h).symm
                      simp only [Prod.mk.injEq] at hF
                      obtain ⟨rfl, rfl, rfl, rfl⟩ := hF
                      go_wp2_with (go_at_call 124; refine HSC.out.mono ?_; rintro e w5 ⟨rfl, hs5, hb5⟩; have HS5b := Aside0.mk hs5; have HB5b := Aside0.mk hb5; have hm5 := (hb5.block _ g6).trans HMi.out; have hq0 := (hb5.block w.heap.size (by omega)).trans HQ0w.out; have hq1 := (hb5.block (w.heap.size + 1) (by omega)).trans HQ1w.out; have HM5 := Aside0.mk hm5; have HQ05 := Aside0.mk hq0; have HQ15 := Aside0.mk hq1; have y0 : w5.cell? ⟨w.heap.size, 0, none⟩ = some (.int .i64 N) := (blk_cell hq0 0).trans rfl; have y1 : w5.cell? ⟨w.heap.size, 1, none⟩ = some (.slice A E.length c) := (blk_cell hq0 1).trans rfl; have y2 : w5.cell? ⟨w.heap.size + 1 + 1, 0, none⟩ = some (.int .i64 kd) := (blk_cell hm5 0).trans rfl; have y3 : w5.cell? ⟨w.heap.size + 1 + 1, 1, none⟩ = some (.slice At TS.length ct) := (blk_cell hm5 1).trans rfl; have y4 : w5.cell? ⟨w.heap.size + 1 + 1, 2, none⟩ = some (.slice Ap PS.length cp) := (blk_cell hm5 2).trans rfl; have u0w5 : w5.cell? ⟨w.heap.size + 1, 0, none⟩ = some (.int .i64 0) := (blk_cell hq1 0).trans rfl; have f0w5 : w5.frozen? ⟨w.heap.size + 1, 0, none⟩ = false := blk_frozen hq1 0; have u1w5 : w5.cell? ⟨w.heap.size + 1, 1, none⟩ = some (.slice none 0 0) := (blk_cell hq1 1).trans rfl; have f1w5 : w5.frozen? ⟨w.heap.size + 1, 1, none⟩ = false := blk_frozen hq1 1; have u2w5 : w5.cell? ⟨w.heap.size + 1, 2, none⟩ = some (.slice none 0 0) := (blk_cell hq1 2).trans rfl; have f2w5 : w5.frozen? ⟨w.heap.size + 1, 2, none⟩ = false := blk_frozen hq1 2; have g5 := hb5.size; have HCC5 := Aside0.mk (HCC.out w5 hs5 hb5); clear hs5 hb5 hm5 hq0 hq1)
                      refine bodyPost_ret (v := .tuple #[.agg #[.int .i64 0, .slice none 0 0, .slice none 0 0], .bool false]) ?_ rfl ?_
                      · have hbk3 := blk_put (blk_put (blk_put HQ15.out 0 (.int .i64 0) rfl) 1 (.slice none 0 0) rfl) 2 (.slice none 0 0) rfl
                        have c0 := (blk_cell hbk3 0).trans rfl
                        have c1 := (blk_cell hbk3 1).trans rfl
                        have c2 := (blk_cell hbk3 2).trans rfl
                        simp [results, Try.f58, go_sem, c0, c1, c2]
                      · exact ⟨_, _, rfl, Kd.R_nil _ _ _ _ _, Kd.S_nil _ _ _ _ _, below_set (below_set (below_set (HBi3.out.trans (HB5b.out.mono (by omega))) (by simp)) (by simp)) (by simp)⟩)
            · have b4 : ((TS.length : Int) == 4) = false := beq_eq_false_iff_ne.mpr (by omega)
              have b2 : ((TS.length : Int) == 2) = false := beq_eq_false_iff_ne.mpr (by omega)
              have hF : (r1, r2, r3, r4) = ((0 : Int), ([] : List Int), ([] : List (List Int)), false) := by
                have h := HRES3.out
                rw [if_neg c4] at h
                exact (Option.some.inj h).symm
              simp only [Prod.mk.injEq] at hF
              obtain ⟨rfl, rfl, rfl, rfl⟩ := hF
              clear c4
              go_wp2
              refine bodyPost_ret (v := .tuple #[.agg #[.int .i64 0, .slice none 0 0, .slice none 0 0], .bool false]) ?_ rfl ?_
              · have hbk3 := blk_put (blk_put (blk_put HQ1j.out 0 (.int .i64 0) rfl) 1 (.slice none 0 0) rfl) 2 (.slice none 0 0) rfl
                have c0 := (blk_cell hbk3 0).trans rfl
                have c1 := (blk_cell hbk3 1).trans rfl
                have c2 := (blk_cell hbk3 2).trans rfl
                simp [results, Try.f58, go_sem, c0, c1, c2]
              · exact ⟨_, _, rfl, Kd.R_nil _ _ _ _ _, Kd.S_nil _ _ _ _ _, below_set (below_set (below_set HBj.out (by simp)) (by simp)) (by simp)⟩
end Go.Proofs.Ytkemhnfaheplhaa.F
namespace Go.Proofs.Ytkemhnfaheplhaa.F
open Go.RowKit Go.Proofs.YtkemhnfaheplhaaW.PrintWords Go.Proofs.YtkemhnfaheplhaaW.PrintLast Go.Proofs.YtkemhnfaheplhaaW.PrintMore Go.Proofs.Ytkemhnfaheplhaa.Mix
set_option linter.unusedVariables false
set_option linter.unusedSimpArgs false
def modelGo (k : Int) : Nat → List (List Int) → List (List Int) → Option (List (List Int))
  | _, sets, [] => some sets
  | i, sets, p :: r => if p.length < 2 then none else if k = 2 then modelGo k (i + 1) (sets ++ [innerL p]) r
    else modelGo k (i + 1) (sets.set ((pairsL k).getD i (0, 0)).1.toNat (sets.getD ((pairsL k).getD i (0, 0)).1.toNat [] ++ innerL p)) r
theorem modelGo_next (k : Int) (l sets : List (List Int)) (i : Int) (h0 : 0 ≤ i) (hi : i < l.length) :
    modelGo k i.toNat sets (l.drop i.toNat) = if (rd_L14 l i).length < 2 then none else if k = 2 then modelGo k (i + 1).toNat (sets ++ [innerL (rd_L14 l i)]) (l.drop (i + 1).toNat)
      else modelGo k (i + 1).toNat (sets.set ((pairsL k).getD i.toNat (0, 0)).1.toNat (sets.getD ((pairsL k).getD i.toNat (0, 0)).1.toNat [] ++ innerL (rd_L14 l i))) (l.drop (i + 1).toNat) := by
  have hi' : i.toNat < l.length := by omega
  rw [List.drop_eq_getElem_cons hi']
  have : rd_L14 l i = l[i.toNat] := by simp [rd_L14, List.getD_eq_getElem?_getD, hi']
  rw [this, show (i + 1).toNat = i.toNat + 1 by omega]
  rfl
theorem innerL_len (p : List Int) : (innerL p).length = p.length - 2 := by simp [innerL]; omega
theorem C_inner {w : World} {ad : Addr} {p : List Int} (h : Kd.C (Kd.int .i64) w (some ad) p.length p) : Kd.C (Kd.int .i64) w (some ⟨ad.block, ad.off + 1, none⟩) (innerL p).length (innerL p) := by
  have hl := innerL_len p
  refine ⟨rfl, by have := h.2.1; omega, fun hp => ⟨_, rfl, fun j x hj => ?_⟩⟩
  have hjl : j < (innerL p).length := (List.getElem?_eq_some_iff.1 hj).1
  have hx : p[1 + j]? = some x := by
    rw [innerL, List.getElem?_take, if_pos (by omega), List.getElem?_drop] at hj
    exact hj
  obtain ⟨ad', e, hc⟩ := h.2.2 (by omega)
  cases e
  obtain ⟨c, hcl, hP, hcc⟩ := hc (1 + j) x hx
  refine ⟨c, hcl, hP, fun i u hu => ?_⟩
  have := hcc i u hu
  have e1 : (Kd.int .i64).sz = 1 := rfl
  rw [e1, Nat.mul_one] at this ⊢
  rw [show 1 + j + i = 1 + (j + i) by omega, ← add_add, show ad.add 1 = (⟨ad.block, ad.off + 1, none⟩ : Addr) by simp [Addr.add]] at this
  exact this
def modelL (k : Int) (tops : List Int) (paths : List (List Int)) : Int × List (List Int) :=
  if 0 < (pairsL k).length ∧ (tops.length : Int) = topsN k ∧ paths.length = (pairsL k).length then
    match modelGo k 0 (tops.map fun v => [v]) paths with
    | some s => (k, s)
    | none => (0, [])
  else (0, [])
theorem map_next (tops : List Int) (i : Int) (h0 : 0 ≤ i) (hi : i < tops.length) : (tops.take (i + 1).toNat).map (fun v => [v]) = (tops.take i.toNat).map (fun v => [v]) ++ [[rd tops i]] := by
  have hi' : i.toNat < tops.length := by omega
  have e : rd tops i = tops[i.toNat] := by simp [rd, List.getD_eq_getElem?_getD, hi']
  rw [show (i + 1).toNat = i.toNat + 1 by omega, List.take_succ_eq_append_getElem hi', e, List.map_append]
  rfl
theorem R_made1 {w : World} (base : Nat) (hb : base ≤ w.heap.size) (v : Int) : Kd.R (Kd.int .i64) 3 (w.alloc (.cells #[.int .i64 v] 3)) base (fun k => k = w.heap.size) (.slice (some ⟨w.heap.size, 0, none⟩) 1 1) [v] :=
  Kd.R_of_own (xs := [v]) (own_made w base hb [v] (by simp [maxLen])) (fun k e => by simpa [Value.ownBlock] using e.symm)
set_option maxHeartbeats 4000000 in
set_option maxRecDepth 100000 in
theorem topoModel_calls (k : Int) (T : Option Addr) (ct : Nat) (tops : List Int) (B : Option Addr) (cp : Nat) (paths : List (List Int)) (w : World)
    (ht : Kd.C (Kd.int .i64) w T tops.length tops) (hct : tops.length ≤ ct) (hp : Kd.C (Kd.slice 3 (Kd.int .i64)) w B paths.length paths) (hcp : paths.length ≤ cp) (hf : paths.flatten.length ≤ 8000000) :
    Calls Try.prog 30 #[.agg #[.int .i64 k, .slice T tops.length ct, .slice B paths.length cp]] w fun e w' => ∃ v, e = .returned (.agg #[.int .i64 (modelL k tops paths).1, v]) ∧ Kd.S (Kd.slice 3 (Kd.int .i64)) 26 w' w.heap.size (fun _ => True) v (modelL k tops paths).2 ∧ Below w.heap.size w w' := by
  have huM := Try.underlying62
  have huS := Try.underlying36
  have q102 : ∀ (w : World) (a : Option Addr) (n c n' c' : Nat), (binOp .eql 102 (.slice a n c) (.slice none n' c')).run Try.prog w = .ok (.bool a.isNone) w := fun w a n c n' c' => Go.Lib.run_eql_slice_nil w _ _ a n c n' c' Try.underlying102
  have HT := Aside0.mk ht
  have HP := Aside0.mk hp
  have hpl : (paths.length : Int) ≤ 9223372036854775807 := by have := hp.2.1; omega
  have htl : (tops.length : Int) ≤ 9223372036854775807 := by have := ht.2.1; omega
  clear ht hp
  obtain ⟨r1, r2, hres⟩ : ∃ r1 r2, modelL k tops paths = (r1, r2) := ⟨_, _, rfl⟩
  rw [hres]
  have HRES := Aside0.mk hres
  clear hres
  obtain ⟨W1, hW1⟩ : ∃ W1, (w.alloc (.cells #[.int .i64 k, .slice T tops.length ct, .slice B paths.length cp] 36)).alloc (.cells #[.int .i64 0, .slice none 0 0] 62) = W1 := ⟨_, rfl⟩
  have HPR : Aside0 (Calls Try.prog 64 #[.int .i64 k] W1 fun e w' => ∃ v, e = .returned v ∧ PairsAt w' v k ∧ Below W1.heap.size W1 w') := ⟨pairs_calls k W1⟩
  have HW1 := Aside0.mk hW1
  clear hW1
  have hs1 : W1.heap.size = w.heap.size + 2 := by rw [← HW1.out]; simp
  have HBW : Aside0 (Below w.heap.size w W1) := ⟨by rw [← HW1.out]; exact below_alloc (below_alloc (Below.refl _ _) _) _⟩
  have HK0 : Aside0 (W1.heap[w.heap.size]? = some (.cells #[.int .i64 k, .slice T tops.length ct, .slice B paths.length cp] 36 (0, 0))) := ⟨by rw [← HW1.out]; exact blk_alloc (heap_alloc_new w _) _⟩
  have HK1 : Aside0 (W1.heap[w.heap.size + 1]? = some (.cells #[.int .i64 0, .slice none 0 0] 62 (0, 0))) := ⟨by
    rw [← HW1.out]; have := heap_alloc_new (w.alloc (.cells #[.int .i64 k, .slice T tops.length ct, .slice B paths.length cp] 36)) (.cells #[.int .i64 0, .slice none 0 0] 62); rwa [World.size_alloc] at this⟩
  go_enter Try.func30, Try.ntmps30
  go_wp2_with (go_at_call 64; rw [HW1.out]; refine HPR.out.mono ?_; rintro e w1 ⟨v, rfl, hv, hb⟩; have HV := Aside0.mk hv; have HB := Aside0.mk hb; clear hv hb)
  have hb0 := (HB.out.block _ (by omega)).trans HK0.out
  have hb1 := (HB.out.block _ (by omega)).trans HK1.out
  have HB0 := Aside0.mk hb0
  have HB1 := Aside0.mk hb1
  have g2 : w1.cell? ⟨w.heap.size, 0, none⟩ = some (.int .i64 k) := (blk_cell hb0 0).trans rfl
  have g3 : w1.cell? ⟨w.heap.size, 1, none⟩ = some (.slice T tops.length ct) := (blk_cell hb0 1).trans rfl
  have g4 : w1.cell? ⟨w.heap.size, 2, none⟩ = some (.slice B paths.length cp) := (blk_cell hb0 2).trans rfl
  have z2 : ∀ x : BW w1, x.val.cell? ⟨w.heap.size, 0, none⟩ = some (.int .i64 k) := fun x => bw_cell x g2
  have z3 : ∀ x : BW w1, x.val.cell? ⟨w.heap.size, 1, none⟩ = some (.slice T tops.length ct) := fun x => bw_cell x g3
  have z4 : ∀ x : BW w1, x.val.cell? ⟨w.heap.size, 2, none⟩ = some (.slice B paths.length cp) := fun x => bw_cell x g4
  have hsz : w.heap.size + 2 ≤ w1.heap.size := by have := HB.out.size; omega
  have HBA : Aside0 (Below w.heap.size w w1) := ⟨HBW.out.trans (HB.out.mono (by omega))⟩
  clear hb0 hb1 HPR HW1 HK0 HK1 HBW HB
  obtain ⟨tn, htn⟩ : ∃ tn, topsN k = tn := ⟨_, rfl⟩
  have HTC : Aside0 (∀ W, Calls Try.prog 65 #[.int .i64 k] W fun e w' => e = .returned (.int .i64 tn) ∧ Drawn0 W w') := ⟨fun W => by rw [← htn]; exact tops_calls k W⟩
  have HTN := Aside0.mk htn
  clear htn
  rcases HV.out with ⟨hnil, rfl⟩ | ⟨hnn, gp, cpp, rfl, hgp, hgc⟩
  · have hF : (r1, r2) = ((0 : Int), ([] : List (List Int))) := by rw [← HRES.out, modelL, if_neg (by rw [hnil]; simp)]
    simp only [Prod.mk.injEq] at hF
    obtain ⟨rfl, rfl⟩ := hF
    go_wp2
    refine region_bw (by kernel_rfl) (by kernel_rfl) ?_
    repeat (go_big_quiet_step (exact calls_bw_drawn (HTC.out _)))
    refine wpQuiet_nil ?_
    rintro _ ⟨x2, rfl⟩
    obtain ⟨w2, hw2, hb2⟩ : ∃ w2, x2.val = w2 ∧ Below w1.heap.size w1 w2 := ⟨_, rfl, x2.below⟩
    rw [hw2]
    clear hw2
    have hq := (hb2.block _ (by omega)).trans HB1.out
    have HQ := Aside0.mk hq
    have y0 : w2.cell? ⟨w.heap.size + 1, 0, none⟩ = some (.int .i64 0) := (blk_cell hq 0).trans rfl
    have y1 : w2.cell? ⟨w.heap.size + 1, 1, none⟩ = some (.slice none 0 0) := (blk_cell hq 1).trans rfl
    have f0 : w2.frozen? ⟨w.heap.size + 1, 0, none⟩ = false := blk_frozen hq 0
    have f1 : w2.frozen? ⟨w.heap.size + 1, 1, none⟩ = false := blk_frozen hq 1
    have HB2 := Aside0.mk hb2
    clear hq hb2
    go_wp2
    refine bodyPost_ret (v := .agg #[.int .i64 0, .slice none 0 0]) ?_ rfl ?_
    · have hbk3 := blk_put (blk_put HQ.out 0 (.int .i64 0) rfl) 1 (.slice none 0 0) rfl
      have c0 := (blk_cell hbk3 0).trans rfl
      have c1 := (blk_cell hbk3 1).trans rfl
      simp [results, Try.f30, go_sem, c0, c1]
    · exact ⟨_, rfl, Kd.S_nil _ _ _ _ _, below_set (below_set (below_then HBA.out HBA.out.size HB2.out) (by simp)) (by simp)⟩
  · have hne : 0 < (pairsL k).length := List.length_pos_iff.2 hnn
    obtain ⟨pl, hpl'⟩ : ∃ pl, (pairsL k).length = pl := ⟨_, rfl⟩
    rw [hpl'] at hne hgc
    have HPL := Aside0.mk hpl'
    rw [hpl']
    clear hpl'
    by_cases c1 : (tops.length : Int) = tn
    · by_cases c2 : paths.length = pl
      · subst c2
        have d1 : ((tops.length : Int) != tn) = false := bne_eq_false_iff_eq.mpr c1
        have d2 : ((paths.length : Int) != (paths.length : Int)) = false := bne_eq_false_iff_eq.mpr rfl
        have HRES2 : Aside0 ((match modelGo k 0 (tops.map fun v => [v]) paths with | some s => (k, s) | none => (0, [])) = (r1, r2)) := ⟨by rw [← HRES.out, modelL, if_pos ⟨by rw [HPL.out]; exact hne, by rw [HTN.out]; exact c1, HPL.out.symm⟩]⟩
        go_wp2
        refine region_bw (by kernel_rfl) (by kernel_rfl) ?_
        repeat (go_big_quiet_step (exact calls_bw_drawn (HTC.out _)))
        refine wpQuiet_nil ?_
        rintro _ ⟨x2, rfl⟩
        obtain ⟨w2, hw2, hb2⟩ : ∃ w2, x2.val = w2 ∧ Below w1.heap.size w1 w2 := ⟨_, rfl, x2.below⟩
        rw [hw2]
        clear hw2
        have y2 := pw_cell_below hb2 g2
        have y3 := pw_cell_below hb2 g3
        have y4 := pw_cell_below hb2 g4
        have HB2 := Aside0.mk hb2
        have hs2 := hb2.size
        have hlt0 : w.heap.size < w2.heap.size := by omega
        clear hb2 g2 g3 g4 z2 z3 z4
        go_wp2
        go_loopw [39] (fun p wr => ∃ (i : Int) (v : Value), 0 ≤ i ∧ i ≤ tops.length ∧ p = .int .i64 i ∧ Aside0 (wr.heap[w2.heap.size]? = some (.cells #[.int .i64 k, v] 62 (0, 0))) ∧ Aside0 (Kd.S (Kd.slice 3 (Kd.int .i64)) 26 wr w1.heap.size (fun _ => True) v ((tops.take i.toNat).map fun v => [v])) ∧ Aside0 (Below w1.heap.size w1 wr))
          (fun p _ => tops.length - (intOf p).toNat)
        case atStart =>
          exact ⟨0, .slice none 0 0, by omega, by omega, rfl, ⟨heap_alloc_new _ _⟩, ⟨Kd.S_nil _ _ _ _ _⟩, ⟨below_alloc HB2.out _⟩⟩
        case round =>
          obtain ⟨i, v, hi0, hi, rfl, HM, HO, HB3⟩ := hrel
          have hm := HM.out
          have m1 : wr.cell? ⟨w2.heap.size, 1, none⟩ = some v := (blk_cell hm 1).trans rfl
          have m1f : wr.frozen? ⟨w2.heap.size, 1, none⟩ = false := blk_frozen hm 1
          have m0 : wr.cell? ⟨w2.heap.size, 0, none⟩ = some (.int .i64 k) := (blk_cell hm 0).trans rfl
          have hmz : w2.heap.size < wr.heap.size := (Array.getElem?_eq_some_iff.1 hm).1
          clear hm
          by_cases hlt : i < tops.length
          · obtain ⟨adt, e, x0⟩ := Kd.at_int (Kd.C_below HT.out (HBA.out.trans (HB3.out.mono (by omega)))) i hi0 hlt
            cases e
            have HN := Aside0.mk (map_next tops i hi0 hlt)
            have htn : tn ≤ 4 := by
              rw [← HTN.out, topsN]
              split <;> omega
            have htk : ((tops.take i.toNat).map fun v => [v]).length ≤ 8000000 := by
              rw [List.length_map, List.length_take]
              omega
            obtain ⟨t, ht⟩ : ∃ t, rd tops i = t := ⟨_, rfl⟩
            rw [ht] at x0 HN
            clear ht
            obtain ⟨X, hX⟩ : ∃ X, ((tops.take i.toNat).map fun v => [v]) = X := ⟨_, rfl⟩
            rw [hX] at HO HN htk
            clear hX
            go_wp2_with (at_builtin; refine Kd.S_append (Kd.slice 3 (Kd.int .i64)) (w0 := w1) (W := wr.alloc (.cells #[.int .i64 t] 3)) w1.heap.size rfl (.tmp 44) (.tmp 47) 27 26 (.slice none 0 0) 24 rfl Try.underlying27 info26 rfl (by decide) (by omega) v X [t] [.slice (some ⟨wr.heap.size, 0, none⟩) 1 1] (fun _ => True) (fun k_ => k_ = wr.heap.size) rfl ?aX ?aP ?aK ?aF ?aO ?aB ?aS ?aL ?_; (case aX => rw [World.size_alloc]; rfl); (case aP => exact Kd.M_row (R_made1 w1.heap.size (by omega) t)); (case aK => exact fun k_ hk => ⟨trivial, fun h => by have := Kd.S_lt HO.out k_ h.symm; omega⟩); (case aF => exact fun _ _ => trivial); (case aO => exact Kd.S_alloc (Kd.S_mono (Kd.S_elderB HO.out wr.heap.size (Nat.le_refl _)) (fun k_ hk => ⟨trivial, hk.2⟩)) _); (case aB => exact below_alloc HB3.out _); (case aS => simp; omega); (case aL => omega); intro v1 w4 ho hb4 hg4 hat4; have HO4 := Aside0.mk ho; have HB4 := Aside0.mk hb4; have hm4 := blk_grown (blk_alloc HM.out _) hg4 (Kd.S_ne HO.out HM.out (by decide)); have HM4 := Aside0.mk hm4; have n1 : w4.cell? ⟨w2.heap.size, 1, none⟩ = some v := (blk_cell hm4 1).trans rfl; have n1f : w4.frozen? ⟨w2.heap.size, 1, none⟩ = false := blk_frozen hm4 1; obtain ⟨A4, c4, hv4⟩ := Kd.S_slice ho; subst hv4; clear ho hb4 hg4 hat4 hm4)
            go_roundw
            case rel =>
              have h5 := HO4.out
              rw [show (X ++ [[t]]).length = X.length + 1 by simp] at h5
              exact ⟨i + 1, .slice A4 (X.length + 1) c4, by omega, by omega, rfl, ⟨blk_put HM4.out 1 _ rfl⟩, ⟨by rw [HN.out]; exact Kd.S_set h5 HM4.out (by decide) 1 _⟩, ⟨below_set HB4.out hs2⟩⟩
            case measure => simp [intOf]; omega
          · have hi' : i.toNat = tops.length := by omega
            have HO' : Aside0 (Kd.S (Kd.slice 3 (Kd.int .i64)) 26 wr w1.heap.size (fun _ => True) v (tops.map fun v => [v])) := ⟨by have := HO.out; rwa [hi', List.take_length] at this⟩
            have hlt1 : w.heap.size < wr.heap.size := by omega
            have q2 : wr.cell? ⟨w.heap.size, 2, none⟩ = some (.slice B paths.length cp) := (blk_cell ((HB3.out.block _ (by omega)).trans HB0.out) 2).trans rfl
            go_wp2
            go_loopw [54] (fun q ws => ∃ (j : Int) (u : Value) (XS : List (List Int)), 0 ≤ j ∧ j ≤ paths.length ∧ q = .int .i64 j ∧ Aside0 (ws.heap[w2.heap.size]? = some (.cells #[.int .i64 k, u] 62 (0, 0))) ∧ Aside0 (Kd.S (Kd.slice 3 (Kd.int .i64)) 26 ws w1.heap.size (fun _ => True) u XS) ∧ Aside0 (Below w1.heap.size w1 ws)
                ∧ Aside0 (modelGo k 0 (tops.map fun v => [v]) paths = modelGo k j.toNat XS (paths.drop j.toNat)) ∧ Aside0 (tops.length ≤ XS.length ∧ XS.length ≤ tops.length + j.toNat) ∧ Aside0 (∀ r ∈ XS, r.length ≤ 1 + (paths.take j.toNat).flatten.length))
              (fun q _ => paths.length - (intOf q).toNat)
            case atStart => exact ⟨0, v, _, by omega, by omega, rfl, HM, HO', HB3, ⟨rfl⟩, ⟨by simp⟩, ⟨by intro r hr; obtain ⟨x, _, rfl⟩ := List.mem_map.1 hr; simp⟩⟩
            case round =>
              obtain ⟨j, u, XS, hj0, hj, rfl, HMj, HOj, HBj, HGO, HXL, HXR⟩ := hrel
              clear m1 m1f m0 hmz hlt1 q2
              obtain ⟨Au, cu, hu⟩ := Kd.S_slice HOj.out
              subst hu
              have hm := HMj.out
              have m1 : wr.cell? ⟨w2.heap.size, 1, none⟩ = some (.slice Au XS.length cu) := (blk_cell hm 1).trans rfl
              have m1f : wr.frozen? ⟨w2.heap.size, 1, none⟩ = false := blk_frozen hm 1
              have m0 : wr.cell? ⟨w2.heap.size, 0, none⟩ = some (.int .i64 k) := (blk_cell hm 0).trans rfl
              have hmz : w2.heap.size < wr.heap.size := (Array.getElem?_eq_some_iff.1 hm).1
              have hq1 := (HBj.out.block _ (by omega)).trans HB1.out
              have HQ1 := Aside0.mk hq1
              have y0 : wr.cell? ⟨w.heap.size + 1, 0, none⟩ = some (.int .i64 0) := (blk_cell hq1 0).trans rfl
              have y1 : wr.cell? ⟨w.heap.size + 1, 1, none⟩ = some (.slice none 0 0) := (blk_cell hq1 1).trans rfl
              have f0 : wr.frozen? ⟨w.heap.size + 1, 0, none⟩ = false := blk_frozen hq1 0
              have f1 : wr.frozen? ⟨w.heap.size + 1, 1, none⟩ = false := blk_frozen hq1 1
              have k0 : wr.cell? ⟨w.heap.size, 0, none⟩ = some (.int .i64 k) := (blk_cell ((HBj.out.block _ (by omega)).trans HB0.out) 0).trans rfl
              clear hm hq1
              have HBw := Aside0.mk (HBA.out.trans (HBj.out.mono (by omega)))
              by_cases hlt2 : j < paths.length
              · obtain ⟨adp, P0, cp0, e, x0, hcp0, hC0⟩ := at_L14 HP.out j hj0 hlt2
                cases e
                have x0 := pw_cell_below HBw.out x0
                have HC0 := Aside0.mk hC0
                have HN := Aside0.mk (modelGo_next k paths XS j hj0 hlt2)
                have HFN := Aside0.mk (flat_next paths j hj0 hlt2)
                have hFL := flat_le paths (j + 1).toNat
                obtain ⟨p, hp⟩ : ∃ p, rd_L14 paths j = p := ⟨_, rfl⟩
                have hp' : paths.getD j.toNat [] = p := hp
                rw [hp] at x0 hcp0 HC0 HN
                rw [hp'] at HFN
                rw [HFN.out, List.length_append] at hFL
                clear hp hp' hC0
                by_cases c3 : (p.length : Int) < 2
                · have hF : (r1, r2) = ((0 : Int), ([] : List (List Int))) := by rw [← HRES2.out, HGO.out, HN.out, if_pos (by omega)]
                  simp only [Prod.mk.injEq] at hF
                  obtain ⟨rfl, rfl⟩ := hF
                  go_wp2
                  refine bodyPost_ret (v := .agg #[.int .i64 0, .slice none 0 0]) ?_ rfl ?_
                  · have hbk3 := blk_put (blk_put HQ1.out 0 (.int .i64 0) rfl) 1 (.slice none 0 0) rfl
                    have c0 := (blk_cell hbk3 0).trans rfl
                    have c1 := (blk_cell hbk3 1).trans rfl
                    simp [results, Try.f30, go_sem, c0, c1]
                  · exact ⟨_, rfl, Kd.S_nil _ _ _ _ _, below_set (below_set HBw.out (by simp)) (by simp)⟩
                · obtain ⟨ap, hap, _⟩ := HC0.out.2.2 (by omega)
                  subst hap
                  obtain ⟨m, hm⟩ : ∃ m, (p.length : Int) - 1 = m := ⟨_, rfl⟩
                  have hpl2 := HC0.out.2.1
                  have hw1 : IntKind.i64.wrap ((p.length : Int) - 1) = m := (IntWalk.i64_in _ (by omega)).trans hm
                  have e1 : 1 ≤ m := by omega
                  have e2 : m ≤ p.length := by omega
                  have e3 : m ≤ (cp0 : Int) := by omega
                  have hil := innerL_len p
                  have hmi : m.toNat - 1 = (innerL p).length := by omega
                  have HCL : Aside0 (Calls Try.prog 84 #[.slice (some ⟨ap.block, ap.off + 1, none⟩) (m.toNat - 1) (cp0 - 1)] wr fun e w' => ∃ v0_ : Value, e = .returned (v0_) ∧ Kd.R (Kd.int .i64) 3 w' wr.heap.size (fun _ => True) v0_ (innerL p) ∧ Below wr.heap.size wr w') := ⟨by
                    rw [hmi]
                    exact cloneI_calls _ _ (innerL p) wr (C_inner (Kd.C_below HC0.out HBw.out)) (by omega) (by omega)⟩
                  obtain ⟨I, hI⟩ : ∃ I, innerL p = I := ⟨_, rfl⟩
                  rw [hI] at HN HCL hil
                  have HIL := Aside0.mk hil
                  clear hmi hI hil
                  by_cases c4 : k = 2
                  · have b4 : (k == 2) = true := beq_iff_eq.mpr c4
                    have HC4 := Aside0.mk c4
                    clear c4
                    have HGN : Aside0 (modelGo k 0 (tops.map fun v => [v]) paths = modelGo k (j + 1).toNat (XS ++ [I]) (paths.drop (j + 1).toNat)) := ⟨by rw [HGO.out, HN.out, if_neg (by omega), if_pos HC4.out]⟩
                    have hxl := HXL.out.2
                    have htn : tn ≤ 4 := by
                      rw [← HTN.out, topsN]
                      split <;> omega
                    have hpl3 : paths.length ≤ 6 := by
                      rw [← HPL.out, pairsL]
                      split
                      · decide
                      · split <;> decide
                    go_wp2_with (first | (go_at_call 84; refine HCL.out.mono ?_; rintro e w5 ⟨vc, rfl, hrc, hb5⟩; obtain ⟨Ac, cc, hvc⟩ := Kd.R_slice hrc; subst hvc; have HRC := Aside0.mk hrc; have HB5 := Aside0.mk hb5; have hm5 := (hb5.block _ hmz).trans HMj.out; have HM5 := Aside0.mk hm5; have n1 : w5.cell? ⟨w2.heap.size, 1, none⟩ = some (.slice Au XS.length cu) := (blk_cell hm5 1).trans rfl; have n1f : w5.frozen? ⟨w2.heap.size, 1, none⟩ = false := blk_frozen hm5 1; have k5 := pw_cell_below hb5 k0; have hmz5 : w2.heap.size < w5.heap.size := (Array.getElem?_eq_some_iff.1 hm5).1; have hs5 := hb5.size; clear hrc hb5 hm5 HCL) | (at_builtin; refine Kd.S_append (Kd.slice 3 (Kd.int .i64)) (w0 := w1) (W := w5) w1.heap.size rfl (.tmp 73) (.tmp 75) 27 26 (.slice none 0 0) 24 rfl Try.underlying27 info26 rfl (by decide) (by omega) (.slice Au XS.length cu) XS I [.slice Ac I.length cc] (fun _ => True) (fun k_ => some k_ = (Value.slice Ac I.length cc).ownBlock) rfl ?aX ?aP ?aK ?aF ?aO ?aB ?aS ?aL ?_; (case aX => rfl); (case aP => exact Kd.M_row (Kd.R_mono (Kd.R_tight rfl (Kd.R_lower HRC.out (by have := HBj.out.size; omega))) (fun _ h => h))); (case aK => exact fun k_ hk => ⟨trivial, fun h => by have h1 := Kd.S_lt HOj.out k_ h.symm; have h2 := Kd.R_base HRC.out k_ hk.symm; omega⟩); (case aF => exact fun _ _ => trivial); (case aO => exact Kd.S_mono (Kd.S_old HOj.out HB5.out) (fun k_ hk => ⟨trivial, fun h => by have h2 := Kd.R_base HRC.out k_ h.symm; have h3 := hk.2; omega⟩)); (case aB => exact below_then HBj.out HBj.out.size HB5.out); (case aS => have := HBj.out.size; omega); (case aL => omega); intro v1 w4 ho hb4 hg4 hat4; have HO4 := Aside0.mk ho; have HB4 := Aside0.mk hb4; have hm4 := blk_grown HM5.out hg4 (Kd.S_ne HOj.out HMj.out (by decide)); have HM4 := Aside0.mk hm4; have n2 : w4.cell? ⟨w2.heap.size, 1, none⟩ = some (.slice Au XS.length cu) := (blk_cell hm4 1).trans rfl; have n2f : w4.frozen? ⟨w2.heap.size, 1, none⟩ = false := blk_frozen hm4 1; obtain ⟨A4, c4, hv4⟩ := Kd.S_slice ho; subst hv4; clear ho hb4 hg4 hat4 hm4))
                    go_roundw
                    case rel =>
                      have h5 := HO4.out
                      rw [show (XS ++ [I]).length = XS.length + 1 by simp] at h5
                      refine ⟨j + 1, .slice A4 (XS.length + 1) c4, XS ++ [I], by omega, by omega, rfl, ⟨blk_put HM4.out 1 _ rfl⟩, ⟨Kd.S_set h5 HM4.out (by decide) 1 _⟩, ⟨below_set HB4.out hs2⟩, HGN, ⟨by have := HXL.out; simp; omega⟩, ⟨?_⟩⟩
                      intro r hr
                      rw [HFN.out, List.length_append]
                      rcases List.mem_append.1 hr with h | h
                      · have := HXR.out r h; omega
                      · simp at h
                        subst h
                        have := HIL.out
                        omega
                    case measure => simp [intOf]; omega
                  · have b4 : (k == 2) = false := beq_eq_false_iff_ne.mpr c4
                    have hpr := pairs_range k j.toNat (by rw [HPL.out]; omega)
                    have hpc := (hgc j.toNat (by omega)).1
                    obtain ⟨pa, hpa⟩ : ∃ a, ((pairsL k).getD j.toNat (0, 0)).1 = a := ⟨_, rfl⟩
                    have HGN : Aside0 (modelGo k 0 (tops.map fun v => [v]) paths = modelGo k (j + 1).toNat (XS.set pa.toNat (XS.getD pa.toNat [] ++ I)) (paths.drop (j + 1).toNat)) := ⟨by rw [HGO.out, HN.out, if_neg (by omega), if_neg c4, hpa]⟩
                    rw [hpa, HTN.out, ← c1] at hpr
                    rw [hpa] at hpc
                    obtain ⟨r0, r1', _, _⟩ := hpr
                    have hpx : pa < (XS.length : Int) := by have := HXL.out.1; omega
                    clear hpa c4
                    obtain ⟨g, cg, hgv, hgb, hgl, _, _⟩ := Kd.S_form HOj.out (by omega)
                    injection hgv with hg1 hg2 hg3
                    subst hg1
                    subst hg3
                    clear hg2
                    have hne4 : w2.heap.size ≠ g := fun e => Kd.S_ne HOj.out HMj.out (by decide) (by simp [Value.ownBlock, e])
                    go_wp2_with (go_at_call 84; refine HCL.out.mono ?_; rintro e w5 ⟨vc, rfl, hrc, hb5⟩; obtain ⟨Ac, cc, hvc⟩ := Kd.R_slice hrc; subst hvc; have HRC := Aside0.mk hrc; have HB5 := Aside0.mk hb5; have hm5 := (hb5.block _ hmz).trans HMj.out; have HM5 := Aside0.mk hm5; have n1 : w5.cell? ⟨w2.heap.size, 1, none⟩ = some (.slice (some ⟨g, 0, none⟩) XS.length cu) := (blk_cell hm5 1).trans rfl; have n1f : w5.frozen? ⟨w2.heap.size, 1, none⟩ = false := blk_frozen hm5 1; have k5 := pw_cell_below hb5 k0; have hmz5 : w2.heap.size < w5.heap.size := (Array.getElem?_eq_some_iff.1 hm5).1; have hs5 := hb5.size; clear hrc hb5 hm5 HCL)
                    have hB15 : Below w1.heap.size w1 w5 := below_then HBj.out HBj.out.size HB5.out
                    have u0 : w5.cell? ⟨gp, j.toNat * 2, none⟩ = some (.int .i64 pa) := (hB15.cell (p := ⟨gp, j.toNat * 2, none⟩) hgp).trans hpc
                    have HB15 := Aside0.mk hB15
                    obtain ⟨oki, va, hca, hfa, hRa, hoka, hcont⟩ := S_grow (Kd.S_drewN (Kd.S_below HOj.out HB5.out) 1) pa r0 (by omega)
                    obtain ⟨row, hrow⟩ : ∃ row, XS.getD pa.toNat [] = row := ⟨_, rfl⟩
                    rw [hrow] at hRa HGN
                    have hrl : row.length ≤ 8000001 := by
                      have h1 : row ∈ XS := by
                        rw [← hrow, List.getD_eq_getElem?_getD, List.getElem?_eq_getElem (show pa.toNat < XS.length by omega)]
                        exact List.getElem_mem _
                      have := HXR.out row h1
                      omega
                    have HROW := Aside0.mk hrow
                    obtain ⟨Aa, ca, hva⟩ := Kd.R_slice hRa
                    subst hva
                    have HRA := Aside0.mk hRa
                    have HCT := Aside0.mk @hcont
                    obtain ⟨C0, hC0, hC1⟩ : ∃ C0 : World → Prop, (∀ x, C0 x → x.cell? ⟨g, pa.toNat, none⟩ = some (.slice Aa row.length ca) ∧ x.cell? ⟨w2.heap.size, 1, none⟩ = some (.slice (some ⟨g, 0, none⟩) XS.length cu) ∧ x.cell? ⟨gp, j.toNat * 2, none⟩ = some (.int .i64 pa)) ∧ (∀ x : World, x.cell? ⟨g, pa.toNat, none⟩ = some (.slice Aa row.length ca) ∧ x.cell? ⟨w2.heap.size, 1, none⟩ = some (.slice (some ⟨g, 0, none⟩) XS.length cu) ∧ x.cell? ⟨gp, j.toNat * 2, none⟩ = some (.int .i64 pa) → C0 x) := ⟨_, fun _ h => h, fun _ h => h⟩
                    have z0 : ∀ x : XW C0, x.val.cell? ⟨g, pa.toNat, none⟩ = some (.slice Aa row.length ca) := fun x => (hC0 _ x.ok).1
                    have z1 : ∀ x : XW C0, x.val.cell? ⟨w2.heap.size, 1, none⟩ = some (.slice (some ⟨g, 0, none⟩) XS.length cu) := fun x => (hC0 _ x.ok).2.1
                    have z2 : ∀ x : XW C0, x.val.cell? ⟨gp, j.toNat * 2, none⟩ = some (.int .i64 pa) := fun x => (hC0 _ x.ok).2.2
                    have hst : C0 (w5.drewN 1) := hC1 _ ⟨hca, n1, u0⟩
                    haveI : Nonempty (XW C0) := ⟨⟨_, hst⟩⟩
                    have HST := Aside0.mk hst
                    have HC00 := Aside0.mk hC1
                    have HPC := Aside0.mk hpc
                    clear hrow hRa hcont hca hfa hst hC0 hC1 u0 hpc
                    refine region_mixC C0 19 (fun i => i == 17 || i == 19) (by kernel_rfl) (by kernel_rfl) ?_
                    refine mix_quiet 17 (by decide) (by decide) HST.out ?_
                    simp only [List.take_succ_cons, List.take_zero, List.drop_succ_cons, List.drop_zero]
                    repeat (go_big_quiet_step (fail))
                    refine wpQuiet_nil ?_
                    refine mix_eff (by rfl) (cm_of HST.out) ?_
                    refine Kd.R_append_rows (Kd.int .i64) (w0 := w1) (W := w5.drewN 1) (Rr := (Kd.int .i64).M (w5.drewN 1) w1.heap.size (fun _ => False)) w1.heap.size rfl (.tmp 93) (.tmp 94) 26 3 (.int .i64 0) 8 rfl Try.underlying26 info3 rfl (by decide) (by omega) (.slice Aa row.length ca) row I Ac I.length cc (fun k_ => oki k_ ∨ True ∧ (w5.drewN 1).heap.size ≤ k_) (fun _ => False) rfl rfl ?aO ?aR (fun x cs h => h) (fun _ h => h.elim) (fun k_ hk => .inr ⟨trivial, hk⟩) ?aB ?aS ?aL ?_
                    case aO => exact Kd.R_mono HRA.out (fun _ h => .inl h)
                    case aR => exact Kd.C_drewN (Kd.R_reads' HRC.out).2.2 1
                    case aB => exact pw_below_drewN HB15.out 1
                    case aS => exact HB15.out.size
                    case aL => have := HIL.out; omega
                    intro v1 w6 ho6 hb6 hg6 hat6
                    obtain ⟨hc6, hf6, hS6, hgr6⟩ := HCT.out ho6 hg6
                    have hm6 := blk_grown (blk_drewN HM5.out 1) hg6 (Kd.R_ne HRA.out (blk_drewN HM5.out 1) (by decide))
                    have hst6 : C0 w6 := HC00.out _ ⟨hc6, (blk_cell hm6 1).trans rfl, (hb6.cell (p := ⟨gp, j.toNat * 2, none⟩) hgp).trans HPC.out⟩
                    have HST6 := Aside0.mk hst6
                    obtain ⟨A6, c6, hv6⟩ := Kd.R_slice ho6
                    subst hv6
                    have HF6 := Aside0.mk (And.intro hS6 (And.intro hm6 hb6))
                    clear hst6 ho6 hg6 hat6 hS6 hm6 hb6 hgr6 HC00
                    refine wpList_nil ?_
                    refine ⟨rfl, cm_of HST6.out, ?_⟩
                    simp only [Act.put, List.setIfInBounds_toArray, List.set_cons_zero, List.set_cons_succ]
                    refine mix_quiet 1 (by decide) (by decide) HST6.out ?_
                    simp only [List.take_succ_cons, List.take_zero, List.drop_succ_cons, List.drop_zero]
                    repeat (go_big_quiet_step (fail))
                    refine wpQuiet_nil ?_
                    refine mix_eff (by rfl) (cm_late (Nat.le_refl _)) ?_
                    go_wp2
                    refine ⟨cm_late (Nat.le_refl _), ?_⟩
                    refine mix_done ?_
                    go_wp2
                    go_roundw
                    case rel =>
                      have h5 := HF6.out.1
                      rw [List.length_append] at h5
                      refine ⟨j + 1, .slice (some ⟨g, 0, none⟩) XS.length cu, XS.set pa.toNat (row ++ I), by omega, by omega, rfl, ⟨(Below.heap_setCell _ _ _ _ hne4).trans HF6.out.2.1⟩, ⟨h5⟩, ⟨below_set HF6.out.2.2 hgb⟩, HGN, ⟨by have := HXL.out; rw [List.length_set]; omega⟩, ⟨?_⟩⟩
                      intro r hr
                      rw [HFN.out, List.length_append]
                      rcases List.mem_or_eq_of_mem_set hr with h | h
                      · have := HXR.out r h; omega
                      · have h1 : row.length ≤ 1 + (paths.take j.toNat).flatten.length := by
                          have h2 : row ∈ XS := by
                            rw [← HROW.out, List.getD_eq_getElem?_getD, List.getElem?_eq_getElem (show pa.toNat < XS.length by omega)]
                            exact List.getElem_mem _
                          exact HXR.out row h2
                        rw [h, List.length_append]
                        have := HIL.out
                        omega
                    case measure => simp [intOf]; omega
              · have hF : (r1, r2) = (k, XS) := by rw [← HRES2.out, HGO.out, show j.toNat = paths.length by omega, List.drop_length]; rfl
                simp only [Prod.mk.injEq] at hF
                obtain ⟨rfl, rfl⟩ := hF
                go_wp2
                refine bodyPost_ret (v := .agg #[.int .i64 r1, .slice Au r2.length cu]) ?_ rfl ?_
                · have hbk3 := blk_put (blk_put HQ1.out 0 (.int .i64 r1) rfl) 1 (.slice Au r2.length cu) rfl
                  have c0 := (blk_cell hbk3 0).trans rfl
                  have c1 := (blk_cell hbk3 1).trans rfl
                  simp [results, Try.f30, go_sem, c0, c1]
                · exact ⟨_, rfl, Kd.S_lower (Kd.S_set (Kd.S_set HOj.out HQ1.out (by decide) 0 _) (blk_put HQ1.out 0 (.int .i64 r1) rfl) (by decide) 1 _) (by omega), below_set (below_set HBw.out (by simp)) (by simp)⟩
      · have d1 : ((tops.length : Int) != tn) = false := bne_eq_false_iff_eq.mpr c1
        have d2 : ((paths.length : Int) != (pl : Int)) = true := bne_iff_ne.mpr (by omega)
        have hF : (r1, r2) = ((0 : Int), ([] : List (List Int))) := by rw [← HRES.out, modelL, if_neg (by rw [HPL.out]; exact fun h => c2 h.2.2)]
        simp only [Prod.mk.injEq] at hF
        obtain ⟨rfl, rfl⟩ := hF
        go_wp2
        refine region_bw (by kernel_rfl) (by kernel_rfl) ?_
        repeat (go_big_quiet_step (exact calls_bw_drawn (HTC.out _)))
        refine wpQuiet_nil ?_
        rintro _ ⟨x2, rfl⟩
        obtain ⟨w2, hw2, hb2⟩ : ∃ w2, x2.val = w2 ∧ Below w1.heap.size w1 w2 := ⟨_, rfl, x2.below⟩
        rw [hw2]
        clear hw2
        have hq := (hb2.block _ (by omega)).trans HB1.out
        have HQ := Aside0.mk hq
        have y0 : w2.cell? ⟨w.heap.size + 1, 0, none⟩ = some (.int .i64 0) := (blk_cell hq 0).trans rfl
        have y1 : w2.cell? ⟨w.heap.size + 1, 1, none⟩ = some (.slice none 0 0) := (blk_cell hq 1).trans rfl
        have f0 : w2.frozen? ⟨w.heap.size + 1, 0, none⟩ = false := blk_frozen hq 0
        have f1 : w2.frozen? ⟨w.heap.size + 1, 1, none⟩ = false := blk_frozen hq 1
        have HB2 := Aside0.mk hb2
        clear hq hb2
        go_wp2
        refine bodyPost_ret (v := .agg #[.int .i64 0, .slice none 0 0]) ?_ rfl ?_
        · have hbk3 := blk_put (blk_put HQ.out 0 (.int .i64 0) rfl) 1 (.slice none 0 0) rfl
          have c0 := (blk_cell hbk3 0).trans rfl
          have c1 := (blk_cell hbk3 1).trans rfl
          simp [results, Try.f30, go_sem, c0, c1]
        · exact ⟨_, rfl, Kd.S_nil _ _ _ _ _, below_set (below_set (below_then HBA.out HBA.out.size HB2.out) (by simp)) (by simp)⟩
    · have d1 : ((tops.length : Int) != tn) = true := bne_iff_ne.mpr c1
      have hF : (r1, r2) = ((0 : Int), ([] : List (List Int))) := by rw [← HRES.out, modelL, if_neg (by rw [HTN.out]; exact fun h => c1 h.2.1)]
      simp only [Prod.mk.injEq] at hF
      obtain ⟨rfl, rfl⟩ := hF
      go_wp2
      refine region_bw (by kernel_rfl) (by kernel_rfl) ?_
      repeat (go_big_quiet_step (exact calls_bw_drawn (HTC.out _)))
      refine wpQuiet_nil ?_
      rintro _ ⟨x2, rfl⟩
      obtain ⟨w2, hw2, hb2⟩ : ∃ w2, x2.val = w2 ∧ Below w1.heap.size w1 w2 := ⟨_, rfl, x2.below⟩
      rw [hw2]
      clear hw2
      have hq := (hb2.block _ (by omega)).trans HB1.out
      have HQ := Aside0.mk hq
      have y0 : w2.cell? ⟨w.heap.size + 1, 0, none⟩ = some (.int .i64 0) := (blk_cell hq 0).trans rfl
      have y1 : w2.cell? ⟨w.heap.size + 1, 1, none⟩ = some (.slice none 0 0) := (blk_cell hq 1).trans rfl
      have f0 : w2.frozen? ⟨w.heap.size + 1, 0, none⟩ = false := blk_frozen hq 0
      have f1 : w2.frozen? ⟨w.heap.size + 1, 1, none⟩ = false := blk_frozen hq 1
      have HB2 := Aside0.mk hb2
      clear hq hb2
      go_wp2
      refine bodyPost_ret (v := .agg #[.int .i64 0, .slice none 0 0]) ?_ rfl ?_
      · have hbk3 := blk_put (blk_put HQ.out 0 (.int .i64 0) rfl) 1 (.slice none 0 0) rfl
        have c0 := (blk_cell hbk3 0).trans rfl
        have c1 := (blk_cell hbk3 1).trans rfl
        simp [results, Try.f30, go_sem, c0, c1]
      · exact ⟨_, rfl, Kd.S_nil _ _ _ _ _, below_set (below_set (below_then HBA.out HBA.out.size HB2.out) (by simp)) (by simp)⟩
end Go.Proofs.Ytkemhnfaheplhaa.F
namespace Go.Proofs.Ytkemhnfaheplhaa.F
open Go.RowKit Go.Proofs.YtkemhnfaheplhaaW.PrintWords Go.Proofs.YtkemhnfaheplhaaW.PrintLast Go.Proofs.YtkemhnfaheplhaaW.PrintMore
set_option linter.unusedVariables false
set_option linter.unusedSimpArgs false
def keepE (l : List S69) : List S69 := l.flatMap fun x => if x.f0 = x.f1 then [] else [⟨min x.f0 x.f1, max x.f0 x.f1⟩]
def okE (n : Int) (l : List S69) : Bool := l.all fun x => decide (0 ≤ min x.f0 x.f1) && decide (max x.f0 x.f1 < n)
def normG (n : Int) (l : List S69) : Int × List S69 × Int :=
  if n < 0 then (0, [], 1) else if 1000 < n then (0, [], 5) else
  if okE n l then (if 4000 < (compactE (sortE (keepE l))).length then (0, [], 5) else (n, compactE (sortE (keepE l)), 0)) else (0, [], 4)
theorem keepE_next (l : List S69) (i : Int) (h0 : 0 ≤ i) (hi : i < l.length) : keepE (l.take (i + 1).toNat) = keepE (l.take i.toNat) ++ (if (rd_T69 l i).f0 = (rd_T69 l i).f1 then [] else [⟨min (rd_T69 l i).f0 (rd_T69 l i).f1, max (rd_T69 l i).f0 (rd_T69 l i).f1⟩]) := by
  rw [take_next l i h0 hi]
  simp [keepE]
theorem keepE_len (l : List S69) : (keepE l).length ≤ l.length := by
  induction l with
  | nil => simp [keepE]
  | cons x l ih =>
    have e : keepE (x :: l) = (if x.f0 = x.f1 then [] else [⟨min x.f0 x.f1, max x.f0 x.f1⟩]) ++ keepE l := by simp [keepE]
    rw [e, List.length_append, List.length_cons]
    split <;> simp <;> omega
theorem okE_next (n : Int) (l : List S69) (i : Int) (h0 : 0 ≤ i) (hi : i < l.length) : okE n (l.take (i + 1).toNat) = (okE n (l.take i.toNat) && (decide (0 ≤ min (rd_T69 l i).f0 (rd_T69 l i).f1) && decide (max (rd_T69 l i).f0 (rd_T69 l i).f1 < n))) := by
  rw [take_next l i h0 hi]
  simp [okE]
theorem okE_bad (n : Int) (l : List S69) (i : Int) (h0 : 0 ≤ i) (hi : i < l.length) (h : min (rd_T69 l i).f0 (rd_T69 l i).f1 < 0 ∨ n ≤ max (rd_T69 l i).f0 (rd_T69 l i).f1) : okE n l = false := by
  rw [rd_at l i h0 hi] at h
  cases hq : okE n l
  · rfl
  · simp only [okE, List.all_eq_true] at hq
    have := hq _ (List.getElem_mem (show i.toNat < l.length by omega))
    simp at this
    omega
set_option maxHeartbeats 2000000 in
set_option maxRecDepth 100000 in
theorem normal_calls (n : Int) (A : Option Addr) (c : Nat) (l : List S69) (w : World) (hr : Kd.C k69 w A l.length l) (hc : l.length ≤ c) (hl : l.length ≤ 1000000) :
    Calls Try.prog 62 #[.int .i64 n, .slice A l.length c] w fun e w' => ∃ v1_ : Value, e = .returned (.tuple #[.agg #[.int .i64 (normG n l).1, v1_], .int .i64 (normG n l).2.2]) ∧ Kd.R k69 69 w' w.heap.size (fun _ => True) v1_ (normG n l).2.1 ∧ Below w.heap.size w w' := by
  have hu31 := Try.underlying31
  have hu69 := Try.underlying69
  have HR := Aside0.mk hr
  clear hr
  by_cases h1 : n < 0
  · have hf : normG n l = (0, [], 1) := by simp [normG, h1]
    rw [hf]; clear hf
    go_enter Try.func62, Try.ntmps62
    go_wp2
    refine bodyPost_ret (v := .tuple #[.agg #[.int .i64 0, .slice none 0 0], .int .i64 1]) ?_ rfl ?_
    · simp [results, Try.f62, go_sem]
    · exact ⟨_, rfl, Kd.R_nil _ _ _ _ _, below_alloc (Below.refl _ _) _⟩
  by_cases h2 : 1000 < n
  · have hf : normG n l = (0, [], 5) := by simp [normG, h1, h2]
    rw [hf]; clear hf
    go_enter Try.func62, Try.ntmps62
    go_wp2
    refine bodyPost_ret (v := .tuple #[.agg #[.int .i64 0, .slice none 0 0], .int .i64 5]) ?_ rfl ?_
    · simp [results, Try.f62, go_sem]
    · exact ⟨_, rfl, Kd.R_nil _ _ _ _ _, below_alloc (Below.refl _ _) _⟩
  obtain ⟨r1, r2, r3, hrr⟩ : ∃ r1 r2 r3, normG n l = (r1, r2, r3) := ⟨_, _, _, rfl⟩
  rw [hrr]
  have HRR := Aside0.mk (show (if okE n l then (if 4000 < (compactE (sortE (keepE l))).length then (0, [], 5) else (n, compactE (sortE (keepE l)), 0)) else (0, [], 4)) = (r1, r2, r3) by rw [← hrr, normG, if_neg h1, if_neg h2])
  clear hrr
  go_enter Try.func62, Try.ntmps62
  go_wp2
  go_loopw [19, 6] (fun p v wr => ∃ i : Int, 0 ≤ i ∧ i ≤ l.length ∧ p = .int .i64 i ∧ Aside0 (Kd.R k69 69 wr w.heap.size (fun _ => True) v (keepE (l.take i.toNat))) ∧ Aside0 (okE n (l.take i.toNat) = true) ∧ Aside0 (Below w.heap.size w wr) ∧ Aside0 (wr.heap[w.heap.size]? = some (.cells #[.int .i64 0, .slice none 0 0] 31 (0, 0))))
    (fun p _ _ => l.length - (intOf p).toNat)
  case atStart => exact ⟨0, by omega, by omega, rfl, ⟨Kd.R_nil _ _ _ _ _⟩, ⟨rfl⟩, ⟨below_alloc (Below.refl _ _) _⟩, ⟨heap_alloc_new _ _⟩⟩
  case round =>
    obtain ⟨i, hi0, hi, rfl, HO, HK, HB, HBK⟩ := hrel
    have hbk := HBK.out
    have g0 : wr.cell? ⟨w.heap.size, 0, none⟩ = some (.int .i64 0) := (blk_cell hbk 0).trans rfl
    have g1 : wr.cell? ⟨w.heap.size, 1, none⟩ = some (.slice none 0 0) := (blk_cell hbk 1).trans rfl
    have f0 : wr.frozen? ⟨w.heap.size, 0, none⟩ = false := blk_frozen hbk 0
    have f1 : wr.frozen? ⟨w.heap.size, 1, none⟩ = false := blk_frozen hbk 1
    have hsz : w.heap.size < wr.heap.size := (Array.getElem?_eq_some_iff.1 hbk).1
    clear hbk
    have HC := Aside0.mk (Kd.C_below HR.out HB.out)
    by_cases hlt : i < l.length
    · obtain ⟨ad, e, x0, x1⟩ := at_T69 HC.out i (by omega) (by omega)
      cases e
      have HN := Aside0.mk (keepE_next l i hi0 hlt)
      have HM := Aside0.mk (okE_next n l i hi0 hlt)
      have HBAD := Aside0.mk (okE_bad n l i hi0 hlt)
      obtain ⟨a, ha⟩ : ∃ a, (rd_T69 l i).f0 = a := ⟨_, rfl⟩
      obtain ⟨b, hb⟩ : ∃ a, (rd_T69 l i).f1 = a := ⟨_, rfl⟩
      rw [ha] at x0
      rw [hb] at x1
      rw [ha, hb] at HN HM HBAD
      clear ha hb
      obtain ⟨p, hp⟩ : ∃ p, min a b = p := ⟨_, rfl⟩
      obtain ⟨q, hq⟩ : ∃ q, max a b = q := ⟨_, rfl⟩
      rw [hp, hq] at HN HM HBAD
      by_cases c1 : p < 0
      · have d1 : decide (p < 0) = true := decide_eq_true c1
        have hf : (r1, r2, r3) = ((0 : Int), ([] : List S69), (4 : Int)) := by rw [← HRR.out, HBAD.out (.inl c1)]; rfl
        simp only [Prod.mk.injEq] at hf
        obtain ⟨rfl, rfl, rfl⟩ := hf
        go_wp2
        refine bodyPost_ret (v := .tuple #[.agg #[.int .i64 0, .slice none 0 0], .int .i64 4]) ?_ rfl ?_
        · have hbk2 := blk_alloc (blk_put (blk_put HBK.out 0 (.int .i64 0) rfl) 1 (.slice none 0 0) rfl) (.cells #[.int .i64 a, .int .i64 b] 69)
          have c0 := (blk_cell hbk2 0).trans rfl
          have c1 := (blk_cell hbk2 1).trans rfl
          simp [results, Try.f62, go_sem, c0, c1]
        · exact ⟨_, rfl, Kd.R_nil _ _ _ _ _, below_alloc (below_set (below_set HB.out (Nat.le_refl _)) (Nat.le_refl _)) _⟩
      have d1 : decide (p < 0) = false := decide_eq_false c1
      by_cases c2 : n ≤ q
      · have d2 : decide (n ≤ q) = true := decide_eq_true c2
        have hf : (r1, r2, r3) = ((0 : Int), ([] : List S69), (4 : Int)) := by rw [← HRR.out, HBAD.out (.inr c2)]; rfl
        simp only [Prod.mk.injEq] at hf
        obtain ⟨rfl, rfl, rfl⟩ := hf
        go_wp2
        refine bodyPost_ret (v := .tuple #[.agg #[.int .i64 0, .slice none 0 0], .int .i64 4]) ?_ rfl ?_
        · have hbk2 := blk_alloc (blk_put (blk_put HBK.out 0 (.int .i64 0) rfl) 1 (.slice none 0 0) rfl) (.cells #[.int .i64 a, .int .i64 b] 69)
          have c0 := (blk_cell hbk2 0).trans rfl
          have c1 := (blk_cell hbk2 1).trans rfl
          simp [results, Try.f62, go_sem, c0, c1]
        · exact ⟨_, rfl, Kd.R_nil _ _ _ _ _, below_alloc (below_set (below_set HB.out (Nat.le_refl _)) (Nat.le_refl _)) _⟩
      have d2 : decide (n ≤ q) = false := decide_eq_false c2
      have HM' : Aside0 (okE n (l.take (i + 1).toNat) = true) := ⟨by rw [HM.out, HK.out, decide_eq_true (by omega), decide_eq_true (by omega)]; rfl⟩
      by_cases c3 : a = b
      · subst c3
        go_wp2
        go_roundw
        case rel =>
          refine ⟨i + 1, by omega, by omega, rfl, ⟨?_⟩, HM', ⟨below_alloc HB.out _⟩, ⟨(Below.heap_alloc _ _ _ hsz).trans HBK.out⟩⟩
          rw [HN.out, if_pos rfl, List.append_nil]
          exact Kd.R_alloc HO.out _
        case measure => simp [intOf]; omega
      · have hkl := keepE_len (l.take i.toNat)
        have htl : (l.take i.toNat).length ≤ l.length := by rw [List.length_take]; omega
        go_wp2_with (at_builtin; refine Kd.R_append k69 (w0 := w) w.heap.size rfl (.tmp 44) (.tmp 56) 22 69 (.agg #[(.int .i64 0), (.int .i64 0)]) 16 rfl Try.underlying22 info69 rfl (by decide) (by omega) u6 (keepE (l.take i.toNat)) (⟨p, q⟩ : S69) [.int .i64 p, .int .i64 q] (fun _ => True) (fun _ => False) rfl ?aX ?aP (fun _ hk => hk.elim) ?aF ?aO ?aB ?aS ?aL ?_; (case aX => rw [World.size_alloc]; rfl); (case aP => exact k69_mkM _ _ _ (⟨p, q⟩ : S69)); (case aF => exact fun _ _ => trivial); (case aO => exact Kd.R_alloc HO.out _); (case aB => exact below_alloc HB.out _); (case aS => simp; omega); (case aL => omega); intro v1 w1 ho hb1 hg1 hat1)
        go_roundw
        case rel =>
          refine ⟨i + 1, by omega, by omega, rfl, ⟨?_⟩, HM', ⟨hb1⟩, ⟨blk_grown ((Below.heap_alloc _ _ _ hsz).trans HBK.out) hg1 (Kd.R_ne HO.out HBK.out (by decide))⟩⟩
          rw [HN.out, if_neg c3]
          exact ho
        case measure => simp [intOf]; omega
    · have hi' : i.toNat = l.length := by omega
      have HO' : Aside0 (Kd.R k69 69 wr w.heap.size (fun _ => True) u6 (keepE l)) := ⟨by have := HO.out; rwa [hi', List.take_length] at this⟩
      have HK' : Aside0 (okE n l = true) := ⟨by have := HK.out; rwa [hi', List.take_length] at this⟩
      have hkl := keepE_len l
      obtain ⟨A6, c6, hv6⟩ := Kd.R_slice HO'.out
      subst hv6
      have HS : Aside0 (Calls Try.prog 129 #[.slice A6 (keepE l).length c6, .func (.func 132) #[] #[]] wr fun e w' => e = .returned (.tuple #[]) ∧ Kd.R k69 69 w' w.heap.size (fun _ => True) (.slice A6 (keepE l).length c6) (sortE (keepE l)) ∧ Below w.heap.size w w' ∧ Kept wr w' (fun k_ => k_ ≠ w.heap.size)) := ⟨by
        have h := sortE_calls 132 (enters_of Try.func132 (by kernel_rfl) rfl) Normal1_laid (fun k => k ≠ w.heap.size) _ (keepE l) w wr HB.out ⟨fun k e h => Kd.R_ne HO'.out HBK.out (by decide) (by rw [e, h]), HO'.out.2.imp_ (fun x cs h => by rw [k69_openM h]; exact k69_mkM _ _ _ x)⟩ (by omega)
        exact h.mono fun e w' ⟨h1, h2, h3, h4⟩ => ⟨h1, Kd.R_mono h2 (fun _ _ => trivial), h3, h4⟩⟩
      have HCP : Aside0 (∀ w1 : World, Kd.R k69 69 w1 w.heap.size (fun _ => True) (.slice A6 (keepE l).length c6) (sortE (keepE l)) → Below w.heap.size w w1 → w1.heap[w.heap.size]? = some (.cells #[.int .i64 0, .slice none 0 0] 31 (0, 0)) →
          Calls Try.prog 131 #[.slice A6 (keepE l).length c6] w1 fun e w' => ∃ A' c', e = .returned (.slice A' (compactE (sortE (keepE l))).length c') ∧ Kd.R k69 69 w' w.heap.size (fun k => k ≠ w.heap.size) (.slice A' (compactE (sortE (keepE l))).length c') (compactE (sortE (keepE l))) ∧ Below w.heap.size w w' ∧ w'.heap[w.heap.size]? = some (.cells #[.int .i64 0, .slice none 0 0] 31 (0, 0))) := ⟨fun w1 h1 h2 h3 => by
        have h := compactE_calls (fun k => k ≠ w.heap.size) _ (sortE (keepE l)) w w1 h2 ⟨fun k e h => Kd.R_ne h1 h3 (by decide) (by rw [e, h]), h1.2.imp_ (fun x cs h => by rw [k69_openM h]; exact k69_mkM _ _ _ x)⟩ (by rw [sortE_len]; omega)
        refine h.mono ?_
        rintro e w' ⟨v', rfl, g2, g3, g4⟩
        obtain ⟨A', c', rfl⟩ := Kd.R_slice g2
        exact ⟨A', c', rfl, g2, g3, (g4.2 _ (Array.getElem?_eq_some_iff.1 h3).1 (fun h => h rfl)).trans h3⟩⟩
      have hcl := compG_len (sortE (keepE l)) none
      rw [sortE_len] at hcl
      have hcl' : (compactE (sortE (keepE l))).length ≤ (keepE l).length := hcl
      clear hcl
      have HRR' : Aside0 ((if 4000 < (compactE (sortE (keepE l))).length then ((0 : Int), ([] : List S69), (5 : Int)) else (n, compactE (sortE (keepE l)), 0)) = (r1, r2, r3)) := ⟨by rw [← HRR.out, if_pos HK'.out]⟩
      clear HRR
      obtain ⟨K, hK⟩ : ∃ K, compactE (sortE (keepE l)) = K := ⟨_, rfl⟩
      rw [hK] at HCP HRR' hcl'
      obtain ⟨S, hS⟩ : ∃ S, sortE (keepE l) = S := ⟨_, rfl⟩
      rw [hS] at HS HCP
      clear hK hS HO HO' HK HK'
      by_cases c4 : 4000 < (K.length : Int)
      · have hf := HRR'.out
        rw [if_pos (by omega)] at hf
        simp only [Prod.mk.injEq] at hf
        obtain ⟨rfl, rfl, rfl⟩ := hf
        go_wp2_with (first | (go_at_call 129; refine HS.out.mono ?_; rintro e w1 ⟨rfl, hr1, hb1, hk1⟩; have HX := HCP.out w1 hr1 hb1 ((hk1.2 _ (Array.getElem?_eq_some_iff.1 HBK.out).1 (fun h => h rfl)).trans HBK.out); clear hr1 hb1 hk1) | (go_at_call 131; refine HX.mono ?_; rintro e w2 ⟨A', c', rfl, hr2, hb2, hbk2⟩; clear HX; have g0 : w2.cell? ⟨w.heap.size, 0, none⟩ = some (.int .i64 0) := (blk_cell hbk2 0).trans rfl; have g1 : w2.cell? ⟨w.heap.size, 1, none⟩ = some (.slice none 0 0) := (blk_cell hbk2 1).trans rfl; have f0 : w2.frozen? ⟨w.heap.size, 0, none⟩ = false := blk_frozen hbk2 0; have f1 : w2.frozen? ⟨w.heap.size, 1, none⟩ = false := blk_frozen hbk2 1; have HB2 := Aside0.mk (And.intro hr2 (And.intro hb2 hbk2)); clear hr2 hb2 hbk2))
        refine bodyPost_ret (v := .tuple #[.agg #[.int .i64 0, .slice none 0 0], .int .i64 5]) ?_ rfl ?_
        · have hbk3 := blk_put (blk_put HB2.out.2.2 0 (.int .i64 0) rfl) 1 (.slice none 0 0) rfl
          have c0 := (blk_cell hbk3 0).trans rfl
          have c1 := (blk_cell hbk3 1).trans rfl
          simp [results, Try.f62, go_sem, c0, c1]
        · exact ⟨_, rfl, Kd.R_nil _ _ _ _ _, below_set (below_set HB2.out.2.1 (Nat.le_refl _)) (Nat.le_refl _)⟩
      · have hf := HRR'.out
        rw [if_neg (by omega)] at hf
        simp only [Prod.mk.injEq] at hf
        obtain ⟨rfl, rfl, rfl⟩ := hf
        go_wp2_with (first | (go_at_call 129; refine HS.out.mono ?_; rintro e w1 ⟨rfl, hr1, hb1, hk1⟩; have HX := HCP.out w1 hr1 hb1 ((hk1.2 _ (Array.getElem?_eq_some_iff.1 HBK.out).1 (fun h => h rfl)).trans HBK.out); clear hr1 hb1 hk1) | (go_at_call 131; refine HX.mono ?_; rintro e w2 ⟨A', c', rfl, hr2, hb2, hbk2⟩; clear HX; have g0 : w2.cell? ⟨w.heap.size, 0, none⟩ = some (.int .i64 0) := (blk_cell hbk2 0).trans rfl; have g1 : w2.cell? ⟨w.heap.size, 1, none⟩ = some (.slice none 0 0) := (blk_cell hbk2 1).trans rfl; have f0 : w2.frozen? ⟨w.heap.size, 0, none⟩ = false := blk_frozen hbk2 0; have f1 : w2.frozen? ⟨w.heap.size, 1, none⟩ = false := blk_frozen hbk2 1; have HB2 := Aside0.mk (And.intro hr2 (And.intro hb2 hbk2)); clear hr2 hb2 hbk2))
        refine bodyPost_ret (v := .tuple #[.agg #[.int .i64 n, .slice A' K.length c'], .int .i64 0]) ?_ rfl ?_
        · have hbk3 := blk_put (blk_put HB2.out.2.2 0 (.int .i64 n) rfl) 1 (.slice A' K.length c') rfl
          have c0 := (blk_cell hbk3 0).trans rfl
          have c1 := (blk_cell hbk3 1).trans rfl
          simp [results, Try.f62, go_sem, c0, c1]
        · exact ⟨_, rfl, Kd.R_mono (Kd.R_far (Kd.R_far HB2.out.1 (fun _ h => h) _) (fun _ h => h) _) (fun _ _ => trivial), below_set (below_set HB2.out.2.1 (Nat.le_refl _)) (Nat.le_refl _)⟩
def graph_Normal.f (n : Int) (l : List S69) : Option (Int × List S69 × Int) := if l.length ≤ 1000000 then some (normG n l) else none
theorem graph_Normal.calls (a0 : Int) (A1 : Option Addr) (c1 : Nat) (l1 : List (S69)) (r1 : Int) (r2 : List (S69)) (r3 : Int) (w : World) (hr1 : Kd.C k69 w A1 l1.length l1) (hc1 : l1.length ≤ c1) (h : graph_Normal.f a0 l1 = some (r1, r2, r3)) :
    Calls Try.prog 62 #[.int .i64 a0, .slice A1 l1.length c1] w fun e w' => ∃ v1_ : Value, e = .returned (.tuple #[.agg #[.int .i64 r1, v1_], .int .i64 r3]) ∧ Kd.R k69 69 w' w.heap.size (fun _ => True) v1_ r2 ∧ Below w.heap.size w w' := by
  by_cases hl : l1.length ≤ 1000000
  · rw [graph_Normal.f, if_pos hl] at h
    simp only [Option.some.injEq] at h
    have := normal_calls a0 A1 c1 l1 w hr1 hc1 hl
    rw [h] at this
    exact this
  · rw [graph_Normal.f, if_neg hl] at h
    cases h
end Go.Proofs.Ytkemhnfaheplhaa.F
namespace Go.Proofs.Ytkemhnfaheplhaa.F
open Go.RowKit Go.Proofs.YtkemhnfaheplhaaW.PrintWords Go.Proofs.YtkemhnfaheplhaaW.PrintLast Go.Proofs.YtkemhnfaheplhaaW.PrintMore Go.Proofs.Ytkemhnfaheplhaa.Mix
set_option linter.unusedVariables false
set_option linter.unusedSimpArgs false
def stepsE : List Int → List S69
  | a :: b :: r => ⟨min a b, max a b⟩ :: stepsE (b :: r)
  | _ => []
theorem stepsE_len : ∀ p : List Int, (stepsE p).length = p.length - 1
  | [] => rfl
  | [_] => rfl
  | a :: b :: r => by rw [stepsE, List.length_cons, stepsE_len (b :: r)]; simp
theorem stepsE_get : ∀ (p : List Int) (j : Nat) (h : j < (stepsE p).length), (stepsE p)[j] = ⟨min (p.getD j 0) (p.getD (j + 1) 0), max (p.getD j 0) (p.getD (j + 1) 0)⟩
  | [], j, h => by simp [stepsE] at h
  | [_], j, h => by simp [stepsE] at h
  | a :: b :: r, 0, h => by simp [stepsE]
  | a :: b :: r, j + 1, h => by
    have := stepsE_get (b :: r) j (by simpa [stepsE] using h)
    simp only [stepsE, List.getElem_cons_succ, this]
    simp
theorem stepsE_next (p : List Int) (j : Int) (h0 : 0 ≤ j) (hj : j < (p.length : Int) - 1) : (stepsE p).take (j + 1).toNat = (stepsE p).take j.toNat ++ [⟨min (rd p j) (rd p (j + 1)), max (rd p j) (rd p (j + 1))⟩] := by
  have hl := stepsE_len p
  have hj' : j.toNat < (stepsE p).length := by omega
  rw [show (j + 1).toNat = j.toNat + 1 by omega, List.take_succ_eq_append_getElem hj', stepsE_get p j.toNat hj']
  simp only [rd, show (j + 1).toNat = j.toNat + 1 by omega]
def allE (paths : List (List Int)) : List S69 := paths.flatMap stepsE
def edgesL (paths : List (List Int)) : List S69 := compactE (sortE (allE paths))
theorem allE_next (l : List (List Int)) (i : Int) (h0 : 0 ≤ i) (hi : i < l.length) : allE (l.take (i + 1).toNat) = allE (l.take i.toNat) ++ stepsE (rd_L14 l i) := by
  have hi' : i.toNat < l.length := by omega
  have e : rd_L14 l i = l[i.toNat] := by simp [rd_L14, List.getD_eq_getElem?_getD, hi']
  rw [show (i + 1).toNat = i.toNat + 1 by omega, List.take_succ_eq_append_getElem hi', e]
  simp only [allE, List.flatMap_append, List.flatMap_cons, List.flatMap_nil, List.append_nil]
theorem allE_len : ∀ l : List (List Int), (allE l).length ≤ l.flatten.length
  | [] => by simp [allE]
  | p :: l => by
    have := allE_len l
    have h2 := stepsE_len p
    have e : allE (p :: l) = stepsE p ++ allE l := by simp [allE]
    rw [e, List.length_append, List.flatten_cons, List.length_append]
    omega
set_option maxHeartbeats 4000000 in
set_option maxRecDepth 100000 in
theorem topoEdges_calls (k : Int) (T : Option Addr) (ct : Nat) (tops : List Int) (B : Option Addr) (cp : Nat) (paths : List (List Int)) (w : World)
    (ht : Kd.C (Kd.int .i64) w T tops.length tops) (hct : tops.length ≤ ct) (hp : Kd.C (Kd.slice 3 (Kd.int .i64)) w B paths.length paths) (hcp : paths.length ≤ cp) (hf : paths.flatten.length ≤ 8000000) :
    Calls Try.prog 60 #[.agg #[.int .i64 k, .slice T tops.length ct, .slice B paths.length cp]] w fun e w' => ∃ v, e = .returned v ∧ Kd.R k69 69 w' w.heap.size (fun _ => True) v (edgesL paths) ∧ Below w.heap.size w w' := by
  have huS := Try.underlying36
  have HP := Aside0.mk hp
  have hpl : (paths.length : Int) ≤ 9223372036854775807 := by have := hp.2.1; omega
  clear ht hp
  obtain ⟨res, hres⟩ : ∃ res, edgesL paths = res := ⟨_, rfl⟩
  rw [hres]
  have HRES := Aside0.mk hres
  clear hres
  go_enter Try.func60, Try.ntmps60
  go_wp2
  go_loopw [10, 3] (fun p v wr => ∃ i : Int, 0 ≤ i ∧ i ≤ paths.length ∧ p = .int .i64 i ∧ Aside0 (Kd.R k69 69 wr w.heap.size (fun _ => True) v (allE (paths.take i.toNat))) ∧ Aside0 (Below w.heap.size w wr))
    (fun p _ _ => paths.length - (intOf p).toNat)
  case atStart => exact ⟨0, by omega, by omega, rfl, ⟨Kd.R_nil _ _ _ _ _⟩, ⟨below_alloc (Below.refl _ _) _⟩⟩
  case round =>
    obtain ⟨i, hi0, hi, rfl, HO, HB⟩ := hrel
    by_cases hlt : i < paths.length
    · obtain ⟨adp, P0, cp0, e, x0, hcp0, hC0⟩ := at_L14 HP.out i hi0 hlt
      cases e
      have x0 := pw_cell_below HB.out x0
      have HC0 := Aside0.mk hC0
      have HN := Aside0.mk (allE_next paths i hi0 hlt)
      have hle : (allE (paths.take i.toNat) ++ stepsE (rd_L14 paths i)).length ≤ 8000000 := by
        rw [← HN.out]
        exact Nat.le_trans (allE_len _) (Nat.le_trans (flat_le paths _) hf)
      have hpm : ((rd_L14 paths i).length : Int) ≤ 9223372036854775807 := by have := hC0.2.1; omega
      obtain ⟨p, hp⟩ : ∃ p, rd_L14 paths i = p := ⟨_, rfl⟩
      rw [hp] at x0 hcp0 HC0 HN hle hpm
      rw [List.length_append] at hle
      clear hp hC0
      obtain ⟨m, hm⟩ : ∃ m, (p.length : Int) - 1 = m := ⟨_, rfl⟩
      have hw1 : IntKind.i64.wrap ((p.length : Int) - 1) = m := (IntWalk.i64_in _ (by omega)).trans hm
      have hsl := stepsE_len p
      obtain ⟨A0, hA0⟩ : ∃ X, allE (paths.take i.toNat) = X := ⟨_, rfl⟩
      rw [hA0] at HO HN hle
      clear hA0
      go_wp2
      go_loopw [17, 3] (fun q v wi => ∃ j : Int, 0 ≤ j ∧ (j ≤ m ∨ j = 0) ∧ q = .int .i64 j ∧ Aside0 (Kd.R k69 69 wi w.heap.size (fun _ => True) v (A0 ++ (stepsE p).take j.toNat)) ∧ Aside0 (Below w.heap.size w wi))
        (fun q _ _ => m.toNat - (intOf q).toNat)
      case atStart => exact ⟨0, by omega, .inr rfl, rfl, ⟨by simpa using HO.out⟩, HB⟩
      case round =>
        obtain ⟨j, hj0, hj, rfl, HO2, HB2⟩ := hrel
        by_cases hlt2 : j < m
        · have hw2 : IntKind.i64.wrap (j + 1) = j + 1 := IntWalk.i64_in _ (by omega)
          obtain ⟨ap, e, y0⟩ := Kd.at_int (Kd.C_below HC0.out HB2.out) j hj0 (by omega)
          subst e
          obtain ⟨_, e, y1⟩ := Kd.at_int (Kd.C_below HC0.out HB2.out) (j + 1) (by omega) (by omega)
          cases e
          have hb1 : j < (p.length : Int) := by omega
          have hb2 : j + 1 < (p.length : Int) := by omega
          have hb3 : 0 ≤ j + 1 := by omega
          have HNX := Aside0.mk (stepsE_next p j hj0 (by omega))
          obtain ⟨a, ha⟩ : ∃ a, rd p j = a := ⟨_, rfl⟩
          obtain ⟨b, hb⟩ : ∃ a, rd p (j + 1) = a := ⟨_, rfl⟩
          rw [ha] at y0 HNX
          rw [hb] at y1 HNX
          clear ha hb
          have hse : (A0 ++ (stepsE p).take j.toNat).length ≤ 8000000 := by rw [List.length_append, List.length_take]; omega
          have z0 : ∀ x : BW wr, x.val.cell? (ap.add j.toNat) = some (.int .i64 a) := fun x => bw_cell x y0
          have z1 : ∀ x : BW wr, x.val.cell? (ap.add (j + 1).toNat) = some (.int .i64 b) := fun x => bw_cell x y1
          clear y0 y1
          go_wp2
          refine region_mix 23 (fun i => i == 22 || i == 23) (by kernel_rfl) (by kernel_rfl) ?_
          refine mix_quiet 22 (by decide) (by decide) (Below.refl _ _).drew ?_
          simp only [List.take_succ_cons, List.take_zero, List.drop_succ_cons, List.drop_zero]
          repeat (go_big_quiet_step (fail))
          refine wpQuiet_nil ?_
          refine mix_eff (by rfl) (cm_of (Below.refl _ _).drew) ?_
          go_wp2
          refine ⟨cm_of (bwNA wr 1 _), ?_⟩
          refine mix_eff (by rfl) (cm_late (Nat.le_refl _)) ?_
          refine Kd.R_append k69 (w0 := w) (W := wr.drewN 1) w.heap.size rfl (.tmp 20) (.tmp 42) 22 69 (.agg #[(.int .i64 0), (.int .i64 0)]) 16 rfl Try.underlying22 info69 rfl (by decide) (by omega) u3 (A0 ++ (stepsE p).take j.toNat) (⟨min a b, max a b⟩ : S69) [.int .i64 (min a b), .int .i64 (max a b)] (fun _ => True) (fun _ => False) rfl ?aX ?aP (fun _ hk => hk.elim) ?aF ?aO ?aB ?aS ?aL ?_
          case aX => rfl
          case aP => exact k69_mkM _ _ _ (⟨min a b, max a b⟩ : S69)
          case aF => exact fun _ _ => trivial
          case aO => exact Kd.R_drewN HO2.out 1
          case aB => exact pw_below_drewN HB2.out 1
          case aS => exact HB2.out.size
          case aL => omega
          intro v1 w1 ho hb1' hg1 hat1
          have HO3 := Aside0.mk ho
          have HB3 := Aside0.mk hb1'
          clear ho hb1' hg1 hat1
          refine wpList_nil ?_
          refine ⟨rfl, cm_late (Nat.le_refl _), ?_⟩
          simp only [Act.put, List.setIfInBounds_toArray, List.set_cons_zero, List.set_cons_succ]
          refine mix_late 1 (by decide) (by decide) ?_
          simp only [List.take_succ_cons, List.take_zero, List.drop_succ_cons, List.drop_zero]
          repeat (go_big_quiet_step (fail))
          refine wpQuiet_nil ?_
          refine mix_done ?_
          go_wp2
          go_roundw
          case rel => exact ⟨j + 1, by omega, .inl (by omega), rfl, ⟨by rw [HNX.out, ← List.append_assoc]; exact HO3.out⟩, HB3⟩
          case measure => simp [intOf]; omega
        · have hst : (stepsE p).take j.toNat = stepsE p := List.take_of_length_le (by omega)
          go_wp2
          go_roundw
          case rel => exact ⟨i + 1, by omega, by omega, rfl, ⟨by rw [HN.out, ← hst]; exact HO2.out⟩, HB2⟩
          case measure => simp [intOf]; omega
    · have hi' : i.toNat = paths.length := by omega
      have HO' : Aside0 (Kd.R k69 69 wr w.heap.size (fun _ => True) u3 (allE paths)) := ⟨by have := HO.out; rwa [hi', List.take_length] at this⟩
      have hal := allE_len paths
      have HS := Aside0.mk (sortE_calls 130 (enters_of Try.func130 (by kernel_rfl) rfl) Edges1_laid (fun _ => True) u3 (allE paths) w wr HB.out HO'.out (by omega))
      have HCP : Aside0 (∀ w1 : World, Kd.R k69 69 w1 w.heap.size (fun _ => True) u3 (sortE (allE paths)) → Below w.heap.size w w1 → Calls Try.prog 131 #[u3] w1 fun e w' => ∃ v', e = .returned v' ∧ Kd.R k69 69 w' w.heap.size (fun _ => True) v' (compactE (sortE (allE paths))) ∧ Below w.heap.size w w') := ⟨fun w1 h1 h2 =>
        (compactE_calls (fun _ => True) u3 (sortE (allE paths)) w w1 h2 h1 (by rw [sortE_len]; omega)).mono fun e w' ⟨v', a, b, c, _⟩ => ⟨v', a, b, c⟩⟩
      obtain ⟨K, hK⟩ : ∃ K, compactE (sortE (allE paths)) = K := ⟨_, rfl⟩
      rw [hK] at HCP
      have HK : Aside0 (K = res) := ⟨by rw [← HRES.out, ← hK]; rfl⟩
      obtain ⟨S, hS⟩ : ∃ S, sortE (allE paths) = S := ⟨_, rfl⟩
      rw [hS] at HS HCP
      clear hK hS
      go_wp2_with (first | (go_at_call 129; refine HS.out.mono ?_; rintro e w1 ⟨rfl, hr1, hb1, hk1⟩; have HX := Aside0.mk (HCP.out w1 hr1 hb1); clear hr1 hb1 hk1) | (go_at_call 131; refine HX.out.mono ?_; rintro e w2 ⟨v2, rfl, hr2, hb2⟩; have HF := Aside0.mk (And.intro hr2 hb2); clear hr2 hb2 HX))
      go_ret
      exact ⟨_, rfl, by rw [← HK.out]; exact HF.out.1, HF.out.2⟩
end Go.Proofs.Ytkemhnfaheplhaa.F
namespace Go.Proofs.Ytkemhnfaheplhaa.F
open Go.RowKit Go.Proofs.YtkemhnfaheplhaaW.PrintWords Go.Proofs.YtkemhnfaheplhaaW.PrintLast Go.Proofs.YtkemhnfaheplhaaW.PrintMore
set_option linter.unusedVariables false
set_option linter.unusedSimpArgs false
theorem sorted_unique {α : Type} {le : α → α → Prop} (anti : ∀ a b, le a b → le b a → a = b) : ∀ {l m : List α}, l.Perm m → l.Pairwise le → m.Pairwise le → l = m
  | [], m, h, _, _ => (List.nil_perm.1 h).symm
  | a :: l, [], h, _, _ => absurd h.length_eq (by simp)
  | a :: l, b :: m, h, h1, h2 => by
    have e : a = b := by
      have ha : a ∈ b :: m := h.subset (by simp)
      have hb : b ∈ a :: l := h.symm.subset (by simp)
      rcases List.mem_cons.1 ha with e | ha
      · exact e
      · rcases List.mem_cons.1 hb with e | hb
        · exact e.symm
        · exact anti a b ((List.pairwise_cons.1 h1).1 b hb) ((List.pairwise_cons.1 h2).1 a ha)
    subst e
    rw [sorted_unique anti (List.perm_cons a |>.1 h) (List.pairwise_cons.1 h1).2 (List.pairwise_cons.1 h2).2]
theorem insR_perm (x : Int) (out : List Int) : (insR x out).Perm (x :: out) := by
  have h := List.take_append_drop (posR x out out.length) out
  conv => rhs; rw [← h]
  exact List.perm_middle
theorem posR_spec (x : Int) (out : List Int) : ∀ k, k ≤ out.length → (∀ i, posR x out k ≤ i → i < k → x < rd out i) ∧ (0 < posR x out k → rd out ((posR x out k - 1 : Nat) : Int) ≤ x)
  | 0, _ => ⟨fun i _ h => absurd h (by omega), fun h => by simp [posR] at h⟩
  | k + 1, hk => by
    have ih := posR_spec x out k (by omega)
    simp only [posR]
    by_cases h : x < rd out (k : Int)
    · rw [if_pos h]
      refine ⟨fun i h1 h2 => ?_, ih.2⟩
      by_cases hi : i = k
      · subst hi; exact h
      · exact ih.1 i h1 (by omega)
    · rw [if_neg h]
      refine ⟨fun i h1 h2 => by omega, fun _ => ?_⟩
      simp only [Nat.add_sub_cancel]
      omega
theorem insR_sorted (x : Int) (out : List Int) (h : out.Pairwise (· ≤ ·)) : (insR x out).Pairwise (· ≤ ·) := by
  have hp := posR_le x out out.length
  have hs := posR_spec x out out.length (Nat.le_refl _)
  rw [insR, List.pairwise_append]
  have hget : ∀ (i : Nat) (hi : i < out.length), rd out i = out[i] := fun i hi => by simp [rd, List.getD_eq_getElem?_getD, hi]
  have hle : ∀ y ∈ out.take (posR x out out.length), y ≤ x := by
    intro y hy
    obtain ⟨i, hi, rfl⟩ := List.getElem_of_mem hy
    rw [List.length_take] at hi
    have h1 := hs.2 (by omega)
    rw [hget _ (by omega)] at h1
    rw [List.getElem_take]
    by_cases e : i = posR x out out.length - 1
    · subst e; exact h1
    · exact Int.le_trans (List.pairwise_iff_getElem.1 h i _ (by omega) (by omega) (by omega)) h1
  have hgt : ∀ y ∈ out.drop (posR x out out.length), x ≤ y := by
    intro y hy
    obtain ⟨i, hi, rfl⟩ := List.getElem_of_mem hy
    rw [List.length_drop] at hi
    have h1 := hs.1 (posR x out out.length + i) (by omega) (by omega)
    rw [hget _ (by omega)] at h1
    rw [List.getElem_drop]
    omega
  refine ⟨h.sublist (List.take_sublist _ _), ?_, fun a ha b hb => ?_⟩
  · rw [List.pairwise_cons]
    exact ⟨hgt, h.sublist (List.drop_sublist _ _)⟩
  · rcases List.mem_cons.1 hb with rfl | hb
    · exact hle a ha
    · exact Int.le_trans (hle a ha) (hgt b hb)
theorem sortedR_spec (l : List Int) : (sortedR l).Perm l ∧ (sortedR l).Pairwise (· ≤ ·) := by
  have : ∀ (l out : List Int), out.Pairwise (· ≤ ·) → (l.foldl (fun out x => insR x out) out).Perm (out ++ l) ∧ (l.foldl (fun out x => insR x out) out).Pairwise (· ≤ ·) := by
    intro l
    induction l with
    | nil => intro out h; simpa using h
    | cons x l ih =>
      intro out h
      rw [List.foldl_cons]
      obtain ⟨h1, h2⟩ := ih (insR x out) (insR_sorted x out h)
      refine ⟨h1.trans ?_, h2⟩
      exact ((insR_perm x out).append_right l).trans List.perm_middle.symm
  have h := this l [] List.Pairwise.nil
  rw [List.nil_append] at h
  exact h
theorem sortI_eq (l : List Int) : sortI l = sortedR l :=
  sorted_unique (fun a b h1 h2 => Int.le_antisymm h1 h2) ((List.mergeSort_perm l _).trans (sortedR_spec l).1.symm) (sortI_sorted l) (sortedR_spec l).2
end Go.Proofs.Ytkemhnfaheplhaa.F
namespace Go.Proofs.Ytkemhnfaheplhaa.F
open Go.RowKit
set_option linter.unusedVariables false
set_option linter.unusedSimpArgs false
def ltP (x y : S69) : Prop := x.f0 < y.f0 ∨ (x.f0 = y.f0 ∧ x.f1 < y.f1)
def inE (N : Int) (x : S69) : Prop := 0 ≤ x.f0 ∧ x.f0 < x.f1 ∧ x.f1 < N
theorem ltP_trans {x y z : S69} (h : ltP x y) (k : ltP y z) : ltP x z := by unfold ltP at *; omega
theorem cmpE_lt (x y : S69) : cmpE x y < 0 ↔ ltP x y := by
  unfold cmpE cmpI ltP
  split <;> (repeat' split) <;> simp <;> omega
theorem chain_iff (N : Int) : ∀ (l : List S69) (p : Option S69), chainB N p l = true ↔ (∀ x ∈ l, inE N x) ∧ l.Pairwise ltP ∧ (∀ y, p = some y → ∀ x ∈ l, ltP y x)
  | [], p => by simp [chainB]
  | x :: r, p => by
    have ih := chain_iff N r (some x)
    simp only [chainB, Bool.and_eq_true, decide_eq_true_eq, ih, List.mem_cons, forall_eq_or_imp, List.pairwise_cons, inE, Option.some.injEq]
    constructor
    · rintro ⟨⟨⟨⟨h1, h2⟩, h3⟩, h4⟩, h5, h6, h7⟩
      refine ⟨⟨⟨h1, h2, h3⟩, h5⟩, ⟨fun y hy => h7 x rfl y hy, h6⟩, ?_⟩
      rintro y rfl
      have h4' := (cmpE_lt y x).1 (by simpa using h4)
      exact ⟨h4', fun z hz => ltP_trans h4' (h7 x rfl z hz)⟩
    · rintro ⟨⟨⟨h1, h2, h3⟩, h5⟩, ⟨h6, h7⟩, h8⟩
      refine ⟨⟨⟨⟨h1, h2⟩, h3⟩, ?_⟩, h5, h7, fun y hy z hz => by subst hy; exact h6 z hz⟩
      cases p with
      | none => rfl
      | some y => simpa using (cmpE_lt y x).2 (h8 y rfl).1
theorem right_iff (N : Int) (l : List S69) : rightB N l = true ↔ (0 ≤ N ∧ N ≤ 1000 ∧ l.length ≤ 4000) ∧ (∀ x ∈ l, inE N x) ∧ l.Pairwise ltP := by
  simp only [rightB, Bool.and_eq_true, decide_eq_true_eq, chain_iff]
  constructor
  · rintro ⟨⟨⟨h1, h2⟩, h3⟩, h4, h5, h6⟩; exact ⟨⟨h1, h2, by omega⟩, h4, h5⟩
  · rintro ⟨⟨h1, h2, h3⟩, h4, h5⟩; exact ⟨⟨⟨h1, h2⟩, by omega⟩, h4, h5, by simp⟩
theorem near_mem (N a b : Int) : ∀ (l : List S69), (∀ x ∈ l, inE N x) → l.Pairwise ltP → (b ∈ nearL a l ↔ (⟨a, b⟩ : S69) ∈ l ∨ (⟨b, a⟩ : S69) ∈ l)
  | [], _, _ => by simp [nearL]
  | x :: r, h, hp => by
    have ih := near_mem N a b r (fun y hy => h y (List.mem_cons_of_mem _ hy)) (List.pairwise_cons.1 hp).2
    have hx := h x List.mem_cons_self
    have hx' := (List.pairwise_cons.1 hp).1
    unfold inE at hx
    simp only [nearL]
    by_cases c : a < x.f0
    · rw [if_pos c]
      simp only [List.not_mem_nil, false_iff, not_or, List.mem_cons]
      refine ⟨?_, ?_⟩
      · refine ⟨fun e => ?_, fun e => ?_⟩
        · rw [← e] at c; simp at c
        · have := hx' _ e; unfold ltP at this; simp at this; omega
      · refine ⟨fun e => ?_, fun e => ?_⟩
        · rw [← e] at c hx; simp at c hx; omega
        · have h1 := hx' _ e; have h2 := h _ (List.mem_cons_of_mem _ e); unfold ltP at h1; unfold inE at h2; simp at h1 h2; omega
    · rw [if_neg c]
      simp only [List.mem_append, ih, List.mem_cons]
      cases x with
      | mk u v =>
      simp only [S69.mk.injEq]
      have e1 : (b ∈ (if v = a then [u] else [])) ↔ (b = u ∧ a = v) := by split <;> simp <;> omega
      have e2 : (b ∈ (if u = a then [v] else [])) ↔ (a = u ∧ b = v) := by split <;> simp <;> omega
      rw [e1, e2]
      constructor
      · rintro (h | h | h | h)
        · exact .inr (.inl h)
        · exact .inl (.inl h)
        · exact .inl (.inr h)
        · exact .inr (.inr h)
      · rintro ((h | h) | (h | h))
        · exact .inr (.inl h)
        · exact .inr (.inr (.inl h))
        · exact .inl h
        · exact .inr (.inr (.inr h))
theorem has_iff {N : Int} {l : List S69} (h : rightB N l = true) (a b : Int) : hasB N l a b = true ↔ (⟨a, b⟩ : S69) ∈ l ∨ (⟨b, a⟩ : S69) ∈ l := by
  obtain ⟨_, h1, h2⟩ := (right_iff N l).1 h
  simp [hasB, h, near_mem N a b l h1 h2]
theorem compG_mem {α : Type} [DecidableEq α] (y : α) : ∀ (l : List α) (p : Option α), (y ∈ compG p l ∨ p = some y) ↔ (y ∈ l ∨ p = some y)
  | [], p => by simp [compG]
  | x :: r, p => by
    by_cases h : p = some x
    · simp only [compG, if_pos h, compG_mem y r p, List.mem_cons]
      subst h
      simp only [Option.some.injEq]
      constructor
      · rintro (h | h) <;> simp [h]
      · rintro ((h | h) | h) <;> simp [h]
    · simp only [compG, if_neg h, List.mem_cons]
      have := compG_mem y r (some x)
      simp only [Option.some.injEq] at this
      constructor
      · rintro ((h | h) | h)
        · simp [h]
        · rcases this.1 (.inl h) with h | h <;> simp [h]
        · simp [h]
      · rintro ((h | h) | h)
        · simp [h]
        · rcases this.2 (.inl h) with h | h <;> simp [h]
        · simp [h]
theorem compactE_mem (l : List S69) (y : S69) : y ∈ compactE l ↔ y ∈ l := by simpa [compactE] using compG_mem y l none
theorem compG_sorted : ∀ (l : List S69) (p : Option S69), l.Pairwise (fun x y => ¬ ltP y x) → (∀ q, p = some q → ∀ x ∈ l, ¬ ltP x q) → (compG p l).Pairwise ltP ∧ ∀ q, p = some q → ∀ x ∈ compG p l, ltP q x
  | [], p, _, _ => by simp [compG]
  | x :: r, p, h, hp => by
    rw [List.pairwise_cons] at h
    by_cases c : p = some x
    · simp only [compG, if_pos c]
      exact compG_sorted r p h.2 (fun q hq y hy => hp q hq y (List.mem_cons_of_mem _ hy))
    · simp only [compG, if_neg c]
      have ih := compG_sorted r (some x) h.2 (fun q hq y hy => by cases hq; exact h.1 y hy)
      rw [List.pairwise_cons]
      have hq : ∀ q, p = some q → ltP q x := fun q hq => by
        have h1 := hp q hq x List.mem_cons_self
        have h2 : q ≠ x := fun e => c (by rw [hq, e])
        have h3 : ¬ (q.f0 = x.f0 ∧ q.f1 = x.f1) := fun e => h2 (by cases q; cases x; simp at e; simp [e])
        unfold ltP at h1 ⊢
        omega
      refine ⟨⟨fun y hy => ih.2 x rfl y hy, ih.1⟩, fun q hq' y hy => ?_⟩
      rcases List.mem_cons.1 hy with rfl | hy
      · exact hq q hq'
      · exact ltP_trans (hq q hq') (ih.2 x rfl y hy)
theorem ltOf_iff (x y : S69) : Go.Proofs.ltOf cmpE x y = true ↔ ltP x y := ltE x y
theorem sortE_sorted (l : List S69) : (sortE l).Pairwise (fun x y => ¬ ltP y x) := by
  have h : ∀ x y : S69, (!Go.Proofs.ltOf cmpE y x) = true ↔ ¬ ltP y x := fun x y => by
    rw [Bool.not_eq_true', ← Bool.not_eq_true, ltOf_iff]
  have := List.pairwise_mergeSort (le := fun x y => !Go.Proofs.ltOf cmpE y x) (fun a b c => by
      rw [h, h, h]; unfold ltP; omega) (fun a b => by
      rw [Bool.or_eq_true, h, h]; unfold ltP; omega) l
  exact this.imp (fun hab => (h _ _).1 hab)
theorem sortE_mem (l : List S69) (x : S69) : x ∈ sortE l ↔ x ∈ l := List.mem_mergeSort
theorem comp_sort_sorted (l : List S69) : (compactE (sortE l)).Pairwise ltP := (compG_sorted _ none (sortE_sorted l) (by simp)).1
theorem comp_sort_mem (l : List S69) (x : S69) : x ∈ compactE (sortE l) ↔ x ∈ l := by rw [compactE_mem, sortE_mem]
theorem keepE_mem (l : List S69) (x : S69) : x ∈ keepE l ↔ ∃ y ∈ l, y.f0 ≠ y.f1 ∧ x = ⟨min y.f0 y.f1, max y.f0 y.f1⟩ := by
  unfold keepE
  rw [List.mem_flatMap]
  constructor
  · rintro ⟨y, hy, h⟩
    split at h
    · simp at h
    · rename_i h'; exact ⟨y, hy, h', by simpa using h⟩
  · rintro ⟨y, hy, h, e⟩; exact ⟨y, hy, by simp [h, e]⟩
theorem norm_ok (n : Int) (l : List S69) (h0 : 0 ≤ n) (h1 : n ≤ 1000) (hl : l.length ≤ 4000) (hok : ∀ y ∈ l, 0 ≤ y.f0 ∧ y.f0 < n ∧ 0 ≤ y.f1 ∧ y.f1 < n) :
    ∃ E, normG n l = (n, E, 0) ∧ rightB n E = true ∧ (∀ x, x ∈ E ↔ ∃ y ∈ l, y.f0 ≠ y.f1 ∧ x = ⟨min y.f0 y.f1, max y.f0 y.f1⟩) ∧ E.length ≤ l.length := by
  have hlen : (compactE (sortE (keepE l))).length ≤ l.length := Nat.le_trans (compG_len _ _) (by rw [sortE_len]; exact keepE_len l)
  have hokE : okE n l = true := by
    simp only [okE, List.all_eq_true, Bool.and_eq_true, decide_eq_true_eq]
    intro y hy
    have := hok y hy
    omega
  refine ⟨compactE (sortE (keepE l)), ?_, ?_, ?_, hlen⟩
  · rw [normG, if_neg (by omega), if_neg (by omega), if_pos hokE, if_neg (by omega)]
  · rw [right_iff]
    refine ⟨⟨h0, h1, by omega⟩, fun x hx => ?_, comp_sort_sorted _⟩
    rw [comp_sort_mem, keepE_mem] at hx
    obtain ⟨y, hy, hne, rfl⟩ := hx
    have := hok y hy
    unfold inE
    simp only
    omega
  · intro x
    rw [comp_sort_mem, keepE_mem]
theorem sorted_ext {l m : List S69} (hl : l.Pairwise ltP) (hm : m.Pairwise ltP) (h : ∀ x, x ∈ l ↔ x ∈ m) : l = m := by
  induction l generalizing m with
  | nil =>
    cases m with
    | nil => rfl
    | cons y m => exact absurd ((h y).2 List.mem_cons_self) (by simp)
  | cons x l ih =>
    cases m with
    | nil => exact absurd ((h x).1 List.mem_cons_self) (by simp)
    | cons y m =>
      rw [List.pairwise_cons] at hl hm
      have irr : ∀ z : S69, ¬ ltP z z := fun z => by unfold ltP; omega
      have e : x = y := by
        rcases List.mem_cons.1 ((h x).1 List.mem_cons_self) with e | e
        · exact e
        · rcases List.mem_cons.1 ((h y).2 List.mem_cons_self) with e' | e'
          · exact e'.symm
          · exact absurd (ltP_trans (hl.1 y e') (hm.1 x e)) (irr _)
      subst e
      congr 1
      refine ih hl.2 hm.2 (fun z => ?_)
      constructor
      · intro hz
        rcases List.mem_cons.1 ((h z).1 (List.mem_cons_of_mem _ hz)) with e | e
        · exact absurd (hl.1 z hz) (by rw [e]; exact irr _)
        · exact e
      · intro hz
        rcases List.mem_cons.1 ((h z).2 (List.mem_cons_of_mem _ hz)) with e | e
        · exact absurd (hm.1 z hz) (by rw [e]; exact irr _)
        · exact e
end Go.Proofs.Ytkemhnfaheplhaa.F
namespace Go.Proofs.Ytkemhnfaheplhaa.F
open Go.RowKit Go.Proofs.YtkemhnfaheplhaaW.PrintWords Go.Proofs.YtkemhnfaheplhaaW.PrintLast Go.Proofs.YtkemhnfaheplhaaW.PrintMore
set_option linter.unusedVariables false
set_option linter.unusedSimpArgs false
def E9 : List S69 := [⟨0, 1⟩, ⟨0, 2⟩, ⟨0, 3⟩, ⟨1, 2⟩, ⟨1, 4⟩, ⟨2, 3⟩, ⟨3, 4⟩]
def P9 : List (List Int) := [[0, 1], [0, 2], [0, 3], [1, 2], [1, 4, 3], [2, 3]]
def unlikeC (l : List Int) : Bool := decide ((compG none (sortedR l)).length = l.length)
def apartC (l : List (List Int)) : Bool := l.all (rowApart (sortedR l.flatten))
theorem unlikeC_eq (l : List Int) : unlikeB l = unlikeC l := by unfold unlikeB unlikeC; rw [sortI_eq]
theorem apartC_eq (l : List (List Int)) : apartB l = apartC l := by unfold apartB apartC; rw [sortI_eq]
theorem isPathC_eq (N : Int) (E : List S69) (p : List Int) : isPathB N E p = (rightB N E && decide (0 < p.length) && decide (0 ≤ rd p 0) && decide (rd p 0 < N) && unlikeC p && stepsB N E p 0 (p.length - 1)) := by
  unfold isPathB; rw [unlikeC_eq]
theorem topo9 : topoB 5 E9 1 [0, 1, 2, 3] P9 = true := by
  unfold topoB
  rw [apartC_eq]
  simp only [P9, checkFrom, checkOne, isPathC_eq]
  decide +kernel
theorem topo0 : topoB 5 E9 0 [] [] = false := by
  unfold topoB
  rw [apartC_eq]
  decide +kernel
theorem sorted9 : sortP P9 = P9 := by
  unfold sortP
  refine List.mergeSort_of_pairwise ?_
  decide +kernel
theorem read9 : readL 5 E9 = some (1, [0, 1, 2, 3], P9, true) := by
  have h1 : rightB 5 E9 = true := by decide +kernel
  have h2 : topsFrom 0 (nearAll 5 E9) = some [0, 1, 2, 3] := by decide +kernel
  have h3 : pathsAll (nearAll 5 E9) [0, 1, 2, 3] = some P9 := by decide +kernel
  have h4 : noTie P9 = true := by decide +kernel
  have h5 : usedOf P9 = E9.length := by decide +kernel
  simp [readL, h1, h2, h3, h4, h5, sorted9, topo9]
theorem read0 : readL 3 [] = some (0, [], [], false) := by
  have h1 : rightB 3 [] = true := by decide +kernel
  have h2 : topsFrom 0 (nearAll 3 []) = some [] := by decide +kernel
  simp [readL, h1, h2]
theorem model9 : modelL 1 [0, 1, 2, 3] P9 = (1, [[0], [1, 4], [2], [3]]) := by decide +kernel
theorem edges9 : edgesL P9 = E9 := by
  have h1 : rightB 5 E9 = true := by decide +kernel
  have h2 : (allE P9).Perm E9 := by decide +kernel
  exact sorted_ext (comp_sort_sorted _) ((right_iff 5 E9).1 h1).2.2 (fun x => by rw [edgesL, comp_sort_mem]; exact h2.mem_iff)
end Go.Proofs.Ytkemhnfaheplhaa.F
namespace Go.Proofs.Ytkemhnfaheplhaa.F
open Go.RowKit Go.Proofs.YtkemhnfaheplhaaW.PrintWords Go.Proofs.YtkemhnfaheplhaaW.PrintLast Go.Proofs.YtkemhnfaheplhaaW.PrintMore Go.Proofs.Ytkemhnfaheplhaa.Mix
set_option linter.unusedVariables false
set_option linter.unusedSimpArgs false
theorem C_lit9 (w : World) : Kd.C k69 (w.alloc (.cells #[.int .i64 0, .int .i64 1, .int .i64 0, .int .i64 2, .int .i64 0, .int .i64 3, .int .i64 1, .int .i64 2, .int .i64 1, .int .i64 4, .int .i64 2, .int .i64 3, .int .i64 3, .int .i64 4] 69)) (some ⟨w.heap.size, 0, none⟩) 7 E9 := by
  have h := heap_alloc_new w (.cells #[.int .i64 0, .int .i64 1, .int .i64 0, .int .i64 2, .int .i64 0, .int .i64 3, .int .i64 1, .int .i64 2, .int .i64 1, .int .i64 4, .int .i64 2, .int .i64 3, .int .i64 3, .int .i64 4] 69)
  refine ⟨rfl, by decide, fun _ => ⟨_, rfl, fun j p hj => ⟨[.int .i64 p.f0, .int .i64 p.f1], rfl, k69_mk _ p, fun u x hu => ?_⟩⟩⟩
  rw [show (⟨w.heap.size, 0, none⟩ : Addr).add (j * k69.sz + u) = ⟨w.heap.size, j * 2 + u, none⟩ by rw [add_at rfl]; rfl]
  rw [blk_cell h]
  have hj' : j < 7 := (List.getElem?_eq_some_iff.1 hj).1
  have hu' : u < 2 := (List.getElem?_eq_some_iff.1 hu).1
  match j, hj', hj with
  | 0, _, hj => (cases hj; match u, hu', hu with | 0, _, hu => exact hu | 1, _, hu => exact hu)
  | 1, _, hj => (cases hj; match u, hu', hu with | 0, _, hu => exact hu | 1, _, hu => exact hu)
  | 2, _, hj => (cases hj; match u, hu', hu with | 0, _, hu => exact hu | 1, _, hu => exact hu)
  | 3, _, hj => (cases hj; match u, hu', hu with | 0, _, hu => exact hu | 1, _, hu => exact hu)
  | 4, _, hj => (cases hj; match u, hu', hu with | 0, _, hu => exact hu | 1, _, hu => exact hu)
  | 5, _, hj => (cases hj; match u, hu', hu with | 0, _, hu => exact hu | 1, _, hu => exact hu)
  | 6, _, hj => (cases hj; match u, hu', hu with | 0, _, hu => exact hu | 1, _, hu => exact hu)
set_option maxHeartbeats 4000000 in
set_option maxRecDepth 100000 in
theorem shown9_calls (w : World) : Calls Try.prog 16 #[] w fun e w' => e = .returned (.bool true) ∧ Below w.heap.size w w' := by
  have hu31 := Try.underlying31
  have huS := Try.underlying36
  have huM := Try.underlying62
  go_enter Try.func16, Try.ntmps16
  have HC9 := Aside0.mk (C_lit9 w)
  obtain ⟨Wa, hWa⟩ : ∃ Wa, w.alloc (.cells #[.int .i64 0, .int .i64 1, .int .i64 0, .int .i64 2, .int .i64 0, .int .i64 3, .int .i64 1, .int .i64 2, .int .i64 1, .int .i64 4, .int .i64 2, .int .i64 3, .int .i64 3, .int .i64 4] 69) = Wa := ⟨_, rfl⟩
  have hsa : Wa.heap.size = w.heap.size + 1 := by rw [← hWa]; simp
  have HBa : Aside0 (Below w.heap.size w Wa) := ⟨by rw [← hWa]; exact below_alloc (Below.refl _ _) _⟩
  rw [hWa] at HC9
  have HWA := Aside0.mk hWa
  clear hWa
  obtain ⟨Wb, hWb⟩ : ∃ Wb, Wa.alloc (.cells #[.int .i64 5, .slice (some ⟨w.heap.size, 0, none⟩) 7 7] 31) = Wb := ⟨_, rfl⟩
  have hsb : Wb.heap.size = w.heap.size + 2 := by rw [← hWb, World.size_alloc, hsa]
  have HBb : Aside0 (Below w.heap.size w Wb) := ⟨by rw [← hWb]; exact HBa.out.alloc (by omega) _⟩
  have HCb : Aside0 (Kd.C k69 Wb (some ⟨w.heap.size, 0, none⟩) 7 E9) := ⟨by rw [← hWb]; exact Kd.C_alloc HC9.out _⟩
  have HGb : Aside0 (Wb.heap[w.heap.size + 1]? = some (.cells #[.int .i64 5, .slice (some ⟨w.heap.size, 0, none⟩) 7 7] 31 (0, 0))) := ⟨by rw [← hWb]; have := heap_alloc_new Wa (.cells #[.int .i64 5, .slice (some ⟨w.heap.size, 0, none⟩) 7 7] 31); rwa [hsa] at this⟩
  have HWB := Aside0.mk hWb
  clear hWb
  have HRD : Aside0 (∀ (W : World), Kd.C k69 W (some ⟨w.heap.size, 0, none⟩) 7 E9 → Calls Try.prog 58 #[.agg #[.int .i64 5, .slice (some ⟨w.heap.size, 0, none⟩) 7 7]] W fun e w' => ∃ A1 c1 A2 c2, e = .returned (.tuple #[.agg #[.int .i64 1, .slice A1 4 c1, .slice A2 6 c2], .bool true]) ∧ 4 ≤ c1 ∧ Kd.C (Kd.int .i64) w' A1 4 [0, 1, 2, 3] ∧ 6 ≤ c2 ∧ Kd.C (Kd.slice 3 (Kd.int .i64)) w' A2 6 P9 ∧ Below W.heap.size W w') := ⟨fun W h => by
    refine (topoRead_calls 5 _ 7 E9 W h (by decide) 1 [0, 1, 2, 3] P9 true read9).mono ?_
    rintro e w' ⟨v1, v2, rfl, h1, h2, hb⟩
    obtain ⟨A1, c1, e⟩ := Kd.R_slice h1
    subst e
    obtain ⟨A2, c2, e⟩ := Kd.S_slice h2
    subst e
    exact ⟨A1, c1, A2, c2, rfl, (Kd.R_reads' h1).2.1, (Kd.R_reads' h1).2.2, (Kd.S_reads' h2).2.1, (Kd.S_reads' h2).2.2, hb⟩⟩
  have HMD : Aside0 (∀ (T B : Option Addr) (ct cp : Nat) (W : World), Kd.C (Kd.int .i64) W T 4 [0, 1, 2, 3] → 4 ≤ ct → Kd.C (Kd.slice 3 (Kd.int .i64)) W B 6 P9 → 6 ≤ cp → Calls Try.prog 30 #[.agg #[.int .i64 1, .slice T 4 ct, .slice B 6 cp]] W fun e w' => ∃ A c, e = .returned (.agg #[.int .i64 1, .slice A 4 c]) ∧ Kd.C (Kd.slice 3 (Kd.int .i64)) w' A 4 [[0], [1, 4], [2], [3]] ∧ Below W.heap.size W w') := ⟨fun T B ct cp W h1 h2 h3 h4 => by
    refine (topoModel_calls 1 T ct [0, 1, 2, 3] B cp P9 W h1 h2 h3 h4 (by decide)).mono ?_
    rintro e w' h
    rw [model9] at h
    obtain ⟨v, rfl, h5, h6⟩ := h
    obtain ⟨A, c, e⟩ := Kd.S_slice h5
    subst e
    exact ⟨A, c, rfl, (Kd.S_reads' h5).2.2, h6⟩⟩
  have HED : Aside0 (∀ (T B : Option Addr) (ct cp : Nat) (W : World), Kd.C (Kd.int .i64) W T 4 [0, 1, 2, 3] → 4 ≤ ct → Kd.C (Kd.slice 3 (Kd.int .i64)) W B 6 P9 → 6 ≤ cp → Calls Try.prog 60 #[.agg #[.int .i64 1, .slice T 4 ct, .slice B 6 cp]] W fun e w' => ∃ A c, e = .returned (.slice A 7 c) ∧ Below W.heap.size W w') := ⟨fun T B ct cp W h1 h2 h3 h4 => by
    refine (topoEdges_calls 1 T ct [0, 1, 2, 3] B cp P9 W h1 h2 h3 h4 (by decide)).mono ?_
    rintro e w' ⟨v, rfl, h5, h6⟩
    rw [edges9] at h5
    obtain ⟨A, c, rfl⟩ := Kd.R_slice h5
    exact ⟨A, c, rfl, h6⟩⟩
  have HR0 : Aside0 (∀ (W : World), Calls Try.prog 58 #[.agg #[.int .i64 3, .slice none 0 0]] W fun e w' => ∃ A c B d, e = .returned (.tuple #[.agg #[.int .i64 0, .slice A 0 c, .slice B 0 d], .bool false]) ∧ Below W.heap.size W w') := ⟨fun W => by
    refine (topoRead_calls 3 none 0 [] W (Kd.C_nil _ _) (by decide) 0 [] [] false read0).mono ?_
    rintro e w' ⟨v1, v2, rfl, h1, h2, h3⟩
    obtain ⟨A1, c1, e⟩ := Kd.R_slice h1
    subst e
    obtain ⟨A2, c2, e⟩ := Kd.S_slice h2
    subst e
    exact ⟨A1, c1, A2, c2, rfl, h3⟩⟩
  have HCK : Aside0 (∀ (T B : Option Addr) (ct cp : Nat) (W : World), Kd.C k69 W (some ⟨w.heap.size, 0, none⟩) 7 E9 → Kd.C (Kd.int .i64) W T 4 [0, 1, 2, 3] → 4 ≤ ct → Kd.C (Kd.slice 3 (Kd.int .i64)) W B 6 P9 → 6 ≤ cp → Calls Try.prog 20 #[.agg #[.int .i64 5, .slice (some ⟨w.heap.size, 0, none⟩) 7 7], .agg #[.int .i64 1, .slice T 4 ct, .slice B 6 cp]] W fun e w' => e = .returned (.bool true) ∧ Below W.heap.size W w') := ⟨fun T B ct cp W h0 h1 h2 h3 h4 => by
    have := topoCheck_calls 5 _ 7 E9 1 T ct [0, 1, 2, 3] B cp P9 W h0 (by decide) h1 h2 h3 h4 (by decide)
    rw [topo9] at this
    exact this⟩
  have HC0 : Aside0 (∀ (W : World), Kd.C k69 W (some ⟨w.heap.size, 0, none⟩) 7 E9 → Calls Try.prog 20 #[.agg #[.int .i64 5, .slice (some ⟨w.heap.size, 0, none⟩) 7 7], .agg #[.int .i64 0, .slice none 0 0, .slice none 0 0]] W fun e w' => e = .returned (.bool false) ∧ Below W.heap.size W w') := ⟨fun W h0 => by
    have := topoCheck_calls 5 _ 7 E9 0 none 0 [] none 0 [] W h0 (by decide) (Kd.C_nil _ _) (by decide) (Kd.C_nil _ _) (by decide) (by decide)
    rw [topo0] at this
    exact this⟩
  go_wp2_with (first | (go_at_call 58; rw [HWA.out, HWB.out]; (with_reducible refine (HRD.out _ HCb.out).mono ?_); rintro e w1 ⟨A1, c1, A2, c2, rfl, hc1, hC1, hc2, hC2, hb⟩; have hs1 := hb.size; have HG1 := Aside0.mk ((hb.block (w.heap.size + 1) (by omega)).trans HGb.out); have HV1 := Aside0.mk (And.intro hC1 hC2); have HB1 := Aside0.mk (HBb.out.trans (hb.mono (by omega))); have HE1 := Aside0.mk (Kd.C_below HCb.out hb); clear hC1 hC2 hb) | (go_at_call 30; (with_reducible refine (HMD.out _ _ _ _ _ (Kd.C_alloc HV1.out.1 _) hc1 (Kd.C_alloc HV1.out.2 _) hc2).mono ?_); rintro e w2 ⟨A3, c3, rfl, hC3, hb⟩; have hs2 := hb.size; rw [World.size_alloc] at hs2; have HS2 := Aside0.mk ((hb.block w1.heap.size (by rw [World.size_alloc]; exact Nat.lt_succ_self _)).trans (heap_alloc_new w1 (.cells #[.int .i64 1, .slice A1 4 c1, .slice A2 6 c2] 36))); have HG2 := Aside0.mk ((hb.block (w.heap.size + 1) (by rw [World.size_alloc]; omega)).trans (blk_alloc HG1.out _)); have hbb := (below_then (below_alloc (Below.refl _ _) _) (by rw [World.size_alloc]; omega) hb); have HV2 := Aside0.mk (And.intro (Kd.C_below HV1.out.1 hbb) (And.intro (Kd.C_below HV1.out.2 hbb) (And.intro hC3 (Kd.C_below HE1.out hbb)))); have HB2 := Aside0.mk (HB1.out.trans (hbb.mono (by have := HB1.out.size; omega))); clear hC3 hb hbb; have hz := blk_alloc HS2.out (.cells #[.int .i64 1, .slice A3 4 c3] 62); have s0 : (w2.alloc (.cells #[.int .i64 1, .slice A3 4 c3] 62)).cell? ⟨w1.heap.size, 0, none⟩ = some (.int .i64 1) := (blk_cell hz 0).trans rfl; have s1 : (w2.alloc (.cells #[.int .i64 1, .slice A3 4 c3] 62)).cell? ⟨w1.heap.size, 1, none⟩ = some (.slice A1 4 c1) := (blk_cell hz 1).trans rfl; have s2 : (w2.alloc (.cells #[.int .i64 1, .slice A3 4 c3] 62)).cell? ⟨w1.heap.size, 2, none⟩ = some (.slice A2 6 c2) := (blk_cell hz 2).trans rfl; clear hz) | (go_at_call 60; (with_reducible refine (HED.out _ _ _ _ _ (Kd.C_alloc HV2.out.1 _) hc1 (Kd.C_alloc HV2.out.2.1 _) hc2).mono ?_); rintro e w3 ⟨A6, c6, rfl, hb⟩; have hs3 := hb.size; rw [World.size_alloc] at hs3; have HM3 := Aside0.mk ((hb.block w2.heap.size (by rw [World.size_alloc]; exact Nat.lt_succ_self _)).trans (heap_alloc_new w2 (.cells #[.int .i64 1, .slice A3 4 c3] 62))); have HS3 := Aside0.mk ((hb.block w1.heap.size (by rw [World.size_alloc]; omega)).trans (blk_alloc HS2.out _)); have HG3 := Aside0.mk ((hb.block (w.heap.size + 1) (by rw [World.size_alloc]; omega)).trans (blk_alloc HG2.out _)); have hbb := (below_then (below_alloc (Below.refl _ _) _) (by rw [World.size_alloc]; omega) hb); have HV3 := Aside0.mk (And.intro (Kd.C_below HV2.out.1 hbb) (And.intro (Kd.C_below HV2.out.2.1 hbb) (And.intro (Kd.C_below HV2.out.2.2.1 hbb) (Kd.C_below HV2.out.2.2.2 hbb)))); have HB3 := Aside0.mk (HB2.out.trans (hbb.mono (by have := HB2.out.size; omega))); clear hb hbb) | (go_at_call 58; (with_reducible refine (HR0.out _).mono ?_); rintro e w4 ⟨A4, c4, B4, d4, rfl, hb⟩; have hs4 := hb.size; have HM4 := Aside0.mk (blk_alloc ((hb.block w2.heap.size (by omega)).trans HM3.out) (.cells #[.int .i64 0, .slice A4 0 c4, .slice B4 0 d4] 36)); have HS4 := Aside0.mk (blk_alloc ((hb.block w1.heap.size (by omega)).trans HS3.out) (.cells #[.int .i64 0, .slice A4 0 c4, .slice B4 0 d4] 36)); have HG4 := Aside0.mk (blk_alloc ((hb.block (w.heap.size + 1) (by omega)).trans HG3.out) (.cells #[.int .i64 0, .slice A4 0 c4, .slice B4 0 d4] 36)); have hbb := below_alloc hb (.cells #[.int .i64 0, .slice A4 0 c4, .slice B4 0 d4] 36); have HV4 := Aside0.mk (And.intro (Kd.C_below HV3.out.1 hbb) (And.intro (Kd.C_below HV3.out.2.1 hbb) (And.intro (Kd.C_below HV3.out.2.2.1 hbb) (Kd.C_below HV3.out.2.2.2 hbb)))); have HB4 := Aside0.mk (HB3.out.trans (hbb.mono (by have := HB3.out.size; omega))); clear hb hbb; have hz := HS4.out; have hy := HG4.out; have p0 : (w4.alloc (.cells #[.int .i64 0, .slice A4 0 c4, .slice B4 0 d4] 36)).cell? ⟨w1.heap.size, 0, none⟩ = some (.int .i64 1) := (blk_cell hz 0).trans rfl; have p1 : (w4.alloc (.cells #[.int .i64 0, .slice A4 0 c4, .slice B4 0 d4] 36)).cell? ⟨w1.heap.size, 1, none⟩ = some (.slice A1 4 c1) := (blk_cell hz 1).trans rfl; have p2 : (w4.alloc (.cells #[.int .i64 0, .slice A4 0 c4, .slice B4 0 d4] 36)).cell? ⟨w1.heap.size, 2, none⟩ = some (.slice A2 6 c2) := (blk_cell hz 2).trans rfl;have q0 : (w4.alloc (.cells #[.int .i64 0, .slice A4 0 c4, .slice B4 0 d4] 36)).cell? ⟨w.heap.size + 1, 0, none⟩ = some (.int .i64 5) := (blk_cell hy 0).trans rfl; have q1 : (w4.alloc (.cells #[.int .i64 0, .slice A4 0 c4, .slice B4 0 d4] 36)).cell? ⟨w.heap.size + 1, 1, none⟩ = some (.slice (some ⟨w.heap.size, 0, none⟩) 7 7) := (blk_cell hy 1).trans rfl; clear hz hy; obtain ⟨adt, e, xt⟩ := Kd.at_int HV4.out.1 3 (by decide) (by decide); subst e; obtain ⟨adp, Lp, clp, e, xp, _, _⟩ := at_L14 HV4.out.2.1 4 (by decide) (by decide); subst e; have xt' : (w4.alloc (.cells #[.int .i64 0, .slice A4 0 c4, .slice B4 0 d4] 36)).cell? ⟨adt.block, adt.off + 3, none⟩ = some (.int .i64 3) := xt; have xp' : (w4.alloc (.cells #[.int .i64 0, .slice A4 0 c4, .slice B4 0 d4] 36)).cell? ⟨adp.block, adp.off + 4, none⟩ = some (.slice Lp 3 clp) := xp; clear xt xp) | (go_at_call 20; (with_reducible refine (HCK.out _ _ _ _ _ HV4.out.2.2.2 HV4.out.1 hc1 HV4.out.2.1 hc2).mono ?_); rintro e w5 ⟨rfl, hb⟩; have hs5 := hb.size; rw [World.size_alloc] at hs5; have HM5 := Aside0.mk ((hb.block w2.heap.size (by rw [World.size_alloc]; omega)).trans HM4.out); have hy := (hb.block (w.heap.size + 1) (by rw [World.size_alloc]; omega)).trans HG4.out; have y0 : w5.cell? ⟨w.heap.size + 1, 0, none⟩ = some (.int .i64 5) := (blk_cell hy 0).trans rfl; have y1 : w5.cell? ⟨w.heap.size + 1, 1, none⟩ = some (.slice (some ⟨w.heap.size, 0, none⟩) 7 7) := (blk_cell hy 1).trans rfl; have HE5 := Aside0.mk (Kd.C_below HV4.out.2.2.2 hb); have HX5 := Aside0.mk (Kd.C_below HV4.out.2.2.1 hb); have HB5 := Aside0.mk (HB4.out.trans (hb.mono HB4.out.size)); clear hb hy) | (go_at_call 20; (with_reducible refine (HC0.out _ HE5.out).mono ?_); rintro e w6 ⟨rfl, hb⟩; have hz := (hb.block w2.heap.size (by omega)).trans HM5.out; have m0 : w6.cell? ⟨w2.heap.size, 0, none⟩ = some (.int .i64 1) := (blk_cell hz 0).trans rfl; have m1 : w6.cell? ⟨w2.heap.size, 1, none⟩ = some (.slice A3 4 c3) := (blk_cell hz 1).trans rfl; have HB6 := Aside0.mk (HB5.out.trans (hb.mono HB5.out.size)); obtain ⟨adm, Lm, clm, e, xm, _, _⟩ := at_L14 (Kd.C_below HX5.out hb) 1 (by decide) (by decide); subst e; have xm' : w6.cell? ⟨adm.block, adm.off + 1, none⟩ = some (.slice Lm 2 clm) := xm; clear hb hz xm))
  go_ret
  exact ⟨rfl, HB6.out⟩
end Go.Proofs.Ytkemhnfaheplhaa.F
namespace Go.Proofs.Ytkemhnfaheplhaa.F
open Go.RowKit Go.Proofs.YtkemhnfaheplhaaW.PrintWords Go.Proofs.YtkemhnfaheplhaaW.PrintLast Go.Proofs.YtkemhnfaheplhaaW.PrintMore
attribute [local go_sem] max2_int min2_int max_two min_two max_three min_three max_four min_four
set_option linter.unusedVariables false
set_option linter.unusedSimpArgs false
def carcanetref03_In.l0 : Nat → List Int → Int → Int → Option (Bool)
  | 0, _, _, _ => none
  | k + 1, x0, x1, x5 => if x5 < (x0.length : Int) then (if 0 ≤ x5 then (if (rd x0 x5) = x1 then (some true) else (carcanetref03_In.l0 k x0 x1 (wrap64 (x5 + 1)))) else (none)) else (some false)
def carcanetref03_In.f (k : Nat) (l0 : List Int) (a1 : Int) : Option (Bool) := carcanetref03_In.l0 k l0 a1 0
theorem carcanetref03_In.mono_l : ∀ k, (∀ y0 y1 y2, LeO (carcanetref03_In.l0 k y0 y1 y2) (carcanetref03_In.l0 (k + 1) y0 y1 y2))
  | 0 => fun _ _ _ r h => by simp [carcanetref03_In.l0] at h
  | k + 1 => by
    have ih0 := carcanetref03_In.mono_l k
    · intro y0 y1 y2
      unfold carcanetref03_In.l0
      repeat' first
      | (with_reducible exact ih0 _ _ _)
      | (with_reducible exact LeO.refl _)
      | (with_reducible exact LeO.none _)
      | (with_reducible refine LeO.ite ?_ ?_)
      | (with_reducible refine LeO.bind ?_ (fun _ => ?_))
      | exact ih0 _ _ _
      | exact LeO.none _
      | refine LeO.ite ?_ ?_
      | refine LeO.bind ?_ (fun _ => ?_)
theorem carcanetref03_In.mono : ∀ a0 a1 k, LeO (carcanetref03_In.f k a0 a1) (carcanetref03_In.f (k + 1) a0 a1) := by
  intro a0 a1 k
  have ih0 := carcanetref03_In.mono_l k
  unfold carcanetref03_In.f
  repeat' first
      | (with_reducible exact ih0 _ _ _)
      | (with_reducible exact LeO.refl _)
      | (with_reducible exact LeO.none _)
      | (with_reducible refine LeO.ite ?_ ?_)
      | (with_reducible refine LeO.bind ?_ (fun _ => ?_))
      | exact ih0 _ _ _
      | exact LeO.none _
      | refine LeO.ite ?_ ?_
      | refine LeO.bind ?_ (fun _ => ?_)
set_option maxHeartbeats 8000000 in
set_option maxRecDepth 100000 in
theorem carcanetref03_In.calls (k : Nat) (A0 : Option Addr) (c0 : Nat) (l0 : List Int) (a1 : Int) (r : Bool) (w : World) (hr0 : Kd.C (Kd.int .i64) w A0 l0.length l0) (hc0 : l0.length ≤ c0) (h : carcanetref03_In.f k l0 a1 = some r) :
    Calls Try.prog 48 #[.slice A0 l0.length c0, .int .i64 a1] w fun e w' => e = .returned (.bool r) ∧ Drawn0 w w' := by
  have HR0 := Aside0.mk hr0
  have HC0 := Aside0.mk hc0
  clear hr0 hc0
  have H : (carcanetref03_In.l0 k l0 a1 0) = some r := h
  clear h
  have H' := Aside0.mk H
  clear H
  go_enter Try.func48, Try.ntmps48
  go_wp2
  go_loopg [5] k (fun kq v5 w' => ∃ (x5_1 : Int), v5 = .int .i64 x5_1 ∧ Aside0 (carcanetref03_In.l0 kq l0 a1 x5_1 = some r) ∧ Aside0 (kq ≤ k) ∧ Drawn0 w w')
  case atStart => exact ⟨(0), (by first | rfl | (simp; done) | (simp [*]; done)), H', ⟨Nat.le_refl _⟩, by repeat (first | exact Drawn0.refl _ | apply Drawn0.step)⟩
  case round =>
    clear H'
    try clear p2
    obtain ⟨x5_1, rfl, HA, HK1, ⟨m1, rfl⟩⟩ := hrel
    cases gk with
    | zero => exact absurd HA.out (by simp [carcanetref03_In.l0])
    | succ k1 =>
      have H := HA.out
      clear HA
      simp only [carcanetref03_In.l0] at H
      by_cases c3 : x5_1 < (l0.length : Int)
      · rw [if_pos c3] at H
        have c3b0 : decide (x5_1 < (l0.length : Int)) = true := decide_eq_true c3
        clear c3
        by_cases c4 : 0 ≤ x5_1
        · rw [if_pos c4] at H
          have c4b0 : decide (0 ≤ x5_1) = true := decide_eq_true c4
          clear c4
          by_cases c5 : (rd l0 x5_1) = a1
          · rw [if_pos c5] at H
            have c5b0 : ((rd l0 x5_1) == a1) = true := beq_iff_eq.mpr c5
            have c5b1 : ((rd l0 x5_1) != a1) = false := bne_eq_false_iff_eq.mpr c5
            clear c5
            obtain rfl := Option.some.inj H
            have p101 : 0 ≤ (x5_1 : Int) := of_decide_eq_true (by first | (with_reducible assumption) | assumption)
            have q101 : x5_1 < (l0.length : Int) := of_decide_eq_true (by first | (with_reducible assumption) | assumption)
            obtain ⟨ad101, e101, hx101_0⟩ := Kd.at_int HR0.out x5_1 p101 q101
            cases e101
            replace p101 := eq_true p101
            replace q101 := eq_true q101
            go_wp2
            go_ret
            exact ⟨by first | rfl | (simp; done) | (simp [*]; done), by repeat (first | exact Drawn0.refl _ | apply Drawn0.step)⟩
          · rw [if_neg c5] at H
            have c5b0 : ((rd l0 x5_1) == a1) = false := beq_eq_false_iff_ne.mpr c5
            have c5b1 : ((rd l0 x5_1) != a1) = true := bne_iff_ne.mpr c5
            have H' := Aside0.mk H
            clear H
            have p101 : 0 ≤ (x5_1 : Int) := of_decide_eq_true (by first | (with_reducible assumption) | assumption)
            have q101 : x5_1 < (l0.length : Int) := of_decide_eq_true (by first | (with_reducible assumption) | assumption)
            obtain ⟨ad101, e101, hx101_0⟩ := Kd.at_int HR0.out x5_1 p101 q101
            cases e101
            replace p101 := eq_true p101
            replace q101 := eq_true q101
            go_wp2
            go_roundg k1
            case measure => have := HK1.out; omega
            case rel => exact ⟨(wrap64 (x5_1 + 1)), (by first | rfl | (simp; done) | (simp [*]; done)), H', ⟨by have := HK1.out; omega⟩, by repeat (first | exact Drawn0.refl _ | apply Drawn0.step)⟩
        · rw [if_neg c4] at H
          exact absurd H (by simp)
      · rw [if_neg c3] at H
        have c3b0 : decide (x5_1 < (l0.length : Int)) = false := decide_eq_false c3
        clear c3
        obtain rfl := Option.some.inj H
        go_wp2
        go_ret
        exact ⟨by first | rfl | (simp; done) | (simp [*]; done), by repeat (first | exact Drawn0.refl _ | apply Drawn0.step)⟩
end Go.Proofs.Ytkemhnfaheplhaa.F
