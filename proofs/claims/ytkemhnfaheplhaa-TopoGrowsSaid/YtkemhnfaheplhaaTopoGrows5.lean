/-
  slices.Sort at ints, slices.SortFunc at edges: rows of one's own are sorted.
  ref03.Sorted: a row sorted by setting each number in its place.
  walk.Apart: whether no number inside a row stands anywhere else.
  What stands beside a vertex: the iterator graph.near, and graph.Has over it.
  graph.Has, as the printed texts call it.
  Eq: a function's answer, or words of the walks.
  slices.Compact at edges, on a row of one's own.
  graph.Near: the row of what stands beside a vertex.
  walk.unlike: whether no number stands twice in a row; the iterator slices.Values, slices.Sorted over it.
  FwalkIsPath: a function's answer, or words of the walks.
  What walk.IsPath tells.
  Ftopotops: a function's answer, or words of the walks.
-/
import Derived.Test.YtkemhnfaheplhaaTopoGrows4
import Derived.Test.YtkemhnfaheplhaaTopoGrows3
import Derived.Laws.CopyOwn
import Derived.WalkMore
import Derived.RangeFuncNested
import Derived.RangeFuncBound
import Derived.RangeFuncCalls
import Derived.RangeFuncLeaves
import Derived.RangeFuncFrom
import Derived.RangeFuncWrites
import Derived.Shelf.Abstract
import Derived.Shelf.RegionOpen
import Derived.WalkKit
import Derived.OwnWalkIn
import Derived.TacticsInMore
import Derived.LoopNIn
import Derived.LoopIn
import Derived.Test.YtkemhnfaheplhaaTopoGrows1
import Derived.Lib.SliceRun
import Derived.RangeFuncBox
import Derived.Maps.AppendAt
namespace Go.Proofs.Ytkemhnfaheplhaa.F
open Go.RowKit Go.Proofs.YtkemhnfaheplhaaW.PrintWords Go.Proofs.YtkemhnfaheplhaaW.PrintLast Go.Proofs.YtkemhnfaheplhaaW.PrintMore
set_option linter.unusedVariables false
set_option linter.unusedSimpArgs false
def sortI (l : List Int) : List Int := l.mergeSort fun x y => decide (x ≤ y)
theorem grown_below {w0 w w' : World} {g : Nat} {base : Nat} (hB : Below base w0 w) (hg : w.grownBy w' (some g)) (hge : base ≤ g) (hs : base ≤ w.heap.size) : Below base w0 w' :=
  hB.grown hg hs (fun k e => by cases e; exact hge)
theorem holds_map {α : Type} [Inhabited α] {enc : α → Value} {w : World} {g off : Nat} {d : Array α} (h : Sort.Holds id w g off (d.map enc)) : Sort.Holds enc w g off d := fun j hj => by
  have := h j (by simpa using hj)
  simp [hj] at this
  simpa [hj] using this
theorem kept_grown {w w' : World} {g : Nat} {S : Nat → Prop} (hg : w.grownBy w' (some g)) (h : S g) : Kept w w' S := Kept.of_grown hg (Kept.refl w S) (fun k e => by cases e; exact .inl h)
theorem sortI_len (l : List Int) : (sortI l).length = l.length := List.length_mergeSort _
theorem sortI_calls (P0_ : Nat → Prop) (v : Value) (l : List Int) (w0 w : World) (hB : Below w0.heap.size w0 w) (ho0 : Kd.R (Kd.int .i64) 3 w w0.heap.size P0_ v l) (hsz : l.length < 4611686018427387904) :
    Calls Try.prog 133 #[v] w fun e w' => e = .returned (.tuple #[]) ∧ Kd.R (Kd.int .i64) 3 w' w0.heap.size P0_ v (sortI l) ∧ Below w0.heap.size w0 w' ∧ Kept w w' (fun k_ => P0_ k_) := by
  have hown := Kd.own_of_R ho0
  have hP := ho0.1
  rcases hown.2 with ⟨rfl, h0⟩ | ⟨g, cap, cur, rfl, hb, hg, hn, hm, hs, ht⟩
  · obtain rfl : l = [] := List.eq_nil_of_length_eq_zero h0
    refine (AnyM.slices_Sort_int_none Ytkemhnfaheplhaa.L.sortI none 0 w).mono ?_
    rintro e w' ⟨rfl, rfl⟩
    exact ⟨rfl, by simpa [sortI] using ho0, hB, Kept.refl _ _⟩
  · have hPg : P0_ g := hP g (by simp [Value.ownBlock])
    obtain ⟨hH, hlt⟩ := own_holds hown
    have hH' : Sort.Holds (Value.int .i64) w g 0 l.toArray := holds_map (by simpa [encs] using hH)
    refine (AnyM.slices_Sort_int Ytkemhnfaheplhaa.L.sortI g 0 cap l w hH' hlt hsz).mono ?_
    rintro e w' ⟨rfl, n, os, rfl⟩
    have hq := put_own (m := n) (F := ((l.mergeSort fun x y => decide (x ≤ y)).toArray.map (Value.int .i64))) (os := os) hown (by simp)
    rw [← putRow_map] at hq
    refine ⟨rfl, ?_, grown_below hB hq.2 hb hB.size, kept_grown hq.2 hPg⟩
    refine Kd.R_of_own (xs := sortI l) ?_ hP
    have h1 := hq.1
    rw [sortI_len]
    simpa [encs, sortI] using h1
instance : Inhabited S69 := ⟨z69⟩
def encE (x : S69) : List Value := [.int .i64 x.f0, .int .i64 x.f1]
theorem encE_len (x : S69) : (encE x).length = 2 := rfl
theorem reps_E {w : World} {base : Nat} {ok : Nat → Prop} (xs : List S69) : Reps (k69.M w base ok) 2 xs (xs.flatMap encE) := reps_flat encE encE_len (fun x => k69_mkM w base ok x) xs
theorem flat_E {w : World} {base : Nat} {ok : Nat → Prop} {xs : List S69} {inner : List Value} (h : Reps (k69.M w base ok) 2 xs inner) : inner = xs.flatMap encE := flat_of_reps encE encE_len (fun x cs h => k69_openM h) xs inner h
theorem ltE (x y : S69) : Go.Proofs.ltOf cmpE x y = true ↔ x.f0 < y.f0 ∨ (x.f0 = y.f0 ∧ x.f1 < y.f1) := by
  unfold Go.Proofs.ltOf cmpE cmpI
  by_cases h1 : x.f0 < y.f0
  · simp [h1]
  · by_cases h2 : y.f0 < x.f0
    · simp [h1, h2]; omega
    · have : x.f0 = y.f0 := by omega
      by_cases h3 : x.f1 < y.f1 <;> by_cases h4 : y.f1 < x.f1 <;> simp [h1, h2, h3, h4, this]
theorem swoE : Sort.SWO (Go.Proofs.ltOf cmpE) where
  irrefl x := by
    have := ltE x x
    cases h : Go.Proofs.ltOf cmpE x x
    · rfl
    · have := this.1 h; omega
  trans x y z h1 h2 := by rw [ltE] at *; omega
  ntrans x y z h1 h2 := by
    rw [← Bool.not_eq_true, ltE] at *
    omega
theorem totE (x y : S69) (h1 : Go.Proofs.ltOf cmpE x y = false) (h2 : Go.Proofs.ltOf cmpE y x = false) : x = y := by
  rw [← Bool.not_eq_true, ltE] at h1 h2
  cases x; cases y
  simp at *
  omega
def sortE (l : List S69) : List S69 := l.mergeSort fun x y => !Go.Proofs.ltOf cmpE y x
theorem sortE_len (l : List S69) : (sortE l).length = l.length := List.length_mergeSort _
theorem sortE_calls (g : Nat) (hg0 : ∀ args w, (callFunc g args).run Try.prog w = .ok (.enter g args) w) (hc : ∀ (x0 x1 y0 y1 : Int) (w : World), Calls Try.prog g #[.agg #[.int .i64 x0, .int .i64 x1], .agg #[.int .i64 y0, .int .i64 y1]] w fun e w' => e = .returned (.int .i64 (cmpE ⟨x0, x1⟩ ⟨y0, y1⟩)) ∧ Laid w w')
    (P0_ : Nat → Prop) (v : Value) (l : List S69) (w0 w : World) (hB : Below w0.heap.size w0 w) (ho0 : Kd.R k69 69 w w0.heap.size P0_ v l) (hsz : l.length < 4611686018427387904) :
    Calls Try.prog 129 #[v, .func (.func g) #[] #[]] w fun e w' => e = .returned (.tuple #[]) ∧ Kd.R k69 69 w' w0.heap.size P0_ v (sortE l) ∧ Below w0.heap.size w0 w' ∧ Kept w w' (fun k_ => P0_ k_) := by
  obtain ⟨hP, inner, hown, hreps⟩ := ho0
  obtain rfl := flat_E hreps
  rcases hown.2 with ⟨rfl, h0⟩ | ⟨b, cap, cur, rfl, hb, hg, hn, hm, hs, ht⟩
  · obtain rfl : l = [] := List.eq_nil_of_length_eq_zero h0
    refine (AnyF.slices_SortFunc_none Ytkemhnfaheplhaa.L.sortE none 0 _ w).mono ?_
    rintro e w' ⟨rfl, rfl⟩
    exact ⟨rfl, ⟨hP, [], by simpa [sortE] using hown, by simpa [sortE] using Reps.none _ _⟩, hB, Kept.refl _ _⟩
  · have hPg : P0_ b := hP b (by simp [Value.ownBlock])
    obtain ⟨hH, hlt⟩ := own_holds hown
    have e1 : Sort.flatK encE 2 l.toArray = (l.flatMap encE).toArray := by rw [← flatK_list encE 2 encE_len l]
    have hH' : Sort.HoldsK encE 2 w b 0 l.toArray := by unfold Sort.HoldsK; rw [e1]; exact hH
    have hcon := AnyQ.slices_SortFunc_total Ytkemhnfaheplhaa.L.sortE 2 Try.isAgg69 Try.sizeOf69 encE encE_len (fun x v hv => by simp [encE] at hv; rcases hv with rfl | rfl <;> rfl) cmpE swoE g #[] b 0 cap l.toArray w hg0 (fun m os dk _ x y => (hc x.f0 x.f1 y.f0 y.f1 _).mono fun _ _ ⟨he, hl⟩ => ⟨he, hl.out⟩) hH' hlt hsz totE
    refine hcon.mono ?_
    rintro e w' ⟨rfl, n, os, rfl⟩
    have hq := put_own (m := n) (F := Sort.flatK encE 2 (sortE l).toArray) (os := os) hown (by rw [Sort.size_flatK]; simp [sortE_len]; rfl)
    rw [flatK_list encE 2 encE_len] at hq
    refine ⟨rfl, ⟨hP, (sortE l).flatMap encE, ?_, reps_E _⟩, grown_below hB hq.2 hb hB.size, kept_grown hq.2 hPg⟩
    rw [sortE_len]
    exact hq.1
end Go.Proofs.Ytkemhnfaheplhaa.F
namespace Go.Proofs.Ytkemhnfaheplhaa.F
open Go.RowKit Go.Proofs.YtkemhnfaheplhaaW.PrintWords Go.Proofs.YtkemhnfaheplhaaW.PrintLast Go.Proofs.YtkemhnfaheplhaaW.PrintMore Go.Proofs.Ytkemhnfaheplhaa.Mix
set_option linter.unusedVariables false
set_option linter.unusedSimpArgs false
def posR (x : Int) (out : List Int) : Nat → Nat
  | 0 => 0
  | k + 1 => if x < rd out k then posR x out k else k + 1
def insR (x : Int) (out : List Int) : List Int := out.take (posR x out out.length) ++ x :: out.drop (posR x out out.length)
def sortedR (l : List Int) : List Int := l.foldl (fun out x => insR x out) []
theorem posR_le (x : Int) (out : List Int) : ∀ k, posR x out k ≤ k
  | 0 => Nat.le_refl _
  | k + 1 => by
    have := posR_le x out k
    simp only [posR]
    split <;> omega
theorem posR_step (x : Int) (out : List Int) (k : Int) (h : 0 < k) : posR x out k.toNat = if x < rd out (k - 1) then posR x out (k - 1).toNat else k.toNat := by
  obtain ⟨m, rfl⟩ : ∃ m : Nat, k = m + 1 := ⟨(k - 1).toNat, by omega⟩
  rw [show ((m : Int) + 1).toNat = m + 1 by omega, show ((m : Int) + 1 - 1) = (m : Int) by omega]
  simp [posR]
theorem insR_len (x : Int) (out : List Int) : (insR x out).length = out.length + 1 := by
  have := posR_le x out out.length
  simp [insR]
  omega
theorem sortedR_next (l : List Int) (i : Int) (h0 : 0 ≤ i) (hi : i < l.length) : sortedR (l.take (i + 1).toNat) = insR (rd l i) (sortedR (l.take i.toNat)) := by
  have hi' : i.toNat < l.length := by omega
  have e : rd l i = l[i.toNat] := by simp [rd, List.getD_eq_getElem?_getD, hi']
  rw [show (i + 1).toNat = i.toNat + 1 by omega, List.take_succ_eq_append_getElem hi', sortedR, List.foldl_append, e]
  rfl
theorem sortedR_len (l : List Int) : (sortedR l).length = l.length := by
  have : ∀ (l out : List Int), (l.foldl (fun out x => insR x out) out).length = out.length + l.length := by
    intro l
    induction l with
    | nil => intro out; rfl
    | cons x l ih => intro out; rw [List.foldl_cons, ih, insR_len, List.length_cons]; omega
  rw [sortedR, this]
  simp
theorem R_form {w : World} {base : Nat} {ok : Nat → Prop} {v : Value} {xs : List Int} (h : Kd.R (Kd.int .i64) 3 w base ok v xs) (hp : 0 < xs.length) : ∃ (ad : Addr) (c g : Nat), v = .slice (some ad) xs.length c ∧ (ad = ⟨g, 0, none⟩ ∧ base ≤ g ∧ xs.length ≤ c ∧ ok g) := by
  have hown := Kd.own_of_R h
  rcases hown.2 with ⟨rfl, h0⟩ | ⟨g, cap, cur, rfl, hb, hg, hn, hm, hs, ht⟩
  · omega
  · exact ⟨_, _, g, rfl, rfl, hb, hn, h.1 g (by simp [Value.ownBlock])⟩
theorem add_add (a : Addr) (m n : Nat) : (a.add m).add n = a.add (m + n) := by
  unfold Addr.add
  by_cases h1 : m = 0 <;> by_cases h2 : n = 0 <;> simp [h1, h2, Nat.add_assoc]
theorem add_at {ad : Addr} {g : Nat} (h : ad = ⟨g, 0, none⟩) (m : Nat) : ad.add m = ⟨g, m, none⟩ := by
  subst h
  unfold Addr.add
  by_cases hm : m = 0 <;> simp [hm]
theorem R_shift {P : Program} {ops : Array Oper} {rest : List Oper} {o : Oper} {a : Act} {Q : Exit → Act → World → Prop} (hgd : o.guard = none) (d s : Operand) (dT sT : TypeId)
    (ho : o.op = .call { callee := .builtin .copy, args := #[d, s], argTypes := #[dT, sT] }) (hu : P.underlying dT = some (.slice 3)) (hsz : (P.info? 3).map (·.size) = some 1)
    {W w0 : World} {base : Nat} {ok : Nat → Prop} (ad : Addr) (g : Nat) (had : ad = ⟨g, 0, none⟩) (xs : List Int) (y : Int) (k k1 c : Nat) (hk : k ≤ xs.length) (hk1 : k1 = k + 1)
    (hd : a.eval d = .slice (if c = k1 then some ad else some (ad.add k1)) (xs.length + 1 - k1) (c - k1)) (hs : a.eval s = .slice (some (ad.add k)) (xs.length + 1 - k) (c - k))
    (HO : Kd.R (Kd.int .i64) 3 W base ok (.slice (some ad) (xs.length + 1) c) (xs ++ [y])) (HB : Below base w0 W)
    (h : ∀ w' Y, Y.length = xs.length + 1 → Y.take k = xs.take k → Y.drop (k + 1) = xs.drop k → Kd.R (Kd.int .i64) 3 w' base ok (.slice (some ad) (xs.length + 1) c) Y → Below base w0 w' → wpList P ops Q rest (a.put o.dst (goInt ((xs.length - k : Nat) : Int))) w') :
    wpList P ops Q (o :: rest) a W := by
  subst hk1
  have hP := HO.1
  have hown := Kd.own_of_R HO
  rcases hown.2 with ⟨e, h0⟩ | ⟨g', cap, cur, e, hb, hg, hn, hm, hsz', ht⟩
  · cases e
  subst had
  injection e with e1 e2 e3
  injection e1 with e1
  injection e1 with e1
  subst e1
  subst e3
  simp only [List.length_append, List.length_singleton, Nat.mul_one] at hn ht hsz'
  have hcl : ((xs.drop k).map (Value.int .i64)).length = xs.length - k := by simp
  have hfit : k + 1 + (xs.length - k) ≤ cur.size := by have : cur.size = c := hsz'; omega
  have ht' : cur.toList.take (xs.length + 1) = (xs ++ [y]).map (Value.int .i64) := ht
  refine wpList_copy_splice hgd d s dT sT ho 3 hu hsz _ _ _ _ _ _ hd hs g (k + 1) cur.toList 3 (by simpa using hg) ((xs.drop k).map (Value.int .i64)) (by rw [hcl]; show _ = min _ _; omega) ?_ (by rw [hcl]; simpa using hfit) (by intro v hv; obtain ⟨x, _, rfl⟩ := List.mem_map.1 hv; rfl) base w0 HB hb ?_
  · intro h0
    rw [hcl] at h0
    refine ⟨by rw [if_neg (by omega), add_at rfl], _, rfl, fun j v hj => ?_⟩
    rw [add_add, add_at rfl, blk_cell hg]
    have hj' : j < xs.length - k := by rw [← hcl]; exact (List.getElem?_eq_some_iff.1 hj).1
    have e1 : cur.toList[k + j]? = ((xs ++ [y]).map (Value.int .i64))[k + j]? := by rw [← ht', List.getElem?_take, if_pos (by omega)]
    rw [Array.getElem?_toList] at e1
    rw [e1, ← hj, List.getElem?_map, List.getElem?_map, List.getElem?_append_left (by omega), List.getElem?_drop]
  · intro w' hw' hb'
    rw [hcl]
    refine h w' ((xs ++ [y]).take (k + 1) ++ xs.drop k) (by simp; omega) ?_ ?_ ?_ hb'
    · rw [List.take_append_of_le_length (by simp; omega), List.take_take, Nat.min_eq_left (by omega), List.take_append_of_le_length hk]
    · rw [List.drop_append, List.drop_of_length_le (by simp; omega)]
      simp
      omega
    · have hlen : ((xs ++ [y]).take (k + 1) ++ xs.drop k).length = xs.length + 1 := by simp; omega
      refine Kd.R_of_own (xs := (xs ++ [y]).take (k + 1) ++ xs.drop k) ?_ hP
      rw [hlen]
      refine ⟨by simp [encs]; omega, .inr ⟨g, c, _, rfl, hb, hw', hn, hm, ?_, ?_⟩⟩
      · simp [splice]; omega
      · have hc1 : cur.toList.take (k + 1) = ((xs ++ [y]).take (k + 1)).map (Value.int .i64) := by
          have := congrArg (List.take (k + 1)) ht'
          rwa [List.take_take, Nat.min_eq_left (by omega), ← List.map_take] at this
        simp only [splice, encs]
        rw [hc1, ← List.append_assoc, ← List.map_append]
        rw [List.take_append_of_le_length (by rw [List.length_map, hlen]; exact Nat.le_of_eq (Nat.mul_one _)), List.take_of_length_le (by rw [List.length_map, hlen]; exact Nat.le_of_eq (Nat.mul_one _).symm)]
theorem R_frozenI {w : World} {base n cap g : Nat} {ok : Nat → Prop} {xs : List Int} (h : Kd.R (Kd.int .i64) 3 w base ok (.slice (some ⟨g, 0, none⟩) n cap) xs) (m : Nat) : w.frozen? ⟨g, m, none⟩ = false := by
  obtain ⟨hP, inner, hown, hreps⟩ := h
  rcases hown.2 with ⟨e, _⟩ | ⟨g', cap', cur, e, hb, hg, _⟩
  · cases e
  · cases e
    exact blk_frozen hg m
theorem grown_belowS {w0 w w' : World} {g : Nat} {base : Nat} (hB : Below base w0 w) (hg : w.grownBy w' (some g)) (hge : base ≤ g) (hs : w0.heap.size ≤ w.heap.size) (hb : base ≤ w0.heap.size := by first | exact Nat.le_refl _ | omega) : Below base w0 w' :=
  hB.grown hg (Nat.le_trans hb hs) (fun k e => by cases e; exact hge)
set_option maxHeartbeats 2000000 in
set_option maxRecDepth 100000 in
theorem sortedR_calls (A : Option Addr) (c : Nat) (l : List Int) (w : World) (hr : Kd.C (Kd.int .i64) w A l.length l) (hc : l.length ≤ c) (hl : l.length ≤ 8000000) :
    Calls Try.prog 44 #[.slice A l.length c] w fun e w' => ∃ v0_ : Value, e = .returned (v0_) ∧ Kd.R (Kd.int .i64) 3 w' w.heap.size (fun _ => True) v0_ (sortedR l) ∧ Below w.heap.size w w' := by
  have HR := Aside0.mk hr
  clear hr
  obtain ⟨res, hres⟩ : ∃ res, sortedR l = res := ⟨_, rfl⟩
  rw [hres]
  have HRES := Aside0.mk hres
  clear hres
  go_enter Try.func44, Try.ntmps44
  go_wp2
  go_loopw [4, 3] (fun p v wr => ∃ (i : Int) (out : List Int), 0 ≤ i ∧ i ≤ l.length ∧ p = .int .i64 i ∧ Aside0 (sortedR (l.take i.toNat) = out) ∧ Aside0 (Kd.R (Kd.int .i64) 3 wr w.heap.size (fun _ => True) v out) ∧ Aside0 (Below w.heap.size w wr))
    (fun p _ _ => l.length - (intOf p).toNat)
  case atStart => exact ⟨0, [], by omega, by omega, rfl, ⟨rfl⟩, ⟨R_empty (Kd.int .i64) w w.heap.size 3 (Nat.le_refl _)⟩, ⟨below_alloc (Below.refl _ _) _⟩⟩
  case round =>
    obtain ⟨i, out, hi0, hi, rfl, HE, HO, HB⟩ := hrel
    have hol : (out.length : Int) = i := by rw [← HE.out, sortedR_len, List.length_take]; omega
    obtain ⟨Ao, co, hvo⟩ := Kd.R_slice HO.out
    subst hvo
    by_cases hlt : i < l.length
    · have HCL := Aside0.mk (Kd.C_below HR.out HB.out)
      obtain ⟨ad, e, x0⟩ := Kd.at_int HCL.out i hi0 hlt
      cases e
      have HN := Aside0.mk (sortedR_next l i hi0 hlt)
      obtain ⟨x, hx⟩ : ∃ x, rd l i = x := ⟨_, rfl⟩
      rw [hx] at x0 HN
      have HX := Aside0.mk hx
      clear hx
      go_wp2
      go_loopw [5] (fun p wi => ∃ (k : Int), 0 ≤ k ∧ k ≤ out.length ∧ p = .int .i64 k ∧ Aside0 (posR x out k.toNat = posR x out out.length) ∧ Aside0 (∃ q, wi = wr.drewN q))
        (fun p _ => (intOf p).toNat)
      case atStart => exact ⟨i, by omega, by omega, by first | rfl | simp [hol], ⟨by rw [show i.toNat = out.length by omega]⟩, ⟨0, rfl⟩⟩
      case round =>
        obtain ⟨k, hk0, hk, rfl, HP, HW⟩ := hrel
        obtain ⟨⟨q, hwi⟩⟩ := HW
        subst hwi
        by_cases hk1 : 0 < k
        · have d1 : decide (0 < k) = true := decide_eq_true hk1
          have HST := Aside0.mk (posR_step x out k hk1)
          obtain ⟨j, hj⟩ : ∃ j, k - 1 = j := ⟨_, rfl⟩
          have hw1 : IntKind.i64.wrap (k - 1) = j := (IntWalk.i64_in _ (by omega)).trans hj
          have j0 : 0 ≤ j := by omega
          have j1 : j < (out.length : Int) := by omega
          obtain ⟨ao, e, y0⟩ := Kd.at_int (Kd.R_reads' HO.out).2.2 j j0 j1
          cases e
          obtain ⟨y, hy⟩ : ∃ y, rd out j = y := ⟨_, rfl⟩
          rw [hy] at y0
          rw [hj, hy] at HST
          have HY := Aside0.mk hy
          have HJ := Aside0.mk hj
          clear hy hj
          by_cases c1 : x < y
          · have d2 : decide (x < y) = true := decide_eq_true c1
            go_wp2
            go_quiet (fail)
            go_wp2
            go_roundw
            case rel => exact ⟨j, by omega, by omega, rfl, ⟨by rw [← HP.out, HST.out, if_pos c1]⟩, ⟨_, rfl⟩⟩
            case measure => have := HJ.out; simp [intOf]; omega
          · have d2 : decide (x < y) = false := decide_eq_false c1
            go_wp2
            go_quiet (fail)
            have HPK : Aside0 (posR x out out.length = k.toNat) := ⟨by rw [← HP.out, HST.out, if_neg (by omega)]⟩
            go_wp2_with (at_builtin; refine Kd.R_append (Kd.int .i64) (w0 := w) w.heap.size rfl (.tmp 31) (.tmp 32) 26 3 (.int .i64 0) 8 rfl Try.underlying26 info3 rfl (by decide) (by omega) (.slice (some ao) out.length co) out 0 [.int .i64 0] (fun _ => True) (fun _ => False) rfl ?aX ?aP (fun _ hk => hk.elim) ?aF ?aO ?aB ?aS ?aL ?_; (case aX => rfl); (case aP => exact rfl); (case aF => exact fun _ _ => trivial); (case aO => exact Kd.R_drewN HO.out _); (case aB => exact pw_below_drewN HB.out _); (case aS => exact HB.out.size); (case aL => omega); intro v1 w1 ho hb1 hg1 hat1; obtain ⟨a1, c1, g1, hv1, ha1⟩ := R_form ho (by simp); subst hv1; have HO1 := Aside0.mk ho; have HB1 := Aside0.mk hb1; have HA1 := Aside0.mk ha1; clear ho hb1 hg1 hat1 ha1)
            have HA2 := HA1.out.2.2.1
            simp only [List.length_append, List.length_singleton] at HA2
            have hwk : IntKind.i64.wrap (k + 1) = k + 1 := IntWalk.i64_in _ (by omega)
            refine region_mix 7 (fun i => i == 7) (by kernel_rfl) (by kernel_rfl) ?_
            refine mix_quiet 7 (by decide) (by decide) (Below.refl _ _).drew ?_
            simp only [List.take_succ_cons, List.take_zero, List.drop_succ_cons, List.drop_zero]
            repeat (go_big_quiet_step (fail))
            refine wpQuiet_nil ?_
            refine mix_eff (by rfl) (cm_late (Nat.le_refl _)) ?_
            refine R_shift (base := w.heap.size) (w0 := w) (ok := fun _ => True) (k := k.toNat) (k1 := (k + 1).toNat) (xs := out) (y := 0) (c := c1) (ad := a1) (g := g1) rfl (.tmp 37) (.tmp 40) 26 26 rfl Try.underlying26 ?sz HA1.out.1 (by omega) (by omega) rfl rfl ?hO ?hB ?_
            case sz => kernel_rfl
            case hO =>
              have := HO1.out
              simp only [List.length_append, List.length_singleton] at this
              exact Kd.R_drewN this 1
            case hB => exact pw_below_drewN HB1.out 1
            intro w2 Y hY1 hY2 hY3 hRY hBY
            have HY1 := Aside0.mk hY1
            have HY := Aside0.mk (And.intro hY2 (And.intro hY3 (And.intro hRY hBY)))
            clear hY2 hY3 hRY hBY
            refine wpList_nil ?_
            refine ⟨rfl, cm_late (Nat.le_refl _), ?_⟩
            refine mix_done ?_
            obtain ⟨_, e, z0⟩ := Kd.at_int (Kd.C_below HR.out HY.out.2.2.2) i hi0 hlt
            cases e
            rw [HX.out] at z0
            have hRY' := HY.out.2.2.1
            rw [← HY1.out] at hRY'
            obtain ⟨_, e, z1⟩ := Kd.at_int (Kd.R_reads' hRY').2.2 k (by omega) (by have := HY1.out; omega)
            cases e
            have z2 : w2.frozen? (a1.add k.toNat) = false := by
              rw [add_at HA1.out.1]
              exact R_frozenI (by rw [← HA1.out.1]; exact hRY') _
            clear hRY'
            go_wp2
            go_roundw
            case rel =>
              have hR := HY.out.2.2.1
              rw [← HY1.out, HA1.out.1] at hR
              have hR' := Kd.R_put hR k x
              rw [← add_at HA1.out.1, ← HA1.out.1, HY1.out] at hR'
              have hfin : Y.set k.toNat x = insR x out := by
                have hkl : k.toNat < Y.length := by have := HY1.out; omega
                rw [insR, HPK.out, ← HY.out.1, ← HY.out.2.1, List.set_eq_take_append_cons_drop, if_pos hkl]
              refine ⟨i + 1, Y.set k.toNat x, by omega, by omega, rfl, ⟨?_⟩, ⟨?_⟩, ⟨grown_belowS HY.out.2.2.2 hR'.2 HA1.out.2.1 HY.out.2.2.2.size⟩⟩
              · rw [HN.out, HE.out, hfin]
              · exact hR'.1
            case measure => simp [intOf]; omega
        · have HPK : Aside0 (posR x out out.length = k.toNat) := ⟨by rw [← HP.out, show k.toNat = 0 by omega]; rfl⟩
          have d1 : decide (0 < k) = false := decide_eq_false hk1
          go_wp2
          go_quiet (fail)
          go_wp2_with (at_builtin; refine Kd.R_append (Kd.int .i64) (w0 := w) w.heap.size rfl (.tmp 31) (.tmp 32) 26 3 (.int .i64 0) 8 rfl Try.underlying26 info3 rfl (by decide) (by omega) (.slice Ao out.length co) out 0 [.int .i64 0] (fun _ => True) (fun _ => False) rfl ?aX ?aP (fun _ hk => hk.elim) ?aF ?aO ?aB ?aS ?aL ?_; (case aX => rfl); (case aP => exact rfl); (case aF => exact fun _ _ => trivial); (case aO => exact Kd.R_drewN HO.out _); (case aB => exact pw_below_drewN HB.out _); (case aS => exact HB.out.size); (case aL => omega); intro v1 w1 ho hb1 hg1 hat1; obtain ⟨a1, c1, g1, hv1, ha1⟩ := R_form ho (by simp); subst hv1; have HO1 := Aside0.mk ho; have HB1 := Aside0.mk hb1; have HA1 := Aside0.mk ha1; clear ho hb1 hg1 hat1 ha1)
          have HA2 := HA1.out.2.2.1
          simp only [List.length_append, List.length_singleton] at HA2
          have hwk : IntKind.i64.wrap (k + 1) = k + 1 := IntWalk.i64_in _ (by omega)
          refine region_mix 7 (fun i => i == 7) (by kernel_rfl) (by kernel_rfl) ?_
          refine mix_quiet 7 (by decide) (by decide) (Below.refl _ _).drew ?_
          simp only [List.take_succ_cons, List.take_zero, List.drop_succ_cons, List.drop_zero]
          repeat (go_big_quiet_step (fail))
          refine wpQuiet_nil ?_
          refine mix_eff (by rfl) (cm_late (Nat.le_refl _)) ?_
          refine R_shift (base := w.heap.size) (w0 := w) (ok := fun _ => True) (k := k.toNat) (k1 := (k + 1).toNat) (xs := out) (y := 0) (c := c1) (ad := a1) (g := g1) rfl (.tmp 37) (.tmp 40) 26 26 rfl Try.underlying26 ?sz HA1.out.1 (by omega) (by omega) rfl rfl ?hO ?hB ?_
          case sz => kernel_rfl
          case hO =>
            have := HO1.out
            simp only [List.length_append, List.length_singleton] at this
            exact Kd.R_drewN this 1
          case hB => exact pw_below_drewN HB1.out 1
          intro w2 Y hY1 hY2 hY3 hRY hBY
          have HY1 := Aside0.mk hY1
          have HY := Aside0.mk (And.intro hY2 (And.intro hY3 (And.intro hRY hBY)))
          clear hY2 hY3 hRY hBY
          refine wpList_nil ?_
          refine ⟨rfl, cm_late (Nat.le_refl _), ?_⟩
          refine mix_done ?_
          obtain ⟨_, e, z0⟩ := Kd.at_int (Kd.C_below HR.out HY.out.2.2.2) i hi0 hlt
          cases e
          rw [HX.out] at z0
          have hRY' := HY.out.2.2.1
          rw [← HY1.out] at hRY'
          obtain ⟨_, e, z1⟩ := Kd.at_int (Kd.R_reads' hRY').2.2 k (by omega) (by have := HY1.out; omega)
          cases e
          have z2 : w2.frozen? (a1.add k.toNat) = false := by
            rw [add_at HA1.out.1]
            exact R_frozenI (by rw [← HA1.out.1]; exact hRY') _
          clear hRY'
          go_wp2
          go_roundw
          case rel =>
            have hR := HY.out.2.2.1
            rw [← HY1.out, HA1.out.1] at hR
            have hR' := Kd.R_put hR k x
            rw [← add_at HA1.out.1, ← HA1.out.1, HY1.out] at hR'
            have hfin : Y.set k.toNat x = insR x out := by
              have hkl : k.toNat < Y.length := by have := HY1.out; omega
              rw [insR, HPK.out, ← HY.out.1, ← HY.out.2.1, List.set_eq_take_append_cons_drop, if_pos hkl]
            refine ⟨i + 1, Y.set k.toNat x, by omega, by omega, rfl, ⟨?_⟩, ⟨?_⟩, ⟨grown_belowS HY.out.2.2.2 hR'.2 HA1.out.2.1 HY.out.2.2.2.size⟩⟩
            · rw [HN.out, HE.out, hfin]
            · exact hR'.1
          case measure => simp [intOf]; omega
    · go_wp2
      go_ret
      refine ⟨_, rfl, ?_, HB.out⟩
      have := HE.out
      rw [show i.toNat = l.length by omega, List.take_length, HRES.out] at this
      rw [this]
      exact HO.out
def carcanetref03_Sorted.f (l : List Int) : Option (List Int) := if l.length ≤ 8000000 then some (sortedR l) else none
theorem carcanetref03_Sorted.calls (A0 : Option Addr) (c0 : Nat) (l0 : List Int) (r : List Int) (w : World) (hr0 : Kd.C (Kd.int .i64) w A0 l0.length l0) (hc0 : l0.length ≤ c0) (h : carcanetref03_Sorted.f l0 = some r) :
    Calls Try.prog 44 #[.slice A0 l0.length c0] w fun e w' => ∃ v0_ : Value, e = .returned (v0_) ∧ Kd.R (Kd.int .i64) 3 w' w.heap.size (fun _ => True) v0_ r ∧ Below w.heap.size w w' := by
  obtain ⟨hl, rfl⟩ := if_some h
  exact sortedR_calls A0 c0 l0 w hr0 hc0 hl
end Go.Proofs.Ytkemhnfaheplhaa.F
namespace Go.Proofs.Ytkemhnfaheplhaa.F
open Go.RowKit Go.Proofs.YtkemhnfaheplhaaW.PrintWords Go.Proofs.YtkemhnfaheplhaaW.PrintLast Go.Proofs.YtkemhnfaheplhaaW.PrintMore
set_option linter.unusedVariables false
set_option linter.unusedSimpArgs false
def twice (all : List Int) (v : Int) : Bool := decide (all.countP (· < v) + 1 < all.length) && decide (rd all (all.countP (· < v) + 1 : Nat) = v)
def innerL (r : List Int) : List Int := (r.drop 1).take (r.length - 2)
def rowApart (all : List Int) (r : List Int) : Bool := decide (r.length < 3) || (innerL r).all fun v => !twice all v
def apartB (l : List (List Int)) : Bool := l.all (rowApart (sortI l.flatten))
theorem add_lit (b o n : Nat) : (⟨b, o, none⟩ : Addr).add n = ⟨b, o + n, none⟩ := by
  unfold Addr.add
  by_cases h : n = 0 <;> simp [h]
theorem flat_next (l : List (List Int)) (i : Int) (h0 : 0 ≤ i) (hi : i < l.length) : (l.take (i + 1).toNat).flatten = (l.take i.toNat).flatten ++ l.getD i.toNat [] := by
  have hi' : i.toNat < l.length := by omega
  rw [show (i + 1).toNat = i.toNat + 1 by omega, List.take_succ_eq_append_getElem hi', List.flatten_append]
  simp [List.getD_eq_getElem?_getD, hi']
theorem flat_le (l : List (List Int)) (k : Nat) : (l.take k).flatten.length ≤ l.flatten.length := by
  conv => rhs; rw [← List.take_append_drop k l, List.flatten_append, List.length_append]
  omega
theorem all_next {α : Type} (p : α → Bool) (l : List α) (d : α) (i : Int) (h0 : 0 ≤ i) (hi : i < l.length) : (l.take (i + 1).toNat).all p = ((l.take i.toNat).all p && p (l.getD i.toNat d)) := by
  have hi' : i.toNat < l.length := by omega
  rw [show (i + 1).toNat = i.toNat + 1 by omega, List.take_succ_eq_append_getElem hi', List.all_append]
  simp [List.getD_eq_getElem?_getD, hi']
theorem all_bad {α : Type} (p : α → Bool) (l : List α) (d : α) (i : Int) (h0 : 0 ≤ i) (hi : i < l.length) (h : p (l.getD i.toNat d) = false) : l.all p = false := by
  have hi' : i.toNat < l.length := by omega
  rw [List.getD_eq_getElem?_getD, List.getElem?_eq_getElem hi'] at h
  rw [List.all_eq_false]
  exact ⟨_, List.getElem_mem hi', by simpa using h⟩
theorem sortI_sorted (l : List Int) : (sortI l).Pairwise (· ≤ ·) := by
  have := List.pairwise_mergeSort (le := fun (x y : Int) => decide (x ≤ y)) (by intro a b c; simp; omega) (by intro a b; simp; omega) l
  exact this.imp (by simp)
set_option maxHeartbeats 2000000 in
set_option maxRecDepth 100000 in
theorem apart_calls (A : Option Addr) (c : Nat) (l : List (List Int)) (w : World) (hr : Kd.C (Kd.slice 3 (Kd.int .i64)) w A l.length l) (hc : l.length ≤ c) (hl : l.flatten.length ≤ 8000000) :
    Calls Try.prog 67 #[.slice A l.length c] w fun e w' => e = .returned (.bool (apartB l)) ∧ Below w.heap.size w w' := by
  have HR := Aside0.mk hr
  have hll : (l.length : Int) ≤ 9223372036854775807 := by have := hr.2.1; omega
  clear hr
  obtain ⟨res, hres⟩ : ∃ res, apartB l = res := ⟨_, rfl⟩
  rw [hres]
  have HRES := Aside0.mk hres
  clear hres
  go_enter Try.func67, Try.ntmps67
  go_wp2
  go_step3
  go_wp2
  go_loopw [14, 3] (fun p v wr => ∃ i : Int, 0 ≤ i ∧ i ≤ l.length ∧ p = .int .i64 i ∧ Aside0 (Kd.R (Kd.int .i64) 3 wr w.heap.size (fun _ => True) v (l.take i.toNat).flatten) ∧ Aside0 (Below w.heap.size w wr))
    (fun p _ _ => l.length - (intOf p).toNat)
  case atStart => exact ⟨0, by omega, by omega, rfl, ⟨Kd.R_nil _ _ _ _ _⟩, ⟨Below.refl _ _⟩⟩
  case round =>
    obtain ⟨i, hi0, hi, rfl, HO, HB⟩ := hrel
    by_cases hlt : i < l.length
    · obtain ⟨ad, A0, c0, e, x0, hc0, hC0⟩ := at_L14 (Kd.C_below HR.out HB.out) i hi0 hlt
      cases e
      have HN := Aside0.mk (flat_next l i hi0 hlt)
      have HLE := flat_le l (i + 1).toNat
      rw [HN.out, List.length_append] at HLE
      have HC0 := Aside0.mk hC0
      obtain ⟨row, hrow⟩ : ∃ row, rd_L14 l i = row := ⟨_, rfl⟩
      have hrow' : l.getD i.toNat [] = row := hrow
      rw [hrow] at x0 hc0 HC0
      rw [hrow'] at HN HLE
      clear hrow hrow' hC0
      go_wp2_with (at_builtin; refine Kd.R_append_rows (Kd.int .i64) (w0 := w) (Rr := (Kd.int .i64).M wr w.heap.size (fun _ => False)) w.heap.size rfl (.tmp 18) (.tmp 19) 26 3 (.int .i64 0) 8 rfl Try.underlying26 info3 rfl (by decide) (by omega) u3 (l.take i.toNat).flatten row A0 row.length c0 (fun _ => True) (fun _ => False) rfl rfl HO.out HC0.out (fun x cs h => h) (fun _ h => h.elim) (fun _ _ => trivial) HB.out HB.out.size (by omega) ?_; intro v1 w1 ho hb1 hg hat; have HO1 := Aside0.mk ho; have HB1 := Aside0.mk hb1; clear ho hb1 hg hat)
      go_roundw
      case rel => exact ⟨i + 1, by omega, by omega, rfl, ⟨by rw [HN.out]; exact HO1.out⟩, HB1⟩
      case measure => simp [intOf]; omega
    · have hi' : i.toNat = l.length := by omega
      have HO' : Aside0 (Kd.R (Kd.int .i64) 3 wr w.heap.size (fun _ => True) u3 l.flatten) := ⟨by have := HO.out; rwa [hi', List.take_length] at this⟩
      have HS := Aside0.mk (sortI_calls (fun _ => True) u3 l.flatten w wr HB.out HO'.out (by omega))
      clear HO HO'
      have hsl := sortI_len l.flatten
      have HSS := Aside0.mk (sortI_sorted l.flatten)
      have HRES' : Aside0 (l.all (rowApart (sortI l.flatten)) = res) := ⟨HRES.out⟩
      obtain ⟨S, hS⟩ : ∃ S, sortI l.flatten = S := ⟨_, rfl⟩
      rw [hS] at HS HSS hsl HRES'
      have hSl : S.length ≤ 8000000 := by omega
      have HFL : Aside0 (∀ i : Int, 0 ≤ i → i < l.length → (rd_L14 l i).length ≤ S.length) := ⟨fun i h0 h1 => by
        have h := flat_le l (i + 1).toNat
        rw [flat_next l i h0 h1, List.length_append] at h
        have e : rd_L14 l i = l.getD i.toNat [] := rfl
        rw [e]
        omega⟩
      clear hS hsl HRES
      go_wp2_with (go_at_call 133; refine HS.out.mono ?_; rintro e w1 ⟨rfl, hr1, hb1, hk1⟩; have HO1 := Aside0.mk hr1; have HB1 := Aside0.mk hb1; clear hr1 hb1 hk1 HS)
      go_step3
      go_wp2
      obtain ⟨Av, cv, hv⟩ := Kd.R_slice HO1.out
      subst hv
      go_loopw [26] (fun p wr => ∃ i : Int, 0 ≤ i ∧ i ≤ l.length ∧ p = .int .i64 i ∧ Aside0 ((l.take i.toNat).all (rowApart S) = true) ∧ Aside0 (∃ q, wr = w1.drewN q))
        (fun p _ => l.length - (intOf p).toNat)
      case atStart => exact ⟨0, by omega, by omega, rfl, ⟨rfl⟩, ⟨0, rfl⟩⟩
      case round =>
        obtain ⟨i, hi0, hi, rfl, HAL, HW⟩ := hrel
        obtain ⟨⟨q0, hwr⟩⟩ := HW
        subst hwr
        by_cases hlt2 : i < l.length
        · obtain ⟨ad, A0, c0, e, x0, hc0, hC0⟩ := at_L14 (Kd.C_below HR.out HB1.out) i hi0 hlt2
          cases e
          have HC0 := Aside0.mk hC0
          have HAN := Aside0.mk (all_next (rowApart S) l [] i hi0 hlt2)
          have HAB := Aside0.mk (all_bad (rowApart S) l [] i hi0 hlt2)
          have hrl := HFL.out i hi0 hlt2
          obtain ⟨row, hrow⟩ : ∃ row, rd_L14 l i = row := ⟨_, rfl⟩
          have hrow' : l.getD i.toNat [] = row := hrow
          rw [hrow] at x0 hc0 HC0 hrl
          rw [hrow'] at HAN HAB
          clear hrow hrow' hC0
          by_cases h3 : (row.length : Int) < 3
          · have HT : Aside0 (rowApart S row = true) := ⟨by simp [rowApart]; left; omega⟩
            go_wp2
            go_roundw
            case rel => exact ⟨i + 1, by omega, by omega, rfl, ⟨by rw [HAN.out, HAL.out, HT.out]; rfl⟩, ⟨_, rfl⟩⟩
            case measure => simp [intOf]; omega
          · have hpos : 0 < row.length := by omega
            obtain ⟨ad0, hA0⟩ : ∃ ad0, A0 = some ad0 := by
              obtain ⟨ad0, h, _⟩ := HC0.out.2.2 hpos
              exact ⟨ad0, h⟩
            subst hA0
            obtain ⟨m, hm⟩ : ∃ m, (row.length : Int) - 1 = m := ⟨_, rfl⟩
            have hw1 : IntKind.i64.wrap ((row.length : Int) - 1) = m := (IntWalk.i64_in _ (by omega)).trans hm
            have m1 : 1 ≤ m := by omega
            have m2 : m ≤ row.length := by omega
            have m3 : m ≤ (c0 : Int) := by omega
            have HM := Aside0.mk hm
            clear hm
            go_wp2
            have hil : (innerL row).length = m.toNat - 1 := by have := HM.out; simp [innerL]; omega
            have HRA : Aside0 (rowApart S row = (innerL row).all fun v => !twice S v) := ⟨by rw [rowApart, decide_eq_false (by omega), Bool.false_or]⟩
            go_loopw [39] (fun p wi => ∃ j : Int, 0 ≤ j ∧ j ≤ ((m.toNat - 1 : Nat) : Int) ∧ p = .int .i64 j ∧ Aside0 (((innerL row).take j.toNat).all (fun v => !twice S v) = true) ∧ Aside0 (∃ q, wi = w1.drewN q))
              (fun p _ => (m.toNat - 1) - (intOf p).toNat)
            case atStart => exact ⟨0, by omega, by omega, rfl, ⟨rfl⟩, ⟨_, rfl⟩⟩
            case round =>
              obtain ⟨j, hj0, hj, rfl, HJA, HJW⟩ := hrel
              obtain ⟨⟨q1, hwi⟩⟩ := HJW
              subst hwi
              by_cases hlt4 : j < ((m.toNat - 1 : Nat) : Int)
              · obtain ⟨_, e, y0⟩ := Kd.at_int HC0.out (1 + j) (by omega) (by omega)
                cases e
                rw [show (1 + j).toNat = 1 + j.toNat by omega, ← add_add, show ad0.add 1 = (⟨ad0.block, ad0.off + 1, none⟩ : Addr) by simp [Addr.add], add_lit] at y0
                have e4 : (innerL row).getD j.toNat 0 = rd row (1 + j) := by
                  rw [innerL, rd, List.getD_eq_getElem?_getD, List.getD_eq_getElem?_getD, List.getElem?_take, if_pos (by have := HM.out; omega), List.getElem?_drop, show (1 + j).toNat = 1 + j.toNat by omega]
                have HJN := Aside0.mk (all_next (fun v => !twice S v) (innerL row) 0 j hj0 (by omega))
                have HJB := Aside0.mk (all_bad (fun v => !twice S v) (innerL row) 0 j hj0 (by omega))
                obtain ⟨v, hv⟩ : ∃ v, rd row (1 + j) = v := ⟨_, rfl⟩
                rw [hv] at y0 e4
                rw [e4] at HJN HJB
                clear hv e4
                obtain ⟨p, hp⟩ : ∃ p : Int, ((S.countP (· < v) : Nat) : Int) + 1 = p := ⟨_, rfl⟩
                obtain ⟨cn, hcn⟩ : ∃ cn : Int, ((S.countP (· < v) : Nat) : Int) = cn := ⟨_, rfl⟩
                have hcl : S.countP (· < v) ≤ S.length := List.countP_le_length
                have HBS : Aside0 (∀ q, Calls Try.prog 134 #[.slice Av S.length cv, .int .i64 v] (w1.drewN q) fun e w' => e = .returned (.tuple #[.int .i64 cn, .bool (S.contains v)]) ∧ ∃ q', w' = (w1.drewN q).drewN q') := ⟨fun q => by
                  obtain ⟨aS, cS, gS, hvS, haS⟩ := R_form HO1.out (by omega)
                  injection hvS with h1 h2 h3
                  subst h1
                  rw [haS.1, ← hcn]
                  have h := AnyG.slices_BinarySearch_int Ytkemhnfaheplhaa.L.searchI gS 0 S.length cv S v (w1.drewN q) (Nat.le_refl _) (by omega) (fun j hj => by
                    obtain ⟨_, e, x⟩ := Kd.at_int (Kd.R_reads' HO1.out).2.2 (j : Int) (by omega) (by omega)
                    cases e
                    rw [add_at haS.1] at x
                    simpa [rd] using x) (by rw [List.take_length]; exact HSS.out)
                  rw [List.take_length] at h
                  exact h⟩
                have hw4 : IntKind.i64.wrap (cn + 1) = p := (IntWalk.i64_in _ (by omega)).trans (by omega)
                have HCN := Aside0.mk (And.intro hcn hp)
                obtain ⟨ctn, hctn⟩ : ∃ b, S.contains v = b := ⟨_, rfl⟩
                rw [hctn] at HBS
                have p0 : 0 ≤ p := by omega
                clear hctn hp hcn hcl
                by_cases c5 : p < (S.length : Int)
                · have d5 : decide (p < (S.length : Int)) = true := decide_eq_true c5
                  obtain ⟨aS, eS, z0⟩ := Kd.at_int (Kd.R_reads' HO1.out).2.2 p p0 c5
                  subst eS
                  obtain ⟨s, hs⟩ : ∃ s, rd S p = s := ⟨_, rfl⟩
                  rw [hs] at z0
                  have HSP := Aside0.mk hs
                  clear hs
                  have htw : Aside0 (twice S v = decide (s = v)) := ⟨by
                    have h1 := HCN.out.2
                    rw [twice, decide_eq_true (by omega), Bool.true_and, ← HSP.out, show ((List.countP (fun x => decide (x < v)) S + 1 : Nat) : Int) = p by omega]⟩
                  by_cases c6 : s = v
                  · subst c6
                    have hf : rowApart S row = false := by rw [HRA.out]; exact HJB.out (by rw [htw.out]; simp)
                    have HF : Aside0 (res = false) := ⟨by rw [← HRES'.out]; exact HAB.out hf⟩
                    go_wp2_with (go_at_call 134; refine (HBS.out _).mono ?_; rintro e w2 ⟨rfl, q2, rfl⟩)
                    (try simp only [Exit.inBlock, Exit.then])
                    rw [Exit.noGoto_ret]
                    go_ret
                    exact ⟨ret_bool HF.out.symm, pw_below_drewN HB1.out _⟩
                  · go_wp2_with (go_at_call 134; refine (HBS.out _).mono ?_; rintro e w2 ⟨rfl, q2, rfl⟩)
                    go_roundw
                    case rel => exact ⟨j + 1, by omega, by omega, rfl, ⟨by rw [HJN.out, HJA.out, htw.out, decide_eq_false c6]; rfl⟩, ⟨_, rfl⟩⟩
                    case measure => simp [intOf]; omega
                · have d5 : decide (p < (S.length : Int)) = false := decide_eq_false c5
                  have htw : Aside0 (twice S v = false) := ⟨by
                    have h1 := HCN.out.2
                    rw [twice, decide_eq_false (by omega), Bool.false_and]⟩
                  go_wp2_with (go_at_call 134; refine (HBS.out _).mono ?_; rintro e w2 ⟨rfl, q2, rfl⟩)
                  go_roundw
                  case rel => exact ⟨j + 1, by omega, by omega, rfl, ⟨by rw [HJN.out, HJA.out, htw.out]; rfl⟩, ⟨_, rfl⟩⟩
                  case measure => simp [intOf]; omega
              · have HT : Aside0 (rowApart S row = true) := ⟨by
                  have := HJA.out
                  rw [List.take_of_length_le (by omega)] at this
                  rw [HRA.out]; exact this⟩
                go_wp2
                go_roundw
                case rel => exact ⟨i + 1, by omega, by omega, rfl, ⟨by rw [HAN.out, HAL.out, HT.out]; rfl⟩, ⟨_, rfl⟩⟩
                case measure => simp [intOf]; omega
        · go_wp2
          go_ret
          refine ⟨ret_bool ?_, pw_below_drewN HB1.out _⟩
          rw [← HRES'.out, ← HAL.out, show i.toNat = l.length by omega, List.take_length]
end Go.Proofs.Ytkemhnfaheplhaa.F
namespace Go.Proofs.Ytkemhnfaheplhaa.F
open Go.RowKit Go.Shelf Go.Proofs.YtkemhnfaheplhaaW.PrintWords Go.Proofs.YtkemhnfaheplhaaW.PrintLast Go.Proofs.YtkemhnfaheplhaaW.PrintMore Go.Proofs.Ytkemhnfaheplhaa.Mix
set_option linter.unusedVariables false
set_option linter.unusedSimpArgs false
attribute [local go_sem] Oper.semAt_some
def nearL (v : Int) : List S69 → List Int
  | [] => []
  | x :: r => if v < x.f0 then [] else (if x.f1 = v then [x.f0] else []) ++ ((if x.f0 = v then [x.f1] else []) ++ nearL v r)
theorem nearL_step (v : Int) (l : List S69) (i : Int) (h0 : 0 ≤ i) (hi : i < l.length) :
    nearL v (l.drop i.toNat) = if v < (rd_T69 l i).f0 then [] else (if (rd_T69 l i).f1 = v then [(rd_T69 l i).f0] else []) ++ ((if (rd_T69 l i).f0 = v then [(rd_T69 l i).f1] else []) ++ nearL v (l.drop (i + 1).toNat)) := by
  have hi' : i.toNat < l.length := by omega
  rw [List.drop_eq_getElem_cons hi']
  have : rd_T69 l i = l[i.toNat] := by simp [rd_T69, List.getD_eq_getElem?_getD, hi']
  rw [this, show (i + 1).toNat = i.toNat + 1 by omega]
  rfl
theorem nearL_length (v : Int) : ∀ l : List S69, (nearL v l).length ≤ 2 * l.length
  | [] => by simp [nearL]
  | x :: r => by
    have := nearL_length v r
    simp only [nearL]
    split
    · simp
    · simp only [List.length_append, List.length_cons]
      split <;> split <;> simp <;> omega
def KNear (n0 b : Nat) (W W' : World) : Prop := Below n0 W W' ∧ (∀ x, W.cell? ⟨b, 0, none⟩ = some x → W'.cell? ⟨b, 0, none⟩ = some x) ∧ ∀ (p : Nat) (cs : Array Value) (q : Nat × Nat), W.heap[p]? = some (.cells cs 69 q) → W'.heap[p]? = some (.cells cs 69 q)
theorem KNear.refl {n0 b : Nat} (W : World) : KNear n0 b W W := ⟨Below.refl _ _, fun _ h => h, fun _ _ _ h => h⟩
theorem KNear.t {n0 b : Nat} {A B C : World} (h : KNear n0 b A B) (k : KNear n0 b B C) : KNear n0 b A C := ⟨h.1.trans k.1, fun x e => k.2.1 x (h.2.1 x e), fun p cs q e => k.2.2 p cs q (h.2.2 p cs q e)⟩
theorem KNear.alloc {n0 b : Nat} {A B : World} (h : KNear n0 b A B) (hs : n0 ≤ B.heap.size) (o : Obj) : KNear n0 b A (B.alloc o) :=
  ⟨h.1.alloc hs o, fun x e => cell_then (h.2.1 x e) o, fun p cs q e => by
    have e' := h.2.2 p cs q e
    exact (Below.heap_alloc B o p (Array.getElem?_eq_some_iff.1 e').1).trans e'⟩
theorem KNear.b {n0 b : Nat} {w : World} (hn : n0 ≤ w.heap.size) (W : World) (l : Nat) (o o' : Obj) (hl : w.heap.size ≤ l) (h : W.heap[l]? = some o) (h1 : o.isCells = false) (h2 : o.isWalk = false) : KNear n0 b W (W.putObj l o') :=
  ⟨belowK_b hn W l o o' hl h h1 h2, fun x e => cell_kept e (grownBy_putObj' W l o') (fun r e => by cases e; exact ⟨_, h, h1⟩),
    fun p cs q e => (grownBy_keeps_cells (grownBy_putObj' W l o') (fun r e => by cases e; exact ⟨_, h, h1⟩) e rfl).trans e⟩
set_option maxRecDepth 100000 in
set_option maxHeartbeats 2000000 in
theorem near1_in (F : Fence) (n : Nat) (h1 : F.fn 149) (hro : F.round = none) (hn : 1 ≤ n) (k Bg Bv n0 : Nat) (N v : Int) (A : Option Addr) (c : Nat) (l : List S69) (hlen : l.length ≤ 9223372036854775807) (J Jx : List Int → World → Prop) (W : World)
    (hbv : Bv < W.heap.size) (hn0 : n0 ≤ W.heap.size)
    (hJ : AbidesFrom W.heap.size J)
    (hY : ∀ pre x W1, J pre W1 → pre.length < 2 * l.length → YieldAt F (n - 1) Try.prog k #[.int .i64 x] W1 fun e W' =>
      (e = .returned (.bool true) ∧ J (pre ++ [x]) W' ∧ KNear n0 Bv W1 W') ∨ (e = .returned (.bool false) ∧ Jx (pre ++ [x]) W'))
    (hg : W.cell? ⟨Bg, 1, none⟩ = some (.slice A l.length c)) (hv : W.cell? ⟨Bv, 0, none⟩ = some (.int .i64 v)) (hC : ∀ W', Below n0 W W' → Kd.C k69 W' A l.length l) (h0 : J [] W) :
    CallsIn F n Try.prog 149 #[.func (.yield k) #[] #[], .pointer (some ⟨Bg, 0, none⟩), .pointer (some ⟨Bv, 0, none⟩)] W fun e W' => (∃ x, e = .returned x) ∧
      ((∃ ys, ys = nearL v l ∧ J ys W') ∨ (∃ pre, pre <+: nearL v l ∧ Jx pre W')) := by
  have hu31 := Try.underlying31
  have hu69 := Try.underlying69
  refine callsIn_of_wp Try.func149 rfl h1 ?_ hro
  simp only [Try.ntmps149, List.size_toArray, List.length_cons, List.length_nil, Nat.reduceAdd, Nat.reduceSub, Array.replicate_succ, Array.replicate_zero, List.push_toArray, List.append_toArray, List.nil_append, List.cons_append]
  have HCC := Aside0.mk hC
  have HYY := Aside0.mk hY
  have HJA := Aside0.mk hJ
  clear hC hY hJ
  gi_wp2
  gi_loopw [9] (fun p wr => ∃ (i : Int) (pre : List Int), 0 ≤ i ∧ i ≤ l.length ∧ p = .int .i64 i ∧ Aside0 (nearL v l = pre ++ nearL v (l.drop i.toNat)) ∧ Aside0 (pre.length ≤ 2 * i) ∧ Aside0 (J pre wr) ∧ Aside0 (KNear n0 Bv W wr) ∧ Aside0 (W.heap.size ≤ wr.heap.size))
    (fun p _ => l.length - (intOf p).toNat)
  case atStart => exact ⟨0, [], by omega, by omega, rfl, ⟨rfl⟩, ⟨by simp⟩, ⟨h0⟩, ⟨KNear.refl _⟩, ⟨Nat.le_refl _⟩⟩
  case round =>
    obtain ⟨i, pre, hi0, hi, rfl, HE, HL, HJ, HK, HS⟩ := hrel
    have hv' := HK.out.2.1 _ hv
    have hsz := HS.out
    have HC := Aside0.mk (HCC.out wr HK.out.1)
    by_cases hlt : i < l.length
    · have HST := Aside0.mk (nearL_step v l i hi0 hlt)
      obtain ⟨ad, e, x0, x1⟩ := at_T69 HC.out i (by omega) (by omega)
      cases e
      obtain ⟨a, ha⟩ : ∃ a, (rd_T69 l i).f0 = a := ⟨_, rfl⟩
      obtain ⟨b, hb⟩ : ∃ a, (rd_T69 l i).f1 = a := ⟨_, rfl⟩
      rw [ha] at x0
      rw [hb] at x1
      have HAB := Aside0.mk (And.intro ha hb)
      clear ha hb
      have HJ1 := Aside0.mk (HJA.out _ _ _ none HJ.out (World.grownBy_alloc wr (.cells #[.int .i64 a, .int .i64 b] 69) none) (fun r e => by cases e))
      have HK1 : Aside0 (KNear n0 Bv W (wr.alloc (.cells #[.int .i64 a, .int .i64 b] 69))) := ⟨HK.out.alloc (by omega) _⟩
      have HN : Aside0 ((wr.alloc (.cells #[.int .i64 a, .int .i64 b] 69)).heap[wr.heap.size]? = some (.cells #[.int .i64 a, .int .i64 b] 69 (0, 0))) := ⟨heap_alloc_new _ _⟩
      have hbw : Bv < wr.heap.size := by omega
      have HPL : Aside0 (pre.length < 2 * l.length) := ⟨by have := HL.out; omega⟩
      by_cases c1 : v < a
      · gi_wp2
        refine bodyPost_ret (results_none rfl _ _ _) rfl ?_
        refine ⟨⟨_, rfl⟩, .inl ⟨_, rfl, ?_⟩⟩
        rw [HE.out, HST.out, HAB.out.1, if_pos c1, List.append_nil]
        exact HJ1.out
      · by_cases c2 : b = v
        · subst c2
          obtain ⟨fn, tmps, assign, body, hy, hR⟩ := HYY.out pre a _ HJ1.out HPL.out
          gi_wp2
          refine hR.mono ?_
          clear hy hR
          rintro e W3 (⟨rfl, hJ3, hk3⟩ | ⟨rfl, hJx3⟩)
          · have HJ3 := Aside0.mk hJ3
            have HK3 := Aside0.mk (HK1.out.t hk3)
            have hv3 := HK3.out.2.1 _ hv
            have hbk := hk3.2.2 _ _ _ HN.out
            have HN3 := Aside0.mk hbk
            have g0 : W3.cell? ⟨wr.heap.size, 0, none⟩ = some (.int .i64 a) := (blk_cell hbk 0).trans rfl
            have g1 : W3.cell? ⟨wr.heap.size, 1, none⟩ = some (.int .i64 b) := (blk_cell hbk 1).trans rfl
            clear hbk hJ3
            have HS3 : Aside0 (W.heap.size ≤ W3.heap.size) := ⟨Nat.le_trans hsz (by have := (Array.getElem?_eq_some_iff.1 (hk3.2.2 _ _ _ HN.out)).1; omega)⟩
            clear hk3
            by_cases c3 : a = b
            · subst c3
              obtain ⟨fn, tmps, assign, body, hy, hR⟩ := HYY.out (pre ++ [a]) a _ HJ3.out (by have := HL.out; simp; omega)
              gi_wp2
              refine hR.mono ?_
              clear hy hR
              rintro e W4 (⟨rfl, hJ4, hk4⟩ | ⟨rfl, hJx4⟩)
              · have HJ4 := Aside0.mk hJ4
                have HK4 := Aside0.mk (HK3.out.t hk4)
                have HS4 : Aside0 (W.heap.size ≤ W4.heap.size) := ⟨Nat.le_trans hsz (by have := (Array.getElem?_eq_some_iff.1 (hk4.2.2 _ _ _ HN3.out)).1; omega)⟩
                clear hJ4 hk4
                gi_wp2
                go_roundw
                case rel => exact ⟨i + 1, pre ++ [a] ++ [a], by omega, by omega, rfl, ⟨by rw [HE.out, HST.out, HAB.out.1, HAB.out.2, if_neg (by omega), if_pos rfl]; simp⟩, ⟨by have := HL.out; simp; omega⟩, HJ4, HK4, HS4⟩
                case measure => simp [intOf]; omega
              · gi_wp2
                refine bodyPost_ret (results_none rfl _ _ _) rfl ?_
                refine ⟨⟨_, rfl⟩, .inr ⟨pre ++ [a] ++ [a], ?_, hJx4⟩⟩
                rw [HE.out, HST.out, HAB.out.1, HAB.out.2, if_neg (by omega), if_pos rfl]
                simp
            · gi_wp2
              refine ⟨fun _ h => (by cases h), ?_⟩
              gi_wp2
              go_roundw
              case rel => exact ⟨i + 1, pre ++ [a], by omega, by omega, rfl, ⟨by rw [HE.out, HST.out, HAB.out.1, HAB.out.2, if_neg (by omega), if_pos rfl, if_neg c3]; simp⟩, ⟨by have := HL.out; simp; omega⟩, HJ3, HK3, HS3⟩
              case measure => simp [intOf]; omega
          · gi_wp2
            refine bodyPost_ret (results_none rfl _ _ _) rfl ?_
            refine ⟨⟨_, rfl⟩, .inr ⟨pre ++ [a], ?_, hJx3⟩⟩
            rw [HE.out, HST.out, HAB.out.1, HAB.out.2, if_neg (by omega), if_pos rfl]
            simp
        · by_cases c3 : a = v
          · subst c3
            obtain ⟨fn, tmps, assign, body, hy, hR⟩ := HYY.out pre b _ HJ1.out HPL.out
            gi_wp2
            refine ⟨fun _ h => (by cases h), ?_⟩
            gi_wp2
            refine hR.mono ?_
            clear hy hR
            rintro e W3 (⟨rfl, hJ3, hk3⟩ | ⟨rfl, hJx3⟩)
            · have HJ3 := Aside0.mk hJ3
              have HK3 := Aside0.mk (HK1.out.t hk3)
              have HS3 : Aside0 (W.heap.size ≤ W3.heap.size) := ⟨Nat.le_trans hsz (by have := (Array.getElem?_eq_some_iff.1 (hk3.2.2 _ _ _ HN.out)).1; omega)⟩
              clear hJ3 hk3
              gi_wp2
              go_roundw
              case rel => exact ⟨i + 1, pre ++ [b], by omega, by omega, rfl, ⟨by rw [HE.out, HST.out, HAB.out.1, HAB.out.2, if_neg (by omega), if_neg c2, if_pos rfl]; simp⟩, ⟨by have := HL.out; simp; omega⟩, HJ3, HK3, HS3⟩
              case measure => simp [intOf]; omega
            · gi_wp2
              refine bodyPost_ret (results_none rfl _ _ _) rfl ?_
              refine ⟨⟨_, rfl⟩, .inr ⟨pre ++ [b], ?_, hJx3⟩⟩
              rw [HE.out, HST.out, HAB.out.1, HAB.out.2, if_neg (by omega), if_neg c2, if_pos rfl]
              simp
          · gi_wp2
            refine ⟨fun _ h => (by cases h), ?_⟩
            gi_wp2
            go_roundw
            case rel => exact ⟨i + 1, pre, by omega, by omega, rfl, ⟨by rw [HE.out, HST.out, HAB.out.1, HAB.out.2, if_neg (by omega), if_neg c2, if_neg c3]; simp⟩, ⟨by have := HL.out; simp; omega⟩, HJ1, HK1, ⟨by simp; omega⟩⟩
            case measure => simp [intOf]; omega
    · obtain rfl : i = l.length := by omega
      gi_wp2
      go_end0
      have := HJ.out
      have he := HE.out
      simp [nearL] at he
      rw [he]
      exact ⟨⟨_, rfl⟩, .inl this⟩
set_option maxHeartbeats 1000000 in
theorem near_in (F : Fence) (n : Nat) (h : F.fn 111) (hro : F.round = none) (N v : Int) (A : Option Addr) (m c : Nat) (w : World) :
    CallsIn F n Try.prog 111 #[.agg #[.int .i64 N, .slice A m c], .int .i64 v] w fun e w' => e = .returned (.func (.func 149) #[] #[.pointer (some ⟨w.heap.size, 0, none⟩), .pointer (some ⟨w.heap.size + 1, 0, none⟩)]) ∧ w' = (w.alloc (.cells #[.int .i64 N, .slice A m c] 31)).alloc (.cells #[.int .i64 v] 3) := by
  have hu31 := Try.underlying31
  refine callsIn_of_wp Try.func111 rfl h ?_ hro
  simp only [Try.ntmps111, List.size_toArray, List.length_cons, List.length_nil, Nat.reduceAdd, Nat.reduceSub, Array.replicate_succ, Array.replicate_zero, List.push_toArray, List.append_toArray, List.nil_append, List.cons_append]
  gi_wp2
  go_ret
  exact ⟨rfl, rfl⟩
set_option maxRecDepth 100000 in
theorem near_stops (F : Fence) (n : Nat) (h1 : F.fn 149) (hro : F.round = none) (hn : 1 ≤ n) (Bg Bv n0 : Nat) (N v : Int) (A : Option Addr) (c : Nat) (l : List S69) (hlen : l.length ≤ 9223372036854775807) (w : World)
    (hbg : Bg < w.heap.size) (hbv : Bv < w.heap.size) (hn0 : n0 ≤ w.heap.size)
    (hg : w.cell? ⟨Bg, 1, none⟩ = some (.slice A l.length c)) (hv : w.cell? ⟨Bv, 0, none⟩ = some (.int .i64 v)) (hC : ∀ W', Below n0 w W' → Kd.C k69 W' A l.length l) :
    SeqStopsK F n Try.prog 149 #[.pointer (some ⟨Bg, 0, none⟩), .pointer (some ⟨Bv, 0, none⟩)] (fun x : Int => #[Value.int .i64 x]) (KNear n0 Bv) (fun ys => ys = nearL v l) (fun pre => pre <+: nearL v l) (2 * l.length) w :=
  fun k J Jx W hW hJ _ hY h0 => near1_in F n h1 hro hn k Bg Bv n0 N v A c l hlen J Jx W (Nat.lt_of_lt_of_le hbv hW.size) (Nat.le_trans hn0 hW.size) hJ hY
    ((hW.cell (p := ⟨Bg, 1, none⟩) hbg).trans hg) ((hW.cell (p := ⟨Bv, 0, none⟩) hbv).trans hv) (fun W' h => hC W' ((hW.mono hn0).trans h)) h0
def hasB (N : Int) (l : List S69) (a b : Int) : Bool := rightB N l && decide (b ∈ nearL a l)
set_option maxRecDepth 100000 in
set_option maxHeartbeats 2000000 in
theorem has_calls (N a b : Int) (A : Option Addr) (c : Nat) (l : List S69) (w : World) (hr : Kd.C k69 w A l.length l) (hc : l.length ≤ c) :
    Calls Try.prog 49 #[.agg #[.int .i64 N, .slice A l.length c], .int .i64 a, .int .i64 b] w fun e w' => e = .returned (.bool (hasB N l a b)) ∧ Below w.heap.size w w' := by
  have hu31 := Try.underlying31
  have hro : Fence.wide.round = none := rfl
  have HR := Aside0.mk hr
  have HC := Aside0.mk hc
  have hlen : l.length ≤ 9223372036854775807 := by have := hr.2.1; omega
  clear hr hc
  refine (callsIn_wide (n := 3)).1 ?_
  refine callsIn_of_wp_marks Try.func49 rfl trivial ?_ hro
  simp only [Try.ntmps49, List.size_toArray, List.length_cons, List.length_nil, Nat.reduceAdd, Nat.reduceSub, Array.replicate_succ, Array.replicate_zero, List.push_toArray, List.append_toArray, List.nil_append, List.cons_append]
  obtain ⟨q, hq⟩ : ∃ q, rightB N l = q := ⟨_, rfl⟩
  have HQ := Aside0.mk hq
  clear hq
  obtain ⟨W1, hW1⟩ : ∃ W1, ((w.alloc (.cells #[.int .i64 N, .slice A l.length c] 31)).alloc (.cells #[.int .i64 b] 3)).alloc (.cells #[.bool false] 4) = W1 := ⟨_, rfl⟩
  have HRI : Aside0 (Calls Try.prog 55 #[.agg #[.int .i64 N, .slice A l.length c]] W1 fun e w' => e = .returned (.bool q) ∧ Below W1.heap.size W1 w') := by
    refine ⟨?_⟩
    rw [← HQ.out]
    refine right_calls N A c l W1 (Kd.C_below HR.out ?_) HC.out
    rw [← hW1]
    exact ((Below.refl _ _).alloc (Nat.le_refl _) _ |>.alloc (by simp) _).alloc (by simp; omega) _
  have HW1 := Aside0.mk hW1
  clear hW1
  gi_wp2
  refine ⟨trivial, ?_⟩
  have hW1 := HW1.out
  rw [hW1]
  refine (callsIn_wide.2 HRI.out).mono ?_
  rintro e w1 ⟨rfl, hb1⟩
  have hW0 : Below w.heap.size w W1 := by rw [← hW1]; exact ((Below.refl _ _).alloc (Nat.le_refl _) _ |>.alloc (by simp) _).alloc (by simp; omega) _
  have hs1 : W1.heap.size = w.heap.size + 3 := by rw [← hW1]; simp
  have hB0 : w1.heap[w.heap.size]? = some (.cells #[.int .i64 N, .slice A l.length c] 31 (0, 0)) := by
    refine (hb1.block _ (by omega)).trans ?_
    rw [← hW1]; exact ((Below.heap_alloc _ _ _ (by simp; omega)).trans (Below.heap_alloc _ _ _ (by simp))).trans (heap_alloc_new w _)
  have hB1 : w1.heap[w.heap.size + 1]? = some (.cells #[.int .i64 b] 3 (0, 0)) := by
    refine (hb1.block _ (by omega)).trans ?_
    rw [← hW1]; refine (Below.heap_alloc _ _ _ (by simp)).trans ?_
    have := heap_alloc_new (w.alloc (.cells #[.int .i64 N, .slice A l.length c] 31)) (.cells #[.int .i64 b] 3); rwa [World.size_alloc] at this
  have hB2 : w1.heap[w.heap.size + 1 + 1]? = some (.cells #[.bool false] 4 (0, 0)) := by
    refine (hb1.block _ (by omega)).trans ?_
    rw [← hW1]; have := heap_alloc_new ((w.alloc (.cells #[.int .i64 N, .slice A l.length c] 31)).alloc (.cells #[.int .i64 b] 3)) (.cells #[.bool false] 4); rwa [World.size_alloc, World.size_alloc] at this
  have hbw : Below w.heap.size w w1 := hW0.trans (hb1.mono (by omega))
  have hs2 : w.heap.size + 3 ≤ w1.heap.size := by have := hb1.size; omega
  have HBW := Aside0.mk hbw
  have HB := Aside0.mk (And.intro hB0 (And.intro hB1 hB2))
  have g0 : w1.cell? ⟨w.heap.size, 0, none⟩ = some (.int .i64 N) := (blk_cell hB0 0).trans rfl
  have g1 : w1.cell? ⟨w.heap.size, 1, none⟩ = some (.slice A l.length c) := (blk_cell hB0 1).trans rfl
  have g2 : w1.cell? ⟨w.heap.size + 1, 0, none⟩ = some (.int .i64 b) := (blk_cell hB1 0).trans rfl
  have g3 : w1.cell? ⟨w.heap.size + 1 + 1, 0, none⟩ = some (.bool false) := (blk_cell hB2 0).trans rfl
  have f3 : w1.frozen? ⟨w.heap.size + 1 + 1, 0, none⟩ = false := blk_frozen hB2 0
  clear hbw hB0 hB1 hB2 hb1 hW0 hW1 HW1 hs1
  cases q with
  | false =>
    gi_wp2
    refine ⟨.bool false, ?_, ret_bool (by simp [hasB, HQ.out]), HBW.out.setCell (p := ⟨w.heap.size + 1 + 1, 0, none⟩) (by simp; omega) _⟩
    have hc5 := World.cell?_setCell_same' w1 ⟨w.heap.size + 1 + 1, 0, none⟩ (.bool false) (by rw [g3]; rfl)
    simp [results, Try.f49, go_sem, hc5]
  | true => 
    gi_wp2
    refine ⟨trivial, ?_⟩
    refine (near_in Fence.wide _ trivial rfl _ _ _ _ _ _).mono ?_
    rintro e w' ⟨rfl, rfl⟩
    obtain ⟨W2, hW2⟩ : ∃ W2, ((w1.alloc (.cells #[.int .i64 N, .slice A l.length c] 31)).alloc (.cells #[.int .i64 a] 3)) = W2 := ⟨_, rfl⟩
    have hb2 : Below w1.heap.size w1 W2 := by rw [← hW2]; exact ((Below.refl _ _).alloc (Nat.le_refl _) _).alloc (by simp) _
    have hs3 : W2.heap.size = w1.heap.size + 2 := by rw [← hW2]; simp
    have hB3 : W2.heap[w1.heap.size]? = some (.cells #[.int .i64 N, .slice A l.length c] 31 (0, 0)) := by
      rw [← hW2]; exact (Below.heap_alloc _ _ _ (by simp)).trans (heap_alloc_new w1 _)
    have hB4 : W2.heap[w1.heap.size + 1]? = some (.cells #[.int .i64 a] 3 (0, 0)) := by
      rw [← hW2]; have := heap_alloc_new (w1.alloc (.cells #[.int .i64 N, .slice A l.length c] 31)) (.cells #[.int .i64 a] 3); rwa [World.size_alloc] at this
    rw [hW2]
    have k2 := pw_cell_below hb2 g2
    have k3 := pw_cell_below hb2 g3
    have kf : W2.frozen? ⟨w.heap.size + 1 + 1, 0, none⟩ = false := blk_frozen ((hb2.block _ (by omega)).trans HB.out.2.2) 0
    have hbw : Below w.heap.size w W2 := HBW.out.trans (hb2.mono (by omega))
    clear g0 g1 g2 g3 f3 hW2
    gi_wp2
    refine wpIn_rangeFunc_ownF rfl (by omega) (gf := 149) (lb := #[.pointer (some ⟨w1.heap.size, 0, none⟩), .pointer (some ⟨w1.heap.size + 1, 0, none⟩)]) rfl trivial (enters_of Try.func149 (by kernel_rfl) rfl)
      (near_stops Fence.wide _ trivial rfl (by omega) w1.heap.size (w1.heap.size + 1) w.heap.size N a A c l hlen W2 (by omega) (by omega) (by omega) ((blk_cell hB3 1).trans rfl) ((blk_cell hB4 0).trans rfl) (fun W' h => Kd.C_below HR.out (hbw.trans h)))
      KNear.t (KNear.b (by omega)) (Below.refl _ _) (fun _ => rfl)
      (fun pre W => ((∀ y ∈ pre, y ≠ b) ∧ W.cell? ⟨w.heap.size + 1, 0, none⟩ = some (.int .i64 b) ∧ W.cell? ⟨w.heap.size + 1 + 1, 0, none⟩ = some (.bool false) ∧ W.frozen? ⟨w.heap.size + 1 + 1, 0, none⟩ = false) ∧ Below w.heap.size w W)
      (fun j pre W => (j = .ret ∧ b ∈ pre ∧ W.cell? ⟨w.heap.size + 1 + 1, 0, none⟩ = some (.bool true)) ∧ Below w.heap.size w W)
      (OwnFrom.and (Own.from (fun s A B row hs hg hr => ⟨hs.1, cell_kept hs.2.1 hg hr, cell_kept hs.2.2.1 hg hr, (frozen_kept hs.2.2.1 hg hr).trans hs.2.2.2⟩) _) (ownFrom_below (Nat.le_refl _) (by omega)))
      (fun j => OwnFrom.and (Own.from (fun s A B row hs hg hr => ⟨hs.1, hs.2.1, cell_kept hs.2.2 hg hr⟩) _) (ownFrom_below (Nat.le_refl _) (by omega)))
      ⟨⟨by simp, k2, k3, kf⟩, hbw⟩
      (fun x => { tmps := #[.agg #[.int .i64 N, .slice A l.length c], .int .i64 a, .int .i64 b, .pointer (some ⟨w.heap.size, 0, none⟩), undef, .pointer (some ⟨w.heap.size + 1, 0, none⟩), .pointer (some ⟨w.heap.size + 1 + 1, 0, none⟩), .int .i64 x,
        .agg #[.int .i64 N, .slice A l.length c], .bool true, .bool false, .agg #[.int .i64 N, .slice A l.length c], .int .i64 a, .func (.func 149) #[] #[.pointer (some ⟨w1.heap.size, 0, none⟩), .pointer (some ⟨w1.heap.size + 1, 0, none⟩)], .int .i64 x, undef, undef, undef], defers := [] }) ?assign ?body ?done ?stop
    case assign =>
      intro l x W K hK
      gi_wp2
      exact hK
    case body =>
      rintro l pre x W ⟨⟨hp, hcw, hcr, hfr⟩, hB⟩ _
      gi_wp2
      · rename_i hx
        obtain rfl : x = b := eq_of_beq hx
        exact ⟨KeepsOthers.setCell _ _ _, ⟨rfl, List.mem_append.2 (.inr (by simp)), World.cell?_setCell_same' _ _ _ (by rw [hcr]; rfl)⟩, hB.setCell (p := ⟨w.heap.size + 1 + 1, 0, none⟩) (by simp; omega) _⟩
      · rename_i hx
        exact ⟨KeepsOthers.refl _, KNear.refl _, ⟨fun y hy => (List.mem_append.1 hy).elim (hp y) (fun e e' => by simp at e; subst e; subst e'; simp at hx), hcw, hcr, hfr⟩, hB⟩
    case done =>
      rintro D ys W hD rfl ⟨⟨hne, _, hcr, hfr⟩, hB⟩ hK
      gi_wp2
      have hK' := (KeepsOthers.setCell W ⟨w.heap.size + 1 + 1, 0, none⟩ (.bool false)).same D _ hK rfl
      refine ⟨by simp, .inl ⟨_, _, rfl, run_takeDeferred hK', ?_⟩⟩
      have hc5 := cell_kept (World.cell?_setCell_same' W ⟨w.heap.size + 1 + 1, 0, none⟩ (.bool false) (by rw [hcr]; rfl)) (grownBy_putObj' _ D (.deferred none)) (fun r e => by cases e; exact ⟨_, hK', rfl⟩)
      refine ⟨.bool false, ?_, ret_bool ?_, (hB.setCell (p := ⟨w.heap.size + 1 + 1, 0, none⟩) (by simp; omega) _).trans (belowK_b (w := w) (Nat.le_refl _) _ D _ _ (by omega) hK' rfl rfl)⟩
      · simp [results, Try.f49, go_sem, hc5]
      · simp only [hasB, HQ.out, Bool.true_and]
        rw [decide_eq_false (fun h => hne b h rfl)]
    case stop =>
      rintro D j pre W hD hpre ⟨⟨rfl, hin, hcr⟩, hB⟩ hK
      gi_wp2
      refine ⟨by simp, .inl ⟨_, _, rfl, run_takeDeferred hK, ?_⟩⟩
      have hc5 := cell_kept hcr (grownBy_putObj' _ D (.deferred none)) (fun r e => by cases e; exact ⟨_, hK, rfl⟩)
      refine ⟨.bool true, ?_, ret_bool ?_, hB.trans (belowK_b (w := w) (Nat.le_refl _) W D _ _ (by omega) hK rfl rfl)⟩
      · simp [results, Try.f49, go_sem, hc5]
      · simp only [hasB, HQ.out, Bool.true_and]
        rw [decide_eq_true (hpre.subset hin)]
end Go.Proofs.Ytkemhnfaheplhaa.F
namespace Go.Proofs.Ytkemhnfaheplhaa.F
open Go.RowKit Go.Proofs.YtkemhnfaheplhaaW.PrintWords Go.Proofs.YtkemhnfaheplhaaW.PrintLast Go.Proofs.YtkemhnfaheplhaaW.PrintMore
def graph_Has.f (N : Int) (l : List S69) (a b : Int) : Option Bool := some (hasB N l a b)
theorem graph_Has.calls (a0_0 : Int) (A0_1 : Option Addr) (c0_1 : Nat) (l0_1 : List (S69)) (a1 : Int) (a2 : Int) (r : Bool) (w : World) (hr0_1 : Kd.C k69 w A0_1 l0_1.length l0_1) (hc0_1 : l0_1.length ≤ c0_1) (h : graph_Has.f a0_0 l0_1 a1 a2 = some r) :
    Calls Try.prog 49 #[.agg #[.int .i64 a0_0, .slice A0_1 l0_1.length c0_1], .int .i64 a1, .int .i64 a2] w fun e w' => e = .returned (.bool r) ∧ Below w.heap.size w w' := by
  cases h
  exact has_calls a0_0 a1 a2 A0_1 c0_1 l0_1 w hr0_1 hc0_1
end Go.Proofs.Ytkemhnfaheplhaa.F
namespace Go.Proofs.Ytkemhnfaheplhaa.F
open Go.RowKit Go.Proofs.YtkemhnfaheplhaaW.PrintWords Go.Proofs.YtkemhnfaheplhaaW.PrintLast Go.Proofs.YtkemhnfaheplhaaW.PrintMore
attribute [local go_sem] max2_int min2_int max_two min_two max_three min_three max_four min_four
set_option linter.unusedVariables false
set_option linter.unusedSimpArgs false
theorem eqA69 (d : Nat) (w : World) (x0 y0 : Int) (x1 y1 : Int) :
    (Op.equalIn (d + 2) 69 (.agg #[.int .i64 x0, .int .i64 x1]) (.agg #[.int .i64 y0, .int .i64 y1])).run Try.prog w = .ok (x0 == y0 && (x1 == y1)) w := by
  refine eqA_of Try.underlying69 (by kernel_rfl) ?_
  refine eqf_cons (by rfl) (by go_simp; rfl) (by go_simp; rfl) (by go_simp) ?_
  exact eqf_last (by rfl) (by go_simp; rfl) (by go_simp; rfl) (by go_simp)
end Go.Proofs.Ytkemhnfaheplhaa.F
namespace Go.Proofs.Ytkemhnfaheplhaa.F
open Go.RowKit Go.Proofs.YtkemhnfaheplhaaW.PrintWords Go.Proofs.YtkemhnfaheplhaaW.PrintLast Go.Proofs.YtkemhnfaheplhaaW.PrintMore
set_option linter.unusedVariables false
set_option linter.unusedSimpArgs false
attribute [local go_sem high] eqA69
def compG {α : Type} [DecidableEq α] (p : Option α) : List α → List α
  | [] => []
  | x :: r => if p = some x then compG p r else x :: compG (some x) r
theorem compG_snoc {α : Type} [DecidableEq α] (x : α) : ∀ (l : List α) (p : Option α), compG p (l ++ [x]) = compG p l ++ (if (match l.getLast? with | some y => some y | none => p) = some x then [] else [x])
  | [], p => by
    by_cases h : p = some x
    · simp [compG, h]
    · simp [compG, h]
  | y :: l, p => by
    have e : (match (y :: l).getLast? with | some z => some z | none => p) = (match l.getLast? with | some z => some z | none => some y) := by
      cases l with
      | nil => rfl
      | cons z l => rw [List.getLast?_cons_cons]; cases h : (z :: l).getLast? with
        | none => simp at h
        | some t => rfl
    rw [e, List.cons_append]
    by_cases h : p = some y
    · simp only [compG, if_pos h]
      rw [compG_snoc x l p, h]
    · simp only [compG, if_neg h]
      rw [compG_snoc x l (some y), List.cons_append]
theorem compG_len {α : Type} [DecidableEq α] : ∀ (l : List α) (p : Option α), (compG p l).length ≤ l.length
  | [], p => by simp [compG]
  | x :: l, p => by
    have h1 := compG_len l p
    have h2 := compG_len l (some x)
    simp only [compG]
    split <;> simp <;> omega
instance : DecidableEq S69 := fun x y => if h : x.f0 = y.f0 ∧ x.f1 = y.f1 then isTrue (by cases x; cases y; simp at h; simp [h]) else isFalse (fun e => h (by rw [e]; exact ⟨rfl, rfl⟩))
def compactE (l : List S69) : List S69 := compG none l
theorem compactE_step (l : List S69) (m : Nat) (h0 : 0 < m) (hm : m < l.length) : compactE (l.take (m + 1)) = compactE (l.take m) ++ (if l[m - 1]'(by omega) = l[m] then [] else [l[m]]) := by
  unfold compactE
  rw [List.take_succ_eq_append_getElem hm, compG_snoc]
  have : (l.take m).getLast? = some (l[m - 1]'(by omega)) := by
    rw [List.getLast?_eq_getElem?, List.length_take, Nat.min_eq_left (by omega), List.getElem?_take, if_pos (by omega), List.getElem?_eq_getElem (by omega)]
  rw [this]
  simp only [Option.some.injEq]
theorem rd_at (l : List S69) (i : Int) (h0 : 0 ≤ i) (hi : i < l.length) : rd_T69 l i = l[i.toNat]'(by omega) := by
  have hi' : i.toNat < l.length := by omega
  simp [rd_T69, List.getD_eq_getElem?_getD, hi']
theorem compactE_next (l : List S69) (i j : Int) (h1 : 1 ≤ i) (hi : i < l.length) (hj : i - 1 = j) : compactE (l.take (i + 1).toNat) = compactE (l.take i.toNat) ++ (if rd_T69 l j = rd_T69 l i then [] else [rd_T69 l i]) := by
  rw [rd_at l i (by omega) hi, rd_at l j (by omega) (by omega), show (i + 1).toNat = i.toNat + 1 by omega, compactE_step l i.toNat (by omega) (by omega)]
  simp only [show j.toNat = i.toNat - 1 by omega]
theorem take_next (l : List S69) (i : Int) (h1 : 0 ≤ i) (hi : i < l.length) : l.take (i + 1).toNat = l.take i.toNat ++ [rd_T69 l i] := by
  rw [rd_at l i h1 hi, show (i + 1).toNat = i.toNat + 1 by omega, List.take_succ_eq_append_getElem]
theorem eqE_iff {x y : S69} {a b a' b' : Int} (h : x.f0 = a ∧ x.f1 = b) (h' : y.f0 = a' ∧ y.f1 = b') {t : Bool} (ht : (a == a' && b == b') = t) : (y = x) ↔ t = true := by
  cases x; cases y
  simp at h h' ⊢
  rw [← ht]
  obtain ⟨rfl, rfl⟩ := h
  obtain ⟨rfl, rfl⟩ := h'
  simp
  constructor
  · rintro ⟨rfl, rfl⟩; exact ⟨rfl, rfl⟩
  · rintro ⟨rfl, rfl⟩; exact ⟨rfl, rfl⟩
theorem own_set {w : World} {base e size n cap g : Nat} {xs : List Value} (h : w.ownsRow base e size (.slice (some ⟨g, 0, none⟩) n cap) n xs) (j : Nat) (u : Value) :
    (w.setCell ⟨g, j, none⟩ u).ownsRow base e size (.slice (some ⟨g, 0, none⟩) n cap) n (xs.set j u) ∧ w.grownBy (w.setCell ⟨g, j, none⟩ u) (some g) := by
  obtain ⟨h1, ⟨h2, _⟩ | ⟨g', cap', cur, h2, hb, hg, hn, hm, hs, ht⟩⟩ := h
  · cases h2
  cases h2
  refine ⟨⟨by simp [h1], .inr ⟨g, cap, cur.setIfInBounds j u, rfl, hb, blk_put hg j u rfl, hn, hm, by simp [hs], ?_⟩⟩, rfl, rfl, rfl, by simp [World.setCell], fun k _ hk => Below.heap_setCell _ _ _ k (fun e => hk (by rw [e]))⟩
  rw [Array.toList_setIfInBounds, List.take_set, ht]
theorem own_sets {base e size n cap g : Nat} : ∀ (vs : List Value) (o : Nat) {w : World} {xs : List Value}, xs.length ≤ o → w.ownsRow base e size (.slice (some ⟨g, 0, none⟩) n cap) n xs →
    (w.setCells g o vs).ownsRow base e size (.slice (some ⟨g, 0, none⟩) n cap) n xs ∧ w.grownBy (w.setCells g o vs) (some g)
  | [], _, w, _, _, h => ⟨h, ⟨rfl, rfl, rfl, Nat.le_refl _, fun _ _ _ => rfl⟩⟩
  | v :: r, o, w, xs, ho, h => by
    have h1 := own_set h o v
    rw [List.set_eq_of_length_le ho] at h1
    have h2 := own_sets r (o + 1) (by omega) h1.1
    refine ⟨h2.1, ⟨h2.2.os.trans h1.2.os, h2.2.tape.trans h1.2.tape, h2.2.output.trans h1.2.output, Nat.le_trans h1.2.size h2.2.size, fun k hk hne => (h2.2.block k (Nat.lt_of_lt_of_le hk h1.2.size) hne).trans (h1.2.block k hk hne)⟩⟩
theorem flat_set (xs : List S69) (i : Nat) (hi : i < xs.length) (x : S69) : (xs.set i x).flatMap encE = ((xs.flatMap encE).set (i * 2) (.int .i64 x.f0)).set (i * 2 + 1) (.int .i64 x.f1) := by
  induction xs generalizing i with
  | nil => simp at hi
  | cons y ys ih =>
    cases i with
    | zero => simp [encE]
    | succ i =>
      have := ih i (by simpa using hi)
      rw [List.set_cons_succ, List.flatMap_cons, this, List.flatMap_cons, show (i + 1) * 2 = i * 2 + 2 by omega]
      simp [encE]
theorem R_setE {w : World} {base n cap g : Nat} {ok : Nat → Prop} {xs : List S69} (h : Kd.R k69 69 w base ok (.slice (some ⟨g, 0, none⟩) n cap) xs) (i : Nat) (hi : i < xs.length) (x : S69) :
    Kd.R k69 69 ((w.setCell ⟨g, i * 2, none⟩ (.int .i64 x.f0)).setCell ⟨g, i * 2 + 1, none⟩ (.int .i64 x.f1)) base ok (.slice (some ⟨g, 0, none⟩) n cap) (xs.set i x) ∧ w.grownBy ((w.setCell ⟨g, i * 2, none⟩ (.int .i64 x.f0)).setCell ⟨g, i * 2 + 1, none⟩ (.int .i64 x.f1)) (some g) := by
  obtain ⟨hP, inner, hown, hreps⟩ := h
  obtain rfl := flat_E hreps
  have hn : n = xs.length := by
    rcases hown.2 with ⟨e, _⟩ | ⟨g', cap', cur, e, _⟩
    · cases e
    · injection e
  subst hn
  have h1 := own_set hown (i * 2) (.int .i64 x.f0)
  have h2 := own_set h1.1 (i * 2 + 1) (.int .i64 x.f1)
  rw [← flat_set xs i hi x] at h2
  refine ⟨⟨hP, (xs.set i x).flatMap encE, ?_, reps_E _⟩, ⟨h2.2.os.trans h1.2.os, h2.2.tape.trans h1.2.tape, h2.2.output.trans h1.2.output, Nat.le_trans h1.2.size h2.2.size, fun k hk hne => (h2.2.block k (Nat.lt_of_lt_of_le hk h1.2.size) hne).trans (h1.2.block k hk hne)⟩⟩
  rw [List.length_set]
  exact h2.1
theorem R_frozenE {w : World} {base n cap g : Nat} {ok : Nat → Prop} {xs : List S69} (h : Kd.R k69 69 w base ok (.slice (some ⟨g, 0, none⟩) n cap) xs) (m : Nat) : w.frozen? ⟨g, m, none⟩ = false := by
  obtain ⟨hP, inner, hown, hreps⟩ := h
  rcases hown.2 with ⟨e, _⟩ | ⟨g', cap', cur, e, hb, hg, _⟩
  · cases e
  · cases e
    exact blk_frozen hg m
theorem R_someE {w : World} {base n cap g : Nat} {ok : Nat → Prop} {xs : List S69} (h : Kd.R k69 69 w base ok (.slice (some ⟨g, 0, none⟩) n cap) xs) (m : Nat) (hm : m < n * 2) : (w.cell? ⟨g, m, none⟩).isSome = true := by
  obtain ⟨hP, inner, hown, hreps⟩ := h
  rcases hown.2 with ⟨e, _⟩ | ⟨g', cap', cur, e, hb, hg, hn, hc, hs, ht⟩
  · cases e
  · injection e with e1 e2 e3
    injection e1 with e1
    injection e1 with e1
    subst e1; subst e2; subst e3
    rw [blk_cell hg m]
    have : m < cur.size := by
      have h1 : cur.size = cap * 2 := hs
      omega
    simp [this]
theorem zeros_E (n : Nat) : (Builtin.zeroCells (Value.agg #[.int .i64 0, .int .i64 0]).cells n).toList = List.replicate (n * 2) (.int .i64 0) := by
  apply List.ext_getElem
  · simp [Builtin.zeroCells, Value.cells]
  · intro i h1 h2
    simp [Builtin.zeroCells, Value.cells]
    rcases Nat.mod_two_eq_zero_or_one i with h | h <;> simp [h]
theorem clear_E (w : World) (g o n c ty : Nat) (hn : 0 < n) (hc : ∀ j, j < n * 2 → (w.cell? ⟨g, o + j, none⟩).isSome = true) (hf : ∀ j, j < n * 2 → w.frozen? ⟨g, o + j, none⟩ = false) :
    (Builtin.clear_ #[22] ty #[.slice (some ⟨g, o, none⟩) n c]).run Try.prog w = .ok (.tuple #[]) (w.setCells g o (List.replicate (n * 2) (.int .i64 0))) := by
  have hst := run_storeCells_cells (P := Try.prog) g o (List.replicate (n * 2) (.int .i64 0)) 0 w (by simpa using hc) (by simpa using hf) (by intro v hv'; rw [List.eq_of_mem_replicate hv']; rfl)
  simp only [Nat.add_zero] at hst
  obtain ⟨m, rfl⟩ : ∃ m, n = m + 1 := ⟨n - 1, by omega⟩
  simp [Builtin.clear_, run_underlying Try.underlying22, Try.zeroValue69, zeros_E, hst]
set_option maxHeartbeats 2000000 in
set_option maxRecDepth 100000 in
theorem compactE_calls (P0_ : Nat → Prop) (v : Value) (l : List S69) (w0 w : World) (hB : Below w0.heap.size w0 w) (ho0 : Kd.R k69 69 w w0.heap.size P0_ v l) (hln : l.length < 4611686018427387904) :
    Calls Try.prog 131 #[v] w fun e w' => ∃ v', e = .returned v' ∧ Kd.R k69 69 w' w0.heap.size P0_ v' (compactE l) ∧ Below w0.heap.size w0 w' ∧ Kept w w' (fun k_ => P0_ k_) := by
  have hu69 := Try.underlying69
  have HO := Aside0.mk ho0
  have HB := Aside0.mk hB
  obtain ⟨A, c, rfl⟩ := Kd.R_slice ho0
  obtain ⟨_, hc, _⟩ := Kd.R_reads' ho0
  have HC := Aside0.mk (Kd.R_reads' ho0).2.2
  have HG : Aside0 (0 < l.length → ∃ g, A = some ⟨g, 0, none⟩ ∧ w0.heap.size ≤ g ∧ P0_ g) := by
    refine ⟨fun hpos => ?_⟩
    obtain ⟨hP, inner, hown, hreps⟩ := ho0
    rcases hown.2 with ⟨e, h0⟩ | ⟨g, cap, cur, e, hb, hg, hn', hm, hs, ht⟩
    · omega
    · injection e with e1 e2 e3
      subst e1
      exact ⟨g, rfl, hb, hP g (by simp [Value.ownBlock])⟩
  have hlc : c ≤ 9223372036854775807 ∨ l.length = 0 := by
    obtain ⟨hP, inner, hown, hreps⟩ := ho0
    rcases hown.2 with ⟨e, h0⟩ | ⟨g, cap, cur, e, hb, hg, hn', hm, hs, ht⟩
    · exact .inr h0
    · injection e with e1 e2 e3
      subst e3
      exact .inl hm
  clear ho0 hB
  by_cases h2 : (l.length : Int) < 2
  · go_enter Try.func131, Try.ntmps131
    go_wp2
    go_ret
    refine ⟨_, rfl, ?_, HB.out, Kept.refl _ _⟩
    have : compactE l = l := by
      rcases l with _ | ⟨x, _ | ⟨y, l⟩⟩
      · rfl
      · rfl
      · simp at h2; omega
    rw [this]
    exact HO.out
  · have h2' : 2 ≤ l.length := by omega
    obtain ⟨g, hA, hgb, hPg⟩ := HG.out (by omega)
    obtain ⟨ad, had⟩ : ∃ ad : Addr, ad = ⟨g, 0, none⟩ := ⟨_, rfl⟩
    rw [← had] at hA
    subst hA
    have HAD := Aside0.mk (And.intro had (And.intro hgb hPg))
    clear had hgb hPg HG
    go_enter Try.func131, Try.ntmps131
    go_wp2
    go_loopw [3] (fun p wr => ∃ i : Int, 1 ≤ i ∧ i ≤ l.length ∧ p = .int .i64 i ∧ Aside0 (compactE (l.take i.toNat) = l.take i.toNat) ∧ Aside0 (∃ q, wr = w.drewN q))
      (fun p _ => l.length - (intOf p).toNat)
    case atStart =>
      refine ⟨1, by omega, by omega, rfl, ⟨?_⟩, ⟨0, rfl⟩⟩
      rcases l with _ | ⟨x, l⟩
      · rfl
      · simp [compactE, compG]
    case round =>
      obtain ⟨i, hi1, hi, rfl, HE, HW⟩ := hrel
      obtain ⟨⟨q0, hwr⟩⟩ := HW
      subst hwr
      by_cases hlt : i < l.length
      · obtain ⟨j, hj⟩ : ∃ j, i - 1 = j := ⟨_, rfl⟩
        have hw1 : IntKind.i64.wrap (i - 1) = j := (IntWalk.i64_in _ (by omega)).trans hj
        have p1 : 0 ≤ j := by omega
        have p2 : j < (l.length : Int) := by omega
        have p3 : 0 ≤ i := by omega
        obtain ⟨ad, e, x0, x1⟩ := at_T69 HC.out i p3 hlt
        cases e
        obtain ⟨_, e, y0, y1⟩ := at_T69 HC.out j p1 p2
        cases e
        obtain ⟨a, ha⟩ : ∃ a, (rd_T69 l i).f0 = a := ⟨_, rfl⟩
        obtain ⟨b, hb⟩ : ∃ a, (rd_T69 l i).f1 = a := ⟨_, rfl⟩
        obtain ⟨a', ha'⟩ : ∃ a, (rd_T69 l j).f0 = a := ⟨_, rfl⟩
        obtain ⟨b', hb'⟩ : ∃ a, (rd_T69 l j).f1 = a := ⟨_, rfl⟩
        rw [ha] at x0
        rw [hb] at x1
        rw [ha'] at y0
        rw [hb'] at y1
        have HAB := Aside0.mk (And.intro (And.intro ha hb) (And.intro ha' hb'))
        clear ha hb ha' hb'
        have HJ := Aside0.mk hj
        clear hj
        obtain ⟨t, ht⟩ : ∃ t : Bool, (a == a' && b == b') = t := ⟨_, rfl⟩
        go_wp2
        go_quiet (fail)
        have HT := Aside0.mk ht
        clear ht
        have HEQ := Aside0.mk (eqE_iff HAB.out.1 HAB.out.2 HT.out)
        have HN := Aside0.mk (compactE_next l i j hi1 hlt HJ.out)
        cases t with
        | false =>
          go_wp2
          go_roundw
          case rel =>
            refine ⟨i + 1, by omega, by omega, rfl, ⟨?_⟩, ⟨_, rfl⟩⟩
            rw [HN.out, HE.out, take_next l i (by omega) hlt, if_neg (fun h => by have := HEQ.out.1 h; cases this)]
          case measure => simp [intOf]; omega
        | true =>
          go_wp2
          go_loopw [3, 5] (fun pk p2 wr => ∃ (k k2 : Int) (X : List S69), 1 ≤ k ∧ 1 ≤ k2 ∧ k2 ≤ (l.length : Int) - i ∧ k ≤ i + k2 - 1 ∧ pk = .int .i64 k ∧ p2 = .int .i64 k2 ∧ Aside0 (X.length = l.length) ∧ Aside0 (∀ j : Int, k ≤ j → j < l.length → rd_T69 X j = rd_T69 l j) ∧ Aside0 (X.take k.toNat = compactE (l.take (i + k2).toNat)) ∧ Aside0 (Kd.R k69 69 wr w0.heap.size P0_ (.slice (some ad) l.length c) X) ∧ Aside0 (Below w0.heap.size w0 wr) ∧ Aside0 (Kept w wr (fun k_ => P0_ k_)))
            (fun _ p2 _ => l.length - (intOf p2).toNat)
          case atStart =>
            refine ⟨i, 1, l, by omega, by omega, by omega, by omega, rfl, rfl, ⟨rfl⟩, ⟨fun _ _ _ => rfl⟩, ⟨?_⟩, ⟨Kd.R_drewN HO.out _⟩, ⟨pw_below_drewN HB.out _⟩, ⟨Kept.drewN (Kept.refl _ _) _⟩⟩
            rw [HN.out, HE.out, if_pos (HEQ.out.2 (by trivial)), List.append_nil]
          case round =>
            obtain ⟨k, k2, X, k0, k20, k2n, kk, rfl, rfl, HXL, HXO, HXT, HXR, HXB, HXK⟩ := hrel
            have hXL := HXL.out
            have HXC := Aside0.mk (Kd.R_reads' HXR.out).2.2
            clear x0 x1 y0 y1
            by_cases hl2 : k2 < ((l.length - i.toNat : Nat) : Int)
            · obtain ⟨m, hm⟩ : ∃ m, k2 - 1 = m := ⟨_, rfl⟩
              have hw2 : IntKind.i64.wrap (k2 - 1) = m := (IntWalk.i64_in _ (by omega)).trans hm
              have m1 : 0 ≤ m := by omega
              have m2 : m < ((l.length - i.toNat : Nat) : Int) := by omega
              have m3 : 0 ≤ k2 := by omega
              have m4 : 0 ≤ k := by omega
              have m5 : k < (l.length : Int) := by omega
              obtain ⟨_, e, x0, x1⟩ := at_T69 HXC.out (i + k2) (by omega) (by omega)
              cases e
              obtain ⟨_, e, y0, y1⟩ := at_T69 HXC.out (i + m) (by omega) (by omega)
              cases e
              rw [HXO.out _ (by omega) (by omega)] at x0 x1 y0 y1
              rw [show (i + k2).toNat * 2 = i.toNat * 2 + k2.toNat * 2 by omega, ← add_add] at x0 x1
              rw [show (i + m).toNat * 2 = i.toNat * 2 + m.toNat * 2 by omega, ← add_add] at y0 y1
              obtain ⟨a1, ha⟩ : ∃ a, (rd_T69 l (i + k2)).f0 = a := ⟨_, rfl⟩
              obtain ⟨b1, hb⟩ : ∃ a, (rd_T69 l (i + k2)).f1 = a := ⟨_, rfl⟩
              obtain ⟨a2, ha'⟩ : ∃ a, (rd_T69 l (i + m)).f0 = a := ⟨_, rfl⟩
              obtain ⟨b2, hb'⟩ : ∃ a, (rd_T69 l (i + m)).f1 = a := ⟨_, rfl⟩
              rw [ha] at x0
              rw [hb] at x1
              rw [ha'] at y0
              rw [hb'] at y1
              have HAB2 := Aside0.mk (And.intro (And.intro ha hb) (And.intro ha' hb'))
              have HM := Aside0.mk hm
              clear ha hb ha' hb' hm
              obtain ⟨t2, ht2⟩ : ∃ t : Bool, (a1 == a2 && b1 == b2) = t := ⟨_, rfl⟩
              have HT2 := Aside0.mk ht2
              have HEQ2 := Aside0.mk (eqE_iff HAB2.out.1 HAB2.out.2 HT2.out)
              have HN2 := Aside0.mk (compactE_next l (i + k2) (i + m) (by omega) (by omega) (by have := HM.out; omega))
              go_wp2
              go_quiet (fail)
              clear ht2
              cases t2 with
              | true =>
                go_wp2
                go_roundw
                case rel =>
                  refine ⟨k, k2 + 1, X, by omega, by omega, by omega, by omega, rfl, rfl, HXL, HXO, ⟨?_⟩, ⟨Kd.R_drewN HXR.out _⟩, ⟨pw_below_drewN HXB.out _⟩, ⟨Kept.drewN HXK.out _⟩⟩
                  rw [← Int.add_assoc, HN2.out, if_pos (HEQ2.out.2 (by trivial)), List.append_nil]
                  exact HXT.out
                case measure => simp [intOf]; omega
              | false =>
                obtain ⟨_, e, u0, u1⟩ := at_T69 HXC.out k m4 (by omega)
                cases e
                have f0 : wr.frozen? (ad.add (k.toNat * 2)) = false := by rw [add_at HAD.out.1]; exact R_frozenE (by rw [← HAD.out.1]; exact HXR.out) _
                have f1 : wr.frozen? ⟨(ad.add (k.toNat * 2)).block, (ad.add (k.toNat * 2)).off + 1, none⟩ = false := by rw [add_at HAD.out.1]; exact R_frozenE (by rw [← HAD.out.1]; exact HXR.out) _
                have s1 : ∀ (q : Nat) (u : Value), ((wr.drewN q).setCell (ad.add (k.toNat * 2)) u).cell? ⟨(ad.add (k.toNat * 2)).block, (ad.add (k.toNat * 2)).off + 1, none⟩ = some (.int .i64 (rd_T69 X k).f1) := by
                  intro q u
                  rw [add_at HAD.out.1] at u1 ⊢
                  rw [World.cell?_setCell_other _ _ _ _ (by simp)]
                  exact u1
                go_wp2
                go_roundw
                case rel =>
                  have hR := R_setE (w := wr.drewN nq) (by rw [← HAD.out.1]; exact Kd.R_drewN HXR.out _) k.toNat (by omega) (⟨a1, b1⟩ : S69)
                  rw [← add_at HAD.out.1, show (⟨g, k.toNat * 2 + 1, none⟩ : Addr) = ⟨(ad.add (k.toNat * 2)).block, (ad.add (k.toNat * 2)).off + 1, none⟩ by rw [add_at HAD.out.1], ← HAD.out.1] at hR
                  refine ⟨k + 1, k2 + 1, X.set k.toNat ⟨a1, b1⟩, by omega, by omega, by omega, by omega, rfl, rfl, ⟨by rw [List.length_set]; exact HXL.out⟩, ⟨fun j h1 h2 => ?_⟩, ⟨?_⟩, ⟨hR.1⟩, ⟨grown_below (pw_below_drewN HXB.out _) hR.2 HAD.out.2.1 (by have := HXB.out.size; simpa using this)⟩, ⟨Kept.of_grown hR.2 (Kept.drewN HXK.out _) (fun k e => by cases e; exact .inl HAD.out.2.2)⟩⟩
                  · rw [← HXO.out j (by omega) h2]
                    unfold rd_T69
                    rw [List.getD_eq_getElem?_getD, List.getD_eq_getElem?_getD, List.getElem?_set_ne (by omega)]
                  · rw [← Int.add_assoc, HN2.out, if_neg (fun h => by have := HEQ2.out.1 h; cases this), ← HXT.out, show (k + 1).toNat = k.toNat + 1 by omega, List.take_succ_eq_append_getElem (by rw [List.length_set]; omega), List.take_set_of_le (by omega), List.getElem_set_self]
                    congr 2
                    have h1 := HAB2.out.1
                    cases hx : rd_T69 l (i + k2) with
                    | mk u v =>
                      rw [hx] at h1
                      simp at h1
                      rw [h1.1, h1.2]
                case measure => simp [intOf]; omega
            · have hk : k2 = (l.length : Int) - i := by omega
              have hcl : (Builtin.clear_ #[22] 0 #[.slice (some (ad.add (k.toNat * 2))) (l.length - k.toNat) (c - k.toNat)]).run Try.prog wr = .ok (.tuple #[]) (wr.setCells g (k.toNat * 2) (List.replicate ((l.length - k.toNat) * 2) (.int .i64 0))) := by
                rw [add_at HAD.out.1]
                have hR : Kd.R k69 69 wr w0.heap.size P0_ (.slice (some ⟨g, 0, none⟩) l.length c) X := by rw [← HAD.out.1]; exact HXR.out
                exact clear_E wr g _ _ _ _ (by omega) (fun j hj => R_someE hR _ (by omega)) (fun j hj => R_frozenE hR _)
              go_wp2
              go_ret
              have hR : Kd.R k69 69 wr w0.heap.size P0_ (.slice (some ⟨g, 0, none⟩) k.toNat c) (X.take k.toNat) := Kd.R_take (by rw [← HAD.out.1]; exact HXR.out) (by omega)
              have hkx : (X.take k.toNat).length = k.toNat := by rw [List.length_take]; omega
              obtain ⟨hP, inner, hown, hreps⟩ := hR
              rw [hkx] at hown
              have hs := own_sets (List.replicate ((l.length - k.toNat) * 2) (.int .i64 0)) (k.toNat * 2) (by rw [hown.1]; exact Nat.le_refl _) hown
              refine ⟨_, rfl, ?_, grown_below HXB.out hs.2 HAD.out.2.1 HXB.out.size, Kept.of_grown hs.2 HXK.out (fun k e => by cases e; exact .inl HAD.out.2.2)⟩
              have hfin : compactE l = X.take k.toNat := by
                rw [HXT.out, show (i + k2).toNat = l.length by omega, List.take_length]
              rw [hfin, HAD.out.1]
              obtain rfl := flat_E hreps
              exact ⟨hP, _, by rw [hkx]; exact hs.1, reps_E _⟩
      · go_wp2
        go_ret
        have hi' : i.toNat = l.length := by omega
        have := HE.out
        rw [hi', List.take_length] at this
        refine ⟨_, rfl, ?_, pw_below_drewN HB.out _, Kept.drewN (Kept.refl _ _) _⟩
        rw [this]
        exact Kd.R_drewN HO.out _
end Go.Proofs.Ytkemhnfaheplhaa.F
namespace Go.Proofs.Ytkemhnfaheplhaa.F
open Go.RowKit Go.Shelf Go.Proofs.YtkemhnfaheplhaaW.PrintWords Go.Proofs.YtkemhnfaheplhaaW.PrintLast Go.Proofs.YtkemhnfaheplhaaW.PrintMore Go.Proofs.Ytkemhnfaheplhaa.Mix
set_option linter.unusedVariables false
set_option linter.unusedSimpArgs false
attribute [local go_sem] Oper.semAt_some
theorem own_lower {W : World} {base n0 : Nat} {e : TypeId} {size k : Nat} {v : Value} {xs : List Value} (h : W.ownsRow base e size v k xs) (hb : n0 ≤ base) : W.ownsRow n0 e size v k xs := by
  refine ⟨h.1, ?_⟩
  rcases h.2 with h' | ⟨g, cap, cur, e1, e2, r⟩
  · exact .inl h'
  · exact .inr ⟨g, cap, cur, e1, Nat.le_trans hb e2, r⟩
theorem own_ge {W : World} {base : Nat} {e : TypeId} {size k : Nat} {v : Value} {xs : List Value} (h : W.ownsRow base e size v k xs) {g : Nat} (hg : v.ownBlock = some g) : base ≤ g := by
  rcases h.2 with ⟨rfl, _⟩ | ⟨g', cap, cur, rfl, hb, _⟩
  · simp [Value.ownBlock] at hg
  · obtain rfl : g' = g := by simpa [Value.ownBlock] using hg
    exact hb
theorem KNear.appended {n0 b B base k : Nat} {W w1 : World} {v v' : Value} {xs : List Value} {tmp : Obj} (hv : Boxed W B 26 v) (hrow : W.ownsRow base 3 1 v k xs) (hK : Below n0 W (w1.setCell ⟨B, 0, none⟩ v')) (hb : b < base) (hbW : b < W.heap.size) (hbB : b ≠ B)
    (hgrow : (W.alloc tmp).grownBy w1 v.ownBlock) : KNear n0 b W (w1.setCell ⟨B, 0, none⟩ v') := by
  refine ⟨hK, fun x e => ?_, fun p cs q e => ?_⟩
  · have h1 : w1.heap[b]? = W.heap[b]? := (hgrow.block b (by simp; omega) (fun e' => by have := own_ge hrow e'.symm; omega)).trans (Below.heap_alloc W tmp b hbW)
    have h2 : (w1.setCell ⟨B, 0, none⟩ v').heap[b]? = w1.heap[b]? := Below.heap_setCell _ _ _ b hbB
    exact (World.cell?_of_block (h2.trans h1)).trans e
  · have hp : p < W.heap.size := (Array.getElem?_eq_some_iff.1 e).1
    have h1 : w1.heap[p]? = W.heap[p]? := (hgrow.block p (by simp; omega) (fun e' => by
      rcases hrow.2 with ⟨rfl, _⟩ | ⟨g, cap, cur, rfl, _, hgb, _⟩
      · simp [Value.ownBlock] at e'
      · obtain rfl : p = g := by simpa [Value.ownBlock] using e'
        rw [e] at hgb
        cases hgb)).trans (Below.heap_alloc W tmp p hp)
    have h2 : (w1.setCell ⟨B, 0, none⟩ v').heap[p]? = w1.heap[p]? := Below.heap_setCell _ _ _ p (fun e' => by
      subst e'
      have := (show W.heap[p]? = _ from hv).symm.trans e
      simp at this)
    exact (h2.trans h1).trans e
theorem right_len {N : Int} {l : List S69} (h : rightB N l = true) : l.length ≤ 4000 := by
  simp [rightB] at h
  omega
set_option maxRecDepth 100000 in
set_option maxHeartbeats 2000000 in
theorem near_calls (N a : Int) (A : Option Addr) (c : Nat) (l : List S69) (w : World) (hr : Kd.C k69 w A l.length l) (hc : l.length ≤ c) :
    Calls Try.prog 123 #[.agg #[.int .i64 N, .slice A l.length c], .int .i64 a] w fun e w' => ∃ v0_ : Value, e = .returned v0_ ∧ Kd.R (Kd.int .i64) 3 w' w.heap.size (fun _ => True) v0_ (if rightB N l then nearL a l else []) ∧ Below w.heap.size w w' := by
  have hu31 := Try.underlying31
  have hro : Fence.wide.round = none := rfl
  have HR := Aside0.mk hr
  have HC := Aside0.mk hc
  have hlen : l.length ≤ 9223372036854775807 := by have := hr.2.1; omega
  clear hr hc
  obtain ⟨i0, hi, hz0, hz1, hz2⟩ := info_parts info3
  refine (callsIn_wide (n := 3)).1 ?_
  refine callsIn_of_wp_marks Try.func123 rfl trivial ?_ hro
  simp only [Try.ntmps123, List.size_toArray, List.length_cons, List.length_nil, Nat.reduceAdd, Nat.reduceSub, Array.replicate_succ, Array.replicate_zero, List.push_toArray, List.append_toArray, List.nil_append, List.cons_append]
  obtain ⟨rr, hrr⟩ : ∃ rr, (if rightB N l then nearL a l else []) = rr := ⟨_, rfl⟩
  rw [hrr]
  have HRR := Aside0.mk hrr
  clear hrr
  obtain ⟨q, hq⟩ : ∃ q, rightB N l = q := ⟨_, rfl⟩
  have HQ := Aside0.mk hq
  clear hq
  obtain ⟨W1, hW1⟩ : ∃ W1, (w.alloc (.cells #[.int .i64 N, .slice A l.length c] 31)).alloc (.cells #[.slice none 0 0] 26) = W1 := ⟨_, rfl⟩
  have HRI : Aside0 (Calls Try.prog 55 #[.agg #[.int .i64 N, .slice A l.length c]] W1 fun e w' => e = .returned (.bool q) ∧ Below W1.heap.size W1 w') := by
    refine ⟨?_⟩
    rw [← HQ.out]
    refine right_calls N A c l W1 (Kd.C_below HR.out ?_) HC.out
    rw [← hW1]
    exact ((Below.refl _ _).alloc (Nat.le_refl _) _ |>.alloc (by simp) _)
  have HW1 := Aside0.mk hW1
  clear hW1
  gi_wp2
  refine ⟨trivial, ?_⟩
  have hW1 := HW1.out
  rw [hW1]
  refine (callsIn_wide.2 HRI.out).mono ?_
  rintro e w1 ⟨rfl, hb1⟩
  have hW0 : Below w.heap.size w W1 := by rw [← hW1]; exact ((Below.refl _ _).alloc (Nat.le_refl _) _ |>.alloc (by simp) _)
  have hs1 : W1.heap.size = w.heap.size + 2 := by rw [← hW1]; simp
  have hB0 : w1.heap[w.heap.size]? = some (.cells #[.int .i64 N, .slice A l.length c] 31 (0, 0)) := by
    refine (hb1.block _ (by omega)).trans ?_
    rw [← hW1]; exact (Below.heap_alloc _ _ _ (by simp)).trans (heap_alloc_new w _)
  have hB1 : w1.heap[w.heap.size + 1]? = some (.cells #[.slice none 0 0] 26 (0, 0)) := by
    refine (hb1.block _ (by omega)).trans ?_
    rw [← hW1]
    have := heap_alloc_new (w.alloc (.cells #[.int .i64 N, .slice A l.length c] 31)) (.cells #[.slice none 0 0] 26); rwa [World.size_alloc] at this
  have hbw : Below w.heap.size w w1 := hW0.trans (hb1.mono (by omega))
  have hs2 : w.heap.size + 2 ≤ w1.heap.size := by have := hb1.size; omega
  have HBW := Aside0.mk hbw
  have HB := Aside0.mk (And.intro hB0 hB1)
  have g0 : w1.cell? ⟨w.heap.size, 0, none⟩ = some (.int .i64 N) := (blk_cell hB0 0).trans rfl
  have g1 : w1.cell? ⟨w.heap.size, 1, none⟩ = some (.slice A l.length c) := (blk_cell hB0 1).trans rfl
  clear hbw hB0 hB1 hb1 hW0 hW1 HW1 hs1
  cases q with
  | false =>
    gi_wp2
    refine ⟨.slice none 0 0, ?_, _, rfl, ?_, HBW.out⟩
    · simp [results, Try.f123, go_sem]
    · rw [← HRR.out, HQ.out]; exact Kd.R_nil _ _ _ _ _
  | true => 
    have hl4 := right_len HQ.out
    have hnl := nearL_length a l
    gi_wp2
    refine ⟨trivial, ?_⟩
    refine (near_in Fence.wide _ trivial rfl _ _ _ _ _ _).mono ?_
    rintro e w' ⟨rfl, rfl⟩
    obtain ⟨W2, hW2⟩ : ∃ W2, ((w1.alloc (.cells #[.int .i64 N, .slice A l.length c] 31)).alloc (.cells #[.int .i64 a] 3)) = W2 := ⟨_, rfl⟩
    have hb2 : Below w1.heap.size w1 W2 := by rw [← hW2]; exact ((Below.refl _ _).alloc (Nat.le_refl _) _).alloc (by simp) _
    have hs3 : W2.heap.size = w1.heap.size + 2 := by rw [← hW2]; simp
    have hB3 : W2.heap[w1.heap.size]? = some (.cells #[.int .i64 N, .slice A l.length c] 31 (0, 0)) := by
      rw [← hW2]; exact (Below.heap_alloc _ _ _ (by simp)).trans (heap_alloc_new w1 _)
    have hB4 : W2.heap[w1.heap.size + 1]? = some (.cells #[.int .i64 a] 3 (0, 0)) := by
      rw [← hW2]; have := heap_alloc_new (w1.alloc (.cells #[.int .i64 N, .slice A l.length c] 31)) (.cells #[.int .i64 a] 3); rwa [World.size_alloc] at this
    rw [hW2]
    have hbx : Boxed W2 (w.heap.size + 1) 26 (.slice none 0 0) := (hb2.block _ (by omega)).trans HB.out.2
    have hbw : Below w.heap.size w W2 := HBW.out.trans (hb2.mono (by omega))
    clear g0 g1 hW2
    gi_wp2
    refine wpIn_rangeFunc_ownG rfl (by omega) (gf := 149) (lb := #[.pointer (some ⟨w1.heap.size, 0, none⟩), .pointer (some ⟨w1.heap.size + 1, 0, none⟩)]) rfl trivial (enters_of Try.func149 (by kernel_rfl) rfl)
      (near_stops Fence.wide _ trivial rfl (by omega) w1.heap.size (w1.heap.size + 1) w.heap.size N a A c l hlen W2 (by omega) (by omega) (by omega) ((blk_cell hB3 1).trans rfl) ((blk_cell hB4 0).trans rfl) (fun W' h => Kd.C_below HR.out (hbw.trans h)))
      KNear.t (KNear.b (by omega)) (Below.refl _ _) (fun _ => rfl)
      (fun pre W => (∃ v, Boxed W (w.heap.size + 1) 26 v ∧ W.ownsRow W2.heap.size 3 1 v pre.length (pre.map (Value.int .i64)) ∧ True) ∧ Below w.heap.size w W ∧ W2.heap.size ≤ W.heap.size)
      (fun _ _ _ => False)
      (OwnFrom.and (Own.from (holdsRow_own W2.heap.size (w.heap.size + 1) 26 3 1 (fun (pre : List Int) => pre.length) (fun pre => pre.map (Value.int .i64)) (fun pre v => True)) _) (OwnFrom.and (ownFrom_below (Nat.le_refl _) (by omega)) (fun s X Y row h hg _ => Nat.le_trans h hg.size)))
      (fun _ _ _ _ _ hs _ _ => hs)
      ⟨⟨_, hbx, World.ownsRow_nil _ _ _ _, trivial⟩, hbw, Nat.le_refl _⟩
      (fun x => { tmps := #[.agg #[.int .i64 N, .slice A l.length c], .int .i64 a, .pointer (some ⟨w.heap.size, 0, none⟩), undef, .slice none 0 0, .pointer (some ⟨w.heap.size + 1, 0, none⟩), .int .i64 x,
        .agg #[.int .i64 N, .slice A l.length c], .bool true, .bool false, .agg #[.int .i64 N, .slice A l.length c], .int .i64 a, .func (.func 149) #[] #[.pointer (some ⟨w1.heap.size, 0, none⟩), .pointer (some ⟨w1.heap.size + 1, 0, none⟩)], .int .i64 x, undef, undef, undef, undef, undef], defers := [] }) ?assign ?body ?done ?stop
    case assign =>
      intro l x W K hK
      gi_wp2
      exact hK
    case body =>
      rintro k pre x W ⟨⟨v, hv, hrow, _⟩, hB, hS⟩ hlt
      have hc := hv.cell
      gi_wp2_with (gi_at_builtin; refine wpListIn_append_own _ rfl _ _ 26 rfl W2.heap.size 3 i0 (.int .i64 0) 1 8 Try.underlying26 hi hz0 hz1 hz2 rfl (by decide) _ _ _ rfl (hrow.alloc _) ⟨W.heap.size, 0, none⟩ 1 1 [.int .i64 x] rfl rfl (cell_one_new _ _ _) (by simp [Value.oneCell']) (by simp [maxLen]; omega) (by omega) (by simp; omega) ?_; intro v' w1' hown' hgrow _; obtain ⟨g', cap', rfl⟩ := ownsRow_succ hown'; obtain ⟨hv1, hv2, hr2, hk2, hb2⟩ := hv.appended (by decide) (own_lower (n0 := w.heap.size) hrow (by omega)) (by omega) (by omega) (own_lower hown' (by omega)) hgrow; have hc1 := hv1.cell; have hf1 := hv1.frozen)
      refine ⟨hk2.from _, KNear.appended hv hrow hb2 (by omega) (by omega) (by omega) hgrow, ⟨_, hv2, ?_, trivial⟩, hB.trans hb2, Nat.le_trans hS hb2.size⟩
      have h5 := hown'.kept (grownBy_setCell' w1' (w.heap.size + 1) (.slice (some ⟨g', 0, none⟩) (pre.length + 1) cap')) (.inr (hv1.not_row (by decide) hown').symm)
      simpa using h5
    case done =>
      rintro D ys W hD rfl ⟨⟨v, hv, hrow, _⟩, hB, hS⟩ hK
      have hc := hv.cell
      gi_wp2
      refine ⟨by simp, .inl ⟨_, _, rfl, run_takeDeferred hK, ?_⟩⟩
      refine ⟨_, results_tmp rfl _ _ _, _, rfl, ?_, hB.trans (belowK_b (w := w) (Nat.le_refl _) W D _ _ (by omega) hK rfl rfl)⟩
      rw [← HRR.out, if_pos HQ.out]
      exact Kd.R_of_own (own_lower (ownsRow_putObj hrow _ hK rfl) (by omega)) (fun _ _ => trivial)
    case stop =>
      rintro D j pre W _ _ h _
      exact h.elim
end Go.Proofs.Ytkemhnfaheplhaa.F
namespace Go.Proofs.Ytkemhnfaheplhaa.F
open Go.RowKit Go.Shelf Go.Proofs.YtkemhnfaheplhaaW.PrintWords Go.Proofs.YtkemhnfaheplhaaW.PrintLast Go.Proofs.YtkemhnfaheplhaaW.PrintMore
set_option linter.unusedVariables false
set_option linter.unusedSimpArgs false
attribute [local go_sem] Oper.semAt_some
set_option maxRecDepth 100000 in
set_option maxHeartbeats 2000000 in
theorem values1_in (F : Fence) (n : Nat) (h1 : F.fn 137) (hro : F.round = none) (hn : 1 ≤ n) (k Bs n0 : Nat) (A : Option Addr) (c : Nat) (l : List Int) (hlen : l.length ≤ 9223372036854775807) (J Jx : List Int → World → Prop) (W : World)
    (hY : ∀ pre x W1, J pre W1 → pre.length < l.length → YieldAt F (n - 1) Try.prog k #[.int .i64 x] W1 fun e W' =>
      (e = .returned (.bool true) ∧ J (pre ++ [x]) W' ∧ Below n0 W1 W') ∨ (e = .returned (.bool false) ∧ Jx (pre ++ [x]) W'))
    (hg : W.cell? ⟨Bs, 0, none⟩ = some (.slice A l.length c)) (hC : ∀ W', Below n0 W W' → Kd.C (Kd.int .i64) W' A l.length l) (h0 : J [] W) :
    CallsIn F n Try.prog 137 #[.func (.yield k) #[] #[], .pointer (some ⟨Bs, 0, none⟩)] W fun e W' => (∃ x, e = .returned x) ∧
      ((∃ ys, ys = l ∧ J ys W') ∨ (∃ pre, pre <+: l ∧ Jx pre W')) := by
  refine callsIn_of_wp Try.func137 rfl h1 ?_ hro
  simp only [Try.ntmps137, List.size_toArray, List.length_cons, List.length_nil, Nat.reduceAdd, Nat.reduceSub, Array.replicate_succ, Array.replicate_zero, List.push_toArray, List.append_toArray, List.nil_append, List.cons_append]
  have HCC := Aside0.mk hC
  have HYY := Aside0.mk hY
  clear hC hY
  gi_wp2
  gi_loopw [7] (fun p wr => ∃ i : Int, 0 ≤ i ∧ i ≤ l.length ∧ p = .int .i64 i ∧ Aside0 (J (l.take i.toNat) wr) ∧ Aside0 (Below n0 W wr))
    (fun p _ => l.length - (intOf p).toNat)
  case atStart => exact ⟨0, by omega, by omega, rfl, ⟨h0⟩, ⟨Below.refl _ _⟩⟩
  case round =>
    obtain ⟨i, hi0, hi, rfl, HJ, HK⟩ := hrel
    have HC := Aside0.mk (HCC.out wr HK.out)
    by_cases hlt : i < l.length
    · obtain ⟨ad, e, x0⟩ := Kd.at_int HC.out i hi0 hlt
      cases e
      have HT : Aside0 (l.take (i + 1).toNat = l.take i.toNat ++ [rd l i]) := ⟨by
        have hi' : i.toNat < l.length := by omega
        have e : rd l i = l[i.toNat] := by simp [rd, List.getD_eq_getElem?_getD, hi']
        rw [show (i + 1).toNat = i.toNat + 1 by omega, List.take_succ_eq_append_getElem hi', e]⟩
      obtain ⟨x, hx⟩ : ∃ x, rd l i = x := ⟨_, rfl⟩
      rw [hx] at x0 HT
      clear hx
      obtain ⟨fn, tmps, assign, body, hy, hR⟩ := HYY.out (l.take i.toNat) x wr HJ.out (by rw [List.length_take]; omega)
      gi_wp2
      refine hR.mono ?_
      clear hy hR
      rintro e W3 (⟨rfl, hJ3, hk3⟩ | ⟨rfl, hJx3⟩)
      · gi_wp2
        go_roundw
        case rel => exact ⟨i + 1, by omega, by omega, rfl, ⟨by rw [HT.out]; exact hJ3⟩, ⟨HK.out.trans hk3⟩⟩
        case measure => simp [intOf]; omega
      · gi_wp2
        refine bodyPost_ret (results_none rfl _ _ _) rfl ?_
        exact ⟨⟨_, rfl⟩, .inr ⟨_, by rw [← HT.out]; exact List.take_prefix _ _, hJx3⟩⟩
    · gi_wp2
      go_end0
      refine ⟨⟨_, rfl⟩, .inl ?_⟩
      have := HJ.out
      rwa [show i.toNat = l.length by omega, List.take_length] at this
set_option maxHeartbeats 1000000 in
theorem values_in (F : Fence) (n : Nat) (h : F.fn 71) (hro : F.round = none) (A : Option Addr) (m c : Nat) (w : World) :
    CallsIn F n Try.prog 71 #[.slice A m c] w fun e w' => e = .returned (.func (.func 137) #[] #[.pointer (some ⟨w.heap.size, 0, none⟩)]) ∧ w' = w.alloc (.cells #[.slice A m c] 26) := by
  refine callsIn_of_wp Try.func71 rfl h ?_ hro
  simp only [Try.ntmps71, List.size_toArray, List.length_cons, List.length_nil, Nat.reduceAdd, Nat.reduceSub, Array.replicate_succ, Array.replicate_zero, List.push_toArray, List.append_toArray, List.nil_append, List.cons_append]
  gi_wp2
  go_ret
  exact ⟨rfl, rfl⟩
theorem values_stops (F : Fence) (n : Nat) (h1 : F.fn 137) (hro : F.round = none) (hn : 1 ≤ n) (Bs n0 : Nat) (A : Option Addr) (c : Nat) (l : List Int) (hlen : l.length ≤ 9223372036854775807) (w : World)
    (hbs : Bs < w.heap.size) (hn0 : n0 ≤ w.heap.size) (hg : w.cell? ⟨Bs, 0, none⟩ = some (.slice A l.length c)) (hC : ∀ W', Below n0 w W' → Kd.C (Kd.int .i64) W' A l.length l) :
    SeqStopsK F n Try.prog 137 #[.pointer (some ⟨Bs, 0, none⟩)] (fun x : Int => #[Value.int .i64 x]) (Below n0) (fun ys => ys = l) (fun pre => pre <+: l) l.length w :=
  fun k J Jx W hW _ _ hY h0 => values1_in F n h1 hro hn k Bs n0 A c l hlen J Jx W hY ((hW.cell (p := ⟨Bs, 0, none⟩) hbs).trans hg) (fun W' h => hC W' ((hW.mono hn0).trans h)) h0
set_option maxRecDepth 100000 in
set_option maxHeartbeats 2000000 in
theorem appendSeq_calls (n0 Bs : Nat) (A : Option Addr) (c : Nat) (l : List Int) (hl : l.length ≤ 8000000) (w : World) (hbs : Bs < w.heap.size) (hn0 : n0 ≤ w.heap.size) (hg : w.cell? ⟨Bs, 0, none⟩ = some (.slice A l.length c)) (hC : ∀ W', Below n0 w W' → Kd.C (Kd.int .i64) W' A l.length l) :
    Calls Try.prog 162 #[.slice none 0 0, .func (.func 137) #[] #[.pointer (some ⟨Bs, 0, none⟩)]] w fun e w' => ∃ v, e = .returned v ∧ Kd.R (Kd.int .i64) 3 w' w.heap.size (fun _ => True) v l ∧ Below w.heap.size w w' := by
  have hro : Fence.wide.round = none := rfl
  obtain ⟨i0, hi, hz0, hz1, hz2⟩ := info_parts info3
  refine (callsIn_wide (n := 3)).1 ?_
  refine callsIn_of_wp_marks Try.func162 rfl trivial ?_ hro
  simp only [Try.ntmps162, List.size_toArray, List.length_cons, List.length_nil, Nat.reduceAdd, Nat.reduceSub, Array.replicate_succ, Array.replicate_zero, List.push_toArray, List.append_toArray, List.nil_append, List.cons_append]
  have HCC := Aside0.mk hC
  clear hC
  gi_wp2
  have hb0 : Below w.heap.size w (w.alloc (.cells #[.slice none 0 0] 26)) := below_alloc (Below.refl _ _) _
  have hbx : Boxed (w.alloc (.cells #[.slice none 0 0] 26)) w.heap.size 26 (.slice none 0 0) := Boxed.new _ _ _
  refine wpIn_rangeFunc_ownG rfl (by omega) (gf := 137) (lb := #[.pointer (some ⟨Bs, 0, none⟩)]) rfl trivial (enters_of Try.func137 (by kernel_rfl) rfl)
    (values_stops Fence.wide _ trivial rfl (by omega) Bs n0 A c l (by omega) (w.alloc (.cells #[.slice none 0 0] 26)) (by simp; omega) (by simp; omega) (cell_then hg _) (fun W' h => HCC.out W' ((hb0.mono hn0).trans h)))
    belowK_t (belowK_b (by simp; omega)) (Below.refl _ _) (fun _ => rfl)
    (fun pre W => (∃ v, Boxed W w.heap.size 26 v ∧ W.ownsRow w.heap.size 3 1 v pre.length (pre.map (Value.int .i64)) ∧ True) ∧ Below w.heap.size w W)
    (fun _ _ _ => False)
    (OwnFrom.and (Own.from (holdsRow_own w.heap.size w.heap.size 26 3 1 (fun (pre : List Int) => pre.length) (fun pre => pre.map (Value.int .i64)) (fun pre v => True)) _) (ownFrom_below (Nat.le_refl _) (by simp)))
    (fun _ _ _ _ _ hs _ _ => hs)
    ⟨⟨_, hbx, World.ownsRow_nil _ _ _ _, trivial⟩, hb0⟩
    (fun x => { tmps := #[.slice none 0 0, .func (.func 137) #[] #[.pointer (some ⟨Bs, 0, none⟩)], .pointer (some ⟨w.heap.size, 0, none⟩), undef, .slice none 0 0, .int .i64 x, .func (.func 137) #[] #[.pointer (some ⟨Bs, 0, none⟩)], .int .i64 x, undef, undef, undef, undef, undef], defers := [] }) ?assign ?body ?done ?stop
  case assign =>
    intro l x W K hK
    gi_wp2
    exact hK
  case body =>
    rintro k pre x W ⟨⟨v, hv, hrow, _⟩, hB⟩ hlt
    have hc := hv.cell
    gi_wp2_with (gi_at_builtin; refine wpListIn_append_own _ rfl _ _ 26 rfl w.heap.size 3 i0 (.int .i64 0) 1 8 Try.underlying26 hi hz0 hz1 hz2 rfl (by decide) _ _ _ rfl (hrow.alloc _) ⟨W.heap.size, 0, none⟩ 1 1 [.int .i64 x] rfl rfl (cell_one_new _ _ _) (by simp [Value.oneCell']) (by simp [maxLen]; omega) (by omega) (by have := hB.size; simp; omega) ?_; intro v' w1' hown' hgrow _; obtain ⟨g', cap', rfl⟩ := ownsRow_succ hown'; obtain ⟨hv1, hv2, hr2, hk2, hb2⟩ := hv.appended (by decide) hrow hB.size (Nat.le_refl _) hown' hgrow; have hc1 := hv1.cell; have hf1 := hv1.frozen)
    exact ⟨hk2.from _, hb2.mono hn0, ⟨_, hv2, by simpa using hr2, trivial⟩, hB.trans hb2⟩
  case done =>
    rintro D ys W hD rfl ⟨⟨v, hv, hrow, _⟩, hB⟩ hK
    have hc := hv.cell
    gi_wp2
    refine ⟨by simp, .inl ⟨_, _, rfl, run_takeDeferred hK, ?_⟩⟩
    refine ⟨_, results_tmp rfl _ _ _, _, rfl, ?_, hB.trans (belowK_b (w := w) (Nat.le_refl _) W D _ _ (by simp at hD; omega) hK rfl rfl)⟩
    exact Kd.R_of_own (ownsRow_putObj hrow _ hK rfl) (fun _ _ => trivial)
  case stop =>
    rintro D j pre W _ _ h _
    exact h.elim
set_option maxHeartbeats 1000000 in
theorem collect_calls (n0 Bs : Nat) (A : Option Addr) (c : Nat) (l : List Int) (hl : l.length ≤ 8000000) (w : World) (hbs : Bs < w.heap.size) (hn0 : n0 ≤ w.heap.size) (hg : w.cell? ⟨Bs, 0, none⟩ = some (.slice A l.length c)) (hC : ∀ W', Below n0 w W' → Kd.C (Kd.int .i64) W' A l.length l) :
    Calls Try.prog 136 #[.func (.func 137) #[] #[.pointer (some ⟨Bs, 0, none⟩)]] w fun e w' => ∃ v, e = .returned v ∧ Kd.R (Kd.int .i64) 3 w' w.heap.size (fun _ => True) v l ∧ Below w.heap.size w w' := by
  have HA := Aside0.mk (appendSeq_calls n0 Bs A c l hl w hbs hn0 hg hC)
  clear hC hg
  go_enter Try.func136, Try.ntmps136
  go_wp2_with (go_at_call 162; refine HA.out.mono ?_; rintro e w1 ⟨v, rfl, hr, hb⟩; have HRB := Aside0.mk (And.intro hr hb); clear hr hb)
  go_ret
  exact ⟨_, rfl, HRB.out⟩
set_option maxHeartbeats 1000000 in
theorem sorted_calls (n0 Bs : Nat) (A : Option Addr) (c : Nat) (l : List Int) (hl : l.length ≤ 8000000) (w : World) (hbs : Bs < w.heap.size) (hn0 : n0 ≤ w.heap.size) (hg : w.cell? ⟨Bs, 0, none⟩ = some (.slice A l.length c)) (hC : ∀ W', Below n0 w W' → Kd.C (Kd.int .i64) W' A l.length l) :
    Calls Try.prog 70 #[.func (.func 137) #[] #[.pointer (some ⟨Bs, 0, none⟩)]] w fun e w' => ∃ v, e = .returned v ∧ Kd.R (Kd.int .i64) 3 w' w.heap.size (fun _ => True) v (sortI l) ∧ Below w.heap.size w w' := by
  have HA := Aside0.mk (collect_calls n0 Bs A c l hl w hbs hn0 hg hC)
  have HS : Aside0 (∀ v w1, Kd.R (Kd.int .i64) 3 w1 w.heap.size (fun _ => True) v l → Below w.heap.size w w1 → Calls Try.prog 133 #[v] w1 fun e w' => e = .returned (.tuple #[]) ∧ Kd.R (Kd.int .i64) 3 w' w.heap.size (fun _ => True) v (sortI l) ∧ Below w.heap.size w w') :=
    ⟨fun v w1 h1 h2 => (sortI_calls (fun _ => True) v l w w1 h2 h1 (by omega)).mono fun e w' ⟨a, b, c, _⟩ => ⟨a, b, c⟩⟩
  clear hC hg
  go_enter Try.func70, Try.ntmps70
  go_wp2_with (first | (go_at_call 136; refine HA.out.mono ?_; rintro e w1 ⟨v, rfl, hr, hb⟩; have HRB := Aside0.mk (HS.out v w1 hr hb); clear hr hb) | (go_at_call 133; refine HRB.out.mono ?_; rintro e w2 ⟨rfl, hr, hb⟩; have HF := Aside0.mk (And.intro hr hb); clear hr hb HRB))
  go_ret
  exact ⟨_, rfl, HF.out⟩
theorem upTo_compG (l : List Int) : ∀ m, m ≤ l.length → Lib.compactUpTo l.toArray m = compG none (l.take m)
  | 0, _ => by simp [Lib.compactUpTo, compG]
  | m + 1, h => by
    rw [Lib.compactUpTo_succ, upTo_compG l m (by omega), List.take_succ_eq_append_getElem (by omega), compG_snoc]
    congr 1
    have hm : m < l.length := by omega
    cases m with
    | zero => simp [Lib.keeps, hm]
    | succ m =>
      have e : (l.take (m + 1)).getLast? = some (l[m]'(by omega)) := by
        rw [List.getLast?_eq_getElem?, List.length_take, Nat.min_eq_left (by omega), List.getElem?_take, if_pos (by omega), List.getElem?_eq_getElem (by omega)]
        simp
      rw [e]
      simp only [Lib.keeps, Nat.add_one_ne_zero, false_or, Nat.add_sub_cancel, ne_eq, decide_not, Option.some.injEq]
      have e1 : l.toArray[m + 1]! = l[m + 1] := by simp [hm]
      have e2 : l.toArray[m]! = l[m]'(by omega) := by simp [show m < l.length by omega]
      rw [e1, e2]
      by_cases h : l[m]'(by omega) = l[m + 1]
      · simp [h]
      · simp [h, Ne.symm h, eq_comm]
set_option maxHeartbeats 1000000 in
theorem compactI_calls (A : Option Addr) (c : Nat) (l : List Int) (w0 w : World) (hB : Below w0.heap.size w0 w) (ho : Kd.R (Kd.int .i64) 3 w w0.heap.size (fun _ => True) (.slice A l.length c) l) :
    Calls Try.prog 147 #[.slice A l.length c] w fun e w' => ∃ A' c', e = .returned (.slice A' (compG none l).length c') ∧ Below w0.heap.size w0 w' := by
  have hown := Kd.own_of_R ho
  have HB := Aside0.mk hB
  by_cases h2 : (l.length : Int) < 2
  · clear ho hown hB
    have hcl : compG none l = l := by
      rcases l with _ | ⟨x, _ | ⟨y, l⟩⟩
      · rfl
      · rfl
      · simp at h2; omega
    rw [hcl]
    clear hcl
    go_enter Try.func147, Try.ntmps147
    go_wp2
    go_ret
    exact ⟨_, _, rfl, HB.out⟩
  · rcases hown.2 with ⟨e, h0⟩ | ⟨g, cap, cur, e, hb, hg, hn, hm, hs, ht⟩
    · omega
    · injection e with e1 e2 e3
      subst e1
      subst e3
      obtain ⟨hH, hlt⟩ := own_holds hown
      have hH' : Sort.Holds (Value.int .i64) w g 0 l.toArray := holds_map (by simpa [encs] using hH)
      have hcon := AnyE.slices_Compact Ytkemhnfaheplhaa.L.compactI (Value.int .i64) (fun _ => rfl) (EqlAt.intD _ _ .i64) (NeqAt.intD _ _ .i64) 0 Try.zeroValue3 g 0 c l.toArray w hH' (by simp [maxLen] at hm; simp; omega) (by simpa using hn)
      refine hcon.mono ?_
      rintro e w' ⟨rfl, q, rfl⟩
      have hup := upTo_compG l l.length (Nat.le_refl _)
      rw [List.take_length] at hup
      have hsz : l.toArray.size = l.length := by simp
      rw [hsz, hup]
      have hle := compG_len l none
      have hq := put_own (m := q) (F := ((compG none l ++ List.replicate (l.length - (compG none l).length) 0).toArray.map (Value.int .i64))) (os := #[]) hown (by simp; omega)
      rw [← putRow_map, Sort.grow_empty] at hq
      exact ⟨_, _, rfl, grown_below hB hq.2 hb hB.size⟩
def unlikeB (l : List Int) : Bool := decide ((compG none (sortI l)).length = l.length)
set_option maxHeartbeats 1000000 in
theorem unlike_calls (A : Option Addr) (c : Nat) (l : List Int) (w : World) (hr : Kd.C (Kd.int .i64) w A l.length l) (hc : l.length ≤ c) (hl : l.length ≤ 8000000) :
    Calls Try.prog 105 #[.slice A l.length c] w fun e w' => e = .returned (.bool (unlikeB l)) ∧ Below w.heap.size w w' := by
  have HR := Aside0.mk hr
  clear hr
  have HV : ∀ W, Calls Try.prog 71 #[.slice A l.length c] W fun e w' => e = .returned (.func (.func 137) #[] #[.pointer (some ⟨W.heap.size, 0, none⟩)]) ∧ w' = W.alloc (.cells #[.slice A l.length c] 26) := fun W => callsIn_wide.1 (values_in Fence.wide 3 trivial rfl A l.length c W)
  have HS := Aside0.mk (sorted_calls w.heap.size w.heap.size A c l hl (w.alloc (.cells #[.slice A l.length c] 26)) (by simp) (by simp) ((blk_cell (heap_alloc_new w _) 0).trans rfl) (fun W' h => Kd.C_below HR.out ((below_alloc (Below.refl _ _) _).trans h)))
  have hu : unlikeB l = ((compG none (sortI l)).length == l.length) := by rw [unlikeB]; cases h : (compG none (sortI l)).length == l.length <;> simp_all
  have HCP : Aside0 (∀ A' c' w1, Kd.R (Kd.int .i64) 3 w1 (w.alloc (.cells #[.slice A l.length c] 26)).heap.size (fun _ => True) (.slice A' (sortI l).length c') (sortI l) → Below (w.alloc (.cells #[.slice A l.length c] 26)).heap.size (w.alloc (.cells #[.slice A l.length c] 26)) w1 → Calls Try.prog 147 #[.slice A' (sortI l).length c'] w1 fun e w' => ∃ A' c', e = .returned (.slice A' (compG none (sortI l)).length c') ∧ Below w.heap.size w w') :=
    ⟨fun A' c' w1 h1 h2 => (compactI_calls A' c' (sortI l) _ w1 h2 h1).mono fun e w' ⟨a, b, h3, h4⟩ => ⟨a, b, h3, (below_alloc (Below.refl _ _) _).trans (h4.mono (by simp))⟩⟩
  obtain ⟨s, hs⟩ : ∃ s, sortI l = s := ⟨_, rfl⟩
  rw [hs] at HS HCP hu
  rw [hu]
  obtain ⟨t, ht⟩ : ∃ t, (compG none s).length = t := ⟨_, rfl⟩
  rw [ht] at HCP ⊢
  clear hu hs ht
  go_enter Try.func105, Try.ntmps105
  go_wp2_with (first | (go_at_call 71; refine (HV _).mono ?_; rintro e w1 ⟨rfl, rfl⟩) | (go_at_call 70; refine HS.out.mono ?_; rintro e w1 ⟨v, rfl, hr1, hb1⟩; obtain ⟨A', c', rfl⟩ := Kd.R_slice hr1; have HX := Aside0.mk (HCP.out A' c' w1 hr1 hb1); clear hr1 hb1) | (go_at_call 147; refine HX.out.mono ?_; rintro e w2 ⟨A2, c2, rfl, hb2⟩; have HF := Aside0.mk hb2; clear hb2 HX))
  go_ret
  exact ⟨ret_bool (by rw [Bool.eq_iff_iff]; simp; omega), HF.out⟩
def walk_unlike.f (l : List Int) : Option Bool := if l.length ≤ 8000000 then some (unlikeB l) else none
theorem walk_unlike.calls (A0 : Option Addr) (c0 : Nat) (l0 : List Int) (r : Bool) (w : World) (hr0 : Kd.C (Kd.int .i64) w A0 l0.length l0) (hc0 : l0.length ≤ c0) (h : walk_unlike.f l0 = some r) :
    Calls Try.prog 105 #[.slice A0 l0.length c0] w fun e w' => e = .returned (.bool r) ∧ Below w.heap.size w w' := by
  obtain ⟨hl, rfl⟩ := if_some h
  exact unlike_calls A0 c0 l0 w hr0 hc0 hl
end Go.Proofs.Ytkemhnfaheplhaa.F
namespace Go.Proofs.Ytkemhnfaheplhaa.F
open Go.RowKit Go.Proofs.YtkemhnfaheplhaaW.PrintWords Go.Proofs.YtkemhnfaheplhaaW.PrintLast Go.Proofs.YtkemhnfaheplhaaW.PrintMore
attribute [local go_sem] max2_int min2_int max_two min_two max_three min_three max_four min_four
set_option linter.unusedVariables false
set_option linter.unusedSimpArgs false
mutual
def walk_IsPath.j0 : Nat → List Int → Bool → Int → List (S69) → Option (Bool)
  | 0, _, _, _, _ => none
  | k + 1, x1, x32, x102000, x102001 => if x32 = true then (some false) else (walk_IsPath.l0 k x1 (wrap64 ((x1.length : Int) - 1)) 0 x102000 x102001)
def walk_IsPath.l0 : Nat → List Int → Int → Int → Int → List (S69) → Option (Bool)
  | 0, _, _, _, _, _ => none
  | k + 1, x1, x35, x36, x102000, x102001 => if x36 < x35 then (if 0 ≤ x36 then (if x36 < (x1.length : Int) then (if 0 ≤ (wrap64 (x36 + 1)) then (if (wrap64 (x36 + 1)) < (x1.length : Int) then ((graph_Has.f x102000 x102001 (rd x1 x36) (rd x1 (wrap64 (x36 + 1)))).bind fun t108 => (if t108 = true then (walk_IsPath.l0 k x1 x35 (wrap64 (x36 + 1)) x102000 x102001) else (some false))) else (none)) else (none)) else (none)) else (none)) else (some true)
end
def walk_IsPath.f (k : Nat) (a0_0 : Int) (l0_1 : List (S69)) (l1 : List Int) : Option (Bool) := (graph_Right.f a0_0 l0_1).bind fun t102 => (if t102 = true then (if (l1.length : Int) = 0 then (walk_IsPath.j0 k l1 true a0_0 l0_1) else (if 0 < (l1.length : Int) then (if (rd l1 0) < 0 then (walk_IsPath.j0 k l1 true a0_0 l0_1) else (if (rd l1 0) ≥ a0_0 then (walk_IsPath.j0 k l1 true a0_0 l0_1) else ((walk_unlike.f l1).bind fun t105 => (walk_IsPath.j0 k l1 (!t105) a0_0 l0_1)))) else (none))) else (walk_IsPath.j0 k l1 true a0_0 l0_1))
theorem walk_IsPath.mono_l : ∀ k, (∀ y0 y1 y2 y3, LeO (walk_IsPath.j0 k y0 y1 y2 y3) (walk_IsPath.j0 (k + 1) y0 y1 y2 y3)) ∧ (∀ y0 y1 y2 y3 y4, LeO (walk_IsPath.l0 k y0 y1 y2 y3 y4) (walk_IsPath.l0 (k + 1) y0 y1 y2 y3 y4))
  | 0 => ⟨fun _ _ _ _ r h => by simp [walk_IsPath.j0] at h, fun _ _ _ _ _ r h => by simp [walk_IsPath.l0] at h⟩
  | k + 1 => by
    obtain ⟨ih0, ih1⟩ := walk_IsPath.mono_l k
    refine ⟨?_, ?_⟩
    · intro y0 y1 y2 y3
      unfold walk_IsPath.j0
      repeat' first
      | (with_reducible exact ih0 _ _ _ _)
      | (with_reducible exact ih1 _ _ _ _ _)
      | (with_reducible exact LeO.refl _)
      | (with_reducible exact LeO.none _)
      | (with_reducible refine LeO.ite ?_ ?_)
      | (with_reducible refine LeO.bind ?_ (fun _ => ?_))
      | exact ih0 _ _ _ _
      | exact ih1 _ _ _ _ _
      | exact LeO.none _
      | refine LeO.ite ?_ ?_
      | refine LeO.bind ?_ (fun _ => ?_)
    · intro y0 y1 y2 y3 y4
      unfold walk_IsPath.l0
      repeat' first
      | (with_reducible exact ih0 _ _ _ _)
      | (with_reducible exact ih1 _ _ _ _ _)
      | (with_reducible exact LeO.refl _)
      | (with_reducible exact LeO.none _)
      | (with_reducible refine LeO.ite ?_ ?_)
      | (with_reducible refine LeO.bind ?_ (fun _ => ?_))
      | exact ih0 _ _ _ _
      | exact ih1 _ _ _ _ _
      | exact LeO.none _
      | refine LeO.ite ?_ ?_
      | refine LeO.bind ?_ (fun _ => ?_)
theorem walk_IsPath.mono : ∀ a0 a1 a2 k, LeO (walk_IsPath.f k a0 a1 a2) (walk_IsPath.f (k + 1) a0 a1 a2) := by
  intro a0 a1 a2 k
  obtain ⟨ih0, ih1⟩ := walk_IsPath.mono_l k
  unfold walk_IsPath.f
  repeat' first
      | (with_reducible exact ih0 _ _ _ _)
      | (with_reducible exact ih1 _ _ _ _ _)
      | (with_reducible exact LeO.refl _)
      | (with_reducible exact LeO.none _)
      | (with_reducible refine LeO.ite ?_ ?_)
      | (with_reducible refine LeO.bind ?_ (fun _ => ?_))
      | exact ih0 _ _ _ _
      | exact ih1 _ _ _ _ _
      | exact LeO.none _
      | refine LeO.ite ?_ ?_
      | refine LeO.bind ?_ (fun _ => ?_)
def walk_IsPath.T1 : Bool × List (List Nat × List Nat) := (true, [([], []), ([0], [0]), ([1], [1]), ([2, 1], [2]), ([3], [3]), ([4, 3], [3, 4]), ([5, 3], [3, 5]), ([3, 6], [3, 6]), ([7, 3], [7]), ([8], [8]), ([9, 8], [8, 9]), ([10, 8], [8, 10]), ([11, 8], [8, 11]), ([8, 12], [8, 12]), ([13, 8], [13]), ([14], [14]), ([15, 14], [14, 15]), ([16, 14], [14, 16]), ([14], [14]), ([18, 14], [14, 18]), ([17, 19, 14], [14, 17, 19]), ([14, 20], [14, 20]), ([21, 14], [21]), ([22], [22]), ([23, 22, 22], [22, 23]), ([24, 22], [22, 24]), ([22, 25], [22, 25])])
def walk_IsPath.B1 : List Nat := [0, 1, 3, 7, 15, 31, 63, 127, 255, 511, 1023, 2047, 4095, 8191, 16383, 32767, 65535, 131071, 32767, 294911, 1048575, 2097151, 4194303, 8388607, 16777215, 33554431, 67108863]
theorem walk_IsPath.tab1 : rtab .any (opsOf Try.f66 1) = walk_IsPath.T1 := by kernel_rfl
theorem walk_IsPath.bits1 : waitsOk walk_IsPath.T1.2 walk_IsPath.B1 = true := by kernel_rfl
def walk_IsPath.T6 : Bool × List (List Nat × List Nat) := (true, [([], []), ([], []), ([], []), ([1, 2], [1, 2]), ([3], [3]), ([], []), ([], []), ([6], [6]), ([5, 7], [5, 7]), ([8], [8]), ([0, 4, 9], [0, 4, 9]), ([10], [10])])
def walk_IsPath.B6 : List Nat := [0, 0, 0, 6, 14, 0, 0, 64, 224, 480, 1023, 2047]
theorem walk_IsPath.tab6 : rtab .any (opsOf Try.f66 6) = walk_IsPath.T6 := by kernel_rfl
theorem walk_IsPath.bits6 : waitsOk walk_IsPath.T6.2 walk_IsPath.B6 = true := by kernel_rfl
set_option maxHeartbeats 8000000 in
set_option maxRecDepth 100000 in
theorem walk_IsPath.calls (k : Nat) (a0_0 : Int) (A0_1 : Option Addr) (c0_1 : Nat) (l0_1 : List (S69)) (A1 : Option Addr) (c1 : Nat) (l1 : List Int) (r : Bool) (w : World) (hr0_1 : Kd.C k69 w A0_1 l0_1.length l0_1) (hc0_1 : l0_1.length ≤ c0_1) (hr1 : Kd.C (Kd.int .i64) w A1 l1.length l1) (hc1 : l1.length ≤ c1) (h : walk_IsPath.f k a0_0 l0_1 l1 = some r) :
    Calls Try.prog 66 #[.agg #[.int .i64 a0_0, .slice A0_1 l0_1.length c0_1], .slice A1 l1.length c1] w fun e w' => e = .returned (.bool r) ∧ Below w.heap.size w w' := by
  have hu31 := Try.underlying31
  have HR0_1 := Aside0.mk hr0_1
  have HC0_1 := Aside0.mk hc0_1
  clear hr0_1 hc0_1
  have HR1 := Aside0.mk hr1
  have HC1 := Aside0.mk hc1
  clear hr1 hc1
  have HB := Aside0.mk (Below.refl w.heap.size w)
  have H : ((graph_Right.f a0_0 l0_1).bind fun t102 => (if t102 = true then (if (l1.length : Int) = 0 then (walk_IsPath.j0 k l1 true a0_0 l0_1) else (if 0 < (l1.length : Int) then (if (rd l1 0) < 0 then (walk_IsPath.j0 k l1 true a0_0 l0_1) else (if (rd l1 0) ≥ a0_0 then (walk_IsPath.j0 k l1 true a0_0 l0_1) else ((walk_unlike.f l1).bind fun t105 => (walk_IsPath.j0 k l1 (!t105) a0_0 l0_1)))) else (none))) else (walk_IsPath.j0 k l1 true a0_0 l0_1))) = some r := h
  clear h
  have HC3 := Aside0.mk H
  clear H
  go_enter Try.func66, Try.ntmps66
  go_upto_region 1 with (first | ((with_reducible refine gate_dst (N := 2) rfl ?_); (try (refine gate_guard (by rfl) ?_; dsimp only)); refine box_event ?hg (N := 2) ?hd (cs := #[.int .i64 a0_0, .slice A0_1 l0_1.length c0_1]) (t := 31) ?hr ?_; (case hd => rfl); (case hg => rfl); (case hr => first | (go_simp; done) | (go_simp; rfl)); intro gb101 hg w4 hbox hb; have n0_ := Aside0.mk (below_step (by repeat (first | (with_reducible first | exact HB.out | apply below_alloc | apply pw_below_drewN | apply below_drew1) | exact HB.out)) hb); have n1_ := Aside0.mk (hbox); have n2_ := Aside0.mk ((by rw [hg]; exact (below_size (by repeat (first | (with_reducible first | exact HB.out | apply below_alloc | apply pw_below_drewN | apply below_drew1) | exact HB.out))) : w.heap.size ≤ gb101)); have n3_ := Aside0.mk ((by rw [hg]; exact (below_size (by repeat (first | (with_reducible first | exact HB.out | apply below_alloc | apply pw_below_drewN | apply below_drew1) | exact HB.out))) : w.heap.size ≤ gb101)); clear HB; have HB := n0_; have BK101 := n1_; have GW101 := n2_; have GE101 := n3_; clear n0_ n1_ n2_ n3_; clear hb hbox hg))
  (try simp only [Act.put, List.setIfInBounds_toArray, List.set_cons_zero, List.set_cons_succ])
  go_cut [32] (fun v32 wc => ∃ (kq : Nat) (x32_2 : Bool), v32 = .bool x32_2 ∧ Aside0 (walk_IsPath.j0 kq l1 x32_2 a0_0 l0_1 = some r) ∧ Aside0 (kq ≤ k) ∧ Aside0 (wc.heap[gb101]? = some (.cells #[.int .i64 a0_0, (.slice A0_1 l0_1.length c0_1)] 31 (0, 0))) ∧ Aside0 (Below w.heap.size w wc))
  case first =>
    have H := HC3.out
    clear HC3
    replace H := Option.bind_eq_some_iff.mp H
    obtain ⟨t102, A50, H⟩ := H
    replace H : (if t102 = true then (if (l1.length : Int) = 0 then (walk_IsPath.j0 k l1 true a0_0 l0_1) else (if 0 < (l1.length : Int) then (if (rd l1 0) < 0 then (walk_IsPath.j0 k l1 true a0_0 l0_1) else (if (rd l1 0) ≥ a0_0 then (walk_IsPath.j0 k l1 true a0_0 l0_1) else ((walk_unlike.f l1).bind fun t105 => (walk_IsPath.j0 k l1 (!t105) a0_0 l0_1)))) else (none))) else (walk_IsPath.j0 k l1 true a0_0 l0_1)) = some r := H
    have A5 := Aside0.mk A50
    clear A50
    by_cases c6 : t102 = true
    · subst c6
      have H1 : (if (l1.length : Int) = 0 then (walk_IsPath.j0 k l1 true a0_0 l0_1) else (if 0 < (l1.length : Int) then (if (rd l1 0) < 0 then (walk_IsPath.j0 k l1 true a0_0 l0_1) else (if (rd l1 0) ≥ a0_0 then (walk_IsPath.j0 k l1 true a0_0 l0_1) else ((walk_unlike.f l1).bind fun t105 => (walk_IsPath.j0 k l1 (!t105) a0_0 l0_1)))) else (none))) = some r := by rw [if_pos rfl] at H; exact H
      clear H
      have H := H1
      clear H1
      by_cases c7 : (l1.length : Int) = 0
      · rw [if_pos c7] at H
        have c7b0 : ((l1.length : Int) == 0) = true := beq_iff_eq.mpr c7
        have c7b1 : ((l1.length : Int) != 0) = false := bne_eq_false_iff_eq.mpr c7
        clear c7
        (first | rw [c7b0] | (simp only [i64_w, i32_w]; rw [c7b0]) | skip)
        have H' := Aside0.mk H
        clear H
        try go_wp2
        have n0_ := Aside0.mk (blk_drew BK101.out)
        have n1_ := Aside0.mk (below_drew1 HB.out)
        clear BK101
        clear HB
        have BK101 := n0_
        have HB := n1_
        clear n0_ n1_
        refine start_ (n := 27) (S := fun w' => w'.cell? ⟨gb101, 0, none⟩ = some (.int .i64 a0_0) ∧ w'.cell? ⟨gb101, 1, none⟩ = some (.slice A0_1 l0_1.length c0_1)) (ds := []) #[false, false, false, false, false, false, false, false, false, false, false, false, false, false, false, false, false, false, false, false, false, false, false, false, false, false, false] (by kernel_rfl) rfl rfl ⟨(blk_cell BK101.out 0).trans rfl, (blk_cell BK101.out 1).trans rfl⟩ (fun hHeld => ?_); refine with_tabW walk_IsPath.tab1 walk_IsPath.bits1 (fun HT_ HW_ => ?_)
        generalize w4.drew = w8 at BK101 HB hHeld ⊢
        refine take_ (i := 0) (N := some 6) (v := ?_) (a' := ?_) #[true, false, false, false, false, false, false, false, false, false, false, false, false, false, false, false, false, false, false, false, false, false, false, false, false, false, false] rfl rfl (take_ofW HT_.out HW_.out (by kernel_rfl)) (fun _ _ _ h => h) (Or.inl ⟨by rfl, ?_⟩) hHeld ?_ ?_
        rotate_left
        · rintro w' ⟨s0, s1⟩
          go_simp
          with_reducible rfl
        rotate_left
        · simp only [Act.put, List.setIfInBounds_toArray, List.set_cons_zero, List.set_cons_succ, i64_w, i32_w]
          rfl
        refine one_ (i := 1) (N := some 7) #[true, true, false, false, false, false, false, false, false, false, false, false, false, false, false, false, false, false, false, false, false, false, false, false, false, false, false] rfl rfl (one_of HT_.out (by kernel_rfl)) (by decide) (fun K hK => ?_)
        refine goes_ Try.func55 (by kernel_rfl) rfl #[.agg #[.int .i64 a0_0, .slice A0_1 l0_1.length c0_1]] (by rfl) rfl rfl (by (try simp only [List.map_toArray, List.map_cons, List.map_nil]); first | done | rfl | (simp only [List.length_drop, List.length_take]; rfl)) ?_
        with_reducible refine (graph_Right.calls a0_0 _ _ l0_1 true _ ?side1 ?side2 A5.out).mono ?_
        (case side1 => repeat (first | exact (Kd.C_below HR0_1.out HB.out) | (with_reducible refine Kd.C_alloc ?_ _) | (with_reducible refine Kd.C_drewN ?_ _) | (with_reducible refine Kd.C_drew ?_)))
        (case side2 => exact HC0_1.out)
        rintro e w9 ⟨rfl, hb⟩
        refine ⟨_, rfl, ?_⟩
        have n0_ := Aside0.mk (blk_below (g := gb101) (o := .cells #[.int .i64 a0_0, .slice A0_1 l0_1.length c0_1] 31 (0, 0)) (by (with_reducible repeat (first | refine blk_drewN ?_ _ | refine blk_drew ?_ | refine blk_alloc ?_ _)); exact BK101.out) hb)
        have n1_ := Aside0.mk (below_step (by repeat (first | (with_reducible first | exact HB.out | apply below_alloc | apply pw_below_drewN | apply below_drew1 | refine below_set ?_ GE101.out) | exact HB.out)) hb)
        clear BK101
        clear HB
        have BK101 := n0_
        have HB := n1_
        clear n0_ n1_
        (try clear hb)
        (try clear hb2)
        (try clear hk)
        (try clear hi)
        refine hK.out _ _ ⟨(blk_cell BK101.out 0).trans rfl, (blk_cell BK101.out 1).trans rfl⟩ (fun hHeld => ?_)
        clear hK K
        refine norm_ (a' := ?_) ?_ ?_
        rotate_left
        · show Act.put _ (some 7) _ = _
          simp only [Act.put, List.setIfInBounds_toArray, List.set_cons_zero, List.set_cons_succ, i64_w, i32_w]
          rfl
        refine pure_ (i := 2) (N := some 8) (v := ?_) (a' := ?_) #[true, true, true, false, false, false, false, false, false, false, false, false, false, false, false, false, false, false, false, false, false, false, false, false, false, false, false] rfl rfl (any_of HT_.out (by kernel_rfl)) (fun _ _ _ h => h) (Or.inl ⟨by rfl, ?_⟩) ?_ ?_
        rotate_left
        · intro w'
          go_simp
          with_reducible rfl
        rotate_left
        · simp only [Act.put, List.setIfInBounds_toArray, List.set_cons_zero, List.set_cons_succ, i64_w, i32_w]
          rfl
        refine pure_ (i := 3) (N := some 9) (v := ?_) (a' := ?_) #[true, true, true, true, false, false, false, false, false, false, false, false, false, false, false, false, false, false, false, false, false, false, false, false, false, false, false] rfl rfl (any_of HT_.out (by kernel_rfl)) (fun _ _ _ h => h) (Or.inl ⟨by rfl, ?_⟩) ?_ ?_
        rotate_left
        · intro w'
          go_simp
          with_reducible rfl
        rotate_left
        · simp only [Act.put, List.setIfInBounds_toArray, List.set_cons_zero, List.set_cons_succ, i64_w, i32_w]
          rfl
        refine pure_ (i := 4) (N := some 10) (v := ?_) (a' := ?_) #[true, true, true, true, true, false, false, false, false, false, false, false, false, false, false, false, false, false, false, false, false, false, false, false, false, false, false] rfl rfl (any_of HT_.out (by kernel_rfl)) (fun _ _ _ h => h) (Or.inl ⟨by rfl, ?_⟩) ?_ ?_
        rotate_left
        · intro w'
          go_simp
          with_reducible rfl
        rotate_left
        · simp only [Act.put, List.setIfInBounds_toArray, List.set_cons_zero, List.set_cons_succ, i64_w, i32_w]
          rfl
        refine pure_ (i := 5) (N := some 11) (v := ?_) (a' := ?_) #[true, true, true, true, true, true, false, false, false, false, false, false, false, false, false, false, false, false, false, false, false, false, false, false, false, false, false] rfl rfl (any_of HT_.out (by kernel_rfl)) (fun _ _ _ h => h) (Or.inl ⟨by rfl, ?_⟩) ?_ ?_
        rotate_left
        · intro w'
          go_simp
          with_reducible rfl
        rotate_left
        · simp only [Act.put, List.setIfInBounds_toArray, List.set_cons_zero, List.set_cons_succ, i64_w, i32_w]
          rfl
        refine pure_ (i := 6) (N := some 12) (v := ?_) (a' := ?_) #[true, true, true, true, true, true, true, false, false, false, false, false, false, false, false, false, false, false, false, false, false, false, false, false, false, false, false] rfl rfl (any_of HT_.out (by kernel_rfl)) (fun _ _ _ h => h) (Or.inl ⟨by rfl, ?_⟩) ?_ ?_
        rotate_left
        · intro w'
          go_simp
          with_reducible rfl
        rotate_left
        · simp only [Act.put, List.setIfInBounds_toArray, List.set_cons_zero, List.set_cons_succ, i64_w, i32_w]
          rfl
        refine pure_ (i := 7) (N := some 13) (v := ?_) (a' := ?_) #[true, true, true, true, true, true, true, true, false, false, false, false, false, false, false, false, false, false, false, false, false, false, false, false, false, false, false] rfl rfl (any_of HT_.out (by kernel_rfl)) (fun _ _ _ h => h) (Or.inl ⟨by rfl, ?_⟩) ?_ ?_
        rotate_left
        · intro w'
          go_simp
          with_reducible rfl
        rotate_left
        · simp only [Act.put, List.setIfInBounds_toArray, List.set_cons_zero, List.set_cons_succ, i64_w, i32_w]
          rfl
        refine pure_ (i := 8) (N := some 14) (v := ?_) (a' := ?_) #[true, true, true, true, true, true, true, true, true, false, false, false, false, false, false, false, false, false, false, false, false, false, false, false, false, false, false] rfl rfl (any_of HT_.out (by kernel_rfl)) (fun _ _ _ h => h) (Or.inl ⟨by rfl, ?_⟩) ?_ ?_
        rotate_left
        · intro w'
          go_simp
          with_reducible rfl
        rotate_left
        · simp only [Act.put, List.setIfInBounds_toArray, List.set_cons_zero, List.set_cons_succ, i64_w, i32_w]
          rfl
        refine pure_ (i := 9) (N := some 15) (v := undef) (a' := ?_) #[true, true, true, true, true, true, true, true, true, true, false, false, false, false, false, false, false, false, false, false, false, false, false, false, false, false, false] rfl rfl (any_of HT_.out (by kernel_rfl)) (fun _ _ _ h => h) (Or.inr ⟨by rfl, rfl⟩) ?_ ?_
        rotate_left
        · simp only [Act.put, List.setIfInBounds_toArray, List.set_cons_zero, List.set_cons_succ, i64_w, i32_w]
          rfl
        refine pure_ (i := 10) (N := some 16) (v := undef) (a' := ?_) #[true, true, true, true, true, true, true, true, true, true, true, false, false, false, false, false, false, false, false, false, false, false, false, false, false, false, false] rfl rfl (any_of HT_.out (by kernel_rfl)) (fun _ _ _ h => h) (Or.inr ⟨by rfl, rfl⟩) ?_ ?_
        rotate_left
        · simp only [Act.put, List.setIfInBounds_toArray, List.set_cons_zero, List.set_cons_succ, i64_w, i32_w]
          rfl
        refine pure_ (i := 11) (N := some 17) (v := undef) (a' := ?_) #[true, true, true, true, true, true, true, true, true, true, true, true, false, false, false, false, false, false, false, false, false, false, false, false, false, false, false] rfl rfl (any_of HT_.out (by kernel_rfl)) (fun _ _ _ h => h) (Or.inr ⟨by rfl, rfl⟩) ?_ ?_
        rotate_left
        · simp only [Act.put, List.setIfInBounds_toArray, List.set_cons_zero, List.set_cons_succ, i64_w, i32_w]
          rfl
        refine pure_ (i := 12) (N := some 18) (v := undef) (a' := ?_) #[true, true, true, true, true, true, true, true, true, true, true, true, true, false, false, false, false, false, false, false, false, false, false, false, false, false, false] rfl rfl (any_of HT_.out (by kernel_rfl)) (fun _ _ _ h => h) (Or.inr ⟨by rfl, rfl⟩) ?_ ?_
        rotate_left
        · simp only [Act.put, List.setIfInBounds_toArray, List.set_cons_zero, List.set_cons_succ, i64_w, i32_w]
          rfl
        refine pure_ (i := 13) (N := some 19) (v := ?_) (a' := ?_) #[true, true, true, true, true, true, true, true, true, true, true, true, true, true, false, false, false, false, false, false, false, false, false, false, false, false, false] rfl rfl (any_of HT_.out (by kernel_rfl)) (fun _ _ _ h => h) (Or.inl ⟨by rfl, ?_⟩) ?_ ?_
        rotate_left
        · intro w'
          go_simp
          with_reducible rfl
        rotate_left
        · simp only [Act.put, List.setIfInBounds_toArray, List.set_cons_zero, List.set_cons_succ, i64_w, i32_w]
          rfl
        refine pure_ (i := 14) (N := some 20) (v := ?_) (a' := ?_) #[true, true, true, true, true, true, true, true, true, true, true, true, true, true, true, false, false, false, false, false, false, false, false, false, false, false, false] rfl rfl (any_of HT_.out (by kernel_rfl)) (fun _ _ _ h => h) (Or.inl ⟨by rfl, ?_⟩) ?_ ?_
        rotate_left
        · intro w'
          go_simp
          with_reducible rfl
        rotate_left
        · simp only [Act.put, List.setIfInBounds_toArray, List.set_cons_zero, List.set_cons_succ, i64_w, i32_w]
          rfl
        refine pure_ (i := 15) (N := some 21) (v := undef) (a' := ?_) #[true, true, true, true, true, true, true, true, true, true, true, true, true, true, true, true, false, false, false, false, false, false, false, false, false, false, false] rfl rfl (any_of HT_.out (by kernel_rfl)) (fun _ _ _ h => h) (Or.inr ⟨by rfl, rfl⟩) ?_ ?_
        rotate_left
        · simp only [Act.put, List.setIfInBounds_toArray, List.set_cons_zero, List.set_cons_succ, i64_w, i32_w]
          rfl
        refine pure_ (i := 16) (N := some 22) (v := undef) (a' := ?_) #[true, true, true, true, true, true, true, true, true, true, true, true, true, true, true, true, true, false, false, false, false, false, false, false, false, false, false] rfl rfl (any_of HT_.out (by kernel_rfl)) (fun _ _ _ h => h) (Or.inr ⟨by rfl, rfl⟩) ?_ ?_
        rotate_left
        · simp only [Act.put, List.setIfInBounds_toArray, List.set_cons_zero, List.set_cons_succ, i64_w, i32_w]
          rfl
        refine pure_ (i := 17) (N := some 23) (v := undef) (a' := ?_) #[true, true, true, true, true, true, true, true, true, true, true, true, true, true, true, true, true, true, false, false, false, false, false, false, false, false, false] rfl rfl (any_of HT_.out (by kernel_rfl)) (fun _ _ _ h => h) (Or.inr ⟨by rfl, rfl⟩) ?_ ?_
        rotate_left
        · simp only [Act.put, List.setIfInBounds_toArray, List.set_cons_zero, List.set_cons_succ, i64_w, i32_w]
          rfl
        refine pure_ (i := 18) (N := some 24) (v := undef) (a' := ?_) #[true, true, true, true, true, true, true, true, true, true, true, true, true, true, true, true, true, true, true, false, false, false, false, false, false, false, false] rfl rfl (any_of HT_.out (by kernel_rfl)) (fun _ _ _ h => h) (Or.inr ⟨by rfl, rfl⟩) ?_ ?_
        rotate_left
        · simp only [Act.put, List.setIfInBounds_toArray, List.set_cons_zero, List.set_cons_succ, i64_w, i32_w]
          rfl
        refine pure_ (i := 19) (N := some 25) (v := undef) (a' := ?_) #[true, true, true, true, true, true, true, true, true, true, true, true, true, true, true, true, true, true, true, true, false, false, false, false, false, false, false] rfl rfl (any_of HT_.out (by kernel_rfl)) (fun _ _ _ h => h) (Or.inr ⟨by rfl, rfl⟩) ?_ ?_
        rotate_left
        · simp only [Act.put, List.setIfInBounds_toArray, List.set_cons_zero, List.set_cons_succ, i64_w, i32_w]
          rfl
        refine pure_ (i := 20) (N := some 26) (v := undef) (a' := ?_) #[true, true, true, true, true, true, true, true, true, true, true, true, true, true, true, true, true, true, true, true, true, false, false, false, false, false, false] rfl rfl (any_of HT_.out (by kernel_rfl)) (fun _ _ _ h => h) (Or.inr ⟨by rfl, rfl⟩) ?_ ?_
        rotate_left
        · simp only [Act.put, List.setIfInBounds_toArray, List.set_cons_zero, List.set_cons_succ, i64_w, i32_w]
          rfl
        refine pure_ (i := 21) (N := some 27) (v := ?_) (a' := ?_) #[true, true, true, true, true, true, true, true, true, true, true, true, true, true, true, true, true, true, true, true, true, true, false, false, false, false, false] rfl rfl (any_of HT_.out (by kernel_rfl)) (fun _ _ _ h => h) (Or.inl ⟨by rfl, ?_⟩) ?_ ?_
        rotate_left
        · intro w'
          go_simp
          with_reducible rfl
        rotate_left
        · simp only [Act.put, List.setIfInBounds_toArray, List.set_cons_zero, List.set_cons_succ, i64_w, i32_w]
          rfl
        refine pure_ (i := 22) (N := some 28) (v := ?_) (a' := ?_) #[true, true, true, true, true, true, true, true, true, true, true, true, true, true, true, true, true, true, true, true, true, true, true, false, false, false, false] rfl rfl (any_of HT_.out (by kernel_rfl)) (fun _ _ _ h => h) (Or.inl ⟨by rfl, ?_⟩) ?_ ?_
        rotate_left
        · intro w'
          go_simp
          with_reducible rfl
        rotate_left
        · simp only [Act.put, List.setIfInBounds_toArray, List.set_cons_zero, List.set_cons_succ, i64_w, i32_w]
          rfl
        refine pure_ (i := 23) (N := some 29) (v := undef) (a' := ?_) #[true, true, true, true, true, true, true, true, true, true, true, true, true, true, true, true, true, true, true, true, true, true, true, true, false, false, false] rfl rfl (any_of HT_.out (by kernel_rfl)) (fun _ _ _ h => h) (Or.inr ⟨by rfl, rfl⟩) ?_ ?_
        rotate_left
        · simp only [Act.put, List.setIfInBounds_toArray, List.set_cons_zero, List.set_cons_succ, i64_w, i32_w]
          rfl
        refine pure_ (i := 24) (N := some 30) (v := undef) (a' := ?_) #[true, true, true, true, true, true, true, true, true, true, true, true, true, true, true, true, true, true, true, true, true, true, true, true, true, false, false] rfl rfl (any_of HT_.out (by kernel_rfl)) (fun _ _ _ h => h) (Or.inr ⟨by rfl, rfl⟩) ?_ ?_
        rotate_left
        · simp only [Act.put, List.setIfInBounds_toArray, List.set_cons_zero, List.set_cons_succ, i64_w, i32_w]
          rfl
        refine pure_ (i := 25) (N := some 31) (v := undef) (a' := ?_) #[true, true, true, true, true, true, true, true, true, true, true, true, true, true, true, true, true, true, true, true, true, true, true, true, true, true, false] rfl rfl (any_of HT_.out (by kernel_rfl)) (fun _ _ _ h => h) (Or.inr ⟨by rfl, rfl⟩) ?_ ?_
        rotate_left
        · simp only [Act.put, List.setIfInBounds_toArray, List.set_cons_zero, List.set_cons_succ, i64_w, i32_w]
          rfl
        refine pure_ (i := 26) (N := some 32) (v := ?_) (a' := ?_) #[true, true, true, true, true, true, true, true, true, true, true, true, true, true, true, true, true, true, true, true, true, true, true, true, true, true, true] rfl rfl (any_of HT_.out (by kernel_rfl)) (fun _ _ _ h => h) (Or.inl ⟨by rfl, ?_⟩) ?_ ?_
        rotate_left
        · intro w'
          go_simp
          with_reducible rfl
        rotate_left
        · simp only [Act.put, List.setIfInBounds_toArray, List.set_cons_zero, List.set_cons_succ, i64_w, i32_w]
          rfl
        refine done_ (done_of HT_.out (by kernel_rfl)) ?_
        try go_wp2
        go_meet
        case rel => exact ⟨_, (true), (by first | rfl | (simp; done) | (simp [*]; done)), H', ⟨by first | omega | exact Nat.le_refl _⟩, ⟨by (with_reducible repeat (first | refine blk_drewN ?_ _ | refine blk_drew ?_ | refine blk_alloc ?_ _)); exact BK101.out⟩, ⟨by repeat (first | (with_reducible first | exact HB.out | apply below_alloc | apply pw_below_drewN | apply below_drew1 | refine below_set ?_ GE101.out) | exact HB.out)⟩⟩
      · rw [if_neg c7] at H
        have c7b0 : ((l1.length : Int) == 0) = false := beq_eq_false_iff_ne.mpr c7
        have c7b1 : ((l1.length : Int) != 0) = true := bne_iff_ne.mpr c7
        have c7b2 : ¬ (l1 = []) := fun h_ => c7 (by rw [h_]; rfl)
        (first | rw [c7b0] | (simp only [i64_w, i32_w]; rw [c7b0]) | skip)
        by_cases c10 : 0 < (l1.length : Int)
        · rw [if_pos c10] at H
          have c10b0 : decide (0 < (l1.length : Int)) = true := decide_eq_true c10
          have c10b1 : decide (0 < l1.length) = true := decide_eq_true (by omega)
          clear c10
          by_cases c11 : (rd l1 0) < 0
          · rw [if_pos c11] at H
            have c11b0 : decide ((rd l1 0) < 0) = true := decide_eq_true c11
            clear c11
            have H' := Aside0.mk H
            clear H
            try go_wp2
            have n0_ := Aside0.mk (blk_drew BK101.out)
            have n1_ := Aside0.mk (below_drew1 HB.out)
            clear BK101
            clear HB
            have BK101 := n0_
            have HB := n1_
            clear n0_ n1_
            have p103 : 0 ≤ (0 : Int) := (by omega)
            have q103 : 0 < (l1.length : Int) := of_decide_eq_true (by first | (with_reducible assumption) | assumption)
            obtain ⟨ad103, e103, hx103_0⟩ := Kd.at_int HR1.out 0 p103 q103
            have hw103_0 := hx103_0
            (try rw [show ((0 : Int)).toNat = 0 from rfl] at hw103_0)
            (try rw [show 0 * 1 = 0 from rfl] at hw103_0)
            (try rw [Addr.add_zero'] at hw103_0)
            cases e103
            have qi103 : (0 < l1.length) = True := eq_true (by omega)
            (try rw [show ((0 : Int)).toNat = 0 from rfl] at hx103_0)
            (try rw [Addr.add_zero'] at hx103_0)
            replace hx103_0 := (HB.out.cell (World.block_lt_of_cell? w _ hx103_0)).trans hx103_0
            replace p103 := eq_true p103
            replace q103 := eq_true q103
            refine start_ (n := 27) (S := fun w' => w'.cell? ⟨gb101, 0, none⟩ = some (.int .i64 a0_0) ∧ w'.cell? ⟨gb101, 1, none⟩ = some (.slice A0_1 l0_1.length c0_1) ∧ w'.cell? ad103 = some (.int .i64 (rd l1 0))) (ds := []) #[false, false, false, false, false, false, false, false, false, false, false, false, false, false, false, false, false, false, false, false, false, false, false, false, false, false, false] (by kernel_rfl) rfl rfl ⟨(blk_cell BK101.out 0).trans rfl, (blk_cell BK101.out 1).trans rfl, ((HB.out.cell (World.block_lt_of_cell? w _ hw103_0)).trans hw103_0)⟩ (fun hHeld => ?_); refine with_tabW walk_IsPath.tab1 walk_IsPath.bits1 (fun HT_ HW_ => ?_)
            generalize w4.drew = w12 at BK101 HB hx103_0 hHeld ⊢
            refine take_ (i := 0) (N := some 6) (v := ?_) (a' := ?_) #[true, false, false, false, false, false, false, false, false, false, false, false, false, false, false, false, false, false, false, false, false, false, false, false, false, false, false] rfl rfl (take_ofW HT_.out HW_.out (by kernel_rfl)) (fun _ _ _ h => h) (Or.inl ⟨by rfl, ?_⟩) hHeld ?_ ?_
            rotate_left
            · rintro w' ⟨s0, s1, s2⟩
              go_simp
              with_reducible rfl
            rotate_left
            · simp only [Act.put, List.setIfInBounds_toArray, List.set_cons_zero, List.set_cons_succ, i64_w, i32_w]
              rfl
            refine one_ (i := 1) (N := some 7) #[true, true, false, false, false, false, false, false, false, false, false, false, false, false, false, false, false, false, false, false, false, false, false, false, false, false, false] rfl rfl (one_of HT_.out (by kernel_rfl)) (by decide) (fun K hK => ?_)
            refine goes_ Try.func55 (by kernel_rfl) rfl #[.agg #[.int .i64 a0_0, .slice A0_1 l0_1.length c0_1]] (by rfl) rfl rfl (by (try simp only [List.map_toArray, List.map_cons, List.map_nil]); first | done | rfl | (simp only [List.length_drop, List.length_take]; rfl)) ?_
            with_reducible refine (graph_Right.calls a0_0 _ _ l0_1 true _ ?side1 ?side2 A5.out).mono ?_
            (case side1 => repeat (first | exact (Kd.C_below HR0_1.out HB.out) | (with_reducible refine Kd.C_alloc ?_ _) | (with_reducible refine Kd.C_drewN ?_ _) | (with_reducible refine Kd.C_drew ?_)))
            (case side2 => exact HC0_1.out)
            rintro e w13 ⟨rfl, hb⟩
            refine ⟨_, rfl, ?_⟩
            have n0_ := Aside0.mk (blk_below (g := gb101) (o := .cells #[.int .i64 a0_0, .slice A0_1 l0_1.length c0_1] 31 (0, 0)) (by (with_reducible repeat (first | refine blk_drewN ?_ _ | refine blk_drew ?_ | refine blk_alloc ?_ _)); exact BK101.out) hb)
            have n1_ := Aside0.mk (below_step (by repeat (first | (with_reducible first | exact HB.out | apply below_alloc | apply pw_below_drewN | apply below_drew1 | refine below_set ?_ GE101.out) | exact HB.out)) hb)
            clear BK101
            clear HB
            have BK101 := n0_
            have HB := n1_
            clear n0_ n1_
            (try clear hb)
            (try clear hb2)
            (try clear hk)
            (try clear hi)
            refine hK.out _ _ ⟨(blk_cell BK101.out 0).trans rfl, (blk_cell BK101.out 1).trans rfl, ((HB.out.cell (World.block_lt_of_cell? w _ hw103_0)).trans hw103_0)⟩ (fun hHeld => ?_)
            clear hK K
            refine norm_ (a' := ?_) ?_ ?_
            rotate_left
            · show Act.put _ (some 7) _ = _
              simp only [Act.put, List.setIfInBounds_toArray, List.set_cons_zero, List.set_cons_succ, i64_w, i32_w]
              rfl
            refine pure_ (i := 2) (N := some 8) (v := ?_) (a' := ?_) #[true, true, true, false, false, false, false, false, false, false, false, false, false, false, false, false, false, false, false, false, false, false, false, false, false, false, false] rfl rfl (any_of HT_.out (by kernel_rfl)) (fun _ _ _ h => h) (Or.inl ⟨by rfl, ?_⟩) ?_ ?_
            rotate_left
            · intro w'
              go_simp
              with_reducible rfl
            rotate_left
            · simp only [Act.put, List.setIfInBounds_toArray, List.set_cons_zero, List.set_cons_succ, i64_w, i32_w]
              rfl
            refine pure_ (i := 3) (N := some 9) (v := ?_) (a' := ?_) #[true, true, true, true, false, false, false, false, false, false, false, false, false, false, false, false, false, false, false, false, false, false, false, false, false, false, false] rfl rfl (any_of HT_.out (by kernel_rfl)) (fun _ _ _ h => h) (Or.inl ⟨by rfl, ?_⟩) ?_ ?_
            rotate_left
            · intro w'
              go_simp
              with_reducible rfl
            rotate_left
            · simp only [Act.put, List.setIfInBounds_toArray, List.set_cons_zero, List.set_cons_succ, i64_w, i32_w]
              rfl
            refine pure_ (i := 4) (N := some 10) (v := ?_) (a' := ?_) #[true, true, true, true, true, false, false, false, false, false, false, false, false, false, false, false, false, false, false, false, false, false, false, false, false, false, false] rfl rfl (any_of HT_.out (by kernel_rfl)) (fun _ _ _ h => h) (Or.inl ⟨by rfl, ?_⟩) ?_ ?_
            rotate_left
            · intro w'
              go_simp
              with_reducible rfl
            rotate_left
            · simp only [Act.put, List.setIfInBounds_toArray, List.set_cons_zero, List.set_cons_succ, i64_w, i32_w]
              rfl
            refine pure_ (i := 5) (N := some 11) (v := ?_) (a' := ?_) #[true, true, true, true, true, true, false, false, false, false, false, false, false, false, false, false, false, false, false, false, false, false, false, false, false, false, false] rfl rfl (any_of HT_.out (by kernel_rfl)) (fun _ _ _ h => h) (Or.inl ⟨by rfl, ?_⟩) ?_ ?_
            rotate_left
            · intro w'
              go_simp
              with_reducible rfl
            rotate_left
            · simp only [Act.put, List.setIfInBounds_toArray, List.set_cons_zero, List.set_cons_succ, i64_w, i32_w]
              rfl
            refine pure_ (i := 6) (N := some 12) (v := ?_) (a' := ?_) #[true, true, true, true, true, true, true, false, false, false, false, false, false, false, false, false, false, false, false, false, false, false, false, false, false, false, false] rfl rfl (any_of HT_.out (by kernel_rfl)) (fun _ _ _ h => h) (Or.inl ⟨by rfl, ?_⟩) ?_ ?_
            rotate_left
            · intro w'
              go_simp
              with_reducible rfl
            rotate_left
            · simp only [Act.put, List.setIfInBounds_toArray, List.set_cons_zero, List.set_cons_succ, i64_w, i32_w]
              rfl
            refine pure_ (i := 7) (N := some 13) (v := ?_) (a' := ?_) #[true, true, true, true, true, true, true, true, false, false, false, false, false, false, false, false, false, false, false, false, false, false, false, false, false, false, false] rfl rfl (any_of HT_.out (by kernel_rfl)) (fun _ _ _ h => h) (Or.inl ⟨by rfl, ?_⟩) ?_ ?_
            rotate_left
            · intro w'
              go_simp
              with_reducible rfl
            rotate_left
            · simp only [Act.put, List.setIfInBounds_toArray, List.set_cons_zero, List.set_cons_succ, i64_w, i32_w]
              rfl
            refine pure_ (i := 8) (N := some 14) (v := ?_) (a' := ?_) #[true, true, true, true, true, true, true, true, true, false, false, false, false, false, false, false, false, false, false, false, false, false, false, false, false, false, false] rfl rfl (any_of HT_.out (by kernel_rfl)) (fun _ _ _ h => h) (Or.inl ⟨by rfl, ?_⟩) ?_ ?_
            rotate_left
            · intro w'
              go_simp
              with_reducible rfl
            rotate_left
            · simp only [Act.put, List.setIfInBounds_toArray, List.set_cons_zero, List.set_cons_succ, i64_w, i32_w]
              rfl
            refine pure_ (i := 9) (N := some 15) (v := ?_) (a' := ?_) #[true, true, true, true, true, true, true, true, true, true, false, false, false, false, false, false, false, false, false, false, false, false, false, false, false, false, false] rfl rfl (any_of HT_.out (by kernel_rfl)) (fun _ _ _ h => h) (Or.inl ⟨by rfl, ?_⟩) ?_ ?_
            rotate_left
            · intro w'
              go_simp
              with_reducible rfl
            rotate_left
            · simp only [Act.put, List.setIfInBounds_toArray, List.set_cons_zero, List.set_cons_succ, i64_w, i32_w]
              rfl
            refine pure_ (i := 10) (N := some 16) (v := ?_) (a' := ?_) #[true, true, true, true, true, true, true, true, true, true, true, false, false, false, false, false, false, false, false, false, false, false, false, false, false, false, false] rfl rfl (any_of HT_.out (by kernel_rfl)) (fun _ _ _ h => h) (Or.inl ⟨by rfl, ?_⟩) ?_ ?_
            rotate_left
            · intro w'
              go_simp
              with_reducible rfl
            rotate_left
            · simp only [Act.put, List.setIfInBounds_toArray, List.set_cons_zero, List.set_cons_succ, i64_w, i32_w]
              rfl
            refine take_ (i := 11) (N := some 17) (v := ?_) (a' := ?_) #[true, true, true, true, true, true, true, true, true, true, true, true, false, false, false, false, false, false, false, false, false, false, false, false, false, false, false] rfl rfl (take_ofW HT_.out HW_.out (by kernel_rfl)) (fun _ _ _ h => h) (Or.inl ⟨by rfl, ?_⟩) hHeld ?_ ?_
            rotate_left
            · rintro w' ⟨s0, s1, s2⟩
              go_simp
              with_reducible rfl
            rotate_left
            · simp only [Act.put, List.setIfInBounds_toArray, List.set_cons_zero, List.set_cons_succ, i64_w, i32_w]
              rfl
            refine pure_ (i := 12) (N := some 18) (v := ?_) (a' := ?_) #[true, true, true, true, true, true, true, true, true, true, true, true, true, false, false, false, false, false, false, false, false, false, false, false, false, false, false] rfl rfl (any_of HT_.out (by kernel_rfl)) (fun _ _ _ h => h) (Or.inl ⟨by rfl, ?_⟩) ?_ ?_
            rotate_left
            · intro w'
              go_simp
              with_reducible rfl
            rotate_left
            · simp only [Act.put, List.setIfInBounds_toArray, List.set_cons_zero, List.set_cons_succ, i64_w, i32_w]
              rfl
            refine pure_ (i := 13) (N := some 19) (v := ?_) (a' := ?_) #[true, true, true, true, true, true, true, true, true, true, true, true, true, true, false, false, false, false, false, false, false, false, false, false, false, false, false] rfl rfl (any_of HT_.out (by kernel_rfl)) (fun _ _ _ h => h) (Or.inl ⟨by rfl, ?_⟩) ?_ ?_
            rotate_left
            · intro w'
              go_simp
              with_reducible rfl
            rotate_left
            · simp only [Act.put, List.setIfInBounds_toArray, List.set_cons_zero, List.set_cons_succ, i64_w, i32_w]
              rfl
            refine pure_ (i := 14) (N := some 20) (v := ?_) (a' := ?_) #[true, true, true, true, true, true, true, true, true, true, true, true, true, true, true, false, false, false, false, false, false, false, false, false, false, false, false] rfl rfl (any_of HT_.out (by kernel_rfl)) (fun _ _ _ h => h) (Or.inl ⟨by rfl, ?_⟩) ?_ ?_
            rotate_left
            · intro w'
              go_simp
              with_reducible rfl
            rotate_left
            · simp only [Act.put, List.setIfInBounds_toArray, List.set_cons_zero, List.set_cons_succ, i64_w, i32_w]
              rfl
            refine pure_ (i := 15) (N := some 21) (v := undef) (a' := ?_) #[true, true, true, true, true, true, true, true, true, true, true, true, true, true, true, true, false, false, false, false, false, false, false, false, false, false, false] rfl rfl (any_of HT_.out (by kernel_rfl)) (fun _ _ _ h => h) (Or.inr ⟨by rfl, rfl⟩) ?_ ?_
            rotate_left
            · simp only [Act.put, List.setIfInBounds_toArray, List.set_cons_zero, List.set_cons_succ, i64_w, i32_w]
              rfl
            refine pure_ (i := 16) (N := some 22) (v := undef) (a' := ?_) #[true, true, true, true, true, true, true, true, true, true, true, true, true, true, true, true, true, false, false, false, false, false, false, false, false, false, false] rfl rfl (any_of HT_.out (by kernel_rfl)) (fun _ _ _ h => h) (Or.inr ⟨by rfl, rfl⟩) ?_ ?_
            rotate_left
            · simp only [Act.put, List.setIfInBounds_toArray, List.set_cons_zero, List.set_cons_succ, i64_w, i32_w]
              rfl
            refine pure_ (i := 17) (N := some 23) (v := undef) (a' := ?_) #[true, true, true, true, true, true, true, true, true, true, true, true, true, true, true, true, true, true, false, false, false, false, false, false, false, false, false] rfl rfl (any_of HT_.out (by kernel_rfl)) (fun _ _ _ h => h) (Or.inr ⟨by rfl, rfl⟩) ?_ ?_
            rotate_left
            · simp only [Act.put, List.setIfInBounds_toArray, List.set_cons_zero, List.set_cons_succ, i64_w, i32_w]
              rfl
            refine pure_ (i := 18) (N := some 24) (v := undef) (a' := ?_) #[true, true, true, true, true, true, true, true, true, true, true, true, true, true, true, true, true, true, true, false, false, false, false, false, false, false, false] rfl rfl (any_of HT_.out (by kernel_rfl)) (fun _ _ _ h => h) (Or.inr ⟨by rfl, rfl⟩) ?_ ?_
            rotate_left
            · simp only [Act.put, List.setIfInBounds_toArray, List.set_cons_zero, List.set_cons_succ, i64_w, i32_w]
              rfl
            refine pure_ (i := 19) (N := some 25) (v := undef) (a' := ?_) #[true, true, true, true, true, true, true, true, true, true, true, true, true, true, true, true, true, true, true, true, false, false, false, false, false, false, false] rfl rfl (any_of HT_.out (by kernel_rfl)) (fun _ _ _ h => h) (Or.inr ⟨by rfl, rfl⟩) ?_ ?_
            rotate_left
            · simp only [Act.put, List.setIfInBounds_toArray, List.set_cons_zero, List.set_cons_succ, i64_w, i32_w]
              rfl
            refine pure_ (i := 20) (N := some 26) (v := undef) (a' := ?_) #[true, true, true, true, true, true, true, true, true, true, true, true, true, true, true, true, true, true, true, true, true, false, false, false, false, false, false] rfl rfl (any_of HT_.out (by kernel_rfl)) (fun _ _ _ h => h) (Or.inr ⟨by rfl, rfl⟩) ?_ ?_
            rotate_left
            · simp only [Act.put, List.setIfInBounds_toArray, List.set_cons_zero, List.set_cons_succ, i64_w, i32_w]
              rfl
            refine pure_ (i := 21) (N := some 27) (v := ?_) (a' := ?_) #[true, true, true, true, true, true, true, true, true, true, true, true, true, true, true, true, true, true, true, true, true, true, false, false, false, false, false] rfl rfl (any_of HT_.out (by kernel_rfl)) (fun _ _ _ h => h) (Or.inl ⟨by rfl, ?_⟩) ?_ ?_
            rotate_left
            · intro w'
              go_simp
              with_reducible rfl
            rotate_left
            · simp only [Act.put, List.setIfInBounds_toArray, List.set_cons_zero, List.set_cons_succ, i64_w, i32_w]
              rfl
            refine pure_ (i := 22) (N := some 28) (v := ?_) (a' := ?_) #[true, true, true, true, true, true, true, true, true, true, true, true, true, true, true, true, true, true, true, true, true, true, true, false, false, false, false] rfl rfl (any_of HT_.out (by kernel_rfl)) (fun _ _ _ h => h) (Or.inl ⟨by rfl, ?_⟩) ?_ ?_
            rotate_left
            · intro w'
              go_simp
              with_reducible rfl
            rotate_left
            · simp only [Act.put, List.setIfInBounds_toArray, List.set_cons_zero, List.set_cons_succ, i64_w, i32_w]
              rfl
            refine pure_ (i := 23) (N := some 29) (v := undef) (a' := ?_) #[true, true, true, true, true, true, true, true, true, true, true, true, true, true, true, true, true, true, true, true, true, true, true, true, false, false, false] rfl rfl (any_of HT_.out (by kernel_rfl)) (fun _ _ _ h => h) (Or.inr ⟨by rfl, rfl⟩) ?_ ?_
            rotate_left
            · simp only [Act.put, List.setIfInBounds_toArray, List.set_cons_zero, List.set_cons_succ, i64_w, i32_w]
              rfl
            refine pure_ (i := 24) (N := some 30) (v := undef) (a' := ?_) #[true, true, true, true, true, true, true, true, true, true, true, true, true, true, true, true, true, true, true, true, true, true, true, true, true, false, false] rfl rfl (any_of HT_.out (by kernel_rfl)) (fun _ _ _ h => h) (Or.inr ⟨by rfl, rfl⟩) ?_ ?_
            rotate_left
            · simp only [Act.put, List.setIfInBounds_toArray, List.set_cons_zero, List.set_cons_succ, i64_w, i32_w]
              rfl
            refine pure_ (i := 25) (N := some 31) (v := undef) (a' := ?_) #[true, true, true, true, true, true, true, true, true, true, true, true, true, true, true, true, true, true, true, true, true, true, true, true, true, true, false] rfl rfl (any_of HT_.out (by kernel_rfl)) (fun _ _ _ h => h) (Or.inr ⟨by rfl, rfl⟩) ?_ ?_
            rotate_left
            · simp only [Act.put, List.setIfInBounds_toArray, List.set_cons_zero, List.set_cons_succ, i64_w, i32_w]
              rfl
            refine pure_ (i := 26) (N := some 32) (v := ?_) (a' := ?_) #[true, true, true, true, true, true, true, true, true, true, true, true, true, true, true, true, true, true, true, true, true, true, true, true, true, true, true] rfl rfl (any_of HT_.out (by kernel_rfl)) (fun _ _ _ h => h) (Or.inl ⟨by rfl, ?_⟩) ?_ ?_
            rotate_left
            · intro w'
              go_simp
              with_reducible rfl
            rotate_left
            · simp only [Act.put, List.setIfInBounds_toArray, List.set_cons_zero, List.set_cons_succ, i64_w, i32_w]
              rfl
            refine done_ (done_of HT_.out (by kernel_rfl)) ?_
            try go_wp2
            go_meet
            case rel => exact ⟨_, (true), (by first | rfl | (simp; done) | (simp [*]; done)), H', ⟨by first | omega | exact Nat.le_refl _⟩, ⟨by (with_reducible repeat (first | refine blk_drewN ?_ _ | refine blk_drew ?_ | refine blk_alloc ?_ _)); exact BK101.out⟩, ⟨by repeat (first | (with_reducible first | exact HB.out | apply below_alloc | apply pw_below_drewN | apply below_drew1 | refine below_set ?_ GE101.out) | exact HB.out)⟩⟩
          · rw [if_neg c11] at H
            have c11b0 : decide ((rd l1 0) < 0) = false := decide_eq_false c11
            clear c11
            by_cases c14 : (rd l1 0) ≥ a0_0
            · rw [if_pos c14] at H
              have c14b0 : decide (a0_0 ≤ (rd l1 0)) = true := decide_eq_true c14
              clear c14
              have H' := Aside0.mk H
              clear H
              try go_wp2
              have n0_ := Aside0.mk (blk_drew BK101.out)
              have n1_ := Aside0.mk (below_drew1 HB.out)
              clear BK101
              clear HB
              have BK101 := n0_
              have HB := n1_
              clear n0_ n1_
              have p103 : 0 ≤ (0 : Int) := (by omega)
              have q103 : 0 < (l1.length : Int) := of_decide_eq_true (by first | (with_reducible assumption) | assumption)
              obtain ⟨ad103, e103, hx103_0⟩ := Kd.at_int HR1.out 0 p103 q103
              have hw103_0 := hx103_0
              (try rw [show ((0 : Int)).toNat = 0 from rfl] at hw103_0)
              (try rw [show 0 * 1 = 0 from rfl] at hw103_0)
              (try rw [Addr.add_zero'] at hw103_0)
              cases e103
              have qi103 : (0 < l1.length) = True := eq_true (by omega)
              (try rw [show ((0 : Int)).toNat = 0 from rfl] at hx103_0)
              (try rw [Addr.add_zero'] at hx103_0)
              replace hx103_0 := (HB.out.cell (World.block_lt_of_cell? w _ hx103_0)).trans hx103_0
              replace p103 := eq_true p103
              replace q103 := eq_true q103
              have p104 : 0 ≤ (0 : Int) := (by omega)
              have q104 : 0 < (l1.length : Int) := of_decide_eq_true (by first | (with_reducible assumption) | assumption)
              obtain ⟨ad104, e104, hx104_0⟩ := Kd.at_int HR1.out 0 p104 q104
              have hw104_0 := hx104_0
              (try rw [show ((0 : Int)).toNat = 0 from rfl] at hw104_0)
              (try rw [show 0 * 1 = 0 from rfl] at hw104_0)
              (try rw [Addr.add_zero'] at hw104_0)
              obtain rfl : ad103 = ad104 := (by injection e104)
              have qi104 : (0 < l1.length) = True := eq_true (by omega)
              (try rw [show ((0 : Int)).toNat = 0 from rfl] at hx104_0)
              (try rw [Addr.add_zero'] at hx104_0)
              replace hx104_0 := (HB.out.cell (World.block_lt_of_cell? w _ hx104_0)).trans hx104_0
              replace p104 := eq_true p104
              replace q104 := eq_true q104
              refine start_ (n := 27) (S := fun w' => w'.cell? ⟨gb101, 0, none⟩ = some (.int .i64 a0_0) ∧ w'.cell? ⟨gb101, 1, none⟩ = some (.slice A0_1 l0_1.length c0_1) ∧ w'.cell? ad103 = some (.int .i64 (rd l1 0)) ∧ w'.cell? ad103 = some (.int .i64 (rd l1 0))) (ds := []) #[false, false, false, false, false, false, false, false, false, false, false, false, false, false, false, false, false, false, false, false, false, false, false, false, false, false, false] (by kernel_rfl) rfl rfl ⟨(blk_cell BK101.out 0).trans rfl, (blk_cell BK101.out 1).trans rfl, ((HB.out.cell (World.block_lt_of_cell? w _ hw103_0)).trans hw103_0), ((HB.out.cell (World.block_lt_of_cell? w _ hw104_0)).trans hw104_0)⟩ (fun hHeld => ?_); refine with_tabW walk_IsPath.tab1 walk_IsPath.bits1 (fun HT_ HW_ => ?_)
              generalize w4.drew = w15 at BK101 HB hx103_0 hx104_0 hHeld ⊢
              refine take_ (i := 0) (N := some 6) (v := ?_) (a' := ?_) #[true, false, false, false, false, false, false, false, false, false, false, false, false, false, false, false, false, false, false, false, false, false, false, false, false, false, false] rfl rfl (take_ofW HT_.out HW_.out (by kernel_rfl)) (fun _ _ _ h => h) (Or.inl ⟨by rfl, ?_⟩) hHeld ?_ ?_
              rotate_left
              · rintro w' ⟨s0, s1, s2, s3⟩
                go_simp
                with_reducible rfl
              rotate_left
              · simp only [Act.put, List.setIfInBounds_toArray, List.set_cons_zero, List.set_cons_succ, i64_w, i32_w]
                rfl
              refine one_ (i := 1) (N := some 7) #[true, true, false, false, false, false, false, false, false, false, false, false, false, false, false, false, false, false, false, false, false, false, false, false, false, false, false] rfl rfl (one_of HT_.out (by kernel_rfl)) (by decide) (fun K hK => ?_)
              refine goes_ Try.func55 (by kernel_rfl) rfl #[.agg #[.int .i64 a0_0, .slice A0_1 l0_1.length c0_1]] (by rfl) rfl rfl (by (try simp only [List.map_toArray, List.map_cons, List.map_nil]); first | done | rfl | (simp only [List.length_drop, List.length_take]; rfl)) ?_
              with_reducible refine (graph_Right.calls a0_0 _ _ l0_1 true _ ?side1 ?side2 A5.out).mono ?_
              (case side1 => repeat (first | exact (Kd.C_below HR0_1.out HB.out) | (with_reducible refine Kd.C_alloc ?_ _) | (with_reducible refine Kd.C_drewN ?_ _) | (with_reducible refine Kd.C_drew ?_)))
              (case side2 => exact HC0_1.out)
              rintro e w16 ⟨rfl, hb⟩
              refine ⟨_, rfl, ?_⟩
              have n0_ := Aside0.mk (blk_below (g := gb101) (o := .cells #[.int .i64 a0_0, .slice A0_1 l0_1.length c0_1] 31 (0, 0)) (by (with_reducible repeat (first | refine blk_drewN ?_ _ | refine blk_drew ?_ | refine blk_alloc ?_ _)); exact BK101.out) hb)
              have n1_ := Aside0.mk (below_step (by repeat (first | (with_reducible first | exact HB.out | apply below_alloc | apply pw_below_drewN | apply below_drew1 | refine below_set ?_ GE101.out) | exact HB.out)) hb)
              clear BK101
              clear HB
              have BK101 := n0_
              have HB := n1_
              clear n0_ n1_
              (try clear hb)
              (try clear hb2)
              (try clear hk)
              (try clear hi)
              refine hK.out _ _ ⟨(blk_cell BK101.out 0).trans rfl, (blk_cell BK101.out 1).trans rfl, ((HB.out.cell (World.block_lt_of_cell? w _ hw103_0)).trans hw103_0), ((HB.out.cell (World.block_lt_of_cell? w _ hw104_0)).trans hw104_0)⟩ (fun hHeld => ?_)
              clear hK K
              refine norm_ (a' := ?_) ?_ ?_
              rotate_left
              · show Act.put _ (some 7) _ = _
                simp only [Act.put, List.setIfInBounds_toArray, List.set_cons_zero, List.set_cons_succ, i64_w, i32_w]
                rfl
              refine pure_ (i := 2) (N := some 8) (v := ?_) (a' := ?_) #[true, true, true, false, false, false, false, false, false, false, false, false, false, false, false, false, false, false, false, false, false, false, false, false, false, false, false] rfl rfl (any_of HT_.out (by kernel_rfl)) (fun _ _ _ h => h) (Or.inl ⟨by rfl, ?_⟩) ?_ ?_
              rotate_left
              · intro w'
                go_simp
                with_reducible rfl
              rotate_left
              · simp only [Act.put, List.setIfInBounds_toArray, List.set_cons_zero, List.set_cons_succ, i64_w, i32_w]
                rfl
              refine pure_ (i := 3) (N := some 9) (v := ?_) (a' := ?_) #[true, true, true, true, false, false, false, false, false, false, false, false, false, false, false, false, false, false, false, false, false, false, false, false, false, false, false] rfl rfl (any_of HT_.out (by kernel_rfl)) (fun _ _ _ h => h) (Or.inl ⟨by rfl, ?_⟩) ?_ ?_
              rotate_left
              · intro w'
                go_simp
                with_reducible rfl
              rotate_left
              · simp only [Act.put, List.setIfInBounds_toArray, List.set_cons_zero, List.set_cons_succ, i64_w, i32_w]
                rfl
              refine pure_ (i := 4) (N := some 10) (v := ?_) (a' := ?_) #[true, true, true, true, true, false, false, false, false, false, false, false, false, false, false, false, false, false, false, false, false, false, false, false, false, false, false] rfl rfl (any_of HT_.out (by kernel_rfl)) (fun _ _ _ h => h) (Or.inl ⟨by rfl, ?_⟩) ?_ ?_
              rotate_left
              · intro w'
                go_simp
                with_reducible rfl
              rotate_left
              · simp only [Act.put, List.setIfInBounds_toArray, List.set_cons_zero, List.set_cons_succ, i64_w, i32_w]
                rfl
              refine pure_ (i := 5) (N := some 11) (v := ?_) (a' := ?_) #[true, true, true, true, true, true, false, false, false, false, false, false, false, false, false, false, false, false, false, false, false, false, false, false, false, false, false] rfl rfl (any_of HT_.out (by kernel_rfl)) (fun _ _ _ h => h) (Or.inl ⟨by rfl, ?_⟩) ?_ ?_
              rotate_left
              · intro w'
                go_simp
                with_reducible rfl
              rotate_left
              · simp only [Act.put, List.setIfInBounds_toArray, List.set_cons_zero, List.set_cons_succ, i64_w, i32_w]
                rfl
              refine pure_ (i := 6) (N := some 12) (v := ?_) (a' := ?_) #[true, true, true, true, true, true, true, false, false, false, false, false, false, false, false, false, false, false, false, false, false, false, false, false, false, false, false] rfl rfl (any_of HT_.out (by kernel_rfl)) (fun _ _ _ h => h) (Or.inl ⟨by rfl, ?_⟩) ?_ ?_
              rotate_left
              · intro w'
                go_simp
                with_reducible rfl
              rotate_left
              · simp only [Act.put, List.setIfInBounds_toArray, List.set_cons_zero, List.set_cons_succ, i64_w, i32_w]
                rfl
              refine pure_ (i := 7) (N := some 13) (v := ?_) (a' := ?_) #[true, true, true, true, true, true, true, true, false, false, false, false, false, false, false, false, false, false, false, false, false, false, false, false, false, false, false] rfl rfl (any_of HT_.out (by kernel_rfl)) (fun _ _ _ h => h) (Or.inl ⟨by rfl, ?_⟩) ?_ ?_
              rotate_left
              · intro w'
                go_simp
                with_reducible rfl
              rotate_left
              · simp only [Act.put, List.setIfInBounds_toArray, List.set_cons_zero, List.set_cons_succ, i64_w, i32_w]
                rfl
              refine pure_ (i := 8) (N := some 14) (v := ?_) (a' := ?_) #[true, true, true, true, true, true, true, true, true, false, false, false, false, false, false, false, false, false, false, false, false, false, false, false, false, false, false] rfl rfl (any_of HT_.out (by kernel_rfl)) (fun _ _ _ h => h) (Or.inl ⟨by rfl, ?_⟩) ?_ ?_
              rotate_left
              · intro w'
                go_simp
                with_reducible rfl
              rotate_left
              · simp only [Act.put, List.setIfInBounds_toArray, List.set_cons_zero, List.set_cons_succ, i64_w, i32_w]
                rfl
              refine pure_ (i := 9) (N := some 15) (v := ?_) (a' := ?_) #[true, true, true, true, true, true, true, true, true, true, false, false, false, false, false, false, false, false, false, false, false, false, false, false, false, false, false] rfl rfl (any_of HT_.out (by kernel_rfl)) (fun _ _ _ h => h) (Or.inl ⟨by rfl, ?_⟩) ?_ ?_
              rotate_left
              · intro w'
                go_simp
                with_reducible rfl
              rotate_left
              · simp only [Act.put, List.setIfInBounds_toArray, List.set_cons_zero, List.set_cons_succ, i64_w, i32_w]
                rfl
              refine pure_ (i := 10) (N := some 16) (v := ?_) (a' := ?_) #[true, true, true, true, true, true, true, true, true, true, true, false, false, false, false, false, false, false, false, false, false, false, false, false, false, false, false] rfl rfl (any_of HT_.out (by kernel_rfl)) (fun _ _ _ h => h) (Or.inl ⟨by rfl, ?_⟩) ?_ ?_
              rotate_left
              · intro w'
                go_simp
                with_reducible rfl
              rotate_left
              · simp only [Act.put, List.setIfInBounds_toArray, List.set_cons_zero, List.set_cons_succ, i64_w, i32_w]
                rfl
              refine take_ (i := 11) (N := some 17) (v := ?_) (a' := ?_) #[true, true, true, true, true, true, true, true, true, true, true, true, false, false, false, false, false, false, false, false, false, false, false, false, false, false, false] rfl rfl (take_ofW HT_.out HW_.out (by kernel_rfl)) (fun _ _ _ h => h) (Or.inl ⟨by rfl, ?_⟩) hHeld ?_ ?_
              rotate_left
              · rintro w' ⟨s0, s1, s2, s3⟩
                go_simp
                with_reducible rfl
              rotate_left
              · simp only [Act.put, List.setIfInBounds_toArray, List.set_cons_zero, List.set_cons_succ, i64_w, i32_w]
                rfl
              refine pure_ (i := 12) (N := some 18) (v := ?_) (a' := ?_) #[true, true, true, true, true, true, true, true, true, true, true, true, true, false, false, false, false, false, false, false, false, false, false, false, false, false, false] rfl rfl (any_of HT_.out (by kernel_rfl)) (fun _ _ _ h => h) (Or.inl ⟨by rfl, ?_⟩) ?_ ?_
              rotate_left
              · intro w'
                go_simp
                with_reducible rfl
              rotate_left
              · simp only [Act.put, List.setIfInBounds_toArray, List.set_cons_zero, List.set_cons_succ, i64_w, i32_w]
                rfl
              refine pure_ (i := 13) (N := some 19) (v := ?_) (a' := ?_) #[true, true, true, true, true, true, true, true, true, true, true, true, true, true, false, false, false, false, false, false, false, false, false, false, false, false, false] rfl rfl (any_of HT_.out (by kernel_rfl)) (fun _ _ _ h => h) (Or.inl ⟨by rfl, ?_⟩) ?_ ?_
              rotate_left
              · intro w'
                go_simp
                with_reducible rfl
              rotate_left
              · simp only [Act.put, List.setIfInBounds_toArray, List.set_cons_zero, List.set_cons_succ, i64_w, i32_w]
                rfl
              refine pure_ (i := 14) (N := some 20) (v := ?_) (a' := ?_) #[true, true, true, true, true, true, true, true, true, true, true, true, true, true, true, false, false, false, false, false, false, false, false, false, false, false, false] rfl rfl (any_of HT_.out (by kernel_rfl)) (fun _ _ _ h => h) (Or.inl ⟨by rfl, ?_⟩) ?_ ?_
              rotate_left
              · intro w'
                go_simp
                with_reducible rfl
              rotate_left
              · simp only [Act.put, List.setIfInBounds_toArray, List.set_cons_zero, List.set_cons_succ, i64_w, i32_w]
                rfl
              refine pure_ (i := 15) (N := some 21) (v := ?_) (a' := ?_) #[true, true, true, true, true, true, true, true, true, true, true, true, true, true, true, true, false, false, false, false, false, false, false, false, false, false, false] rfl rfl (any_of HT_.out (by kernel_rfl)) (fun _ _ _ h => h) (Or.inl ⟨by rfl, ?_⟩) ?_ ?_
              rotate_left
              · intro w'
                go_simp
                with_reducible rfl
              rotate_left
              · simp only [Act.put, List.setIfInBounds_toArray, List.set_cons_zero, List.set_cons_succ, i64_w, i32_w]
                rfl
              refine pure_ (i := 16) (N := some 22) (v := ?_) (a' := ?_) #[true, true, true, true, true, true, true, true, true, true, true, true, true, true, true, true, true, false, false, false, false, false, false, false, false, false, false] rfl rfl (any_of HT_.out (by kernel_rfl)) (fun _ _ _ h => h) (Or.inl ⟨by rfl, ?_⟩) ?_ ?_
              rotate_left
              · intro w'
                go_simp
                with_reducible rfl
              rotate_left
              · simp only [Act.put, List.setIfInBounds_toArray, List.set_cons_zero, List.set_cons_succ, i64_w, i32_w]
                rfl
              refine pure_ (i := 18) (N := some 24) (v := ?_) (a' := ?_) #[true, true, true, true, true, true, true, true, true, true, true, true, true, true, true, true, true, false, true, false, false, false, false, false, false, false, false] rfl rfl (any_of HT_.out (by kernel_rfl)) (fun _ _ _ h => h) (Or.inl ⟨by rfl, ?_⟩) ?_ ?_
              rotate_left
              · intro w'
                go_simp
                with_reducible rfl
              rotate_left
              · simp only [Act.put, List.setIfInBounds_toArray, List.set_cons_zero, List.set_cons_succ, i64_w, i32_w]
                rfl
              refine take_ (i := 17) (N := some 23) (v := ?_) (a' := ?_) #[true, true, true, true, true, true, true, true, true, true, true, true, true, true, true, true, true, true, true, false, false, false, false, false, false, false, false] rfl rfl (take_ofW HT_.out HW_.out (by kernel_rfl)) (fun _ _ _ h => h) (Or.inl ⟨by rfl, ?_⟩) hHeld ?_ ?_
              rotate_left
              · rintro w' ⟨s0, s1, s2, s3⟩
                go_simp
                with_reducible rfl
              rotate_left
              · simp only [Act.put, List.setIfInBounds_toArray, List.set_cons_zero, List.set_cons_succ, i64_w, i32_w]
                rfl
              refine take_ (i := 19) (N := some 25) (v := ?_) (a' := ?_) #[true, true, true, true, true, true, true, true, true, true, true, true, true, true, true, true, true, true, true, true, false, false, false, false, false, false, false] rfl rfl (take_ofW HT_.out HW_.out (by kernel_rfl)) (fun _ _ _ h => h) (Or.inl ⟨by rfl, ?_⟩) hHeld ?_ ?_
              rotate_left
              · rintro w' ⟨s0, s1, s2, s3⟩
                go_simp
                with_reducible rfl
              rotate_left
              · simp only [Act.put, List.setIfInBounds_toArray, List.set_cons_zero, List.set_cons_succ, i64_w, i32_w]
                rfl
              refine pure_ (i := 20) (N := some 26) (v := ?_) (a' := ?_) #[true, true, true, true, true, true, true, true, true, true, true, true, true, true, true, true, true, true, true, true, true, false, false, false, false, false, false] rfl rfl (any_of HT_.out (by kernel_rfl)) (fun _ _ _ h => h) (Or.inl ⟨by rfl, ?_⟩) ?_ ?_
              rotate_left
              · intro w'
                go_simp
                with_reducible rfl
              rotate_left
              · simp only [Act.put, List.setIfInBounds_toArray, List.set_cons_zero, List.set_cons_succ, i64_w, i32_w]
                rfl
              refine pure_ (i := 21) (N := some 27) (v := ?_) (a' := ?_) #[true, true, true, true, true, true, true, true, true, true, true, true, true, true, true, true, true, true, true, true, true, true, false, false, false, false, false] rfl rfl (any_of HT_.out (by kernel_rfl)) (fun _ _ _ h => h) (Or.inl ⟨by rfl, ?_⟩) ?_ ?_
              rotate_left
              · intro w'
                go_simp
                with_reducible rfl
              rotate_left
              · simp only [Act.put, List.setIfInBounds_toArray, List.set_cons_zero, List.set_cons_succ, i64_w, i32_w]
                rfl
              refine pure_ (i := 22) (N := some 28) (v := ?_) (a' := ?_) #[true, true, true, true, true, true, true, true, true, true, true, true, true, true, true, true, true, true, true, true, true, true, true, false, false, false, false] rfl rfl (any_of HT_.out (by kernel_rfl)) (fun _ _ _ h => h) (Or.inl ⟨by rfl, ?_⟩) ?_ ?_
              rotate_left
              · intro w'
                go_simp
                with_reducible rfl
              rotate_left
              · simp only [Act.put, List.setIfInBounds_toArray, List.set_cons_zero, List.set_cons_succ, i64_w, i32_w]
                rfl
              refine pure_ (i := 23) (N := some 29) (v := undef) (a' := ?_) #[true, true, true, true, true, true, true, true, true, true, true, true, true, true, true, true, true, true, true, true, true, true, true, true, false, false, false] rfl rfl (any_of HT_.out (by kernel_rfl)) (fun _ _ _ h => h) (Or.inr ⟨by rfl, rfl⟩) ?_ ?_
              rotate_left
              · simp only [Act.put, List.setIfInBounds_toArray, List.set_cons_zero, List.set_cons_succ, i64_w, i32_w]
                rfl
              refine pure_ (i := 24) (N := some 30) (v := undef) (a' := ?_) #[true, true, true, true, true, true, true, true, true, true, true, true, true, true, true, true, true, true, true, true, true, true, true, true, true, false, false] rfl rfl (any_of HT_.out (by kernel_rfl)) (fun _ _ _ h => h) (Or.inr ⟨by rfl, rfl⟩) ?_ ?_
              rotate_left
              · simp only [Act.put, List.setIfInBounds_toArray, List.set_cons_zero, List.set_cons_succ, i64_w, i32_w]
                rfl
              refine pure_ (i := 25) (N := some 31) (v := undef) (a' := ?_) #[true, true, true, true, true, true, true, true, true, true, true, true, true, true, true, true, true, true, true, true, true, true, true, true, true, true, false] rfl rfl (any_of HT_.out (by kernel_rfl)) (fun _ _ _ h => h) (Or.inr ⟨by rfl, rfl⟩) ?_ ?_
              rotate_left
              · simp only [Act.put, List.setIfInBounds_toArray, List.set_cons_zero, List.set_cons_succ, i64_w, i32_w]
                rfl
              refine pure_ (i := 26) (N := some 32) (v := ?_) (a' := ?_) #[true, true, true, true, true, true, true, true, true, true, true, true, true, true, true, true, true, true, true, true, true, true, true, true, true, true, true] rfl rfl (any_of HT_.out (by kernel_rfl)) (fun _ _ _ h => h) (Or.inl ⟨by rfl, ?_⟩) ?_ ?_
              rotate_left
              · intro w'
                go_simp
                with_reducible rfl
              rotate_left
              · simp only [Act.put, List.setIfInBounds_toArray, List.set_cons_zero, List.set_cons_succ, i64_w, i32_w]
                rfl
              refine done_ (done_of HT_.out (by kernel_rfl)) ?_
              try go_wp2
              go_meet
              case rel => exact ⟨_, (true), (by first | rfl | (simp; done) | (simp [*]; done)), H', ⟨by first | omega | exact Nat.le_refl _⟩, ⟨by (with_reducible repeat (first | refine blk_drewN ?_ _ | refine blk_drew ?_ | refine blk_alloc ?_ _)); exact BK101.out⟩, ⟨by repeat (first | (with_reducible first | exact HB.out | apply below_alloc | apply pw_below_drewN | apply below_drew1 | refine below_set ?_ GE101.out) | exact HB.out)⟩⟩
            · rw [if_neg c14] at H
              have c14b0 : decide (a0_0 ≤ (rd l1 0)) = false := decide_eq_false c14
              clear c14
              replace H := Option.bind_eq_some_iff.mp H
              obtain ⟨t105, A170, H⟩ := H
              replace H : (walk_IsPath.j0 k l1 (!t105) a0_0 l0_1) = some r := H
              have A17 := Aside0.mk A170
              clear A170
              have H' := Aside0.mk H
              clear H
              try go_wp2
              have n0_ := Aside0.mk (blk_drew BK101.out)
              have n1_ := Aside0.mk (below_drew1 HB.out)
              clear BK101
              clear HB
              have BK101 := n0_
              have HB := n1_
              clear n0_ n1_
              have p103 : 0 ≤ (0 : Int) := (by omega)
              have q103 : 0 < (l1.length : Int) := of_decide_eq_true (by first | (with_reducible assumption) | assumption)
              obtain ⟨ad103, e103, hx103_0⟩ := Kd.at_int HR1.out 0 p103 q103
              have hw103_0 := hx103_0
              (try rw [show ((0 : Int)).toNat = 0 from rfl] at hw103_0)
              (try rw [show 0 * 1 = 0 from rfl] at hw103_0)
              (try rw [Addr.add_zero'] at hw103_0)
              cases e103
              have qi103 : (0 < l1.length) = True := eq_true (by omega)
              (try rw [show ((0 : Int)).toNat = 0 from rfl] at hx103_0)
              (try rw [Addr.add_zero'] at hx103_0)
              replace hx103_0 := (HB.out.cell (World.block_lt_of_cell? w _ hx103_0)).trans hx103_0
              replace p103 := eq_true p103
              replace q103 := eq_true q103
              have p104 : 0 ≤ (0 : Int) := (by omega)
              have q104 : 0 < (l1.length : Int) := of_decide_eq_true (by first | (with_reducible assumption) | assumption)
              obtain ⟨ad104, e104, hx104_0⟩ := Kd.at_int HR1.out 0 p104 q104
              have hw104_0 := hx104_0
              (try rw [show ((0 : Int)).toNat = 0 from rfl] at hw104_0)
              (try rw [show 0 * 1 = 0 from rfl] at hw104_0)
              (try rw [Addr.add_zero'] at hw104_0)
              obtain rfl : ad103 = ad104 := (by injection e104)
              have qi104 : (0 < l1.length) = True := eq_true (by omega)
              (try rw [show ((0 : Int)).toNat = 0 from rfl] at hx104_0)
              (try rw [Addr.add_zero'] at hx104_0)
              replace hx104_0 := (HB.out.cell (World.block_lt_of_cell? w _ hx104_0)).trans hx104_0
              replace p104 := eq_true p104
              replace q104 := eq_true q104
              refine start_ (n := 27) (S := fun w' => w'.cell? ⟨gb101, 0, none⟩ = some (.int .i64 a0_0) ∧ w'.cell? ⟨gb101, 1, none⟩ = some (.slice A0_1 l0_1.length c0_1) ∧ w'.cell? ad103 = some (.int .i64 (rd l1 0)) ∧ w'.cell? ad103 = some (.int .i64 (rd l1 0))) (ds := []) #[false, false, false, false, false, false, false, false, false, false, false, false, false, false, false, false, false, false, false, false, false, false, false, false, false, false, false] (by kernel_rfl) rfl rfl ⟨(blk_cell BK101.out 0).trans rfl, (blk_cell BK101.out 1).trans rfl, ((HB.out.cell (World.block_lt_of_cell? w _ hw103_0)).trans hw103_0), ((HB.out.cell (World.block_lt_of_cell? w _ hw104_0)).trans hw104_0)⟩ (fun hHeld => ?_); refine with_tabW walk_IsPath.tab1 walk_IsPath.bits1 (fun HT_ HW_ => ?_)
              generalize w4.drew = w18 at BK101 HB hx103_0 hx104_0 hHeld ⊢
              refine take_ (i := 0) (N := some 6) (v := ?_) (a' := ?_) #[true, false, false, false, false, false, false, false, false, false, false, false, false, false, false, false, false, false, false, false, false, false, false, false, false, false, false] rfl rfl (take_ofW HT_.out HW_.out (by kernel_rfl)) (fun _ _ _ h => h) (Or.inl ⟨by rfl, ?_⟩) hHeld ?_ ?_
              rotate_left
              · rintro w' ⟨s0, s1, s2, s3⟩
                go_simp
                with_reducible rfl
              rotate_left
              · simp only [Act.put, List.setIfInBounds_toArray, List.set_cons_zero, List.set_cons_succ, i64_w, i32_w]
                rfl
              refine one_ (i := 1) (N := some 7) #[true, true, false, false, false, false, false, false, false, false, false, false, false, false, false, false, false, false, false, false, false, false, false, false, false, false, false] rfl rfl (one_of HT_.out (by kernel_rfl)) (by decide) (fun K hK => ?_)
              refine goes_ Try.func55 (by kernel_rfl) rfl #[.agg #[.int .i64 a0_0, .slice A0_1 l0_1.length c0_1]] (by rfl) rfl rfl (by (try simp only [List.map_toArray, List.map_cons, List.map_nil]); first | done | rfl | (simp only [List.length_drop, List.length_take]; rfl)) ?_
              with_reducible refine (graph_Right.calls a0_0 _ _ l0_1 true _ ?side1 ?side2 A5.out).mono ?_
              (case side1 => repeat (first | exact (Kd.C_below HR0_1.out HB.out) | (with_reducible refine Kd.C_alloc ?_ _) | (with_reducible refine Kd.C_drewN ?_ _) | (with_reducible refine Kd.C_drew ?_)))
              (case side2 => exact HC0_1.out)
              rintro e w19 ⟨rfl, hb⟩
              refine ⟨_, rfl, ?_⟩
              have n0_ := Aside0.mk (blk_below (g := gb101) (o := .cells #[.int .i64 a0_0, .slice A0_1 l0_1.length c0_1] 31 (0, 0)) (by (with_reducible repeat (first | refine blk_drewN ?_ _ | refine blk_drew ?_ | refine blk_alloc ?_ _)); exact BK101.out) hb)
              have n1_ := Aside0.mk (below_step (by repeat (first | (with_reducible first | exact HB.out | apply below_alloc | apply pw_below_drewN | apply below_drew1 | refine below_set ?_ GE101.out) | exact HB.out)) hb)
              clear BK101
              clear HB
              have BK101 := n0_
              have HB := n1_
              clear n0_ n1_
              (try clear hb)
              (try clear hb2)
              (try clear hk)
              (try clear hi)
              refine hK.out _ _ ⟨(blk_cell BK101.out 0).trans rfl, (blk_cell BK101.out 1).trans rfl, ((HB.out.cell (World.block_lt_of_cell? w _ hw103_0)).trans hw103_0), ((HB.out.cell (World.block_lt_of_cell? w _ hw104_0)).trans hw104_0)⟩ (fun hHeld => ?_)
              clear hK K
              refine norm_ (a' := ?_) ?_ ?_
              rotate_left
              · show Act.put _ (some 7) _ = _
                simp only [Act.put, List.setIfInBounds_toArray, List.set_cons_zero, List.set_cons_succ, i64_w, i32_w]
                rfl
              refine pure_ (i := 2) (N := some 8) (v := ?_) (a' := ?_) #[true, true, true, false, false, false, false, false, false, false, false, false, false, false, false, false, false, false, false, false, false, false, false, false, false, false, false] rfl rfl (any_of HT_.out (by kernel_rfl)) (fun _ _ _ h => h) (Or.inl ⟨by rfl, ?_⟩) ?_ ?_
              rotate_left
              · intro w'
                go_simp
                with_reducible rfl
              rotate_left
              · simp only [Act.put, List.setIfInBounds_toArray, List.set_cons_zero, List.set_cons_succ, i64_w, i32_w]
                rfl
              refine pure_ (i := 3) (N := some 9) (v := ?_) (a' := ?_) #[true, true, true, true, false, false, false, false, false, false, false, false, false, false, false, false, false, false, false, false, false, false, false, false, false, false, false] rfl rfl (any_of HT_.out (by kernel_rfl)) (fun _ _ _ h => h) (Or.inl ⟨by rfl, ?_⟩) ?_ ?_
              rotate_left
              · intro w'
                go_simp
                with_reducible rfl
              rotate_left
              · simp only [Act.put, List.setIfInBounds_toArray, List.set_cons_zero, List.set_cons_succ, i64_w, i32_w]
                rfl
              refine pure_ (i := 4) (N := some 10) (v := ?_) (a' := ?_) #[true, true, true, true, true, false, false, false, false, false, false, false, false, false, false, false, false, false, false, false, false, false, false, false, false, false, false] rfl rfl (any_of HT_.out (by kernel_rfl)) (fun _ _ _ h => h) (Or.inl ⟨by rfl, ?_⟩) ?_ ?_
              rotate_left
              · intro w'
                go_simp
                with_reducible rfl
              rotate_left
              · simp only [Act.put, List.setIfInBounds_toArray, List.set_cons_zero, List.set_cons_succ, i64_w, i32_w]
                rfl
              refine pure_ (i := 5) (N := some 11) (v := ?_) (a' := ?_) #[true, true, true, true, true, true, false, false, false, false, false, false, false, false, false, false, false, false, false, false, false, false, false, false, false, false, false] rfl rfl (any_of HT_.out (by kernel_rfl)) (fun _ _ _ h => h) (Or.inl ⟨by rfl, ?_⟩) ?_ ?_
              rotate_left
              · intro w'
                go_simp
                with_reducible rfl
              rotate_left
              · simp only [Act.put, List.setIfInBounds_toArray, List.set_cons_zero, List.set_cons_succ, i64_w, i32_w]
                rfl
              refine pure_ (i := 6) (N := some 12) (v := ?_) (a' := ?_) #[true, true, true, true, true, true, true, false, false, false, false, false, false, false, false, false, false, false, false, false, false, false, false, false, false, false, false] rfl rfl (any_of HT_.out (by kernel_rfl)) (fun _ _ _ h => h) (Or.inl ⟨by rfl, ?_⟩) ?_ ?_
              rotate_left
              · intro w'
                go_simp
                with_reducible rfl
              rotate_left
              · simp only [Act.put, List.setIfInBounds_toArray, List.set_cons_zero, List.set_cons_succ, i64_w, i32_w]
                rfl
              refine pure_ (i := 7) (N := some 13) (v := ?_) (a' := ?_) #[true, true, true, true, true, true, true, true, false, false, false, false, false, false, false, false, false, false, false, false, false, false, false, false, false, false, false] rfl rfl (any_of HT_.out (by kernel_rfl)) (fun _ _ _ h => h) (Or.inl ⟨by rfl, ?_⟩) ?_ ?_
              rotate_left
              · intro w'
                go_simp
                with_reducible rfl
              rotate_left
              · simp only [Act.put, List.setIfInBounds_toArray, List.set_cons_zero, List.set_cons_succ, i64_w, i32_w]
                rfl
              refine pure_ (i := 8) (N := some 14) (v := ?_) (a' := ?_) #[true, true, true, true, true, true, true, true, true, false, false, false, false, false, false, false, false, false, false, false, false, false, false, false, false, false, false] rfl rfl (any_of HT_.out (by kernel_rfl)) (fun _ _ _ h => h) (Or.inl ⟨by rfl, ?_⟩) ?_ ?_
              rotate_left
              · intro w'
                go_simp
                with_reducible rfl
              rotate_left
              · simp only [Act.put, List.setIfInBounds_toArray, List.set_cons_zero, List.set_cons_succ, i64_w, i32_w]
                rfl
              refine pure_ (i := 9) (N := some 15) (v := ?_) (a' := ?_) #[true, true, true, true, true, true, true, true, true, true, false, false, false, false, false, false, false, false, false, false, false, false, false, false, false, false, false] rfl rfl (any_of HT_.out (by kernel_rfl)) (fun _ _ _ h => h) (Or.inl ⟨by rfl, ?_⟩) ?_ ?_
              rotate_left
              · intro w'
                go_simp
                with_reducible rfl
              rotate_left
              · simp only [Act.put, List.setIfInBounds_toArray, List.set_cons_zero, List.set_cons_succ, i64_w, i32_w]
                rfl
              refine pure_ (i := 10) (N := some 16) (v := ?_) (a' := ?_) #[true, true, true, true, true, true, true, true, true, true, true, false, false, false, false, false, false, false, false, false, false, false, false, false, false, false, false] rfl rfl (any_of HT_.out (by kernel_rfl)) (fun _ _ _ h => h) (Or.inl ⟨by rfl, ?_⟩) ?_ ?_
              rotate_left
              · intro w'
                go_simp
                with_reducible rfl
              rotate_left
              · simp only [Act.put, List.setIfInBounds_toArray, List.set_cons_zero, List.set_cons_succ, i64_w, i32_w]
                rfl
              refine take_ (i := 11) (N := some 17) (v := ?_) (a' := ?_) #[true, true, true, true, true, true, true, true, true, true, true, true, false, false, false, false, false, false, false, false, false, false, false, false, false, false, false] rfl rfl (take_ofW HT_.out HW_.out (by kernel_rfl)) (fun _ _ _ h => h) (Or.inl ⟨by rfl, ?_⟩) hHeld ?_ ?_
              rotate_left
              · rintro w' ⟨s0, s1, s2, s3⟩
                go_simp
                with_reducible rfl
              rotate_left
              · simp only [Act.put, List.setIfInBounds_toArray, List.set_cons_zero, List.set_cons_succ, i64_w, i32_w]
                rfl
              refine pure_ (i := 12) (N := some 18) (v := ?_) (a' := ?_) #[true, true, true, true, true, true, true, true, true, true, true, true, true, false, false, false, false, false, false, false, false, false, false, false, false, false, false] rfl rfl (any_of HT_.out (by kernel_rfl)) (fun _ _ _ h => h) (Or.inl ⟨by rfl, ?_⟩) ?_ ?_
              rotate_left
              · intro w'
                go_simp
                with_reducible rfl
              rotate_left
              · simp only [Act.put, List.setIfInBounds_toArray, List.set_cons_zero, List.set_cons_succ, i64_w, i32_w]
                rfl
              refine pure_ (i := 13) (N := some 19) (v := ?_) (a' := ?_) #[true, true, true, true, true, true, true, true, true, true, true, true, true, true, false, false, false, false, false, false, false, false, false, false, false, false, false] rfl rfl (any_of HT_.out (by kernel_rfl)) (fun _ _ _ h => h) (Or.inl ⟨by rfl, ?_⟩) ?_ ?_
              rotate_left
              · intro w'
                go_simp
                with_reducible rfl
              rotate_left
              · simp only [Act.put, List.setIfInBounds_toArray, List.set_cons_zero, List.set_cons_succ, i64_w, i32_w]
                rfl
              refine pure_ (i := 14) (N := some 20) (v := ?_) (a' := ?_) #[true, true, true, true, true, true, true, true, true, true, true, true, true, true, true, false, false, false, false, false, false, false, false, false, false, false, false] rfl rfl (any_of HT_.out (by kernel_rfl)) (fun _ _ _ h => h) (Or.inl ⟨by rfl, ?_⟩) ?_ ?_
              rotate_left
              · intro w'
                go_simp
                with_reducible rfl
              rotate_left
              · simp only [Act.put, List.setIfInBounds_toArray, List.set_cons_zero, List.set_cons_succ, i64_w, i32_w]
                rfl
              refine pure_ (i := 15) (N := some 21) (v := ?_) (a' := ?_) #[true, true, true, true, true, true, true, true, true, true, true, true, true, true, true, true, false, false, false, false, false, false, false, false, false, false, false] rfl rfl (any_of HT_.out (by kernel_rfl)) (fun _ _ _ h => h) (Or.inl ⟨by rfl, ?_⟩) ?_ ?_
              rotate_left
              · intro w'
                go_simp
                with_reducible rfl
              rotate_left
              · simp only [Act.put, List.setIfInBounds_toArray, List.set_cons_zero, List.set_cons_succ, i64_w, i32_w]
                rfl
              refine pure_ (i := 16) (N := some 22) (v := ?_) (a' := ?_) #[true, true, true, true, true, true, true, true, true, true, true, true, true, true, true, true, true, false, false, false, false, false, false, false, false, false, false] rfl rfl (any_of HT_.out (by kernel_rfl)) (fun _ _ _ h => h) (Or.inl ⟨by rfl, ?_⟩) ?_ ?_
              rotate_left
              · intro w'
                go_simp
                with_reducible rfl
              rotate_left
              · simp only [Act.put, List.setIfInBounds_toArray, List.set_cons_zero, List.set_cons_succ, i64_w, i32_w]
                rfl
              refine pure_ (i := 18) (N := some 24) (v := ?_) (a' := ?_) #[true, true, true, true, true, true, true, true, true, true, true, true, true, true, true, true, true, false, true, false, false, false, false, false, false, false, false] rfl rfl (any_of HT_.out (by kernel_rfl)) (fun _ _ _ h => h) (Or.inl ⟨by rfl, ?_⟩) ?_ ?_
              rotate_left
              · intro w'
                go_simp
                with_reducible rfl
              rotate_left
              · simp only [Act.put, List.setIfInBounds_toArray, List.set_cons_zero, List.set_cons_succ, i64_w, i32_w]
                rfl
              refine take_ (i := 17) (N := some 23) (v := ?_) (a' := ?_) #[true, true, true, true, true, true, true, true, true, true, true, true, true, true, true, true, true, true, true, false, false, false, false, false, false, false, false] rfl rfl (take_ofW HT_.out HW_.out (by kernel_rfl)) (fun _ _ _ h => h) (Or.inl ⟨by rfl, ?_⟩) hHeld ?_ ?_
              rotate_left
              · rintro w' ⟨s0, s1, s2, s3⟩
                go_simp
                with_reducible rfl
              rotate_left
              · simp only [Act.put, List.setIfInBounds_toArray, List.set_cons_zero, List.set_cons_succ, i64_w, i32_w]
                rfl
              refine take_ (i := 19) (N := some 25) (v := ?_) (a' := ?_) #[true, true, true, true, true, true, true, true, true, true, true, true, true, true, true, true, true, true, true, true, false, false, false, false, false, false, false] rfl rfl (take_ofW HT_.out HW_.out (by kernel_rfl)) (fun _ _ _ h => h) (Or.inl ⟨by rfl, ?_⟩) hHeld ?_ ?_
              rotate_left
              · rintro w' ⟨s0, s1, s2, s3⟩
                go_simp
                with_reducible rfl
              rotate_left
              · simp only [Act.put, List.setIfInBounds_toArray, List.set_cons_zero, List.set_cons_succ, i64_w, i32_w]
                rfl
              refine pure_ (i := 20) (N := some 26) (v := ?_) (a' := ?_) #[true, true, true, true, true, true, true, true, true, true, true, true, true, true, true, true, true, true, true, true, true, false, false, false, false, false, false] rfl rfl (any_of HT_.out (by kernel_rfl)) (fun _ _ _ h => h) (Or.inl ⟨by rfl, ?_⟩) ?_ ?_
              rotate_left
              · intro w'
                go_simp
                with_reducible rfl
              rotate_left
              · simp only [Act.put, List.setIfInBounds_toArray, List.set_cons_zero, List.set_cons_succ, i64_w, i32_w]
                rfl
              refine pure_ (i := 21) (N := some 27) (v := ?_) (a' := ?_) #[true, true, true, true, true, true, true, true, true, true, true, true, true, true, true, true, true, true, true, true, true, true, false, false, false, false, false] rfl rfl (any_of HT_.out (by kernel_rfl)) (fun _ _ _ h => h) (Or.inl ⟨by rfl, ?_⟩) ?_ ?_
              rotate_left
              · intro w'
                go_simp
                with_reducible rfl
              rotate_left
              · simp only [Act.put, List.setIfInBounds_toArray, List.set_cons_zero, List.set_cons_succ, i64_w, i32_w]
                rfl
              refine pure_ (i := 22) (N := some 28) (v := ?_) (a' := ?_) #[true, true, true, true, true, true, true, true, true, true, true, true, true, true, true, true, true, true, true, true, true, true, true, false, false, false, false] rfl rfl (any_of HT_.out (by kernel_rfl)) (fun _ _ _ h => h) (Or.inl ⟨by rfl, ?_⟩) ?_ ?_
              rotate_left
              · intro w'
                go_simp
                with_reducible rfl
              rotate_left
              · simp only [Act.put, List.setIfInBounds_toArray, List.set_cons_zero, List.set_cons_succ, i64_w, i32_w]
                rfl
              refine pure_ (i := 23) (N := some 29) (v := ?_) (a' := ?_) #[true, true, true, true, true, true, true, true, true, true, true, true, true, true, true, true, true, true, true, true, true, true, true, true, false, false, false] rfl rfl (any_of HT_.out (by kernel_rfl)) (fun _ _ _ h => h) (Or.inl ⟨by rfl, ?_⟩) ?_ ?_
              rotate_left
              · intro w'
                go_simp
                with_reducible rfl
              rotate_left
              · simp only [Act.put, List.setIfInBounds_toArray, List.set_cons_zero, List.set_cons_succ, i64_w, i32_w]
                rfl
              refine one_ (i := 24) (N := some 30) #[true, true, true, true, true, true, true, true, true, true, true, true, true, true, true, true, true, true, true, true, true, true, true, true, true, false, false] rfl rfl (one_of HT_.out (by kernel_rfl)) (by decide) (fun K hK => ?_)
              refine goes_ Try.func105 (by kernel_rfl) rfl #[.slice (some ad103) l1.length c1] (by rfl) rfl rfl (by (try simp only [List.map_toArray, List.map_cons, List.map_nil]); first | done | rfl | (simp only [List.length_drop, List.length_take]; rfl)) ?_
              with_reducible refine (walk_unlike.calls _ _ l1 t105 _ ?side1 ?side2 A17.out).mono ?_
              (case side1 => repeat (first | exact (Kd.C_below HR1.out HB.out) | (with_reducible refine Kd.C_alloc ?_ _) | (with_reducible refine Kd.C_drewN ?_ _) | (with_reducible refine Kd.C_drew ?_)))
              (case side2 => exact HC1.out)
              rintro e w20 ⟨rfl, hb⟩
              refine ⟨_, rfl, ?_⟩
              have n0_ := Aside0.mk (blk_below (g := gb101) (o := .cells #[.int .i64 a0_0, .slice A0_1 l0_1.length c0_1] 31 (0, 0)) (by (with_reducible repeat (first | refine blk_drewN ?_ _ | refine blk_drew ?_ | refine blk_alloc ?_ _)); exact BK101.out) hb)
              have n1_ := Aside0.mk (below_step (by repeat (first | (with_reducible first | exact HB.out | apply below_alloc | apply pw_below_drewN | apply below_drew1 | refine below_set ?_ GE101.out) | exact HB.out)) hb)
              clear BK101
              clear HB
              have BK101 := n0_
              have HB := n1_
              clear n0_ n1_
              (try clear hb)
              (try clear hb2)
              (try clear hk)
              (try clear hi)
              refine hK.out _ _ ⟨(blk_cell BK101.out 0).trans rfl, (blk_cell BK101.out 1).trans rfl, ((HB.out.cell (World.block_lt_of_cell? w _ hw103_0)).trans hw103_0), ((HB.out.cell (World.block_lt_of_cell? w _ hw104_0)).trans hw104_0)⟩ (fun hHeld => ?_)
              clear hK K
              refine norm_ (a' := ?_) ?_ ?_
              rotate_left
              · show Act.put _ (some 30) _ = _
                simp only [Act.put, List.setIfInBounds_toArray, List.set_cons_zero, List.set_cons_succ, i64_w, i32_w]
                rfl
              refine pure_ (i := 25) (N := some 31) (v := ?_) (a' := ?_) #[true, true, true, true, true, true, true, true, true, true, true, true, true, true, true, true, true, true, true, true, true, true, true, true, true, true, false] rfl rfl (any_of HT_.out (by kernel_rfl)) (fun _ _ _ h => h) (Or.inl ⟨by rfl, ?_⟩) ?_ ?_
              rotate_left
              · intro w'
                go_simp
                with_reducible rfl
              rotate_left
              · simp only [Act.put, List.setIfInBounds_toArray, List.set_cons_zero, List.set_cons_succ, i64_w, i32_w]
                rfl
              refine pure_ (i := 26) (N := some 32) (v := ?_) (a' := ?_) #[true, true, true, true, true, true, true, true, true, true, true, true, true, true, true, true, true, true, true, true, true, true, true, true, true, true, true] rfl rfl (any_of HT_.out (by kernel_rfl)) (fun _ _ _ h => h) (Or.inl ⟨by rfl, ?_⟩) ?_ ?_
              rotate_left
              · intro w'
                go_simp
                with_reducible rfl
              rotate_left
              · simp only [Act.put, List.setIfInBounds_toArray, List.set_cons_zero, List.set_cons_succ, i64_w, i32_w]
                rfl
              refine done_ (done_of HT_.out (by kernel_rfl)) ?_
              try go_wp2
              go_meet
              case rel => exact ⟨_, (!t105), (by first | rfl | (simp; done) | (simp [*]; done)), H', ⟨by first | omega | exact Nat.le_refl _⟩, ⟨by (with_reducible repeat (first | refine blk_drewN ?_ _ | refine blk_drew ?_ | refine blk_alloc ?_ _)); exact BK101.out⟩, ⟨by repeat (first | (with_reducible first | exact HB.out | apply below_alloc | apply pw_below_drewN | apply below_drew1 | refine below_set ?_ GE101.out) | exact HB.out)⟩⟩
        · rw [if_neg c10] at H
          exact absurd H (by simp)
    · replace c6 := Bool.eq_false_iff.mpr c6
      subst c6
      have H1 : (walk_IsPath.j0 k l1 true a0_0 l0_1) = some r := by rw [if_neg (show ¬ (false = true) by decide)] at H; exact H
      clear H
      have H := H1
      clear H1
      have H' := Aside0.mk H
      clear H
      try go_wp2
      have n0_ := Aside0.mk (blk_drew BK101.out)
      have n1_ := Aside0.mk (below_drew1 HB.out)
      clear BK101
      clear HB
      have BK101 := n0_
      have HB := n1_
      clear n0_ n1_
      refine start_ (n := 27) (S := fun w' => w'.cell? ⟨gb101, 0, none⟩ = some (.int .i64 a0_0) ∧ w'.cell? ⟨gb101, 1, none⟩ = some (.slice A0_1 l0_1.length c0_1)) (ds := []) #[false, false, false, false, false, false, false, false, false, false, false, false, false, false, false, false, false, false, false, false, false, false, false, false, false, false, false] (by kernel_rfl) rfl rfl ⟨(blk_cell BK101.out 0).trans rfl, (blk_cell BK101.out 1).trans rfl⟩ (fun hHeld => ?_); refine with_tabW walk_IsPath.tab1 walk_IsPath.bits1 (fun HT_ HW_ => ?_)
      generalize w4.drew = w21 at BK101 HB hHeld ⊢
      refine take_ (i := 0) (N := some 6) (v := ?_) (a' := ?_) #[true, false, false, false, false, false, false, false, false, false, false, false, false, false, false, false, false, false, false, false, false, false, false, false, false, false, false] rfl rfl (take_ofW HT_.out HW_.out (by kernel_rfl)) (fun _ _ _ h => h) (Or.inl ⟨by rfl, ?_⟩) hHeld ?_ ?_
      rotate_left
      · rintro w' ⟨s0, s1⟩
        go_simp
        with_reducible rfl
      rotate_left
      · simp only [Act.put, List.setIfInBounds_toArray, List.set_cons_zero, List.set_cons_succ, i64_w, i32_w]
        rfl
      refine one_ (i := 1) (N := some 7) #[true, true, false, false, false, false, false, false, false, false, false, false, false, false, false, false, false, false, false, false, false, false, false, false, false, false, false] rfl rfl (one_of HT_.out (by kernel_rfl)) (by decide) (fun K hK => ?_)
      refine goes_ Try.func55 (by kernel_rfl) rfl #[.agg #[.int .i64 a0_0, .slice A0_1 l0_1.length c0_1]] (by rfl) rfl rfl (by (try simp only [List.map_toArray, List.map_cons, List.map_nil]); first | done | rfl | (simp only [List.length_drop, List.length_take]; rfl)) ?_
      with_reducible refine (graph_Right.calls a0_0 _ _ l0_1 false _ ?side1 ?side2 A5.out).mono ?_
      (case side1 => repeat (first | exact (Kd.C_below HR0_1.out HB.out) | (with_reducible refine Kd.C_alloc ?_ _) | (with_reducible refine Kd.C_drewN ?_ _) | (with_reducible refine Kd.C_drew ?_)))
      (case side2 => exact HC0_1.out)
      rintro e w22 ⟨rfl, hb⟩
      refine ⟨_, rfl, ?_⟩
      have n0_ := Aside0.mk (blk_below (g := gb101) (o := .cells #[.int .i64 a0_0, .slice A0_1 l0_1.length c0_1] 31 (0, 0)) (by (with_reducible repeat (first | refine blk_drewN ?_ _ | refine blk_drew ?_ | refine blk_alloc ?_ _)); exact BK101.out) hb)
      have n1_ := Aside0.mk (below_step (by repeat (first | (with_reducible first | exact HB.out | apply below_alloc | apply pw_below_drewN | apply below_drew1 | refine below_set ?_ GE101.out) | exact HB.out)) hb)
      clear BK101
      clear HB
      have BK101 := n0_
      have HB := n1_
      clear n0_ n1_
      (try clear hb)
      (try clear hb2)
      (try clear hk)
      (try clear hi)
      refine hK.out _ _ ⟨(blk_cell BK101.out 0).trans rfl, (blk_cell BK101.out 1).trans rfl⟩ (fun hHeld => ?_)
      clear hK K
      refine norm_ (a' := ?_) ?_ ?_
      rotate_left
      · show Act.put _ (some 7) _ = _
        simp only [Act.put, List.setIfInBounds_toArray, List.set_cons_zero, List.set_cons_succ, i64_w, i32_w]
        rfl
      refine pure_ (i := 2) (N := some 8) (v := ?_) (a' := ?_) #[true, true, true, false, false, false, false, false, false, false, false, false, false, false, false, false, false, false, false, false, false, false, false, false, false, false, false] rfl rfl (any_of HT_.out (by kernel_rfl)) (fun _ _ _ h => h) (Or.inl ⟨by rfl, ?_⟩) ?_ ?_
      rotate_left
      · intro w'
        go_simp
        with_reducible rfl
      rotate_left
      · simp only [Act.put, List.setIfInBounds_toArray, List.set_cons_zero, List.set_cons_succ, i64_w, i32_w]
        rfl
      refine pure_ (i := 3) (N := some 9) (v := ?_) (a' := ?_) #[true, true, true, true, false, false, false, false, false, false, false, false, false, false, false, false, false, false, false, false, false, false, false, false, false, false, false] rfl rfl (any_of HT_.out (by kernel_rfl)) (fun _ _ _ h => h) (Or.inl ⟨by rfl, ?_⟩) ?_ ?_
      rotate_left
      · intro w'
        go_simp
        with_reducible rfl
      rotate_left
      · simp only [Act.put, List.setIfInBounds_toArray, List.set_cons_zero, List.set_cons_succ, i64_w, i32_w]
        rfl
      refine pure_ (i := 4) (N := some 10) (v := undef) (a' := ?_) #[true, true, true, true, true, false, false, false, false, false, false, false, false, false, false, false, false, false, false, false, false, false, false, false, false, false, false] rfl rfl (any_of HT_.out (by kernel_rfl)) (fun _ _ _ h => h) (Or.inr ⟨by rfl, rfl⟩) ?_ ?_
      rotate_left
      · simp only [Act.put, List.setIfInBounds_toArray, List.set_cons_zero, List.set_cons_succ, i64_w, i32_w]
        rfl
      refine pure_ (i := 5) (N := some 11) (v := undef) (a' := ?_) #[true, true, true, true, true, true, false, false, false, false, false, false, false, false, false, false, false, false, false, false, false, false, false, false, false, false, false] rfl rfl (any_of HT_.out (by kernel_rfl)) (fun _ _ _ h => h) (Or.inr ⟨by rfl, rfl⟩) ?_ ?_
      rotate_left
      · simp only [Act.put, List.setIfInBounds_toArray, List.set_cons_zero, List.set_cons_succ, i64_w, i32_w]
        rfl
      refine pure_ (i := 6) (N := some 12) (v := undef) (a' := ?_) #[true, true, true, true, true, true, true, false, false, false, false, false, false, false, false, false, false, false, false, false, false, false, false, false, false, false, false] rfl rfl (any_of HT_.out (by kernel_rfl)) (fun _ _ _ h => h) (Or.inr ⟨by rfl, rfl⟩) ?_ ?_
      rotate_left
      · simp only [Act.put, List.setIfInBounds_toArray, List.set_cons_zero, List.set_cons_succ, i64_w, i32_w]
        rfl
      refine pure_ (i := 7) (N := some 13) (v := ?_) (a' := ?_) #[true, true, true, true, true, true, true, true, false, false, false, false, false, false, false, false, false, false, false, false, false, false, false, false, false, false, false] rfl rfl (any_of HT_.out (by kernel_rfl)) (fun _ _ _ h => h) (Or.inl ⟨by rfl, ?_⟩) ?_ ?_
      rotate_left
      · intro w'
        go_simp
        with_reducible rfl
      rotate_left
      · simp only [Act.put, List.setIfInBounds_toArray, List.set_cons_zero, List.set_cons_succ, i64_w, i32_w]
        rfl
      refine pure_ (i := 8) (N := some 14) (v := ?_) (a' := ?_) #[true, true, true, true, true, true, true, true, true, false, false, false, false, false, false, false, false, false, false, false, false, false, false, false, false, false, false] rfl rfl (any_of HT_.out (by kernel_rfl)) (fun _ _ _ h => h) (Or.inl ⟨by rfl, ?_⟩) ?_ ?_
      rotate_left
      · intro w'
        go_simp
        with_reducible rfl
      rotate_left
      · simp only [Act.put, List.setIfInBounds_toArray, List.set_cons_zero, List.set_cons_succ, i64_w, i32_w]
        rfl
      refine pure_ (i := 9) (N := some 15) (v := undef) (a' := ?_) #[true, true, true, true, true, true, true, true, true, true, false, false, false, false, false, false, false, false, false, false, false, false, false, false, false, false, false] rfl rfl (any_of HT_.out (by kernel_rfl)) (fun _ _ _ h => h) (Or.inr ⟨by rfl, rfl⟩) ?_ ?_
      rotate_left
      · simp only [Act.put, List.setIfInBounds_toArray, List.set_cons_zero, List.set_cons_succ, i64_w, i32_w]
        rfl
      refine pure_ (i := 10) (N := some 16) (v := undef) (a' := ?_) #[true, true, true, true, true, true, true, true, true, true, true, false, false, false, false, false, false, false, false, false, false, false, false, false, false, false, false] rfl rfl (any_of HT_.out (by kernel_rfl)) (fun _ _ _ h => h) (Or.inr ⟨by rfl, rfl⟩) ?_ ?_
      rotate_left
      · simp only [Act.put, List.setIfInBounds_toArray, List.set_cons_zero, List.set_cons_succ, i64_w, i32_w]
        rfl
      refine pure_ (i := 11) (N := some 17) (v := undef) (a' := ?_) #[true, true, true, true, true, true, true, true, true, true, true, true, false, false, false, false, false, false, false, false, false, false, false, false, false, false, false] rfl rfl (any_of HT_.out (by kernel_rfl)) (fun _ _ _ h => h) (Or.inr ⟨by rfl, rfl⟩) ?_ ?_
      rotate_left
      · simp only [Act.put, List.setIfInBounds_toArray, List.set_cons_zero, List.set_cons_succ, i64_w, i32_w]
        rfl
      refine pure_ (i := 12) (N := some 18) (v := undef) (a' := ?_) #[true, true, true, true, true, true, true, true, true, true, true, true, true, false, false, false, false, false, false, false, false, false, false, false, false, false, false] rfl rfl (any_of HT_.out (by kernel_rfl)) (fun _ _ _ h => h) (Or.inr ⟨by rfl, rfl⟩) ?_ ?_
      rotate_left
      · simp only [Act.put, List.setIfInBounds_toArray, List.set_cons_zero, List.set_cons_succ, i64_w, i32_w]
        rfl
      refine pure_ (i := 13) (N := some 19) (v := ?_) (a' := ?_) #[true, true, true, true, true, true, true, true, true, true, true, true, true, true, false, false, false, false, false, false, false, false, false, false, false, false, false] rfl rfl (any_of HT_.out (by kernel_rfl)) (fun _ _ _ h => h) (Or.inl ⟨by rfl, ?_⟩) ?_ ?_
      rotate_left
      · intro w'
        go_simp
        with_reducible rfl
      rotate_left
      · simp only [Act.put, List.setIfInBounds_toArray, List.set_cons_zero, List.set_cons_succ, i64_w, i32_w]
        rfl
      refine pure_ (i := 14) (N := some 20) (v := ?_) (a' := ?_) #[true, true, true, true, true, true, true, true, true, true, true, true, true, true, true, false, false, false, false, false, false, false, false, false, false, false, false] rfl rfl (any_of HT_.out (by kernel_rfl)) (fun _ _ _ h => h) (Or.inl ⟨by rfl, ?_⟩) ?_ ?_
      rotate_left
      · intro w'
        go_simp
        with_reducible rfl
      rotate_left
      · simp only [Act.put, List.setIfInBounds_toArray, List.set_cons_zero, List.set_cons_succ, i64_w, i32_w]
        rfl
      refine pure_ (i := 15) (N := some 21) (v := undef) (a' := ?_) #[true, true, true, true, true, true, true, true, true, true, true, true, true, true, true, true, false, false, false, false, false, false, false, false, false, false, false] rfl rfl (any_of HT_.out (by kernel_rfl)) (fun _ _ _ h => h) (Or.inr ⟨by rfl, rfl⟩) ?_ ?_
      rotate_left
      · simp only [Act.put, List.setIfInBounds_toArray, List.set_cons_zero, List.set_cons_succ, i64_w, i32_w]
        rfl
      refine pure_ (i := 16) (N := some 22) (v := undef) (a' := ?_) #[true, true, true, true, true, true, true, true, true, true, true, true, true, true, true, true, true, false, false, false, false, false, false, false, false, false, false] rfl rfl (any_of HT_.out (by kernel_rfl)) (fun _ _ _ h => h) (Or.inr ⟨by rfl, rfl⟩) ?_ ?_
      rotate_left
      · simp only [Act.put, List.setIfInBounds_toArray, List.set_cons_zero, List.set_cons_succ, i64_w, i32_w]
        rfl
      refine pure_ (i := 17) (N := some 23) (v := undef) (a' := ?_) #[true, true, true, true, true, true, true, true, true, true, true, true, true, true, true, true, true, true, false, false, false, false, false, false, false, false, false] rfl rfl (any_of HT_.out (by kernel_rfl)) (fun _ _ _ h => h) (Or.inr ⟨by rfl, rfl⟩) ?_ ?_
      rotate_left
      · simp only [Act.put, List.setIfInBounds_toArray, List.set_cons_zero, List.set_cons_succ, i64_w, i32_w]
        rfl
      refine pure_ (i := 18) (N := some 24) (v := undef) (a' := ?_) #[true, true, true, true, true, true, true, true, true, true, true, true, true, true, true, true, true, true, true, false, false, false, false, false, false, false, false] rfl rfl (any_of HT_.out (by kernel_rfl)) (fun _ _ _ h => h) (Or.inr ⟨by rfl, rfl⟩) ?_ ?_
      rotate_left
      · simp only [Act.put, List.setIfInBounds_toArray, List.set_cons_zero, List.set_cons_succ, i64_w, i32_w]
        rfl
      refine pure_ (i := 19) (N := some 25) (v := undef) (a' := ?_) #[true, true, true, true, true, true, true, true, true, true, true, true, true, true, true, true, true, true, true, true, false, false, false, false, false, false, false] rfl rfl (any_of HT_.out (by kernel_rfl)) (fun _ _ _ h => h) (Or.inr ⟨by rfl, rfl⟩) ?_ ?_
      rotate_left
      · simp only [Act.put, List.setIfInBounds_toArray, List.set_cons_zero, List.set_cons_succ, i64_w, i32_w]
        rfl
      refine pure_ (i := 20) (N := some 26) (v := undef) (a' := ?_) #[true, true, true, true, true, true, true, true, true, true, true, true, true, true, true, true, true, true, true, true, true, false, false, false, false, false, false] rfl rfl (any_of HT_.out (by kernel_rfl)) (fun _ _ _ h => h) (Or.inr ⟨by rfl, rfl⟩) ?_ ?_
      rotate_left
      · simp only [Act.put, List.setIfInBounds_toArray, List.set_cons_zero, List.set_cons_succ, i64_w, i32_w]
        rfl
      refine pure_ (i := 21) (N := some 27) (v := ?_) (a' := ?_) #[true, true, true, true, true, true, true, true, true, true, true, true, true, true, true, true, true, true, true, true, true, true, false, false, false, false, false] rfl rfl (any_of HT_.out (by kernel_rfl)) (fun _ _ _ h => h) (Or.inl ⟨by rfl, ?_⟩) ?_ ?_
      rotate_left
      · intro w'
        go_simp
        with_reducible rfl
      rotate_left
      · simp only [Act.put, List.setIfInBounds_toArray, List.set_cons_zero, List.set_cons_succ, i64_w, i32_w]
        rfl
      refine pure_ (i := 22) (N := some 28) (v := ?_) (a' := ?_) #[true, true, true, true, true, true, true, true, true, true, true, true, true, true, true, true, true, true, true, true, true, true, true, false, false, false, false] rfl rfl (any_of HT_.out (by kernel_rfl)) (fun _ _ _ h => h) (Or.inl ⟨by rfl, ?_⟩) ?_ ?_
      rotate_left
      · intro w'
        go_simp
        with_reducible rfl
      rotate_left
      · simp only [Act.put, List.setIfInBounds_toArray, List.set_cons_zero, List.set_cons_succ, i64_w, i32_w]
        rfl
      refine pure_ (i := 23) (N := some 29) (v := undef) (a' := ?_) #[true, true, true, true, true, true, true, true, true, true, true, true, true, true, true, true, true, true, true, true, true, true, true, true, false, false, false] rfl rfl (any_of HT_.out (by kernel_rfl)) (fun _ _ _ h => h) (Or.inr ⟨by rfl, rfl⟩) ?_ ?_
      rotate_left
      · simp only [Act.put, List.setIfInBounds_toArray, List.set_cons_zero, List.set_cons_succ, i64_w, i32_w]
        rfl
      refine pure_ (i := 24) (N := some 30) (v := undef) (a' := ?_) #[true, true, true, true, true, true, true, true, true, true, true, true, true, true, true, true, true, true, true, true, true, true, true, true, true, false, false] rfl rfl (any_of HT_.out (by kernel_rfl)) (fun _ _ _ h => h) (Or.inr ⟨by rfl, rfl⟩) ?_ ?_
      rotate_left
      · simp only [Act.put, List.setIfInBounds_toArray, List.set_cons_zero, List.set_cons_succ, i64_w, i32_w]
        rfl
      refine pure_ (i := 25) (N := some 31) (v := undef) (a' := ?_) #[true, true, true, true, true, true, true, true, true, true, true, true, true, true, true, true, true, true, true, true, true, true, true, true, true, true, false] rfl rfl (any_of HT_.out (by kernel_rfl)) (fun _ _ _ h => h) (Or.inr ⟨by rfl, rfl⟩) ?_ ?_
      rotate_left
      · simp only [Act.put, List.setIfInBounds_toArray, List.set_cons_zero, List.set_cons_succ, i64_w, i32_w]
        rfl
      refine pure_ (i := 26) (N := some 32) (v := ?_) (a' := ?_) #[true, true, true, true, true, true, true, true, true, true, true, true, true, true, true, true, true, true, true, true, true, true, true, true, true, true, true] rfl rfl (any_of HT_.out (by kernel_rfl)) (fun _ _ _ h => h) (Or.inl ⟨by rfl, ?_⟩) ?_ ?_
      rotate_left
      · intro w'
        go_simp
        with_reducible rfl
      rotate_left
      · simp only [Act.put, List.setIfInBounds_toArray, List.set_cons_zero, List.set_cons_succ, i64_w, i32_w]
        rfl
      refine done_ (done_of HT_.out (by kernel_rfl)) ?_
      try go_wp2
      go_meet
      case rel => exact ⟨_, (true), (by first | rfl | (simp; done) | (simp [*]; done)), H', ⟨by first | omega | exact Nat.le_refl _⟩, ⟨by (with_reducible repeat (first | refine blk_drewN ?_ _ | refine blk_drew ?_ | refine blk_alloc ?_ _)); exact BK101.out⟩, ⟨by repeat (first | (with_reducible first | exact HB.out | apply below_alloc | apply pw_below_drewN | apply below_drew1 | refine below_set ?_ GE101.out) | exact HB.out)⟩⟩
  case rest =>
    clear HC3
    try clear c1
    try clear p1
    try clear q1
    try clear hx1
    try clear qi1
    try clear p2
    try clear c5
    try clear c6
    try clear c10
    try clear p10
    try clear q10
    try clear hx10
    try clear qi10
    try clear c14
    try clear c14b0
    try clear hx103_0
    try clear hx104_0
    try clear p103
    try clear p104
    try clear q103
    try clear q104
    obtain ⟨kq, x32_2, rfl, HA, HJ2, BK101, HB⟩ := hcut
    cases kq with
    | zero => exact absurd HA.out (by simp [walk_IsPath.j0])
    | succ kj2 =>
      have H := HA.out
      clear HA
      simp only [walk_IsPath.j0] at H
      by_cases c23 : x32_2 = true
      · subst c23
        have H1 : (some false) = some r := by rw [if_pos rfl] at H; exact H
        clear H
        have H := H1
        clear H1
        obtain rfl := Option.some.inj H
        go_wp2
        go_ret
        exact ⟨by first | rfl | (simp [errW_none, errW_some] <;> rfl) | (simp [*, errW_none, errW_some] <;> rfl), by repeat (first | (with_reducible first | exact HB.out | apply below_alloc | apply pw_below_drewN | apply below_drew1 | refine below_set ?_ GE101.out) | exact HB.out)⟩
      · replace c23 := Bool.eq_false_iff.mpr c23
        subst c23
        have H1 : (walk_IsPath.l0 kj2 l1 (wrap64 ((l1.length : Int) - 1)) 0 a0_0 l0_1) = some r := by rw [if_neg (show ¬ (false = true) by decide)] at H; exact H
        clear H
        have H := H1
        clear H1
        have H' := Aside0.mk H
        clear H
        go_wp2
        go_loopg [36] kj2 (fun kq v36 w' => ∃ (x36_2 : Int), v36 = .int .i64 x36_2 ∧ Aside0 (walk_IsPath.l0 kq l1 (wrap64 ((l1.length : Int) - 1)) x36_2 a0_0 l0_1 = some r) ∧ Aside0 (kq ≤ kj2) ∧ Aside0 (w'.heap[gb101]? = some (.cells #[.int .i64 a0_0, (.slice A0_1 l0_1.length c0_1)] 31 (0, 0))) ∧ Aside0 (Below w.heap.size w w'))
        case atStart => exact ⟨(0), (by first | rfl | (simp; done) | (simp [*]; done)), H', ⟨Nat.le_refl _⟩, ⟨by (with_reducible repeat (first | refine blk_drewN ?_ _ | refine blk_drew ?_ | refine blk_alloc ?_ _)); exact BK101.out⟩, ⟨by repeat (first | (with_reducible first | exact HB.out | apply below_alloc | apply pw_below_drewN | apply below_drew1 | refine below_set ?_ GE101.out) | exact HB.out)⟩⟩
        case round =>
          clear H'
          try clear c1
          try clear p1
          try clear q1
          try clear hx1
          try clear qi1
          try clear c2
          try clear p2
          try clear c5
          try clear c6
          try clear p6
          try clear c10
          try clear p10
          try clear q10
          try clear hx10
          try clear qi10
          try clear c14
          try clear c14b0
          try clear c23
          try clear hx103_0
          try clear hx104_0
          try clear p1
          try clear p10
          try clear p103
          try clear p104
          try clear p2
          try clear q1
          try clear q10
          try clear q103
          try clear q104
          obtain ⟨x36_2, rfl, HA, HK2, BK101, HB⟩ := hrel
          cases gk with
          | zero => exact absurd HA.out (by simp [walk_IsPath.l0])
          | succ k2 =>
            have H := HA.out
            clear HA
            simp only [walk_IsPath.l0] at H
            by_cases c24 : x36_2 < (wrap64 ((l1.length : Int) - 1))
            · rw [if_pos c24] at H
              have c24b0 : decide (x36_2 < (wrap64 ((l1.length : Int) - 1))) = true := decide_eq_true c24
              clear c24
              by_cases c25 : 0 ≤ x36_2
              · rw [if_pos c25] at H
                have c25b0 : decide (0 ≤ x36_2) = true := decide_eq_true c25
                clear c25
                by_cases c26 : x36_2 < (l1.length : Int)
                · rw [if_pos c26] at H
                  have c26b0 : decide (x36_2 < (l1.length : Int)) = true := decide_eq_true c26
                  clear c26
                  obtain ⟨ji27, hji27⟩ : ∃ j_ : Int, (wrap64 (x36_2 + 1)) = j_ := ⟨_, rfl⟩
                  replace H : (if 0 ≤ (ji27) then (if (ji27) < (l1.length : Int) then ((graph_Has.f a0_0 l0_1 (rd l1 x36_2) (rd l1 (ji27))).bind fun t108 => (if t108 = true then (walk_IsPath.l0 k2 l1 (wrap64 ((l1.length : Int) - 1)) ji27 a0_0 l0_1) else (some false))) else (none)) else (none)) = some r := by first | (rw [hji27] at H; exact H) | (simp only [hji27] at H ⊢; exact H)
                  have hji27w : (IntKind.i64.wrap (x36_2 + 1)) = ji27 := (i64_w _).trans hji27
                  by_cases c28 : 0 ≤ (ji27)
                  · rw [if_pos c28] at H
                    have c28b0 : decide (0 ≤ (ji27)) = true := decide_eq_true c28
                    clear c28
                    by_cases c29 : (ji27) < (l1.length : Int)
                    · rw [if_pos c29] at H
                      have c29b0 : decide ((ji27) < (l1.length : Int)) = true := decide_eq_true c29
                      clear c29
                      replace H := Option.bind_eq_some_iff.mp H
                      obtain ⟨t108, A300, H⟩ := H
                      replace H : (if t108 = true then (walk_IsPath.l0 k2 l1 (wrap64 ((l1.length : Int) - 1)) ji27 a0_0 l0_1) else (some false)) = some r := H
                      have A30 := Aside0.mk A300
                      clear A300
                      by_cases c31 : t108 = true
                      · subst c31
                        have H1 : (walk_IsPath.l0 k2 l1 (wrap64 ((l1.length : Int) - 1)) ji27 a0_0 l0_1) = some r := by rw [if_pos rfl] at H; exact H
                        clear H
                        have H := H1
                        clear H1
                        have H' := Aside0.mk H
                        clear H
                        try go_wp2
                        have n0_ := Aside0.mk (blk_drew BK101.out)
                        have n1_ := Aside0.mk (below_drew1 HB.out)
                        clear BK101
                        clear HB
                        have BK101 := n0_
                        have HB := n1_
                        clear n0_ n1_
                        have p106 : 0 ≤ (x36_2 : Int) := of_decide_eq_true (by first | (with_reducible assumption) | assumption)
                        have q106 : x36_2 < (l1.length : Int) := of_decide_eq_true (by first | (with_reducible assumption) | assumption)
                        obtain ⟨ad106, e106, hx106_0⟩ := Kd.at_int HR1.out x36_2 p106 q106
                        have hw106_0 := hx106_0
                        cases e106
                        replace hx106_0 := (HB.out.cell (World.block_lt_of_cell? w _ hx106_0)).trans hx106_0
                        replace p106 := eq_true p106
                        replace q106 := eq_true q106
                        have p107 : 0 ≤ ((ji27) : Int) := of_decide_eq_true (by first | (with_reducible assumption) | assumption)
                        have q107 : (ji27) < (l1.length : Int) := of_decide_eq_true (by first | (with_reducible assumption) | assumption)
                        obtain ⟨ad107, e107, hx107_0⟩ := Kd.at_int HR1.out (ji27) p107 q107
                        have hw107_0 := hx107_0
                        obtain rfl : ad106 = ad107 := (by injection e107)
                        replace hx107_0 := (HB.out.cell (World.block_lt_of_cell? w _ hx107_0)).trans hx107_0
                        replace p107 := eq_true p107
                        replace q107 := eq_true q107
                        refine start_ (n := 12) (S := fun w' => w'.cell? ⟨gb101, 0, none⟩ = some (.int .i64 a0_0) ∧ w'.cell? ⟨gb101, 1, none⟩ = some (.slice A0_1 l0_1.length c0_1) ∧ w'.cell? (ad106.add (x36_2).toNat) = some (.int .i64 (rd l1 x36_2)) ∧ w'.cell? (ad106.add ((ji27)).toNat) = some (.int .i64 (rd l1 (ji27)))) (ds := []) #[false, false, false, false, false, false, false, false, false, false, false, false] (by kernel_rfl) rfl rfl ⟨(blk_cell BK101.out 0).trans rfl, (blk_cell BK101.out 1).trans rfl, ((HB.out.cell (World.block_lt_of_cell? w _ hw106_0)).trans hw106_0), ((HB.out.cell (World.block_lt_of_cell? w _ hw107_0)).trans hw107_0)⟩ (fun hHeld => ?_); refine with_tabW walk_IsPath.tab6 walk_IsPath.bits6 (fun HT_ HW_ => ?_)
                        generalize wr.drew = w32 at BK101 HB hx106_0 hx107_0 hHeld ⊢
                        refine pure_ (i := 1) (N := some 40) (v := ?_) (a' := ?_) #[false, true, false, false, false, false, false, false, false, false, false, false] rfl rfl (any_of HT_.out (by kernel_rfl)) (fun _ _ _ h => h) (Or.inl ⟨by rfl, ?_⟩) ?_ ?_
                        rotate_left
                        · intro w'
                          go_simp
                          with_reducible rfl
                        rotate_left
                        · simp only [Act.put, List.setIfInBounds_toArray, List.set_cons_zero, List.set_cons_succ, i64_w, i32_w]
                          rfl
                        refine pure_ (i := 2) (N := some 41) (v := ?_) (a' := ?_) #[false, true, true, false, false, false, false, false, false, false, false, false] rfl rfl (any_of HT_.out (by kernel_rfl)) (fun _ _ _ h => h) (Or.inl ⟨by rfl, ?_⟩) ?_ ?_
                        rotate_left
                        · intro w'
                          go_simp
                          with_reducible rfl
                        rotate_left
                        · simp only [Act.put, List.setIfInBounds_toArray, List.set_cons_zero, List.set_cons_succ, i64_w, i32_w]
                          rfl
                        refine pure_ (i := 3) (N := some 42) (v := ?_) (a' := ?_) #[false, true, true, true, false, false, false, false, false, false, false, false] rfl rfl (any_of HT_.out (by kernel_rfl)) (fun _ _ _ h => h) (Or.inl ⟨by rfl, ?_⟩) ?_ ?_
                        rotate_left
                        · intro w'
                          go_simp
                          with_reducible rfl
                        rotate_left
                        · simp only [Act.put, List.setIfInBounds_toArray, List.set_cons_zero, List.set_cons_succ, i64_w, i32_w]
                          rfl
                        refine pure_ (i := 5) (N := some 44) (v := ?_) (a' := ?_) #[false, true, true, true, false, true, false, false, false, false, false, false] rfl rfl (any_of HT_.out (by kernel_rfl)) (fun _ _ _ h => h) (Or.inl ⟨by rfl, ?_⟩) ?_ ?_
                        rotate_left
                        · intro w'
                          go_simp
                          with_reducible rfl
                        rotate_left
                        · simp only [Act.put, List.setIfInBounds_toArray, List.set_cons_zero, List.set_cons_succ, i64_w, i32_w]
                          rfl
                        refine pure_ (i := 6) (N := some 45) (v := ?_) (a' := ?_) #[false, true, true, true, false, true, true, false, false, false, false, false] rfl rfl (any_of HT_.out (by kernel_rfl)) (fun _ _ _ h => h) (Or.inl ⟨by rfl, ?_⟩) ?_ ?_
                        rotate_left
                        · intro w'
                          go_simp
                          with_reducible rfl
                        rotate_left
                        · simp only [Act.put, List.setIfInBounds_toArray, List.set_cons_zero, List.set_cons_succ, i64_w, i32_w]
                          rfl
                        refine pure_ (i := 7) (N := some 46) (v := ?_) (a' := ?_) #[false, true, true, true, false, true, true, true, false, false, false, false] rfl rfl (any_of HT_.out (by kernel_rfl)) (fun _ _ _ h => h) (Or.inl ⟨by rfl, ?_⟩) ?_ ?_
                        rotate_left
                        · intro w'
                          go_simp
                          with_reducible rfl
                        rotate_left
                        · simp only [Act.put, List.setIfInBounds_toArray, List.set_cons_zero, List.set_cons_succ, i64_w, i32_w]
                          rfl
                        refine pure_ (i := 8) (N := some 47) (v := ?_) (a' := ?_) #[false, true, true, true, false, true, true, true, true, false, false, false] rfl rfl (any_of HT_.out (by kernel_rfl)) (fun _ _ _ h => h) (Or.inl ⟨by rfl, ?_⟩) ?_ ?_
                        rotate_left
                        · intro w'
                          go_simp
                          with_reducible rfl
                        rotate_left
                        · simp only [Act.put, List.setIfInBounds_toArray, List.set_cons_zero, List.set_cons_succ, i64_w, i32_w]
                          rfl
                        refine take_ (i := 0) (N := some 39) (v := ?_) (a' := ?_) #[true, true, true, true, false, true, true, true, true, false, false, false] rfl rfl (take_ofW HT_.out HW_.out (by kernel_rfl)) (fun _ _ _ h => h) (Or.inl ⟨by rfl, ?_⟩) hHeld ?_ ?_
                        rotate_left
                        · rintro w' ⟨s0, s1, s2, s3⟩
                          go_simp
                          with_reducible rfl
                        rotate_left
                        · simp only [Act.put, List.setIfInBounds_toArray, List.set_cons_zero, List.set_cons_succ, i64_w, i32_w]
                          rfl
                        refine take_ (i := 4) (N := some 43) (v := ?_) (a' := ?_) #[true, true, true, true, true, true, true, true, true, false, false, false] rfl rfl (take_ofW HT_.out HW_.out (by kernel_rfl)) (fun _ _ _ h => h) (Or.inl ⟨by rfl, ?_⟩) hHeld ?_ ?_
                        rotate_left
                        · rintro w' ⟨s0, s1, s2, s3⟩
                          go_simp
                          with_reducible rfl
                        rotate_left
                        · simp only [Act.put, List.setIfInBounds_toArray, List.set_cons_zero, List.set_cons_succ, i64_w, i32_w]
                          rfl
                        refine take_ (i := 9) (N := some 48) (v := ?_) (a' := ?_) #[true, true, true, true, true, true, true, true, true, true, false, false] rfl rfl (take_ofW HT_.out HW_.out (by kernel_rfl)) (fun _ _ _ h => h) (Or.inl ⟨by rfl, ?_⟩) hHeld ?_ ?_
                        rotate_left
                        · rintro w' ⟨s0, s1, s2, s3⟩
                          go_simp
                          with_reducible rfl
                        rotate_left
                        · simp only [Act.put, List.setIfInBounds_toArray, List.set_cons_zero, List.set_cons_succ, i64_w, i32_w]
                          rfl
                        refine one_ (i := 10) (N := some 49) #[true, true, true, true, true, true, true, true, true, true, true, false] rfl rfl (one_of HT_.out (by kernel_rfl)) (by decide) (fun K hK => ?_)
                        refine goes_ Try.func49 (by kernel_rfl) rfl #[.agg #[.int .i64 a0_0, .slice A0_1 l0_1.length c0_1], .int .i64 (rd l1 x36_2), .int .i64 (rd l1 (ji27))] (by rfl) rfl rfl (by (try simp only [List.map_toArray, List.map_cons, List.map_nil]); first | done | (simp only [hji27]; rfl) | rfl | (simp only [List.length_drop, List.length_take]; rfl)) ?_
                        with_reducible refine (graph_Has.calls a0_0 _ _ l0_1 (rd l1 x36_2) (rd l1 (ji27)) true _ ?side1 ?side2 A30.out).mono ?_
                        (case side1 => repeat (first | exact (Kd.C_below HR0_1.out HB.out) | (with_reducible refine Kd.C_alloc ?_ _) | (with_reducible refine Kd.C_drewN ?_ _) | (with_reducible refine Kd.C_drew ?_)))
                        (case side2 => exact HC0_1.out)
                        rintro e w33 ⟨rfl, hb⟩
                        refine ⟨_, rfl, ?_⟩
                        have n0_ := Aside0.mk (blk_below (g := gb101) (o := .cells #[.int .i64 a0_0, .slice A0_1 l0_1.length c0_1] 31 (0, 0)) (by (with_reducible repeat (first | refine blk_drewN ?_ _ | refine blk_drew ?_ | refine blk_alloc ?_ _)); exact BK101.out) hb)
                        have n1_ := Aside0.mk (below_step (by repeat (first | (with_reducible first | exact HB.out | apply below_alloc | apply pw_below_drewN | apply below_drew1 | refine below_set ?_ GE101.out) | exact HB.out)) hb)
                        clear BK101
                        clear HB
                        have BK101 := n0_
                        have HB := n1_
                        clear n0_ n1_
                        (try clear hb)
                        (try clear hb2)
                        (try clear hk)
                        (try clear hi)
                        refine hK.out _ _ ⟨(blk_cell BK101.out 0).trans rfl, (blk_cell BK101.out 1).trans rfl, ((HB.out.cell (World.block_lt_of_cell? w _ hw106_0)).trans hw106_0), ((HB.out.cell (World.block_lt_of_cell? w _ hw107_0)).trans hw107_0)⟩ (fun hHeld => ?_)
                        clear hK K
                        refine norm_ (a' := ?_) ?_ ?_
                        rotate_left
                        · show Act.put _ (some 49) _ = _
                          simp only [Act.put, List.setIfInBounds_toArray, List.set_cons_zero, List.set_cons_succ, i64_w, i32_w]
                          rfl
                        refine pure_ (i := 11) (N := some 50) (v := ?_) (a' := ?_) #[true, true, true, true, true, true, true, true, true, true, true, true] rfl rfl (any_of HT_.out (by kernel_rfl)) (fun _ _ _ h => h) (Or.inl ⟨by rfl, ?_⟩) ?_ ?_
                        rotate_left
                        · intro w'
                          go_simp
                          with_reducible rfl
                        rotate_left
                        · simp only [Act.put, List.setIfInBounds_toArray, List.set_cons_zero, List.set_cons_succ, i64_w, i32_w]
                          rfl
                        refine done_ (done_of HT_.out (by kernel_rfl)) ?_
                        try go_wp2
                        go_roundg k2
                        case measure => have := HJ2.out; have := HK2.out; omega
                        case rel => exact ⟨(ji27), (by first | rfl | (simp; done) | (simp only [← hji27] <;> (first | rfl | simp)) | (simp [*]; done)), H', ⟨by have := HJ2.out; have := HK2.out; omega⟩, ⟨by (with_reducible repeat (first | refine blk_drewN ?_ _ | refine blk_drew ?_ | refine blk_alloc ?_ _)); exact BK101.out⟩, ⟨by repeat (first | (with_reducible first | exact HB.out | apply below_alloc | apply pw_below_drewN | apply below_drew1 | refine below_set ?_ GE101.out) | exact HB.out)⟩⟩
                      · replace c31 := Bool.eq_false_iff.mpr c31
                        subst c31
                        have H1 : (some false) = some r := by rw [if_neg (show ¬ (false = true) by decide)] at H; exact H
                        clear H
                        have H := H1
                        clear H1
                        obtain rfl := Option.some.inj H
                        try go_wp2
                        have n0_ := Aside0.mk (blk_drew BK101.out)
                        have n1_ := Aside0.mk (below_drew1 HB.out)
                        clear BK101
                        clear HB
                        have BK101 := n0_
                        have HB := n1_
                        clear n0_ n1_
                        have p106 : 0 ≤ (x36_2 : Int) := of_decide_eq_true (by first | (with_reducible assumption) | assumption)
                        have q106 : x36_2 < (l1.length : Int) := of_decide_eq_true (by first | (with_reducible assumption) | assumption)
                        obtain ⟨ad106, e106, hx106_0⟩ := Kd.at_int HR1.out x36_2 p106 q106
                        have hw106_0 := hx106_0
                        cases e106
                        replace hx106_0 := (HB.out.cell (World.block_lt_of_cell? w _ hx106_0)).trans hx106_0
                        replace p106 := eq_true p106
                        replace q106 := eq_true q106
                        have p107 : 0 ≤ ((ji27) : Int) := of_decide_eq_true (by first | (with_reducible assumption) | assumption)
                        have q107 : (ji27) < (l1.length : Int) := of_decide_eq_true (by first | (with_reducible assumption) | assumption)
                        obtain ⟨ad107, e107, hx107_0⟩ := Kd.at_int HR1.out (ji27) p107 q107
                        have hw107_0 := hx107_0
                        obtain rfl : ad106 = ad107 := (by injection e107)
                        replace hx107_0 := (HB.out.cell (World.block_lt_of_cell? w _ hx107_0)).trans hx107_0
                        replace p107 := eq_true p107
                        replace q107 := eq_true q107
                        refine start_ (n := 12) (S := fun w' => w'.cell? ⟨gb101, 0, none⟩ = some (.int .i64 a0_0) ∧ w'.cell? ⟨gb101, 1, none⟩ = some (.slice A0_1 l0_1.length c0_1) ∧ w'.cell? (ad106.add (x36_2).toNat) = some (.int .i64 (rd l1 x36_2)) ∧ w'.cell? (ad106.add ((ji27)).toNat) = some (.int .i64 (rd l1 (ji27)))) (ds := []) #[false, false, false, false, false, false, false, false, false, false, false, false] (by kernel_rfl) rfl rfl ⟨(blk_cell BK101.out 0).trans rfl, (blk_cell BK101.out 1).trans rfl, ((HB.out.cell (World.block_lt_of_cell? w _ hw106_0)).trans hw106_0), ((HB.out.cell (World.block_lt_of_cell? w _ hw107_0)).trans hw107_0)⟩ (fun hHeld => ?_); refine with_tabW walk_IsPath.tab6 walk_IsPath.bits6 (fun HT_ HW_ => ?_)
                        generalize wr.drew = w34 at BK101 HB hx106_0 hx107_0 hHeld ⊢
                        refine pure_ (i := 1) (N := some 40) (v := ?_) (a' := ?_) #[false, true, false, false, false, false, false, false, false, false, false, false] rfl rfl (any_of HT_.out (by kernel_rfl)) (fun _ _ _ h => h) (Or.inl ⟨by rfl, ?_⟩) ?_ ?_
                        rotate_left
                        · intro w'
                          go_simp
                          with_reducible rfl
                        rotate_left
                        · simp only [Act.put, List.setIfInBounds_toArray, List.set_cons_zero, List.set_cons_succ, i64_w, i32_w]
                          rfl
                        refine pure_ (i := 2) (N := some 41) (v := ?_) (a' := ?_) #[false, true, true, false, false, false, false, false, false, false, false, false] rfl rfl (any_of HT_.out (by kernel_rfl)) (fun _ _ _ h => h) (Or.inl ⟨by rfl, ?_⟩) ?_ ?_
                        rotate_left
                        · intro w'
                          go_simp
                          with_reducible rfl
                        rotate_left
                        · simp only [Act.put, List.setIfInBounds_toArray, List.set_cons_zero, List.set_cons_succ, i64_w, i32_w]
                          rfl
                        refine pure_ (i := 3) (N := some 42) (v := ?_) (a' := ?_) #[false, true, true, true, false, false, false, false, false, false, false, false] rfl rfl (any_of HT_.out (by kernel_rfl)) (fun _ _ _ h => h) (Or.inl ⟨by rfl, ?_⟩) ?_ ?_
                        rotate_left
                        · intro w'
                          go_simp
                          with_reducible rfl
                        rotate_left
                        · simp only [Act.put, List.setIfInBounds_toArray, List.set_cons_zero, List.set_cons_succ, i64_w, i32_w]
                          rfl
                        refine pure_ (i := 5) (N := some 44) (v := ?_) (a' := ?_) #[false, true, true, true, false, true, false, false, false, false, false, false] rfl rfl (any_of HT_.out (by kernel_rfl)) (fun _ _ _ h => h) (Or.inl ⟨by rfl, ?_⟩) ?_ ?_
                        rotate_left
                        · intro w'
                          go_simp
                          with_reducible rfl
                        rotate_left
                        · simp only [Act.put, List.setIfInBounds_toArray, List.set_cons_zero, List.set_cons_succ, i64_w, i32_w]
                          rfl
                        refine pure_ (i := 6) (N := some 45) (v := ?_) (a' := ?_) #[false, true, true, true, false, true, true, false, false, false, false, false] rfl rfl (any_of HT_.out (by kernel_rfl)) (fun _ _ _ h => h) (Or.inl ⟨by rfl, ?_⟩) ?_ ?_
                        rotate_left
                        · intro w'
                          go_simp
                          with_reducible rfl
                        rotate_left
                        · simp only [Act.put, List.setIfInBounds_toArray, List.set_cons_zero, List.set_cons_succ, i64_w, i32_w]
                          rfl
                        refine pure_ (i := 7) (N := some 46) (v := ?_) (a' := ?_) #[false, true, true, true, false, true, true, true, false, false, false, false] rfl rfl (any_of HT_.out (by kernel_rfl)) (fun _ _ _ h => h) (Or.inl ⟨by rfl, ?_⟩) ?_ ?_
                        rotate_left
                        · intro w'
                          go_simp
                          with_reducible rfl
                        rotate_left
                        · simp only [Act.put, List.setIfInBounds_toArray, List.set_cons_zero, List.set_cons_succ, i64_w, i32_w]
                          rfl
                        refine pure_ (i := 8) (N := some 47) (v := ?_) (a' := ?_) #[false, true, true, true, false, true, true, true, true, false, false, false] rfl rfl (any_of HT_.out (by kernel_rfl)) (fun _ _ _ h => h) (Or.inl ⟨by rfl, ?_⟩) ?_ ?_
                        rotate_left
                        · intro w'
                          go_simp
                          with_reducible rfl
                        rotate_left
                        · simp only [Act.put, List.setIfInBounds_toArray, List.set_cons_zero, List.set_cons_succ, i64_w, i32_w]
                          rfl
                        refine take_ (i := 0) (N := some 39) (v := ?_) (a' := ?_) #[true, true, true, true, false, true, true, true, true, false, false, false] rfl rfl (take_ofW HT_.out HW_.out (by kernel_rfl)) (fun _ _ _ h => h) (Or.inl ⟨by rfl, ?_⟩) hHeld ?_ ?_
                        rotate_left
                        · rintro w' ⟨s0, s1, s2, s3⟩
                          go_simp
                          with_reducible rfl
                        rotate_left
                        · simp only [Act.put, List.setIfInBounds_toArray, List.set_cons_zero, List.set_cons_succ, i64_w, i32_w]
                          rfl
                        refine take_ (i := 4) (N := some 43) (v := ?_) (a' := ?_) #[true, true, true, true, true, true, true, true, true, false, false, false] rfl rfl (take_ofW HT_.out HW_.out (by kernel_rfl)) (fun _ _ _ h => h) (Or.inl ⟨by rfl, ?_⟩) hHeld ?_ ?_
                        rotate_left
                        · rintro w' ⟨s0, s1, s2, s3⟩
                          go_simp
                          with_reducible rfl
                        rotate_left
                        · simp only [Act.put, List.setIfInBounds_toArray, List.set_cons_zero, List.set_cons_succ, i64_w, i32_w]
                          rfl
                        refine take_ (i := 9) (N := some 48) (v := ?_) (a' := ?_) #[true, true, true, true, true, true, true, true, true, true, false, false] rfl rfl (take_ofW HT_.out HW_.out (by kernel_rfl)) (fun _ _ _ h => h) (Or.inl ⟨by rfl, ?_⟩) hHeld ?_ ?_
                        rotate_left
                        · rintro w' ⟨s0, s1, s2, s3⟩
                          go_simp
                          with_reducible rfl
                        rotate_left
                        · simp only [Act.put, List.setIfInBounds_toArray, List.set_cons_zero, List.set_cons_succ, i64_w, i32_w]
                          rfl
                        refine one_ (i := 10) (N := some 49) #[true, true, true, true, true, true, true, true, true, true, true, false] rfl rfl (one_of HT_.out (by kernel_rfl)) (by decide) (fun K hK => ?_)
                        refine goes_ Try.func49 (by kernel_rfl) rfl #[.agg #[.int .i64 a0_0, .slice A0_1 l0_1.length c0_1], .int .i64 (rd l1 x36_2), .int .i64 (rd l1 (ji27))] (by rfl) rfl rfl (by (try simp only [List.map_toArray, List.map_cons, List.map_nil]); first | done | (simp only [hji27]; rfl) | rfl | (simp only [List.length_drop, List.length_take]; rfl)) ?_
                        with_reducible refine (graph_Has.calls a0_0 _ _ l0_1 (rd l1 x36_2) (rd l1 (ji27)) false _ ?side1 ?side2 A30.out).mono ?_
                        (case side1 => repeat (first | exact (Kd.C_below HR0_1.out HB.out) | (with_reducible refine Kd.C_alloc ?_ _) | (with_reducible refine Kd.C_drewN ?_ _) | (with_reducible refine Kd.C_drew ?_)))
                        (case side2 => exact HC0_1.out)
                        rintro e w35 ⟨rfl, hb⟩
                        refine ⟨_, rfl, ?_⟩
                        have n0_ := Aside0.mk (blk_below (g := gb101) (o := .cells #[.int .i64 a0_0, .slice A0_1 l0_1.length c0_1] 31 (0, 0)) (by (with_reducible repeat (first | refine blk_drewN ?_ _ | refine blk_drew ?_ | refine blk_alloc ?_ _)); exact BK101.out) hb)
                        have n1_ := Aside0.mk (below_step (by repeat (first | (with_reducible first | exact HB.out | apply below_alloc | apply pw_below_drewN | apply below_drew1 | refine below_set ?_ GE101.out) | exact HB.out)) hb)
                        clear BK101
                        clear HB
                        have BK101 := n0_
                        have HB := n1_
                        clear n0_ n1_
                        (try clear hb)
                        (try clear hb2)
                        (try clear hk)
                        (try clear hi)
                        refine hK.out _ _ ⟨(blk_cell BK101.out 0).trans rfl, (blk_cell BK101.out 1).trans rfl, ((HB.out.cell (World.block_lt_of_cell? w _ hw106_0)).trans hw106_0), ((HB.out.cell (World.block_lt_of_cell? w _ hw107_0)).trans hw107_0)⟩ (fun hHeld => ?_)
                        clear hK K
                        refine norm_ (a' := ?_) ?_ ?_
                        rotate_left
                        · show Act.put _ (some 49) _ = _
                          simp only [Act.put, List.setIfInBounds_toArray, List.set_cons_zero, List.set_cons_succ, i64_w, i32_w]
                          rfl
                        refine pure_ (i := 11) (N := some 50) (v := ?_) (a' := ?_) #[true, true, true, true, true, true, true, true, true, true, true, true] rfl rfl (any_of HT_.out (by kernel_rfl)) (fun _ _ _ h => h) (Or.inl ⟨by rfl, ?_⟩) ?_ ?_
                        rotate_left
                        · intro w'
                          go_simp
                          with_reducible rfl
                        rotate_left
                        · simp only [Act.put, List.setIfInBounds_toArray, List.set_cons_zero, List.set_cons_succ, i64_w, i32_w]
                          rfl
                        refine done_ (done_of HT_.out (by kernel_rfl)) ?_
                        try go_wp2
                        go_ret
                        exact ⟨by first | rfl | (simp [errW_none, errW_some] <;> rfl) | (simp only [← hji27]; first | rfl | (simp [errW_none, errW_some] <;> rfl)) | (simp [*, errW_none, errW_some] <;> rfl), by repeat (first | (with_reducible first | exact HB.out | apply below_alloc | apply pw_below_drewN | apply below_drew1 | refine below_set ?_ GE101.out) | exact HB.out)⟩
                    · rw [if_neg c29] at H
                      exact absurd H (by simp)
                  · rw [if_neg c28] at H
                    exact absurd H (by simp)
                · rw [if_neg c26] at H
                  exact absurd H (by simp)
              · rw [if_neg c25] at H
                exact absurd H (by simp)
            · rw [if_neg c24] at H
              have c24b0 : decide (x36_2 < (wrap64 ((l1.length : Int) - 1))) = false := decide_eq_false c24
              clear c24
              obtain rfl := Option.some.inj H
              go_wp2
              go_ret
              exact ⟨by first | rfl | (simp [errW_none, errW_some] <;> rfl) | (simp [*, errW_none, errW_some] <;> rfl), by repeat (first | (with_reducible first | exact HB.out | apply below_alloc | apply pw_below_drewN | apply below_drew1 | refine below_set ?_ GE101.out) | exact HB.out)⟩
end Go.Proofs.Ytkemhnfaheplhaa.F
namespace Go.Proofs.Ytkemhnfaheplhaa.F
open Go.RowKit Go.Proofs.YtkemhnfaheplhaaW.PrintWords Go.Proofs.YtkemhnfaheplhaaW.PrintLast Go.Proofs.YtkemhnfaheplhaaW.PrintMore
set_option linter.unusedVariables false
set_option linter.unusedSimpArgs false
def stepsB (N : Int) (E : List S69) (p : List Int) (i : Nat) : Nat → Bool
  | 0 => true
  | n + 1 => hasB N E (rd p i) (rd p (i + 1)) && stepsB N E p (i + 1) n
def isPathB (N : Int) (E : List S69) (p : List Int) : Bool := rightB N E && decide (0 < p.length) && decide (0 ≤ rd p 0) && decide (rd p 0 < N) && unlikeB p && stepsB N E p 0 (p.length - 1)
theorem isPath_l0 (N : Int) (E : List S69) (p : List Int) (hp : p.length ≤ 8000000) : ∀ (n i k : Nat), i + n = p.length - 1 → n < k → 0 < p.length → walk_IsPath.l0 k p ((p.length : Int) - 1) i N E = some (stepsB N E p i n)
  | 0, i, k, h, hk, h0 => by
    obtain ⟨k, rfl⟩ : ∃ m, k = m + 1 := ⟨k - 1, by omega⟩
    rw [walk_IsPath.l0, if_neg (by omega)]
    rfl
  | n + 1, i, k, h, hk, h0 => by
    obtain ⟨k, rfl⟩ : ∃ m, k = m + 1 := ⟨k - 1, by omega⟩
    have hw : wrap64 ((i : Int) + 1) = ((i + 1 : Nat) : Int) := by simp [wrap64]; omega
    rw [walk_IsPath.l0, hw, if_pos (by omega), if_pos (by omega), if_pos (by omega), if_pos (by omega), if_pos (by omega)]
    simp only [graph_Has.f, Option.bind_some]
    have ih := isPath_l0 N E p hp n (i + 1) k (by omega) (by omega) h0
    rw [ih]
    have e : rd p ((i + 1 : Nat) : Int) = rd p ((i : Int) + 1) := rfl
    rw [e, stepsB]
    cases hasB N E (rd p i) (rd p ((i : Int) + 1)) <;> rfl
theorem isPath_f (N : Int) (E : List S69) (p : List Int) (hp : p.length ≤ 8000000) : walk_IsPath.f (p.length + 2) N E p = some (isPathB N E p) := by
  have hj : ∀ (k : Nat), walk_IsPath.j0 (k + 1) p true N E = some false := fun k => by rw [walk_IsPath.j0, if_pos rfl]
  simp only [walk_IsPath.f, graph_Right.f, Option.bind_some, isPathB]
  cases hR : rightB N E
  · rw [if_neg (by decide)]
    rw [hj]; rfl
  · rw [if_pos rfl]
    by_cases h0 : p.length = 0
    · rw [if_pos (by omega), hj, decide_eq_false (show ¬ 0 < p.length by omega)]
      rfl
    · rw [if_neg (by omega), if_pos (by omega)]
      by_cases h1 : rd p 0 < 0
      · rw [if_pos h1, hj, decide_eq_false (show ¬ 0 ≤ rd p 0 by omega)]
        simp
      · rw [if_neg h1]
        by_cases h2 : rd p 0 ≥ N
        · rw [if_pos h2, hj, decide_eq_false (show ¬ rd p 0 < N by omega)]
          simp
        · rw [if_neg h2, walk_unlike.f, if_pos hp]
          simp only [Option.bind_some]
          rw [decide_eq_true (show 0 < p.length by omega), decide_eq_true (show 0 ≤ rd p 0 by omega), decide_eq_true (show rd p 0 < N by omega)]
          cases hU : unlikeB p
          · rw [show (!false) = true from rfl, hj]; simp
          · have hw : wrap64 ((p.length : Int) - 1) = (p.length : Int) - 1 := by simp [wrap64]; omega
            rw [walk_IsPath.j0, if_neg (by decide), hw]
            have := isPath_l0 N E p hp (p.length - 1) 0 (p.length + 1) (by omega) (by omega) (by omega)
            simp only [Int.ofNat_zero] at this
            simp
            exact this
theorem isPath_calls (N : Int) (A : Option Addr) (c : Nat) (E : List S69) (B : Option Addr) (d : Nat) (p : List Int) (w : World) (hr : Kd.C k69 w A E.length E) (hc : E.length ≤ c) (hq : Kd.C (Kd.int .i64) w B p.length p) (hd : p.length ≤ d) (hp : p.length ≤ 8000000) :
    Calls Try.prog 66 #[.agg #[.int .i64 N, .slice A E.length c], .slice B p.length d] w fun e w' => e = .returned (.bool (isPathB N E p)) ∧ Below w.heap.size w w' :=
  walk_IsPath.calls _ N A c E B d p _ w hr hc hq hd (isPath_f N E p hp)
end Go.Proofs.Ytkemhnfaheplhaa.F
namespace Go.Proofs.Ytkemhnfaheplhaa.F
open Go.RowKit Go.Proofs.YtkemhnfaheplhaaW.PrintWords Go.Proofs.YtkemhnfaheplhaaW.PrintLast Go.Proofs.YtkemhnfaheplhaaW.PrintMore
attribute [local go_sem] max2_int min2_int max_two min_two max_three min_three max_four min_four
set_option linter.unusedVariables false
set_option linter.unusedSimpArgs false
def topo_tops.f (a0 : Int) : Option (Int) := if a0 = 1 then (some 4) else (some 2)
set_option maxHeartbeats 8000000 in
set_option maxRecDepth 100000 in
theorem topo_tops.calls (a0 : Int) (r : Int) (w : World) (h : topo_tops.f a0 = some r) :
    Calls Try.prog 65 #[.int .i64 a0] w fun e w' => e = .returned (.int .i64 r) ∧ Drawn0 w w' := by
  have H : (if a0 = 1 then (some 4) else (some 2)) = some r := h
  clear h
  by_cases c2 : a0 = 1
  · rw [if_pos c2] at H
    have c2b0 : (a0 == 1) = true := beq_iff_eq.mpr c2
    have c2b1 : (a0 != 1) = false := bne_eq_false_iff_eq.mpr c2
    clear c2
    obtain rfl := Option.some.inj H
    go_enter Try.func65, Try.ntmps65
    go_wp2
    go_ret
    exact ⟨by first | rfl | (simp; done) | (simp [*]; done), by repeat (first | exact Drawn0.refl _ | apply Drawn0.step)⟩
  · rw [if_neg c2] at H
    have c2b0 : (a0 == 1) = false := beq_eq_false_iff_ne.mpr c2
    have c2b1 : (a0 != 1) = true := bne_iff_ne.mpr c2
    obtain rfl := Option.some.inj H
    go_enter Try.func65, Try.ntmps65
    go_wp2
    go_ret
    exact ⟨by first | rfl | (simp; done) | (simp [*]; done), by repeat (first | exact Drawn0.refl _ | apply Drawn0.step)⟩
end Go.Proofs.Ytkemhnfaheplhaa.F
