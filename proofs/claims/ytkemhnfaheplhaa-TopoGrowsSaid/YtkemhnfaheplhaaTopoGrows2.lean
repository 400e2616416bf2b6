/-
  A region that draws its order, of which some operations (E) come up in one order alone, and each other one yields the same value in every world that may stand: one walk of the text's order serves every order. Over any program.
-/
import Derived.Deep.Quiet
import Derived.Below
import Derived.Test.YtkemhnfaheplhaaTopoGrows1
namespace Go.Proofs.Ytkemhnfaheplhaa.Mix
open Go.RowKit
structure XW (C : World → Prop) where
  val : World
  ok : C val
abbrev BWp (W : World) : World → Prop := fun w => Below W.heap.size W w
abbrev BW (W : World) : Type := XW (BWp W)
theorem BW.below {W : World} (x : BW W) : Below W.heap.size W x.val := x.ok
instance bw_nonempty (W : World) : Nonempty (BW W) := ⟨⟨W, Below.refl _ W⟩⟩
def QF : Exit → Act → World → Prop := fun _ _ _ => False
theorem qf_letsOut : ¬ LetsOut QF := fun ⟨_, _, h⟩ => h
def CM (W0 : World → Prop) (n k : Nat) : World → Prop := fun w => if k < n then ∃ x : XW W0, w = x.val else True
section
variable {P : Program} {ops : Array Oper} {W0 : World → Prop} {n : Nat} {E : Nat → Bool}
def seqM (P : Program) (ops : Array Oper) (W0 : World → Prop) (n : Nat) (E : Nat → Bool) (K : Act → World → Prop) : List Nat → Act → World → Prop
  | [], a, w => K a w
  | k :: r, a, w => CM W0 n k w ∧ (if E k then wpOp P ops QF k (fun a' w' => CM W0 n k w' ∧ seqM P ops W0 n E K r a' w') a w else qOp P ops (CM W0 n k) k (fun a' => seqM P ops W0 n E K r a' w) a)
def plainOp (o : Oper) : Bool :=
  match o.op with
  | .move _ | .assign _ | .pick .. | .load .. | .binOp .. | .unOp .. | .convert .. | .slice .. | .fieldAddr .. | .field .. | .indexAddr .. | .index .. | .extract .. | .build .. | .lookup .. => true
  | .call { callee := .builtin .len, .. } | .call { callee := .builtin .cap, .. } | .call { callee := .builtin .min, .. } | .call { callee := .builtin .max, .. } => true
  | _ => false
theorem value_of' {s : Sem Value} {w w' : World} {x : Next} (h : ((s.run P w).andThen fun a w' => Result.ok (Next.value a) w') = .ok x w') : ∃ v, x = .value v := by
  cases hs : s.run P w with
  | ok v w1 => rw [hs] at h; simp [Result.andThen] at h; exact ⟨v, h.1.symm⟩
  | halt x w1 => rw [hs] at h; simp [Result.andThen] at h
theorem value_of {s : Sem Value} {w w' : World} {x : Next} (h : (do pure (Next.value (← s)) : Sem Next).run P w = .ok x w') : ∃ v, x = .value v := by
  simp only [Sem.run_bind, Sem.run_pure] at h
  cases hs : s.run P w with
  | ok v w1 => rw [hs] at h; simp [Result.andThen] at h; exact ⟨v, h.1.symm⟩
  | halt x w1 => rw [hs] at h; simp [Result.andThen] at h
theorem plain_value {o : Oper} (hp : plainOp o = true) {ρ : Operand → Value} {w w' : World} {x : Next} (h : (execOp ρ o).run P w = .ok x w') : ∃ v, x = .value v := by
  obtain ⟨dst, op, type, pos, after, guard⟩ := o
  cases op <;> (first | (simp only [execOp] at h; exact value_of h) | (simp [plainOp] at hp; done) | skip)
  case move => simp [execOp, Sem.run_pure] at h; exact ⟨_, h.1.symm⟩
  case assign => simp [execOp, Sem.run_pure] at h; exact ⟨_, h.1.symm⟩
  case pick c a b =>
    simp only [execOp, Sem.run_bind] at h
    cases hs : (asBool (ρ c)).run P w with
    | ok v w1 => rw [hs] at h; simp [Result.andThen, Sem.run_pure] at h; exact ⟨_, h.1.symm⟩
    | halt x w1 => rw [hs] at h; simp [Result.andThen] at h
  case call c =>
    obtain ⟨callee, args, argTypes⟩ := c
    cases callee with
    | builtin b =>
      cases b <;> first | (simp [plainOp] at hp; done) | (simp only [execOp, resolve, Sem.run_bind, Sem.run_pure, Result.andThen_ok, invoke, builtin] at h; exact value_of' h)
    | _ => simp [plainOp] at hp
theorem quiet_run {o : Oper} (hp : plainOp o = true) {a : Act} {C : World → Prop} {w : World} {v : Value} (h : o.quietAt P a C w v) : (execOp a.eval o).run P w = .ok (.value v) w := by
  unfold Oper.quietAt at h
  cases hr : (execOp a.eval o).run P w with
  | ok x w' =>
    rw [hr] at h
    obtain ⟨u, rfl⟩ := plain_value hp hr
    simp only [Oper.quietUpon] at h
    rw [h.1, h.2]
  | halt x w' => rw [hr] at h; exact h.elim
def After (o : Oper) (a a1 : Act) : Prop := ∃ v, a1 = a.put o.dst v ∨ ∃ d, a1 = ({ a with defers := d :: a.defers } : Act).put o.dst v
theorem op_reaches {o : Oper} {a : Act} {w : World} {K : Act → World → Prop} (h : o.wp P a w K QF) : ∃ a1 w1, After o a a1 ∧ K a1 w1 := by
  unfold Oper.wp at h
  cases hr : (execOp a.eval o).run P w with
  | halt x w' => rw [hr] at h; cases x <;> simp only [Oper.upon] at h <;> exact (h : False).elim
  | ok x w' =>
    rw [hr] at h
    cases x <;> simp only [Oper.upon] at h
    case value v => exact ⟨_, _, ⟨v, .inl rfl⟩, h⟩
    case skip => exact ⟨_, _, ⟨undef, .inl rfl⟩, h⟩
    case defer d => exact ⟨_, _, ⟨undef, .inr ⟨d, rfl⟩⟩, h⟩
    case enter f args =>
      obtain ⟨e, w2, fr, hR, _⟩ := h []
      cases e with
      | returned v => exact ⟨_, _, ⟨v, .inl rfl⟩, hR⟩
      | panicked c => exact (hR : False).elim
      | outgrown => exact (qf_letsOut hR).elim
    case row row args =>
      obtain ⟨v, w2, hR, _⟩ := h default []
      exact ⟨_, _, ⟨v, .inl rfl⟩, hR⟩
    all_goals exact h.elim
theorem wpOp_reaches {i : Nat} {o : Oper} (hi : ops[i]? = some o) {a : Act} {w : World} {K : Act → World → Prop} (h : wpOp P ops QF i K a w) : ∃ a1 w1, After o a a1 ∧ K a1 w1 := by
  unfold wpOp at h
  simp only [hi] at h
  split at h
  · rcases h with h | ⟨_, h⟩
    · exact op_reaches h
    · exact (qf_letsOut h).elim
  · exact ⟨_, _, ⟨undef, .inl rfl⟩, h⟩
theorem wpOp_push {i : Nat} {o : Oper} (hi : ops[i]? = some o) (hs : ∀ cs b, o.op ≠ .select cs b) {d : Option Tmp} (h1 : ∀ t, d = some t → t ∉ o.looksAt ops) (h2 : ∀ t, d = some t → o.dst ≠ some t)
    {a : Act} {w : World} {u : Value} {K K' : Act → World → Prop} (hK : ∀ a1 w1, After o a a1 → K a1 w1 → K' (a1.put d u) w1) (h : wpOp P ops QF i K a w) : wpOp P ops QF i K' (a.put d u) w := by
  unfold wpOp at h ⊢
  simp only [hi] at h ⊢
  rw [wanted_put o a d u h1]
  split
  · rename_i hw
    simp only [hw, if_true] at h
    rcases h with h | ⟨_, h⟩
    case inr => exact (qf_letsOut h).elim
    refine .inl ?_
    unfold Oper.wp at h ⊢
    rw [execOp_put o hs a d u h1]
    have keep : ∀ v w1, K (a.put o.dst v) w1 → K' ((a.put d u).put o.dst v) w1 := fun v w1 hk => by
      rw [Act.put_comm a u v h2]; exact hK _ _ ⟨v, .inl rfl⟩ hk
    cases hr : (execOp a.eval o).run P w with
    | halt x w' => rw [hr] at h; cases x <;> simp only [Oper.upon] at h <;> exact (h : False).elim
    | ok x w' =>
      rw [hr] at h
      cases x <;> simp only [Oper.upon] at h ⊢
      case value v => exact keep _ _ h
      case skip => exact keep _ _ h
      case defer x =>
        rw [Act.put_defers, Act.put_comm _ u undef h2]
        exact hK _ _ ⟨undef, .inr ⟨x, rfl⟩⟩ h
      case enter f args =>
        refine Calls.mono h fun e w2 he => ?_
        cases e with
        | returned v => exact keep _ _ he
        | panicked c => exact he
        | outgrown => exact he
      case row row args => exact Rows.mono h fun v w2 he => keep _ _ he
      all_goals exact h.elim
  · rename_i hw
    simp only [hw] at h
    have : (a.put d u).put o.dst undef = (a.put o.dst undef).put d u := Act.put_comm a u undef h2
    rw [this]
    exact hK _ _ ⟨undef, .inl rfl⟩ h
theorem wpOp_pull {i : Nat} {o : Oper} (hi : ops[i]? = some o) (hs : ∀ cs b, o.op ≠ .select cs b) {d : Option Tmp} (h1 : ∀ t, d = some t → t ∉ o.looksAt ops) (h2 : ∀ t, d = some t → o.dst ≠ some t)
    {a : Act} {w : World} {u : Value} {K K' : Act → World → Prop} (hK : ∀ a1 w1, After o a a1 → K (a1.put d u) w1 → K' a1 w1) (h : wpOp P ops QF i K (a.put d u) w) : wpOp P ops QF i K' a w := by
  unfold wpOp at h ⊢
  simp only [hi] at h ⊢
  rw [wanted_put o a d u h1] at h
  split
  · rename_i hw
    simp only [hw, if_true] at h
    rcases h with h | ⟨_, h⟩
    case inr => exact (qf_letsOut h).elim
    refine .inl ?_
    unfold Oper.wp at h ⊢
    rw [execOp_put o hs a d u h1] at h
    have keep : ∀ v w1, K ((a.put d u).put o.dst v) w1 → K' (a.put o.dst v) w1 := fun v w1 hk => by
      rw [Act.put_comm a u v h2] at hk; exact hK _ _ ⟨v, .inl rfl⟩ hk
    cases hr : (execOp a.eval o).run P w with
    | halt x w' => rw [hr] at h; cases x <;> simp only [Oper.upon] at h <;> exact (h : False).elim
    | ok x w' =>
      rw [hr] at h
      cases x <;> simp only [Oper.upon] at h ⊢
      case value v => exact keep _ _ h
      case skip => exact keep _ _ h
      case defer x =>
        rw [Act.put_defers, Act.put_comm _ u undef h2] at h
        exact hK _ _ ⟨undef, .inr ⟨x, rfl⟩⟩ h
      case enter f args =>
        refine Calls.mono h fun e w2 he => ?_
        cases e with
        | returned v => exact keep _ _ he
        | panicked c => exact he
        | outgrown => exact he
      case row row args => exact Rows.mono h fun v w2 he => keep _ _ he
      all_goals exact h.elim
  · rename_i hw
    simp only [hw] at h
    have e : (a.put d u).put o.dst undef = (a.put o.dst undef).put d u := Act.put_comm a u undef h2
    rw [e] at h
    exact hK _ _ ⟨undef, .inl rfl⟩ h
theorem YieldsIn.after {C : World → Prop} {o oj : Oper} {u : Value} {a a1 : Act} (hs : ∀ cs b, oj.op ≠ .select cs b) (h3 : ∀ t, o.dst = some t → t ∉ oj.looksAt ops) (ha : After o a a1) : YieldsIn P ops C oj u a1 ↔ YieldsIn P ops C oj u a := by
  obtain ⟨v, rfl | ⟨d, rfl⟩⟩ := ha
  · exact ⟨fun h => h.of_same (execOp_put oj hs a o.dst v h3).symm (wanted_put oj a o.dst v h3).symm, fun h => h.of_same (execOp_put oj hs a o.dst v h3) (wanted_put oj a o.dst v h3)⟩
  · exact ⟨fun h => h.of_same (execOp_put oj hs { a with defers := d :: a.defers } o.dst v h3).symm (wanted_put oj { a with defers := d :: a.defers } o.dst v h3).symm,
      fun h => h.of_same (execOp_put oj hs { a with defers := d :: a.defers } o.dst v h3) (wanted_put oj { a with defers := d :: a.defers } o.dst v h3)⟩
theorem yields_wpOp {C : World → Prop} {j : Nat} {oj : Oper} {u : Value} {a : Act} {w : World} (hj : ops[j]? = some oj) (hp : plainOp oj = true) (hC : C w) (hy : YieldsIn P ops C oj u a) {K : Act → World → Prop} :
    wpOp P ops QF j K a w ↔ K (a.put oj.dst u) w := by
  unfold wpOp
  simp only [hj]
  rcases hy with ⟨hw, hv⟩ | ⟨hw, rfl⟩
  · simp only [hw, if_true, Oper.wp, quiet_run hp (hv w hC), Oper.upon]
    exact ⟨fun h => h.resolve_right fun h => qf_letsOut h.2, .inl⟩
  · simp only [hw, Bool.false_eq_true, if_false]
structure Free (ops : Array Oper) (n : Nat) (E : Nat → Bool) (x j : Nat) : Prop where
  lt : x < j
  ap : ∀ ox oj, ops[x]? = some ox → ops[j]? = some oj → ox.apart ops oj = true
  one : ¬ (E x = true ∧ E j = true)
  cls : E x = false → E j = true → x < n → j < n
structure Good (ops : Array Oper) (E : Nat → Bool) : Prop where
  sel : ∀ (j : Nat) (o : Oper) cs b, ops[j]? = some o → o.op ≠ .select cs b
  plain : ∀ (j : Nat) (o : Oper), ops[j]? = some o → E j = false → plainOp o = true
theorem cm_mono {x j : Nat} {w : World} (h : x < j) (hx : CM W0 n x w) : CM W0 n j w := by
  unfold CM at *
  split
  · rename_i hj
    rw [if_pos (by omega)] at hx
    exact hx
  · trivial
theorem yields_in (hg : Good ops E) {K : Act → World → Prop} {j : Nat} {oj : Oper} (hj : ops[j]? = some oj) (hEj : E j = false) {l2 : List Nat} : ∀ (l1 : List Nat) (a : Act) (w : World),
    (∀ x ∈ l1, Free ops n E x j ∧ x < ops.size) → seqM P ops W0 n E K (l1 ++ j :: l2) a w → ∃ u, YieldsIn P ops (CM W0 n j) oj u a
  | [], a, w, _, h => by
    obtain ⟨_, h⟩ := h
    rw [if_neg (by simp [hEj])] at h
    obtain ⟨u, hu, _⟩ := yieldsIn_of_qOp hj h
    exact ⟨u, hu⟩
  | x :: l1, a, w, hf, h => by
    obtain ⟨_, h⟩ := h
    obtain ⟨hfx, hxs⟩ := hf x List.mem_cons_self
    have hx : ops[x]? = some ops[x] := Array.getElem?_eq_getElem hxs
    obtain ⟨h1, h2, h3⟩ := Oper.apart_spec (hfx.ap _ _ hx hj)
    have hf' : ∀ y ∈ l1, Free ops n E y j ∧ y < ops.size := fun y hy => hf y (List.mem_cons_of_mem _ hy)
    cases hE : E x with
    | true =>
      rw [if_pos hE] at h
      obtain ⟨a1, w1, ha, _, hk⟩ := wpOp_reaches hx h
      obtain ⟨u, hu⟩ := yields_in hg hj hEj l1 a1 w1 hf' hk
      exact ⟨u, (YieldsIn.after (hg.sel j oj · · hj) h1 ha).1 hu⟩
    | false =>
      rw [if_neg (by simp [hE])] at h
      obtain ⟨v, _, hk⟩ := yieldsIn_of_qOp hx h
      obtain ⟨u, hu⟩ := yields_in hg hj hEj l1 _ w hf' hk
      exact ⟨u, (YieldsIn.after (hg.sel j oj · · hj) h1 ⟨v, .inl rfl⟩).1 hu⟩
theorem front (hg : Good ops E) {K : Act → World → Prop} {j : Nat} (hjs : j < ops.size) {l2 : List Nat} : ∀ (l1 : List Nat) (a : Act) (w : World),
    (∀ x ∈ l1, Free ops n E x j ∧ x < ops.size) → seqM P ops W0 n E K (l1 ++ j :: l2) a w →
      wpOp P ops QF j (fun a' w' => (E j = false → w' = w) ∧ (E j = true → CM W0 n j w') ∧ seqM P ops W0 n E K (l1 ++ l2) a' w') a w
  | [], a, w, _, h => by
    have hj : ops[j]? = some ops[j] := Array.getElem?_eq_getElem hjs
    obtain ⟨hc, h⟩ := h
    cases hE : E j with
    | true =>
      rw [if_pos hE] at h
      exact wpOp_mono (fun a' w' hk => ⟨fun h => (by cases h), fun _ => hk.1, hk.2⟩) h
    | false =>
      rw [if_neg (by simp [hE])] at h
      obtain ⟨u, hu, hk⟩ := yieldsIn_of_qOp hj h
      exact (yields_wpOp hj (hg.plain j _ hj hE) hc hu).2 ⟨fun _ => rfl, fun h => (by cases h), hk⟩
  | x :: l1, a, w, hf, h => by
    have hj : ops[j]? = some ops[j] := Array.getElem?_eq_getElem hjs
    obtain ⟨hc, h⟩ := h
    obtain ⟨hfx, hxs⟩ := hf x List.mem_cons_self
    have hx : ops[x]? = some ops[x] := Array.getElem?_eq_getElem hxs
    obtain ⟨h1, h2, h3⟩ := Oper.apart_spec (hfx.ap _ _ hx hj)
    have hf' : ∀ y ∈ l1, Free ops n E y j ∧ y < ops.size := fun y hy => hf y (List.mem_cons_of_mem _ hy)
    cases hE : E x with
    | false =>
      rw [if_neg (by simp [hE])] at h
      obtain ⟨v, hv, hk⟩ := yieldsIn_of_qOp hx h
      have ih := front hg hjs l1 _ w hf' hk
      refine wpOp_pull hj (hg.sel j _ · · hj) h1 h2 (fun a1 w1 ha hk1 => ?_) ih
      obtain ⟨k1, k2, k3⟩ := hk1
      refine ⟨k1, k2, ?_, ?_⟩
      · cases hEj : E j with
        | false => rw [k1 hEj]; exact hc
        | true =>
          have := k2 hEj
          unfold CM at *
          split
          · rename_i hxn
            rw [if_pos (hfx.cls hE hEj hxn)] at this
            exact this
          · trivial
      · rw [if_neg (by simp [hE])]
        exact YieldsIn.qOp hx ((YieldsIn.after (hg.sel x _ · · hx) h3 ha).2 hv) k3
    | true =>
      have hEj : E j = false := by
        cases hEj : E j with
        | false => rfl
        | true => exact absurd ⟨hE, hEj⟩ hfx.one
      rw [if_pos hE] at h
      obtain ⟨a1, w1, ha, _, hk⟩ := wpOp_reaches hx h
      obtain ⟨u, hu⟩ := yields_in hg hj hEj l1 a1 w1 hf' hk
      have hu' := (YieldsIn.after (hg.sel j _ · · hj) h1 ha).1 hu
      have hcj : CM W0 n j w := cm_mono hfx.lt hc
      refine (yields_wpOp hj (hg.plain j _ hj hEj) hcj hu').2 ⟨fun _ => rfl, fun h => (by rw [hEj] at h; cases h), hc, ?_⟩
      rw [if_pos hE]
      refine wpOp_push hx (hg.sel x _ · · hx) h3 (fun t ht he => h2 t he ht) (fun a2 w2 ha2 hk2 => ⟨hk2.1, ?_⟩) h
      have ih := front hg hjs l1 a2 w2 hf' hk2.2
      have hu2 := (YieldsIn.after (P := P) (hg.sel j _ · · hj) h1 ha2).2 hu'
      exact ((yields_wpOp hj (hg.plain j _ hj hEj) (cm_mono hfx.lt hk2.1) hu2).1 ih).2.2
theorem op_of_qf {o : Oper} {a : Act} {w : World} {K : Act → World → Prop} {Q : Exit → Act → World → Prop} (h : o.wp P a w K QF) : o.wp P a w K Q := by
  unfold Oper.wp at *
  cases hr : (execOp a.eval o).run P w with
  | halt x w' => rw [hr] at h; cases x <;> simp only [Oper.upon] at h <;> exact (h : False).elim
  | ok x w' =>
    rw [hr] at h
    cases x <;> simp only [Oper.upon] at h ⊢
    case enter f args =>
      refine Calls.mono h fun e w2 he => ?_
      cases e with
      | returned v => exact he
      | panicked c => exact (he : False).elim
      | outgrown => exact (qf_letsOut he).elim
    all_goals exact h
theorem wpOp_of_qf {i : Nat} {a : Act} {w : World} {K : Act → World → Prop} {Q : Exit → Act → World → Prop} (h : wpOp P ops QF i K a w) : wpOp P ops Q i K a w := by
  unfold wpOp at *
  split
  · rename_i hi; simp only [hi] at h; exact h
  · rename_i o hi
    simp only [hi] at h
    split
    · rename_i hw
      simp only [hw, if_true] at h
      rcases h with h | ⟨_, h⟩
      · exact .inl (op_of_qf h)
      · exact (qf_letsOut h).elim
    · rename_i hw
      simp only [hw] at h
      exact h
def mixOk (ops : Array Oper) (n : Nat) (E : Nat → Bool) : Bool :=
  let T := Region.before ops
  Region.noSelect ops && (List.range ops.size).all fun j => match ops[j]? with
    | none => true
    | some oj => (E j || plainOp oj) && oj.after.all (fun e => !Region.binds .any e || decide (e.on < j)) &&
      (List.range ops.size).all fun x =>
        if (T.getD j 0).testBit x then oj.after.any fun e => Region.binds .any e && (e.on == x || (T.getD e.on 0).testBit x)
        else !decide (x < j) || match ops[x]? with
          | none => true
          | some ox => ox.apart ops oj && !(E x && E j) && (E x || !E j || !decide (x < n) || decide (j < n))
def Shut (ops : Array Oper) (listed : Array Bool) : Prop := ∀ i oi, ops[i]? = some oi → listed.getD i false = true → ∀ e ∈ oi.after, Region.binds .any e = true → listed.getD e.on false = true
def unl (ops : Array Oper) (listed : Array Bool) : List Nat := (List.range ops.size).filter fun i => !listed.getD i true
theorem mixOk_at (h : mixOk ops n E = true) {j : Nat} {oj : Oper} (hj : ops[j]? = some oj) :
    (E j = true ∨ plainOp oj = true) ∧ (∀ e ∈ oj.after, Region.binds .any e = true → e.on < j) ∧
      (∀ x, x < ops.size → ((Region.before ops).getD j 0).testBit x = true → ∃ e ∈ oj.after, Region.binds .any e = true ∧ (e.on = x ∨ ((Region.before ops).getD e.on 0).testBit x = true)) ∧
      (∀ x, x < j → ((Region.before ops).getD j 0).testBit x = false → Free ops n E x j) := by
  have hjs : j < ops.size := (Array.getElem?_eq_some_iff.1 hj).1
  simp only [mixOk, Bool.and_eq_true, List.all_eq_true, List.mem_range] at h
  have h := h.2 j hjs
  rw [hj] at h
  simp only [Bool.and_eq_true, Bool.or_eq_true, List.all_eq_true, List.mem_range, Array.all_eq_true_iff_forall_mem, Bool.not_eq_true', decide_eq_true_eq] at h
  obtain ⟨⟨h1, h2⟩, h3⟩ := h
  refine ⟨h1, fun e he hb => (h2 e he).resolve_left (by simp [hb]), fun x hx hT => ?_, fun x hx hT => ?_⟩
  · have := h3 x hx
    rw [if_pos hT] at this
    obtain ⟨e, he, hb⟩ := Array.any_eq_true'.1 this
    simp only [Bool.and_eq_true, Bool.or_eq_true, beq_iff_eq] at hb
    exact ⟨e, he, hb.1, hb.2⟩
  · have hxs : x < ops.size := by omega
    have := h3 x hxs
    have hx' : ops[x]? = some ops[x] := Array.getElem?_eq_getElem hxs
    rw [if_neg (by rw [hT]; exact Bool.false_ne_true), hx'] at this
    simp only [Bool.or_eq_true, Bool.not_eq_true', decide_eq_false_iff_not, Bool.and_eq_true, Bool.and_eq_false_iff, decide_eq_true_eq] at this
    have := this.resolve_left (by omega)
    obtain ⟨⟨a1, a2⟩, a3⟩ := this
    refine ⟨hx, fun ox oj' hox hoj' => ?_, fun ⟨b1, b2⟩ => ?_, fun b1 b2 b3 => ?_⟩
    · rw [hx'] at hox; rw [hj] at hoj'
      cases hox; cases hoj'
      exact a1
    · rcases a2 with a2 | a2
      · rw [b1] at a2; cases a2
      · rw [b2] at a2; cases a2
    · rcases a3 with ((a3 | a3) | a3) | a3
      · rw [b1] at a3; cases a3
      · rw [b2] at a3; cases a3
      · exact absurd b3 a3
      · exact a3
theorem listed_of (h : mixOk ops n E = true) {listed : Array Bool} (hsh : Shut ops listed) : ∀ (j : Nat) (oj : Oper), ops[j]? = some oj → (∀ e ∈ oj.after, Region.binds .any e = true → listed.getD e.on false = true) →
    ∀ x, x < ops.size → ((Region.before ops).getD j 0).testBit x = true → listed.getD x false = true := by
  intro j
  induction j using Nat.strongRecOn with
  | _ j ih =>
    intro oj hj hd x hx hT
    obtain ⟨_, h2, h3, _⟩ := mixOk_at h hj
    obtain ⟨e, he, hb, hx' | hx'⟩ := h3 x hx hT
    · rw [← hx']; exact hd e he hb
    · have hon := h2 e he hb
      have hes : e.on < ops.size := Nat.lt_trans hon (Array.getElem?_eq_some_iff.1 hj).1
      have hl := hd e he hb
      have ho : ops[e.on]? = some ops[e.on] := Array.getElem?_eq_getElem hes
      exact ih e.on hon _ ho (hsh e.on _ ho hl) x hx hx'
theorem unl_lt (listed : Array Bool) : (unl ops listed).Pairwise (· < ·) := List.Pairwise.filter _ List.pairwise_lt_range
theorem mem_unl {listed : Array Bool} {i : Nat} : i ∈ unl ops listed ↔ i < ops.size ∧ listed.getD i true = false := by simp [unl]
theorem unl_set {listed : Array Bool} {j : Nat} {s t : List Nat} (hs : listed.size = ops.size) (h : unl ops listed = s ++ j :: t) : unl ops (listed.setIfInBounds j true) = s ++ t := by
  have hp := unl_lt (ops := ops) listed
  rw [h] at hp
  have hjm : j ∈ unl ops listed := by rw [h]; simp
  have hjs := (mem_unl.1 hjm).1
  have e : unl ops (listed.setIfInBounds j true) = (unl ops listed).filter (fun i => i ≠ j) := by
    unfold unl
    rw [List.filter_filter]
    apply List.filter_congr
    intro i hi
    by_cases hij : i = j
    · subst hij
      simp [hs, hjs]
    · rw [getD_set_ne true (Ne.symm hij)]
      simp [hij]
  rw [e, h, List.filter_append, List.filter_cons]
  simp only [ne_eq, not_true_eq_false, decide_false, Bool.false_eq_true, if_false]
  have h1 := List.pairwise_append.1 hp
  have h2 := List.pairwise_cons.1 h1.2.1
  rw [List.filter_eq_self.2, List.filter_eq_self.2]
  · intro a ha
    have := h2.1 a ha
    simp; omega
  · intro a ha
    have := h1.2.2 a ha j List.mem_cons_self
    simp; omega
theorem any_of_seq (h : mixOk ops n E = true) {Q : Exit → Act → World → Prop} {K : Act → World → Prop} (hQ : ∀ a w, K a w → Q .normal a w) : ∀ (fuel : Nat) (listed : Array Bool) (a : Act) (w : World),
    Shut ops listed → listed.size = ops.size → (unl ops listed).length ≤ fuel → seqM P ops W0 n E K (unl ops listed) a w → wpAny P .any ops Q fuel listed a w := by
  have hg : Good ops E := ⟨Region.noSelect_spec (by simp only [mixOk, Bool.and_eq_true] at h; exact h.1), fun j o hj hE => (mixOk_at h hj).1.resolve_left (by simp [hE])⟩
  have hready : ∀ listed j, j ∈ Region.ready .any ops listed → j ∈ unl ops listed := fun listed j hj => by
    obtain ⟨h0, o, ho, _⟩ := mem_ready.1 hj
    exact mem_unl.2 ⟨(Array.getElem?_eq_some_iff.1 ho).1, h0⟩
  intro fuel
  induction fuel with
  | zero =>
    intro listed a w hsh hsz hl hseq
    have he : unl ops listed = [] := List.eq_nil_of_length_eq_zero (by omega)
    rw [he] at hseq
    exact ⟨List.eq_nil_iff_forall_not_mem.2 (fun j hj => by have := hready _ _ hj; rw [he] at this; exact (List.not_mem_nil this)), hQ _ _ hseq⟩
  | succ fuel ih =>
    intro listed a w hsh hsz hl hseq
    refine ⟨fun h0 => ?_, fun j hj => ?_⟩
    · cases hu : unl ops listed with
      | nil => rw [hu] at hseq; exact hQ _ _ hseq
      | cons m r =>
        exfalso
        have hp := unl_lt (ops := ops) listed
        rw [hu] at hp
        have hm : m ∈ unl ops listed := by rw [hu]; simp
        obtain ⟨hms, hmu⟩ := mem_unl.1 hm
        have hm' : ops[m]? = some ops[m] := Array.getElem?_eq_getElem hms
        have : m ∈ Region.ready .any ops listed := mem_ready.2 ⟨hmu, _, hm', fun e he hb => by
          have hlt := (mixOk_at h hm').2.1 e he hb
          cases hx : listed.getD e.on false with
          | true => rfl
          | false =>
            exfalso
            have hes : e.on < listed.size := by omega
            have : e.on ∈ unl ops listed := mem_unl.2 ⟨by omega, by simp [hes] at hx ⊢; exact hx⟩
            rw [hu] at this
            rcases List.mem_cons.1 this with h1 | h1
            · omega
            · have := (List.pairwise_cons.1 hp).1 _ h1
              omega⟩
        rw [h0] at this
        cases this
    · have hjm := hready _ _ hj
      obtain ⟨s, t, hst⟩ := List.append_of_mem hjm
      obtain ⟨hjs, hju⟩ := mem_unl.1 hjm
      obtain ⟨_, oj, hoj, hdeps⟩ := mem_ready.1 hj
      have hp := unl_lt (ops := ops) listed
      rw [hst] at hp hseq
      have h1 := List.pairwise_append.1 hp
      have hfree : ∀ x ∈ s, Free ops n E x j ∧ x < ops.size := fun x hx => by
        have hxm : x ∈ unl ops listed := by rw [hst]; exact List.mem_append_left _ hx
        obtain ⟨hxs, hxu⟩ := mem_unl.1 hxm
        refine ⟨(mixOk_at h hoj).2.2.2 x (h1.2.2 x hx j List.mem_cons_self) ?_, hxs⟩
        cases hT : ((Region.before ops).getD j 0).testBit x with
        | false => rfl
        | true =>
          have := listed_of h hsh j oj hoj hdeps x hxs hT
          have hxl : x < listed.size := by omega
          simp [hxl] at this hxu
          rw [this] at hxu
          cases hxu
      refine wpOp_of_qf (wpOp_mono (fun a' w' hk => ?_) (front hg hjs s a w hfree hseq))
      have hset := unl_set hsz hst
      refine ih _ a' w' ?_ (by simpa using hsz) (by rw [hset]; rw [hst] at hl; simp at hl ⊢; omega) (by rw [hset]; exact hk.2.2)
      intro i oi hi hli e he hb
      by_cases hij : i = j
      · subst hij
        rw [hi] at hoj
        cases hoj
        exact getD_set_true (hdeps e he hb)
      · refine getD_set_true (hsh i oi hi ?_ e he hb)
        rwa [getD_set_ne false (Ne.symm hij)] at hli
def wpMix (P : Program) (ops : Array Oper) (W0 : World → Prop) (n : Nat) (E : Nat → Bool) (K : Act → World → Prop) : Nat → List Oper → Act → World → Prop
  | _, [], a, w => K a w
  | k, o :: r, a, w => CM W0 n k w ∧ (if E k then wpList P ops (fun e a' w' => e = .normal ∧ CM W0 n k w' ∧ wpMix P ops W0 n E K (k + 1) r a' w') [o] a w
      else if Region.wanted o (yielded ops a.tmps) then o.quiet P a (CM W0 n k) (fun a' => wpMix P ops W0 n E K (k + 1) r a' w) else wpMix P ops W0 n E K (k + 1) r (a.put o.dst undef) w)
theorem one_letsOut {K : Act → World → Prop} : ¬ LetsOut (fun e a' w' => e = Exit.normal ∧ K a' w') := fun ⟨_, _, h, _⟩ => by cases h
theorem seq_of_mix {K : Act → World → Prop} : ∀ (l : List Oper) (k : Nat) (a : Act) (w : World), (∀ i, l[i]? = ops[k + i]?) → wpMix P ops W0 n E K k l a w → seqM P ops W0 n E K (List.range' k l.length) a w
  | [], _, _, _, _, h => h
  | o :: r, k, a, w, hl, h => by
    have h0 : ops[k]? = some o := by simpa using (hl 0).symm
    have ih := fun a' w' => seq_of_mix (K := K) r (k + 1) a' w' (fun i => by have := hl (i + 1); simpa [Nat.add_assoc, Nat.add_comm 1 i] using this)
    obtain ⟨hc, h⟩ := h
    rw [List.length_cons, List.range'_succ]
    refine ⟨hc, ?_⟩
    cases hE : E k with
    | true =>
      rw [if_pos hE] at h
      rw [if_pos rfl]
      unfold wpOp
      simp only [h0]
      unfold wpList at h
      split
      · rename_i hw
        simp only [hw, if_true] at h
        rcases h with h | ⟨_, h⟩
        case inr => exact (one_letsOut h).elim
        refine .inl ?_
        unfold Oper.wp at h ⊢
        cases hr : (execOp a.eval o).run P w with
        | halt x w' => rw [hr] at h; cases x <;> simp only [Oper.upon] at h <;> first | exact (h : False).elim | (cases h.1)
        | ok x w' =>
          rw [hr] at h
          cases x <;> simp only [Oper.upon] at h ⊢
          case value v => exact ⟨h.2.1, ih _ _ h.2.2⟩
          case skip => exact ⟨h.2.1, ih _ _ h.2.2⟩
          case defer d => exact ⟨h.2.1, ih _ _ h.2.2⟩
          case enter f args =>
            refine Calls.mono h fun e w2 he => ?_
            cases e with
            | returned v => exact ⟨he.2.1, ih _ _ he.2.2⟩
            | panicked c => cases he.1
            | outgrown => exact (one_letsOut he).elim
          case row row args => exact Rows.mono h fun v w2 he => ⟨he.2.1, ih _ _ he.2.2⟩
          all_goals exact h.elim
      · rename_i hw
        simp only [hw] at h
        exact ⟨h.2.1, ih _ _ h.2.2⟩
    | false =>
      rw [if_neg (by simp [hE])] at h
      rw [if_neg (by simp)]
      unfold qOp
      simp only [h0]
      split
      · rename_i hw
        simp only [hw, if_true] at h
        exact Oper.quiet_mono (fun a' hk => ih a' w hk) h
      · rename_i hw
        simp only [hw] at h
        exact ih _ _ h
theorem region_mixC {id : Nat} {Q : Exit → Act → World → Prop} {a : Act} {W : World} {l : List Oper} (C0 : World → Prop) (n : Nat) (E : Nat → Bool) (hm : P.follows .mixedOrders = true) (hB : mixOk l.toArray n E = true)
    (h : wpMix P l.toArray C0 n E (fun a' w' => Q .normal a' w') 0 l a W.drew) : (Code.region id l.toArray true).wp P Q a W := by
  refine wp_region_any hm (any_of_seq hB (K := fun a' w' => Q .normal a' w') (fun _ _ h => h) _ _ _ _ ?_ (by simp) ?_ ?_ (W0 := C0))
  · intro i oi hi hli
    have : (Array.replicate l.toArray.size false).getD i false = false := by
      rcases Nat.lt_or_ge i (Array.replicate l.toArray.size false).size with h' | h'
      · simp at h'; simp [h']
      · rw [Array.getD_eq_getD_getElem?, Array.getElem?_eq_none h']; rfl
    rw [this] at hli
    cases hli
  · exact Nat.le_trans (List.length_filter_le _ _) (by simp)
  · have e : unl l.toArray (Array.replicate l.toArray.size false) = List.range' 0 l.length := by
      unfold unl
      rw [List.filter_eq_self.2]
      · simp [List.range_eq_range']
      · intro i hi
        simp at hi ⊢
        simp [hi]
    rw [e]
    exact seq_of_mix l 0 a W.drew (by simp) h
theorem region_mix {id : Nat} {Q : Exit → Act → World → Prop} {a : Act} {W : World} {l : List Oper} (n : Nat) (E : Nat → Bool) (hm : P.follows .mixedOrders = true) (hB : mixOk l.toArray n E = true)
    (h : wpMix P l.toArray (BWp W) n E (fun a' w' => Q .normal a' w') 0 l a W.drew) : (Code.region id l.toArray true).wp P Q a W := region_mixC (BWp W) n E hm hB h
end
end Go.Proofs.Ytkemhnfaheplhaa.Mix
