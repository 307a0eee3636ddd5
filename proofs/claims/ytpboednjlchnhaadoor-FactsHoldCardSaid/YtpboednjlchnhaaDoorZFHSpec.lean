/- What the printed functions of the expressions compute, said plainly: arity, soundness, trees, facts. -/
import Derived.Test.YtpboednjlchnhaaDoorZFHOpen
import Derived.Test.YtpboednjlchnhaaDoorZFHName
import Derived.Test.YtpboednjlchnhaaDoorZFHG2
namespace Go.Proofs.YtpboednjlchnhaaDoor.Q
open Go.RowKit Go.Proofs.YtpboednjlchnhaaDoorW.PrintWords Go.Proofs.YtpboednjlchnhaaDoorW.PrintLast Go.Proofs.YtpboednjlchnhaaDoorW.PrintMore
set_option linter.unusedVariables false
set_option linter.unusedSimpArgs false

abbrev Nd := S29

/-! ### small steps of 'from some number of rounds on' -/
theorem Ev.pos {α : Type} {c : Prop} [Decidable c] {a b : Nat → Option α} {r : α} (h : c) (k : Ev a r) : Ev (fun n => if c then a n else b n) r := Ev.congr (fun _ => if_pos h) k
theorem Ev.neg {α : Type} {c : Prop} [Decidable c] {a b : Nat → Option α} {r : α} (h : ¬ c) (k : Ev b r) : Ev (fun n => if c then a n else b n) r := Ev.congr (fun _ => if_neg h) k
theorem Ev.eq {α : Type} {g : Nat → Option α} {r r' : α} (k : Ev g r) (h : r = r') : Ev g r' := h ▸ k
theorem Ev.uniq {α : Type} {g : Nat → Option α} {r r' : α} (h : Ev g r) (k : Ev g r') : r = r' := by
  obtain ⟨K, h⟩ := h
  obtain ⟨K', k⟩ := k
  exact Option.some.inj ((h (max K K') (by omega)).symm.trans (k (max K K') (by omega)))
theorem Ev.const {α : Type} {o : Option α} {r : α} (h : o = some r) : Ev (fun _ => o) r := ⟨0, fun _ _ => h⟩

theorem wrap_succ {i : Nat} (h : i < 9223372036854775807) : wrap64 ((i : Int) + 1) = ((i + 1 : Nat) : Int) := by unfold wrap64; omega
theorem wrap_in {i : Int} (h : -9223372036854775808 ≤ i) (h' : i ≤ 9223372036854775807) : wrap64 i = i := by unfold wrap64; omega
theorem wf_in {i : Int} (h : (Lit.int .i64 i).wf = true) : -9223372036854775808 ≤ i ∧ i ≤ 9223372036854775807 := by
  simp [Lit.wf, IntKind.min, IntKind.max, IntKind.bits, IntKind.signed] at h
  omega
theorem rdN {xs : List Nd} {i : Nat} {x : Nd} (h : xs[i]? = some x) : rd_T29 xs (i : Int) = x := by
  unfold rd_T29
  rw [Int.toNat_natCast, List.getD_eq_getElem?_getD, h]; rfl
theorem rdI {xs : List Int} {i : Nat} {x : Int} (h : xs[i]? = some x) : rd xs (i : Int) = x := by
  unfold rd
  rw [Int.toNat_natCast, List.getD_eq_getElem?_getD, h]; rfl

/-! ### arity -/
def arityS (op : Int) : Int × Int :=
  if op = 1 ∨ op = 2 then (0, 0) else if op = 3 ∨ op = 4 then (1, 0) else if op = 17 then (3, 0) else if 5 ≤ op ∧ op ≤ 16 then (2, 0) else (0, 2)

theorem arity_ev (a : Int) : Ev (fun k => expr_Arity.f k a) (arityS a) := by
  refine ⟨2, fun k hk => ?_⟩
  obtain ⟨k, rfl⟩ : ∃ m, k = m + 2 := ⟨k - 2, by omega⟩
  simp only [expr_Arity.f, expr_Arity.j0, expr_Arity.j1, arityS]
  by_cases h1 : a = 1
  · simp [h1]
  by_cases h2 : a = 2
  · simp [h2]
  by_cases h3 : a = 3
  · simp [h3]
  by_cases h4 : a = 4
  · simp [h4]
  by_cases h5 : a = 17
  · simp [h5]
  by_cases h6 : 5 ≤ a
  · by_cases h7 : a ≤ 16
    · simp [h1, h2, h3, h4, h5, h6, h7]
    · simp [h1, h2, h3, h4, h5, h6, h7]
  · simp [h1, h2, h3, h4, h5, h6]

/-! ### which nodes are sound -/
def soundB (x : Nd) : Bool :=
  decide ((arityS x.f0).2 = 0) && decide ((x.f3.length : Int) = (arityS x.f0).1) && (decide (x.f0 = 1) || decide (x.f1 = 0)) && (if x.f0 = 2 then nameB x.f2 else x.f2.toList == ([] : List UInt8))

theorem name_ev {s : ByteArray} (h : s.size ≤ reachBytes) : runes_Name.f s = some (nameB s) := by
  unfold runes_Name.f
  rw [if_pos (by unfold reachBytes at h; omega)]

theorem sound_ev (x : Nd) (h : x.f2.size ≤ reachBytes) : Ev (fun k => expr_sound.f k x.f0 x.f1 x.f2 x.f3) (soundB x) := by
  unfold expr_sound.f
  refine Ev.bind (arity_ev _) ?_
  have hj : ∀ b, Ev (fun k => expr_sound.j0 k b x.f0 x.f1 x.f2 x.f3) (!b && (if x.f0 = 2 then nameB x.f2 else x.f2.toList == ([] : List UInt8))) := by
    intro b
    refine Ev.step (fun k => by rw [expr_sound.j0]) ?_
    cases b with
    | true => exact Ev.pos rfl (Ev.now _)
    | false =>
      refine Ev.neg (by simp) ?_
      by_cases h2 : x.f0 = 2
      · refine Ev.pos h2 (Ev.eq (Ev.const (by rw [name_ev h]; rfl)) ?_)
        rw [if_pos h2]; rfl
      · refine Ev.neg h2 (Ev.eq (Ev.now _) ?_)
        rw [if_neg h2]; rfl
  unfold soundB
  by_cases c1 : (arityS x.f0).2 = 0
  · refine Ev.pos c1 ?_
    by_cases c2 : (x.f3.length : Int) = (arityS x.f0).1
    · refine Ev.pos c2 ?_
      by_cases c3 : x.f0 = 1
      · refine Ev.pos c3 (Ev.eq (hj _) ?_)
        simp only [decide_eq_true c1, decide_eq_true c2, decide_eq_true c3, Bool.not_false, Bool.true_and, Bool.true_or]
      · refine Ev.neg c3 (Ev.eq (hj _) ?_)
        by_cases c4 : x.f1 = 0
        · simp [c1, c2, c3, c4]
        · simp [c1, c2, c3, c4]
    · refine Ev.neg c2 (Ev.eq (hj _) ?_)
      simp [c1, c2]
  · refine Ev.neg c1 (Ev.eq (hj _) ?_)
    simp [c1]

/-! ### equal lists of numbers -/
theorem equal_loop (a b : List Int) (hl : a.length = b.length) (ha : a.length ≤ 9223372036854775807) : ∀ (d i : Nat), i + d = a.length → Ev (fun k => slices_Equal_int_int.l0 k a b (a.length : Int) (i : Int)) (decide (a.drop i = b.drop i)) := by
  intro d
  induction d with
  | zero =>
    intro i hi
    refine Ev.step (fun k => by rw [slices_Equal_int_int.l0]) ?_
    refine Ev.neg (by omega) (Ev.eq (Ev.now _) ?_)
    rw [List.drop_of_length_le (by omega), List.drop_of_length_le (by omega)]; rfl
  | succ d ih =>
    intro i hi
    have h1 : i < a.length := by omega
    have h2 : i < b.length := by omega
    refine Ev.step (fun k => by rw [slices_Equal_int_int.l0]) ?_
    refine Ev.pos (by omega) (Ev.pos (by omega) (Ev.pos (by omega) (Ev.pos (by omega) ?_)))
    rw [rdI (List.getElem?_eq_getElem h1), rdI (List.getElem?_eq_getElem h2), wrap_succ (by omega)]
    by_cases c : a[i] = b[i]
    · refine Ev.pos c (Ev.eq (ih (i + 1) (by omega)) ?_)
      have ea := List.drop_eq_getElem_cons h1
      have eb := List.drop_eq_getElem_cons h2
      rw [ea, eb, c]
      simp only [List.cons.injEq, true_and]
    · refine Ev.neg c (Ev.eq (Ev.now _) ?_)
      have ea := List.drop_eq_getElem_cons h1
      have eb := List.drop_eq_getElem_cons h2
      rw [ea, eb]
      simp only [List.cons.injEq, c, false_and, decide_false]
theorem equal_ev (a b : List Int) (ha : a.length ≤ 9223372036854775807) : Ev (fun k => slices_Equal_int_int.f k a b) (decide (a = b)) := by
  unfold slices_Equal_int_int.f
  by_cases c : a.length = b.length
  · refine Ev.pos (by omega) (Ev.eq (equal_loop a b c ha a.length 0 (by omega)) ?_)
    simp
  · refine Ev.neg (by omega) (Ev.eq (Ev.now _) ?_)
    rw [eq_comm, decide_eq_false_iff_not]
    intro e
    exact c (by rw [e])

/-! ### the check of an expression -/
/-- one node: the open nodes behind it -/
def stepS (o : List Int) (i : Nat) (x : Nd) : Option (List Int) :=
  if soundB x = true ∧ x.f3.length ≤ o.length ∧ o.drop (o.length - x.f3.length) = x.f3 then some (o.take (o.length - x.f3.length) ++ [(i : Int)]) else none
def runS : List Nd → Nat → List Int → Option (List Int)
  | [], _, o => some o
  | x :: r, i, o => (stepS o i x).bind (runS r (i + 1))
def checkS (e : List Nd) : Int :=
  if e.length < 1 ∨ 64 < e.length then 1 else match runS e 0 [] with | some [_] => 0 | _ => 1

theorem check_loop (e : List Nd) (hn : ∀ x ∈ e, x.f2.size ≤ reachBytes) (he : e.length ≤ 64) : ∀ (r : List Nd) (i : Nat) (o : List Int), e.drop i = r → i ≤ e.length → o.length ≤ i →
    Ev (fun k => expr_Check.l0 k o e (e.length : Int) (i : Int)) (match runS r i o with | some [_] => 0 | _ => 1) := by
  intro r
  induction r with
  | nil =>
    intro i o hr hi ho
    have : i = e.length := by
      have := congrArg List.length hr
      simp at this
      omega
    refine Ev.step (fun k => by rw [expr_Check.l0]) ?_
    refine Ev.neg (by omega) ?_
    simp only [runS]
    match o with
    | [] => exact Ev.neg (by simp) (Ev.now _)
    | [a] => exact Ev.pos (by simp) (Ev.now _)
    | a :: b :: o => exact Ev.neg (by simp; omega) (Ev.now _)
  | cons x r ih =>
    intro i o hr hi ho
    have hil : i < e.length := by
      have := congrArg List.length hr
      simp at this
      omega
    have hx : e[i]? = some x := by
      have : (e.drop i)[0]? = some x := by rw [hr]; rfl
      simpa using this
    have hr' : e.drop (i + 1) = r := by
      rw [← List.drop_drop, hr]; rfl
    have hxm : x ∈ e := List.mem_of_getElem? hx
    refine Ev.step (fun k => by rw [expr_Check.l0]) ?_
    refine Ev.pos (by omega) (Ev.pos (by omega) (Ev.pos (by omega) ?_))
    rw [rdN hx]
    refine Ev.bind (sound_ev x (hn x hxm)) ?_
    have hj1 : Ev (fun k => expr_Check.j2 k o (i : Int) e (e.length : Int) (i : Int) true x.f0 x.f1 x.f2 x.f3) (1 : Int) :=
      Ev.step (fun k => by rw [expr_Check.j2]) (Ev.pos rfl (Ev.now _))
    by_cases c1 : soundB x = true
    · refine Ev.pos c1 ?_
      by_cases c2 : x.f3.length ≤ o.length
      · rw [decide_eq_false (show ¬ ((x.f3.length : Int) > (o.length : Int)) by omega)]
        refine Ev.step (fun k => by rw [expr_Check.j2]) ?_
        have hw : wrap64 ((o.length : Int) - (x.f3.length : Int)) = ((o.length - x.f3.length : Nat) : Int) := by rw [wrap_in (by omega) (by omega)]; omega
        rw [hw]
        refine Ev.neg (by simp) (Ev.pos (by omega) (Ev.pos (by omega) ?_))
        rw [Int.toNat_natCast]
        refine Ev.bind (equal_ev _ _ (by rw [List.length_drop]; omega)) ?_
        by_cases c3 : o.drop (o.length - x.f3.length) = x.f3
        · refine Ev.pos (by simpa using c3) ?_
          refine Ev.bind (Ev.now _) ?_
          refine Ev.pos (by rw [List.length_take]; omega) ?_
          rw [wrap_succ (by omega)]
          refine Ev.eq (ih (i + 1) _ hr' (by omega) (by rw [List.length_append, List.length_take]; simp; omega)) ?_
          simp only [runS, stepS]
          rw [if_pos ⟨c1, c2, c3⟩]
          rfl
        · refine Ev.neg (by simpa using c3) (Ev.eq (Ev.now _) ?_)
          simp only [runS, stepS]
          rw [if_neg (fun h => c3 h.2.2)]
          rfl
      · rw [decide_eq_true (show (x.f3.length : Int) > (o.length : Int) by omega)]
        refine Ev.eq hj1 ?_
        simp only [runS, stepS]
        rw [if_neg (fun h => c2 h.2.1)]
        rfl
    · refine Ev.neg c1 (Ev.eq hj1 ?_)
      simp only [runS, stepS]
      rw [if_neg (fun h => c1 h.1)]
      rfl

theorem check_ev (e : List Nd) (hn : ∀ x ∈ e, x.f2.size ≤ reachBytes) : Ev (fun k => expr_Check.f k e) (checkS e) := by
  unfold expr_Check.f
  have h1 : Ev (fun k => expr_Check.j0 k e true) (1 : Int) := Ev.step (fun k => by rw [expr_Check.j0]) (Ev.pos rfl (Ev.now _))
  unfold checkS
  by_cases c1 : e.length < 1
  · refine Ev.pos (by omega) (Ev.eq h1 ?_)
    rw [if_pos (.inl c1)]
  · refine Ev.neg (by omega) ?_
    by_cases c2 : 64 < e.length
    · rw [decide_eq_true (show (e.length : Int) > 64 by omega)]
      refine Ev.eq h1 ?_
      rw [if_pos (.inr c2)]
    · rw [decide_eq_false (show ¬ (e.length : Int) > 64 by omega)]
      refine Ev.step (fun k => by rw [expr_Check.j0]) ?_
      refine Ev.neg (by simp) (Ev.eq (check_loop e hn (by omega) e 0 [] rfl (by omega) (by simp)) ?_)
      rw [if_neg (by omega)]
end Go.Proofs.YtpboednjlchnhaaDoor.Q
