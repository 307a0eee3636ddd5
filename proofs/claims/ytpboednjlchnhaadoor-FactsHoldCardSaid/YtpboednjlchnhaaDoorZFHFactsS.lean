/- What the printed functions of arith, known and facts compute, said plainly; the facts of a tree. -/
import Derived.Test.YtpboednjlchnhaaDoorZFHTrees
import Derived.Test.YtpboednjlchnhaaDoorZFHG2
import Derived.Test.YtpboednjlchnhaaDoorZFHG0
import Derived.Laws.BitsLemmas
namespace Go.Proofs.YtpboednjlchnhaaDoor.Q
open Go.RowKit Go.Proofs.YtpboednjlchnhaaDoorW.PrintWords Go.Proofs.YtpboednjlchnhaaDoorW.PrintLast Go.Proofs.YtpboednjlchnhaaDoorW.PrintMore
set_option linter.unusedVariables false
set_option linter.unusedSimpArgs false

abbrev Fc := S31
theorem rdF {xs : List Fc} {i : Nat} {x : Fc} (h : xs[i]? = some x) : rd_T31 xs (i : Int) = x := by
  unfold rd_T31
  rw [Int.toNat_natCast, List.getD_eq_getElem?_getD, h]; rfl

/-! ### arith.Apply -/
theorem wraps_u64 (n : Int) (h₀ : 0 ≤ n) (h₁ : n < 2 ^ 64) : IntKind.u64.wrap n = n := by
  simp [IntKind.wrap, IntKind.bits, IntKind.signed]
  omega
theorem and63 (a : Int) : 0 ≤ Go.bits .and .u64 (IntKind.u64.wrap a) 63 := by
  have h : 0 ≤ IntKind.u64.wrap a ∧ IntKind.u64.wrap a < 2 ^ 64 := by
    simp [IntKind.wrap, IntKind.bits, IntKind.signed]
    omega
  have := bits_mask .u64 64 (by decide) wraps_u64 6 (by decide) (IntKind.u64.wrap a) h.1 h.2
  have e : Go.bits .and .u64 (IntKind.u64.wrap a) 63 = IntKind.u64.wrap a % 64 := this
  rw [e]
  omega
/-- operators with two parts -/
def twoS (op a b : Int) : Int := (arith_two.f op a b).getD 0
theorem two_ev (op a b : Int) (h : (op = 8 ∨ op = 9) → b ≠ 0) : arith_two.f op a b = some (twoS op a b) := by
  unfold twoS
  have hs : (arith_two.f op a b).isSome = true := by
    unfold arith_two.f
    by_cases c1 : op = 5
    · simp [c1]
    by_cases c2 : op = 6
    · simp [c2]
    by_cases c3 : op = 7
    · simp [c3]
    by_cases c4 : op = 8
    · rw [if_neg c1, if_neg c2, if_neg c3, if_pos c4, if_neg (h (.inl c4))]; rfl
    by_cases c5 : op = 9
    · rw [if_neg c1, if_neg c2, if_neg c3, if_neg c4, if_pos c5, if_neg (h (.inr c5))]; rfl
    rw [if_neg c1, if_neg c2, if_neg c3, if_neg c4, if_neg c5]
    split
    · rfl
    split
    · rfl
    split
    · rfl
    split
    · rw [if_pos (and63 b)]; rfl
    split
    · rw [if_pos (and63 b)]; rfl
    split
    · unfold arith_bit.f; split <;> rfl
    · unfold arith_bit.f; split <;> rfl
  obtain ⟨r, hr⟩ := Option.isSome_iff_exists.1 hs
  rw [hr]; rfl

def applyS (op : Int) (a : List Int) : Int × Int :=
  if (arityS op).2 ≠ 0 ∨ (arityS op).1 = 0 ∨ (arityS op).1 ≠ a.length then (0, 2)
  else if op = 3 then (wrap64 (-(rd a 0)), 0)
  else if op = 4 then (Go.bits .xor .i64 (-1) (rd a 0), 0)
  else if op = 17 then (if rd a 0 ≠ 0 then rd a 1 else rd a 2, 0)
  else if (op = 8 ∨ op = 9) ∧ rd a 1 = 0 then (0, 12)
  else (twoS op (rd a 0) (rd a 1), 0)

theorem group_ev (op : Int) : Ev (fun k => arith_group.f k op) (if op = 8 ∨ op = 9 then 1 else if op = 13 ∨ op = 14 ∨ op = 15 ∨ op = 16 then 2 else 0) := by
  refine ⟨1, fun k hk => ?_⟩
  obtain ⟨k, rfl⟩ : ∃ m, k = m + 1 := ⟨k - 1, by omega⟩
  simp only [arith_group.f, arith_group.j0]
  by_cases c1 : op = 8
  · simp [c1]
  by_cases c2 : op = 9
  · simp [c2]
  by_cases c3 : op = 13
  · simp [c3]
  by_cases c4 : op = 14
  · simp [c4]
  by_cases c5 : op = 15
  · simp [c5]
  by_cases c6 : op = 16
  · simp [c6]
  simp [c1, c2, c3, c4, c5, c6]

theorem arity_two {op : Int} (h1 : op ≠ 3) (h2 : op ≠ 4) (h3 : op ≠ 17) (h : (arityS op).2 = 0) (h' : (arityS op).1 ≠ 0) : (arityS op).1 = 2 := by
  unfold arityS at *
  by_cases c0 : op = 1 ∨ op = 2
  · rw [if_pos c0] at h'; exact absurd rfl h'
  · rw [if_neg c0, if_neg (show ¬ (op = 3 ∨ op = 4) by omega), if_neg h3] at h ⊢
    by_cases c : 5 ≤ op ∧ op ≤ 16
    · rw [if_pos c]
    · rw [if_neg c] at h; cases h

theorem apply_ev (op : Int) (a : List Int) : Ev (fun k => arith_Apply.f k op a) (applyS op a) := by
  unfold arith_Apply.f
  refine Ev.bind (arity_ev op) ?_
  have ht : Ev (fun k => arith_Apply.j0 k op a true) ((0, 2) : Int × Int) := Ev.step (fun k => by rw [arith_Apply.j0]) (Ev.pos rfl (Ev.now _))
  unfold applyS
  by_cases c1 : (arityS op).2 = 0
  · refine Ev.pos c1 ?_
    by_cases c2 : (arityS op).1 = 0
    · refine Ev.pos c2 (Ev.eq ht ?_)
      rw [if_pos (.inr (.inl c2))]
    · refine Ev.neg c2 ?_
      by_cases c3 : (arityS op).1 = a.length
      · have e : ((arityS op).1 != (a.length : Int)) = false := by rw [bne_eq_false_iff_eq]; exact c3
        rw [e]
        refine Ev.step (fun k => by rw [arith_Apply.j0]) (Ev.neg (by simp) ?_)
        rw [if_neg (show ¬ ((arityS op).2 ≠ 0 ∨ (arityS op).1 = 0 ∨ (arityS op).1 ≠ (a.length : Int)) from fun h => h.elim (fun h => h c1) (fun h => h.elim c2 (fun h => h c3)))]
        have hpos : 0 < (a.length : Int) := by omega
        by_cases c4 : op = 3
        · refine Ev.pos c4 (Ev.pos hpos (Ev.eq (Ev.now _) ?_))
          rw [if_pos c4]
        · refine Ev.neg c4 ?_
          rw [if_neg c4]
          by_cases c5 : op = 4
          · refine Ev.pos c5 (Ev.pos hpos (Ev.eq (Ev.now _) ?_))
            rw [if_pos c5]
          · refine Ev.neg c5 ?_
            rw [if_neg c5]
            by_cases c6 : op = 17
            · have h3 : (a.length : Int) = 3 := by rw [← c3, c6]; rfl
              refine Ev.pos c6 (Ev.pos hpos ?_)
              rw [if_pos c6]
              by_cases c7 : rd a 0 = 0
              · rw [show (rd a 0 != 0) = false from by rw [bne_eq_false_iff_eq]; exact c7, if_neg (by simpa using c7)]
                exact Ev.step (fun k => by rw [arith_Apply.j1]) (Ev.neg (by simp) (Ev.pos c6 (Ev.pos (by omega) (Ev.now _))))
              · rw [show (rd a 0 != 0) = true from by rw [bne_iff_ne]; exact c7, if_pos c7]
                exact Ev.step (fun k => by rw [arith_Apply.j1]) (Ev.pos rfl (Ev.pos (by omega) (Ev.now _)))
            · have h2 : (a.length : Int) = 2 := by rw [← c3]; exact arity_two c4 c5 c6 c1 c2
              refine Ev.neg c6 (Ev.step (fun k => by rw [arith_Apply.j1]) (Ev.neg (by simp) (Ev.neg c6 ?_)))
              rw [if_neg c6]
              refine Ev.bind (group_ev op) ?_
              by_cases c7 : op = 8 ∨ op = 9
              · refine Ev.pos (by rw [if_pos c7]) (Ev.pos (by omega) ?_)
                by_cases c8 : rd a 1 = 0
                · refine Ev.pos c8 (Ev.eq (Ev.now _) ?_)
                  rw [if_pos ⟨c7, c8⟩]
                · refine Ev.neg c8 (Ev.pos hpos ?_)
                  rw [if_neg (fun h => c8 h.2)]
                  exact Ev.const (by rw [two_ev op _ _ (fun _ => c8)]; rfl)
              · refine Ev.neg (by rw [if_neg c7]; split <;> simp) (Ev.pos hpos (Ev.pos (by omega) ?_))
                rw [if_neg (fun h => c7 h.1)]
                exact Ev.const (by rw [two_ev op _ _ (fun h => absurd h c7)]; rfl)
      · have e : ((arityS op).1 != (a.length : Int)) = true := by rw [bne_iff_ne]; exact c3
        rw [e]
        refine Ev.eq ht ?_
        rw [if_pos (.inr (.inr c3))]
  · refine Ev.neg c1 (Ev.eq ht ?_)
    rw [if_pos (.inl c1)]

/-! ### what is known of a node by its parts -/
/-- parts are what the places kids hold in a list -/
inductive Picks {α : Type} (l : List α) : List Int → List α → Prop where
  | nil : Picks l [] []
  | cons {j : Nat} {f : α} {ks : List Int} {fs : List α} : l[j]? = some f → Picks l ks fs → Picks l ((j : Int) :: ks) (f :: fs)
theorem Picks.length {α : Type} {l : List α} {ks : List Int} {fs : List α} (h : Picks l ks fs) : fs.length = ks.length := by
  induction h with
  | nil => rfl
  | cons _ _ ih => simp [ih]

theorem knownOf_loop (l : List Fc) (ks : List Int) (hk : ks.length ≤ 9223372036854775807) : ∀ (r : List Int) (fs : List Fc), Picks l r fs → ∀ (acc : List Fc) (i : Nat), ks.drop i = r → i ≤ ks.length → acc.length + fs.length < 8796093022208 →
    Ev (fun k => known_Of.l0 k l acc ks (ks.length : Int) (i : Int)) (acc ++ fs) := by
  intro r fs h
  induction h with
  | nil =>
    intro acc i hr hi hl
    have : ks.length ≤ i := by simpa using hr
    refine Ev.step (fun k => by rw [known_Of.l0]) (Ev.neg (by omega) (Ev.eq (Ev.now _) (by simp)))
  | @cons j f ks' fs' hj hp ih =>
    intro acc i hr hi hl
    have hil : i < ks.length := by
      have := congrArg List.length hr
      simp at this
      omega
    have hx : ks[i]? = some (j : Int) := by
      have : (ks.drop i)[0]? = some (j : Int) := by rw [hr]; rfl
      simpa using this
    have hr' : ks.drop (i + 1) = ks' := by rw [← List.drop_drop, hr]; rfl
    have hjl : j < l.length := (List.getElem?_eq_some_iff.1 hj).1
    refine Ev.step (fun k => by rw [known_Of.l0]) (Ev.pos (by omega) (Ev.pos (by omega) (Ev.pos (by omega) ?_)))
    rw [rdI hx, rdF hj, wrap_succ (by omega)]
    simp only [List.length_cons] at hl
    refine Ev.pos (by omega) (Ev.pos (by omega) (Ev.pos (by omega) ?_))
    refine Ev.eq (ih _ (i + 1) hr' (by omega) (by simp; omega)) (by simp)
theorem knownOf_ev {l : List Fc} {ks : List Int} {fs : List Fc} (h : Picks l ks fs) (hk : ks.length ≤ 8796093022207) : Ev (fun k => known_Of.f k l ks) fs := by
  unfold known_Of.f
  exact Ev.eq (knownOf_loop l ks (by omega) ks fs h [] 0 rfl (by omega) (by rw [h.length]; simp; omega)) (by simp)

/-- known.Number -/
def numberS (op n : Int) (p : List Fc) : Int × Bool :=
  if op = 1 then (n, true) else if op = 2 then (0, false)
  else if p.all (·.f1) = true then ((applyS op (p.map (·.f2))).1, (applyS op (p.map (·.f2))).2 == 0) else (0, false)
theorem number_loop (op n : Int) (nm : ByteArray) (ks : List Int) (p : List Fc) (hl : p.length < 17592186044416) : ∀ (r : List Fc) (i : Nat) (acc : List Int), p.drop i = r → i ≤ p.length → acc.length = i →
    Ev (fun k => known_Number.l0 k acc p (p.length : Int) (i : Int) op n nm ks) (if r.all (·.f1) = true then ((applyS op (acc ++ r.map (·.f2))).1, (applyS op (acc ++ r.map (·.f2))).2 == 0) else (0, false)) := by
  intro r
  induction r with
  | nil =>
    intro i acc hr hi ha
    have : p.length ≤ i := by simpa using hr
    refine Ev.step (fun k => by rw [known_Number.l0]) (Ev.neg (by omega) ?_)
    simp only [List.all_nil, if_true, List.map_nil, List.append_nil]
    exact Ev.bind (apply_ev op acc) (Ev.now _)
  | cons f r ih =>
    intro i acc hr hi ha
    have hil : i < p.length := by
      have := congrArg List.length hr
      simp at this
      omega
    have hx : p[i]? = some f := by
      have : (p.drop i)[0]? = some f := by rw [hr]; rfl
      simpa using this
    have hr' : p.drop (i + 1) = r := by rw [← List.drop_drop, hr]; rfl
    refine Ev.step (fun k => by rw [known_Number.l0]) (Ev.pos (by omega) (Ev.pos (by omega) (Ev.pos (by omega) ?_)))
    rw [rdF hx, wrap_succ (by omega)]
    by_cases c : f.f1 = true
    · refine Ev.pos c (Ev.pos (by omega) (Ev.eq (ih (i + 1) _ hr' (by omega) (by simp; omega)) ?_))
      simp only [List.all_cons, c, Bool.true_and, List.map_cons, List.append_assoc, List.singleton_append]
    · refine Ev.neg c (Ev.eq (Ev.now _) ?_)
      rw [if_neg (by simp [c])]
theorem number_ev (op n : Int) (nm : ByteArray) (ks : List Int) (p : List Fc) (hl : p.length < 17592186044416) : Ev (fun k => known_Number.f k op n nm ks p) (numberS op n p) := by
  unfold known_Number.f numberS
  by_cases c1 : op = 1
  · refine Ev.pos c1 (Ev.eq (Ev.now _) ?_)
    rw [if_pos c1]
  · refine Ev.neg c1 ?_
    rw [if_neg c1]
    by_cases c2 : op = 2
    · refine Ev.pos c2 (Ev.eq (Ev.now _) ?_)
      rw [if_pos c2]
    · refine Ev.neg c2 ?_
      rw [if_neg c2]
      exact Ev.eq (number_loop op n nm ks p hl p 0 [] rfl (by omega) rfl) (by simp)

def divS : List Fc → Bool
  | _ :: f :: _ => f.f1 && f.f2 != 0
  | _ => false
/-- known.Total: for a node with as many parts as its operator wants -/
def totalS (op : Int) (p : List Fc) : Bool :=
  p.all (·.f0) && (if op = 8 ∨ op = 9 then divS p else true)
theorem total_loop (op n : Int) (nm : ByteArray) (ks : List Int) (p : List Fc) (hl : p.length < 17592186044416) (h2 : (op = 8 ∨ op = 9) → 2 ≤ p.length) : ∀ (r : List Fc) (i : Nat), p.drop i = r → i ≤ p.length →
    Ev (fun k => known_Total.l0 k p p (p.length : Int) (i : Int) op n nm ks) (r.all (·.f0) && (if op = 8 ∨ op = 9 then divS p else true)) := by
  intro r
  induction r with
  | nil =>
    intro i hr hi
    have : p.length ≤ i := by simpa using hr
    refine Ev.step (fun k => by rw [known_Total.l0]) (Ev.neg (by omega) ?_)
    have hb : ∀ (ho : op = 8 ∨ op = 9), Ev (fun _ : Nat => if 1 < (p.length : Int) then (if (rd_T31 p 1).f1 = true then (some (((rd_T31 p 1).f2) != 0)) else (some false)) else (none)) (divS p) := by
      intro ho
      have := h2 ho
      match p, this with
      | a :: f :: q, _ =>
        refine Ev.pos (by simp; omega) ?_
        rw [show rd_T31 (a :: f :: q) 1 = f from rdF (i := 1) rfl]
        by_cases c : f.f1 = true
        · refine Ev.pos c (Ev.eq (Ev.now _) ?_)
          simp [divS, c]
        · refine Ev.neg c (Ev.eq (Ev.now _) ?_)
          simp [divS, c]
    by_cases c1 : op = 8
    · refine Ev.pos c1 (Ev.eq (hb (.inl c1)) ?_)
      rw [if_pos (.inl c1)]; rfl
    · refine Ev.neg c1 ?_
      by_cases c2 : op = 9
      · refine Ev.pos c2 (Ev.eq (hb (.inr c2)) ?_)
        rw [if_pos (.inr c2)]; rfl
      · refine Ev.neg c2 (Ev.eq (Ev.now _) ?_)
        rw [if_neg (by simp [c1, c2])]; rfl
  | cons f r ih =>
    intro i hr hi
    have hil : i < p.length := by
      have := congrArg List.length hr
      simp at this
      omega
    have hx : p[i]? = some f := by
      have : (p.drop i)[0]? = some f := by rw [hr]; rfl
      simpa using this
    have hr' : p.drop (i + 1) = r := by rw [← List.drop_drop, hr]; rfl
    refine Ev.step (fun k => by rw [known_Total.l0]) (Ev.pos (by omega) (Ev.pos (by omega) (Ev.pos (by omega) ?_)))
    rw [rdF hx, wrap_succ (by omega)]
    by_cases c : f.f0 = true
    · refine Ev.pos c (Ev.eq (ih (i + 1) hr' (by omega)) ?_)
      simp only [List.all_cons, c, Bool.true_and]
    · refine Ev.neg c (Ev.eq (Ev.now _) ?_)
      simp [c]
theorem total_ev (op n : Int) (nm : ByteArray) (ks : List Int) (p : List Fc) (hl : p.length < 17592186044416) (h2 : (op = 8 ∨ op = 9) → 2 ≤ p.length) : Ev (fun k => known_Total.f k op n nm ks p) (totalS op p) := by
  unfold known_Total.f totalS
  exact total_loop op n nm ks p hl h2 p 0 rfl (by omega)

/-! ### the facts of a tree -/
def factS (op n : Int) (p : List Fc) : Fc := ⟨totalS op p, (numberS op n p).2, (numberS op n p).1⟩
mutual
def Tr.fact : Tr → Fc
  | .node op n _ ks => factS op n (factsK ks)
def factsK : List Tr → List Fc
  | [] => []
  | t :: r => t.fact :: factsK r
end
mutual
/-- the facts of all its nodes -/
def Tr.facts : Tr → List Fc
  | .node op n nm ks => factsF ks ++ [factS op n (factsK ks)]
def factsF : List Tr → List Fc
  | [] => []
  | t :: r => t.facts ++ factsF r
end
theorem factsK_length (l : List Tr) : (factsK l).length = l.length := by
  induction l with
  | nil => rfl
  | cons t l ih => simp [factsK, ih]
theorem factsK_map (l : List Tr) : factsK l = l.map Tr.fact := by
  induction l with
  | nil => rfl
  | cons t l ih => simp [factsK, ih]
theorem facts_len (t : Tr) : t.facts.length = t.size := by
  induction t using Tr.ind with
  | h op n nm ks ih =>
    have hf : ∀ (l : List Tr), (∀ k ∈ l, k.facts.length = k.size) → (factsF l).length = sizeF l := by
      intro l
      induction l with
      | nil => intro _; rfl
      | cons t l ihl => intro h; simp only [factsF, sizeF, List.length_append, h t (List.mem_cons_self ..), ihl (fun k hk => h k (List.mem_cons_of_mem _ hk))]
    simp only [Tr.facts, Tr.size, List.length_append, hf ks ih, List.length_singleton]
theorem factsF_len (l : List Tr) : (factsF l).length = sizeF l := by
  induction l with
  | nil => rfl
  | cons t l ih => simp only [factsF, sizeF, List.length_append, facts_len, ih]
theorem facts_last (t : Tr) : ∃ h, t.facts = h ++ [t.fact] := by
  cases t with
  | node op n nm ks => exact ⟨factsF ks, by simp only [Tr.facts, Tr.fact]⟩
/-- at the roots' places stand the facts of the trees -/
theorem picks_roots : ∀ (l : List Tr) (pre post : List Fc), Picks (pre ++ factsF l ++ post) (rootsF l pre.length) (factsK l) := by
  intro l
  induction l with
  | nil => intro pre post; exact Picks.nil
  | cons t l ih =>
    intro pre post
    simp only [rootsF, factsK, factsF]
    obtain ⟨h, ht⟩ := facts_last t
    have hlen : h.length + 1 = t.size := by rw [← facts_len, ht]; simp
    refine Picks.cons ?_ ?_
    · rw [ht]
      have : pre ++ (h ++ [t.fact] ++ factsF l) ++ post = (pre ++ h) ++ t.fact :: (factsF l ++ post) := by simp
      rw [this, List.getElem?_append_right (by simp; omega)]
      rw [show pre.length + t.size - 1 - (pre ++ h).length = 0 from by simp; omega]
      rfl
    · have := ih (pre ++ t.facts) post
      rw [List.length_append, facts_len] at this
      rw [show pre ++ (t.facts ++ factsF l) ++ post = pre ++ t.facts ++ factsF l ++ post from by simp]
      exact this

theorem ok_kids {op n : Int} {nm : ByteArray} {ks : List Tr} (h : (Tr.node op n nm ks).ok) : (arityS op).2 = 0 ∧ (ks.length : Int) = (arityS op).1 := by
  cases h with
  | node hs _ =>
    unfold soundB at hs
    simp only [Bool.and_eq_true, decide_eq_true_eq, rootsF_length] at hs
    exact ⟨hs.1.1.1, hs.1.1.2⟩
theorem arity_le (op : Int) : (arityS op).1 ≤ 3 := by
  unfold arityS
  split
  · simp
  split
  · simp
  split
  · simp
  split <;> simp
theorem arity_div {op : Int} (h : op = 8 ∨ op = 9) : (arityS op).1 = 2 := by
  rcases h with rfl | rfl <;> rfl

/-- the loop of facts.Of over a tree: its facts are laid behind those that there are -/
theorem factsOf_flat (e : List Nd) (he : e.length ≤ 64) (r : Bool × Bool × Int × Int) (t : Tr) : t.ok → ∀ (acc : List Fc) (post : List Nd), e.drop acc.length = t.flat acc.length ++ post → acc.length + t.size ≤ e.length →
    Ev (fun k => facts_Of.l0 k e (acc ++ t.facts) e (e.length : Int) ((acc.length + t.size : Nat) : Int)) r → Ev (fun k => facts_Of.l0 k e acc e (e.length : Int) (acc.length : Int)) r := by
  induction t using Tr.ind with
  | h op n nm ks ih =>
    intro hok acc post hd hl hr
    have hak := ok_kids hok
    cases hok with
    | node hs hks =>
    have hF : ∀ (l : List Tr), (∀ k ∈ l, k ∈ ks) → ∀ (acc : List Fc) (post : List Nd), e.drop acc.length = flatF l acc.length ++ post → acc.length + sizeF l ≤ e.length →
        Ev (fun k => facts_Of.l0 k e (acc ++ factsF l) e (e.length : Int) ((acc.length + sizeF l : Nat) : Int)) r → Ev (fun k => facts_Of.l0 k e acc e (e.length : Int) (acc.length : Int)) r := by
      intro l
      induction l with
      | nil => intro _ acc post _ _ h; simpa [factsF, sizeF] using h
      | cons t l ihl =>
        intro hm acc post hd hl h
        have htk := hm t (List.mem_cons_self ..)
        simp only [flatF, sizeF, factsF] at hd hl h
        refine ih t htk (hks t htk) acc (flatF l (acc.length + t.size) ++ post) (by rw [hd, List.append_assoc]) (by omega) ?_
        have hal : (acc ++ t.facts).length = acc.length + t.size := by rw [List.length_append, facts_len]
        have := ihl (fun k hk => hm k (List.mem_cons_of_mem _ hk)) (acc ++ t.facts) post (by
          rw [hal, ← List.drop_drop, hd, List.append_assoc, List.drop_left' (flat_len t _)]) (by rw [hal]; omega) (by
          rw [hal, List.append_assoc, show acc.length + t.size + sizeF l = acc.length + (t.size + sizeF l) from by omega]; exact h)
        rw [hal] at this
        exact this
    simp only [Tr.flat, Tr.size, Tr.facts] at hd hl hr
    refine hF ks (fun _ h => h) acc ([⟨op, n, nm, rootsF ks acc.length⟩] ++ post) (by rw [hd, List.append_assoc]) (by omega) ?_
    have hil : acc.length + sizeF ks < e.length := by omega
    have hx : e[acc.length + sizeF ks]? = some ⟨op, n, nm, rootsF ks acc.length⟩ := by
      have : (e.drop acc.length)[sizeF ks]? = some (⟨op, n, nm, rootsF ks acc.length⟩ : Nd) := by
        rw [hd, List.append_assoc, List.getElem?_append_right (by rw [flatF_len]; exact Nat.le_refl _), flatF_len]
        simp
      rw [List.getElem?_drop] at this
      exact this
    have h3 := arity_le op
    refine Ev.step (fun k => by rw [facts_Of.l0]) (Ev.pos (by omega) (Ev.pos (by omega) (Ev.pos (by omega) ?_)))
    rw [rdN hx, wrap_succ (by omega)]
    refine Ev.bind (knownOf_ev (by have := picks_roots ks acc []; rwa [List.append_nil] at this) (by rw [rootsF_length]; omega)) ?_
    refine Ev.bind (number_ev op n nm _ _ (by rw [factsK_length]; omega)) ?_
    refine Ev.bind (total_ev op n nm _ _ (by rw [factsK_length]; omega) (fun h => by rw [factsK_length]; have := arity_div h; omega)) ?_
    refine Ev.pos (by rw [List.length_append, factsF_len]; omega) ?_
    rw [← List.append_assoc] at hr
    rw [show acc.length + sizeF ks + 1 = acc.length + (sizeF ks + 1) from by omega]
    exact hr

theorem factsOf_tree (t : Tr) (hok : t.ok) (hs : t.size ≤ 64) (hn : ∀ x ∈ t.flat 0, x.f2.size ≤ reachBytes) : Ev (fun k => facts_Of.f k (t.flat 0)) (t.fact.f0, t.fact.f1, t.fact.f2, 0) := by
  unfold facts_Of.f
  refine Ev.bind (check_ev _ hn) ?_
  rw [check_tree t hok hs]
  refine Ev.pos rfl ?_
  have hl := flat_len t 0
  have h1 := t.size_pos
  have := factsOf_flat (t.flat 0) (by omega) (t.fact.f0, t.fact.f1, t.fact.f2, 0) t hok [] [] (by simp) (by simp [hl]) (by
    simp only [List.nil_append, List.length_nil, Nat.zero_add]
    refine Ev.step (fun k => by rw [facts_Of.l0]) (Ev.neg (by omega) ?_)
    have hw : wrap64 (((t.flat 0).length : Int) - 1) = ((t.size - 1 : Nat) : Int) := by rw [wrap_in (by omega) (by omega)]; omega
    rw [hw]
    obtain ⟨h, ht⟩ := facts_last t
    have hlen : h.length + 1 = t.size := by rw [← facts_len, ht]; simp
    have hx : t.facts[t.size - 1]? = some t.fact := by
      rw [ht, List.getElem?_append_right (by omega), show t.size - 1 - h.length = 0 from by omega]; rfl
    refine Ev.pos (by omega) (Ev.pos (by rw [facts_len]; omega) ?_)
    rw [rdF hx]
    exact Ev.now _)
  simpa using this
theorem factsOf_bad (e : List Nd) (hc : checkS e = 1) (hn : ∀ x ∈ e, x.f2.size ≤ reachBytes) : Ev (fun k => facts_Of.f k e) (false, false, 0, 1) := by
  unfold facts_Of.f
  refine Ev.bind (check_ev _ hn) ?_
  rw [hc]
  exact Ev.neg (by simp) (Ev.now _)
end Go.Proofs.YtpboednjlchnhaaDoor.Q
