/- sorrellaw13.FactsHold, said of numbers and lists. -/
import Derived.Test.YtpboednjlchnhaaDoorZFHEvalS
import Derived.Test.YtpboednjlchnhaaDoorZFHCopyS
import Derived.Test.YtpboednjlchnhaaDoorZFHAwake13
import Derived.Test.YtpboednjlchnhaaDoorZFH4
namespace Go.Proofs.YtpboednjlchnhaaDoor.Q
open Go.RowKit Go.Proofs.YtpboednjlchnhaaDoorW.PrintWords Go.Proofs.YtpboednjlchnhaaDoorW.PrintLast Go.Proofs.YtpboednjlchnhaaDoorW.PrintMore
set_option linter.unusedVariables false
set_option linter.unusedSimpArgs false

/-! ### names are short -/
theorem width_le (s : ByteArray) (pos : Nat) : (Utf8.decode s pos).2 ≤ 4 := by
  unfold Utf8.decode
  dsimp only
  repeat' split
  all_goals simp
theorem nameFrom_size (s : ByteArray) : ∀ b pos n, s.size < pos + b → nameFrom s b pos n = true → n ≤ 16 ∧ s.size ≤ pos + 4 * (16 - n)
  | 0, pos, n, hb, h => by
    unfold nameFrom at h
    have := of_decide_eq_true h
    omega
  | b + 1, pos, n, hb, h => by
    unfold nameFrom at h
    by_cases c : pos < s.size
    · rw [if_pos c] at h
      split at h
      · cases h
      · have hw := width_le s pos
        have hp := width_pos s pos c
        have := nameFrom_size s b _ _ (by omega) h
        omega
    · rw [if_neg c] at h
      have := of_decide_eq_true h
      omega
theorem name_size {s : ByteArray} (h : nameB s = true) : s.size ≤ 64 := by
  have := nameFrom_size s (s.size + 1) 0 0 (by omega) h
  omega

/-! ### expr.Vars -/
def namesOf (e : List Nd) : List ByteArray := (e.filter fun x => x.f0 == 2).map (·.f2)
theorem vars_loop (e : List Nd) (he : e.length ≤ 64) (q : List ByteArray × Int) : ∀ (r : List Nd) (i : Nat) (acc : List ByteArray), e.drop i = r → i ≤ e.length → acc.length ≤ i →
    (if sortable (acc ++ namesOf r) = true then some (compactS (sortS (acc ++ namesOf r)), (0 : Int)) else none) = some q →
    Ev (fun k => expr_Vars.l0 k acc e (e.length : Int) (i : Int)) q := by
  intro r
  induction r with
  | nil =>
    intro i acc hr hi ha h
    have : e.length ≤ i := by simpa using hr
    refine Ev.step (fun k => by rw [expr_Vars.l0]) (Ev.neg (by omega) ?_)
    simp only [namesOf, List.filter_nil, List.map_nil, List.append_nil] at h
    exact Ev.const h
  | cons x r ih =>
    intro i acc hr hi ha h
    have hil : i < e.length := by
      have := congrArg List.length hr
      simp at this
      omega
    have hx : e[i]? = some x := by
      have : (e.drop i)[0]? = some x := by rw [hr]; rfl
      simpa using this
    have hr' : e.drop (i + 1) = r := by rw [← List.drop_drop, hr]; rfl
    refine Ev.step (fun k => by rw [expr_Vars.l0]) (Ev.pos (by omega) (Ev.pos (by omega) (Ev.pos (by omega) ?_)))
    rw [rdN hx, wrap_succ (by omega)]
    by_cases c : x.f0 = 2
    · refine Ev.pos c (Ev.pos (by omega) (ih (i + 1) _ hr' (by omega) (by simp; omega) ?_))
      have e1 : namesOf (x :: r) = x.f2 :: namesOf r := by simp [namesOf, c]
      rw [e1] at h
      rw [List.append_assoc]
      exact h
    · refine Ev.neg c (ih (i + 1) _ hr' (by omega) (by omega) ?_)
      have e1 : namesOf (x :: r) = namesOf r := by simp [namesOf, c]
      rw [e1] at h
      exact h

theorem compact_nil {xs : List ByteArray} (h : xs ≠ []) : (compactS xs) ≠ [] := by
  intro hc
  have h1 : (Lib.compact (xs.map bytesL)) = [] := by
    have := congrArg List.length hc
    simp [compactS] at this
    exact this
  unfold Lib.compact Lib.compactUpTo at h1
  have h2 := List.map_eq_nil_iff.1 h1
  rw [List.filter_eq_nil_iff] at h2
  have h3 := h2 0 (by
    rw [List.mem_range]
    cases xs with
    | nil => exact absurd rfl h
    | cons a l => simp)
  simp [Lib.keeps] at h3

/-- all nodes of a sound tree are sound, but for where the parts are -/
theorem flat_sound (t : Tr) : t.ok → ∀ p, ∀ x ∈ t.flat p, soundB x = true := by
  induction t using Tr.ind with
  | h op n nm ks ih =>
    intro hok p x hx
    cases hok with
    | node hs hks =>
    have hF : ∀ (l : List Tr), (∀ k ∈ l, k ∈ ks) → ∀ p, ∀ x ∈ flatF l p, soundB x = true := by
      intro l
      induction l with
      | nil => intro _ p x hx; simp [flatF] at hx
      | cons t l ihl =>
        intro hm p x hx
        simp only [flatF, List.mem_append] at hx
        rcases hx with hx | hx
        · have htk := hm t (List.mem_cons_self ..)
          exact ih t htk (hks t htk) p x hx
        · exact ihl (fun k hk => hm k (List.mem_cons_of_mem _ hk)) _ x hx
    simp only [Tr.flat, List.mem_append, List.mem_singleton] at hx
    rcases hx with hx | rfl
    · exact hF ks (fun _ h => h) p x hx
    · rw [← hs]
      exact soundB_len rfl rfl rfl (by simp [rootsF_length])

theorem vars_tree (t : Tr) (hok : t.ok) (hs : t.size ≤ 64) (hn : ∀ x ∈ t.flat 0, x.f2.size ≤ reachBytes) :
    ∃ l : List ByteArray, (l = [] → namesOf (t.flat 0) = []) ∧ Ev (fun k => expr_Vars.f k (t.flat 0)) (l, 0) := by
  have hl := flat_len t 0
  have hc := check_ev (t.flat 0) hn
  rw [check_tree t hok hs] at hc
  have hlen : (namesOf (t.flat 0)).length ≤ (t.flat 0).length := by unfold namesOf; rw [List.length_map]; exact List.length_filter_le _ _
  have hso : sortable (namesOf (t.flat 0)) = true := by
    unfold sortable
    rw [Bool.and_eq_true, decide_eq_true_eq, decide_eq_true_eq]
    refine ⟨fun s hs' => ?_, by omega⟩
    simp only [namesOf, List.mem_map, List.mem_filter, beq_iff_eq] at hs'
    obtain ⟨x, ⟨hx, h2⟩, rfl⟩ := hs'
    have := flat_sound t hok 0 x hx
    unfold soundB at this
    rw [if_pos h2] at this
    simp only [Bool.and_eq_true] at this
    have := name_size this.2
    omega
  refine ⟨compactS (sortS (namesOf (t.flat 0))), fun h => ?_, ?_⟩
  · by_cases c : namesOf (t.flat 0) = []
    · exact c
    · refine absurd h (compact_nil (fun h' => c ?_))
      have := sortS_len (namesOf (t.flat 0))
      rw [h'] at this
      exact List.eq_nil_of_length_eq_zero this.symm
  · unfold expr_Vars.f
    refine Ev.bind hc (Ev.pos rfl (vars_loop (t.flat 0) (by omega) _ (t.flat 0) 0 [] rfl (by omega) (by simp) ?_))
    rw [List.nil_append, if_pos hso]

/-! ### facts and values -/
theorem apply_zero (op : Int) (a : List Int) (h : (applyS op a).2 ≠ 0) : (applyS op a).1 = 0 := by
  unfold applyS at *
  split
  · rfl
  · rename_i c
    rw [if_neg c] at h
    split
    · rename_i c3; rw [if_pos c3] at h; exact absurd rfl h
    · rename_i c3; rw [if_neg c3] at h
      split
      · rename_i c4; rw [if_pos c4] at h; exact absurd rfl h
      · rename_i c4; rw [if_neg c4] at h
        split
        · rename_i c5; rw [if_pos c5] at h; exact absurd rfl h
        · rename_i c5; rw [if_neg c5] at h
          split
          · rfl
          · rename_i c6; rw [if_neg c6] at h; exact absurd rfl h
/-- an operator that has its parts traps at division by 0 alone -/
theorem apply_ok (op : Int) (a : List Int) (h1 : op ≠ 1) (h2 : op ≠ 2) (ha : (arityS op).2 = 0) (hl : (a.length : Int) = (arityS op).1) (hd : (op = 8 ∨ op = 9) → rd a 1 ≠ 0) : (applyS op a).2 = 0 := by
  have h0 : (arityS op).1 ≠ 0 := by
    unfold arityS at ha ⊢
    rw [if_neg (by omega)] at ha ⊢
    split
    · simp
    · rename_i c; rw [if_neg c] at ha
      split
      · simp
      · rename_i c; rw [if_neg c] at ha
        split
        · simp
        · rename_i c; rw [if_neg c] at ha; cases ha
  unfold applyS
  rw [if_neg (show ¬ ((arityS op).2 ≠ 0 ∨ (arityS op).1 = 0 ∨ (arityS op).1 ≠ (a.length : Int)) from fun h => h.elim (fun h => h ha) (fun h => h.elim h0 (fun h => h hl.symm)))]
  split
  · rfl
  · split
    · rfl
    · split
      · rfl
      · split
        · rename_i c; exact absurd c.2 (hd c.1)
        · rfl
theorem apply_div {op : Int} {a : List Int} (h : (applyS op a).2 = 0) (hd : op = 8 ∨ op = 9) : rd a 1 ≠ 0 := by
  intro h0
  unfold applyS at h
  split at h
  · cases h
  · rw [if_neg (by omega), if_neg (by omega), if_neg (by omega), if_pos ⟨hd, h0⟩] at h
    cases h

/-- what facts say of values -/
structure Holds3 (b : List Bd) (t : Tr) : Prop where
  const : t.fact.f1 = true → t.val b = some t.fact.f2 ∧ t.fact.f0 = true
  total : t.fact.f0 = true → (t.val b).isSome = true
  zero : t.fact.f1 = false → t.fact.f2 = 0
  closed : namesOf (t.flat 0) = [] → (t.fact.f1 = (t.val b).isSome)

theorem names_shift (t : Tr) : ∀ p q, namesOf (t.flat p) = namesOf (t.flat q) := by
  induction t using Tr.ind with
  | h op n nm ks ih =>
    intro p q
    have hF : ∀ (l : List Tr), (∀ k ∈ l, k ∈ ks) → ∀ p q, namesOf (flatF l p) = namesOf (flatF l q) := by
      intro l
      induction l with
      | nil => intro _ p q; rfl
      | cons t l ihl =>
        intro hm p q
        have h1 := ih t (hm t (List.mem_cons_self ..)) p q
        have h2 := ihl (fun k hk => hm k (List.mem_cons_of_mem _ hk)) (p + t.size) (q + t.size)
        simp only [flatF, namesOf, List.filter_append, List.map_append] at h1 h2 ⊢
        rw [h1, h2]
    have h1 := hF ks (fun _ h => h) p q
    simp only [Tr.flat, namesOf, List.filter_append, List.map_append] at h1 ⊢
    rw [h1]
    congr 1
    by_cases c : op = 2 <;> simp [c]
theorem names_kids {op n : Int} {nm : ByteArray} {ks : List Tr} (h : namesOf ((Tr.node op n nm ks).flat 0) = []) : op ≠ 2 ∧ ∀ k ∈ ks, namesOf (k.flat 0) = [] := by
  have h0 : namesOf (flatF ks 0) = [] ∧ op ≠ 2 := by
    simp only [Tr.flat, namesOf, List.filter_append, List.map_append, List.append_eq_nil_iff] at h
    refine ⟨h.1, fun c => ?_⟩
    have := h.2
    simp [c] at this
  refine ⟨h0.2, ?_⟩
  have hF : ∀ (l : List Tr) (p : Nat), namesOf (flatF l p) = [] → ∀ k ∈ l, namesOf (k.flat 0) = [] := by
    intro l
    induction l with
    | nil => intro p _ k hk; cases hk
    | cons t l ihl =>
      intro p h k hk
      simp only [flatF, namesOf, List.filter_append, List.map_append, List.append_eq_nil_iff] at h
      rcases List.mem_cons.1 hk with rfl | hk
      · rw [names_shift k 0 p]; exact h.1
      · exact ihl _ h.2 k hk
  exact hF ks 0 h0.1

theorem kids_const {b : List Bd} : ∀ (ks : List Tr), (∀ k ∈ ks, Holds3 b k) → (factsK ks).all (·.f1) = true → valK b ks = some ((factsK ks).map (·.f2)) ∧ (factsK ks).all (·.f0) = true
  | [], _, _ => by simp [factsK, valK]
  | t :: r, h, hc => by
    simp only [factsK, List.all_cons, Bool.and_eq_true] at hc ⊢
    obtain ⟨v, w⟩ := (h t (List.mem_cons_self ..)).const hc.1
    obtain ⟨v', w'⟩ := kids_const r (fun k hk => h k (List.mem_cons_of_mem _ hk)) hc.2
    simp only [valK, v, v', w, w', Option.bind_some, Option.map_some, List.map_cons]
    exact ⟨trivial, trivial, trivial⟩
theorem kids_total {b : List Bd} : ∀ (ks : List Tr), (∀ k ∈ ks, Holds3 b k) → (factsK ks).all (·.f0) = true → ∃ ws, valK b ks = some ws ∧ (∀ (i : Nat) (f : Fc), (factsK ks)[i]? = some f → f.f1 = true → ws[i]? = some f.f2)
  | [], _, _ => ⟨[], by simp [valK], fun i f h => by simp [factsK] at h⟩
  | t :: r, h, hc => by
    simp only [factsK, List.all_cons, Bool.and_eq_true] at hc
    obtain ⟨v, hv⟩ := Option.isSome_iff_exists.1 ((h t (List.mem_cons_self ..)).total hc.1)
    obtain ⟨ws, hw, hp⟩ := kids_total r (fun k hk => h k (List.mem_cons_of_mem _ hk)) hc.2
    refine ⟨v :: ws, by simp [valK, hv, hw], fun i f hf hf1 => ?_⟩
    cases i with
    | zero =>
      simp only [factsK, List.getElem?_cons_zero, Option.some.injEq] at hf
      subst hf
      have := ((h t (List.mem_cons_self ..)).const hf1).1
      rw [hv] at this
      simpa using this
    | succ i =>
      simp only [factsK, List.getElem?_cons_succ] at hf ⊢
      exact hp i f hf hf1
theorem kids_closed {b : List Bd} : ∀ (ks : List Tr), (∀ k ∈ ks, Holds3 b k) → (∀ k ∈ ks, namesOf (k.flat 0) = []) → (valK b ks).isSome = true → (factsK ks).all (·.f1) = true
  | [], _, _, _ => rfl
  | t :: r, h, hn, hv => by
    simp only [valK] at hv
    obtain ⟨ws, hw⟩ := Option.isSome_iff_exists.1 hv
    obtain ⟨v, hv1, h2⟩ := Option.bind_eq_some_iff.1 hw
    obtain ⟨w, hw1, _⟩ := Option.map_eq_some_iff.1 h2
    have h1 := (h t (List.mem_cons_self ..)).closed (hn t (List.mem_cons_self ..))
    have h3 := kids_closed r (fun k hk => h k (List.mem_cons_of_mem _ hk)) (fun k hk => hn k (List.mem_cons_of_mem _ hk)) (by rw [hw1]; rfl)
    simp only [factsK, List.all_cons, Bool.and_eq_true]
    exact ⟨by rw [h1, hv1]; rfl, h3⟩

theorem holds3 (b : List Bd) (t : Tr) : t.ok → Holds3 b t := by
  induction t using Tr.ind with
  | h op n nm ks ih =>
    intro hok
    have hak := ok_kids hok
    cases hok with
    | node hs hks =>
    have hk : ∀ k ∈ ks, Holds3 b k := fun k hk => ih k hk (hks k hk)
    have hfl := factsK_length ks
    have hN : (Tr.node op n nm ks).fact = factS op n (factsK ks) := by simp only [Tr.fact]
    have hV : (Tr.node op n nm ks).val b = (valK b ks).bind (opS b op n nm) := by simp only [Tr.val]
    by_cases c1 : op = 1
    · have hk0 : ks = [] := List.eq_nil_of_length_eq_zero (by have : (arityS op).1 = 0 := by rw [c1]; rfl
                                                              omega)
      subst hk0
      have e1 : (Tr.node op n nm []).fact = ⟨true, true, n⟩ := by rw [hN]; simp [factS, totalS, numberS, c1, factsK]
      have e2 : (Tr.node op n nm []).val b = some n := by rw [hV]; simp [valK, opS, c1]
      exact ⟨fun _ => by rw [e1, e2]; exact ⟨rfl, rfl⟩, fun _ => by rw [e2]; rfl, fun h => (by rw [e1] at h; cases h), fun _ => by rw [e1, e2]; rfl⟩
    · by_cases c2 : op = 2
      · have hk0 : ks = [] := List.eq_nil_of_length_eq_zero (by have : (arityS op).1 = 0 := by rw [c2]; rfl
                                                                omega)
        subst hk0
        have e1 : (Tr.node op n nm []).fact = ⟨true, false, 0⟩ := by rw [hN]; simp [factS, totalS, numberS, c2, factsK]
        have e2 : (Tr.node op n nm []).val b = some (getS b nm) := by rw [hV]; simp [valK, opS, c2]
        refine ⟨fun h => (by rw [e1] at h; cases h), fun _ => by rw [e2]; rfl, fun _ => by rw [e1], fun h => absurd c2 (names_kids h).1⟩
      · have hop : ∀ a, opS b op n nm a = if (applyS op a).2 = 0 then some (applyS op a).1 else none := fun a => by unfold opS; rw [if_neg c1, if_neg c2]
        have hT : (Tr.node op n nm ks).fact.f0 = true → ((Tr.node op n nm ks).val b).isSome = true := by
          intro h
          rw [hN] at h
          simp only [factS, totalS, Bool.and_eq_true] at h
          obtain ⟨ws, hw, hp⟩ := kids_total ks hk h.1
          have hwl := valK_len ks ws hw
          rw [hV, hw, Option.bind_some, hop, if_pos]
          · rfl
          · refine apply_ok op ws c1 c2 hak.1 (by omega) (fun hd => ?_)
            rw [if_pos hd] at h
            have h2 : ks.length = 2 := by have := arity_div hd; omega
            match hfk : factsK ks, hfl.trans h2 with
            | [f, g], _ =>
              rw [hfk] at h hp
              simp only [divS, Bool.and_eq_true, bne_iff_ne] at h
              have := hp 1 g rfl h.2.1
              rw [show rd ws 1 = g.f2 from rdI (i := 1) this]
              exact h.2.2
        by_cases c3 : (factsK ks).all (·.f1) = true
        · obtain ⟨hv, h0⟩ := kids_const ks hk c3
          have e1 : (Tr.node op n nm ks).fact.f1 = ((applyS op ((factsK ks).map (·.f2))).2 == 0) := by rw [hN]; simp only [factS, numberS, if_neg c1, if_neg c2, if_pos c3]
          have e2 : (Tr.node op n nm ks).fact.f2 = (applyS op ((factsK ks).map (·.f2))).1 := by rw [hN]; simp only [factS, numberS, if_neg c1, if_neg c2, if_pos c3]
          have e3 : (Tr.node op n nm ks).val b = if (applyS op ((factsK ks).map (·.f2))).2 = 0 then some (applyS op ((factsK ks).map (·.f2))).1 else none := by rw [hV, hv, Option.bind_some, hop]
          refine ⟨fun h => ?_, hT, fun h => ?_, fun _ => ?_⟩
          · rw [e1, beq_iff_eq] at h
            rw [e3, if_pos h, e2]
            refine ⟨rfl, ?_⟩
            rw [hN]
            simp only [factS, totalS, h0, Bool.true_and]
            split
            · rename_i hd
              have hne := apply_div h hd
              have h2 : ks.length = 2 := by have := arity_div hd; omega
              match hfk : factsK ks, hfl.trans h2 with
              | [f, g], _ =>
                rw [hfk] at c3 hne
                simp only [List.all_cons, Bool.and_eq_true] at c3
                simp only [divS, Bool.and_eq_true, bne_iff_ne]
                refine ⟨c3.2.1, ?_⟩
                rw [show rd ([f, g].map (·.f2)) 1 = g.f2 from rfl] at hne
                exact hne
            · rfl
          · rw [e1, beq_eq_false_iff_ne] at h
            rw [e2, apply_zero _ _ h]
          · rw [e1, e3]
            by_cases c : (applyS op ((factsK ks).map (·.f2))).2 = 0
            · rw [if_pos c, c]; rfl
            · rw [if_neg c]; simpa using c
        · have e1 : (Tr.node op n nm ks).fact.f1 = false := by rw [hN]; simp only [factS, numberS, if_neg c1, if_neg c2, if_neg c3]
          have e2 : (Tr.node op n nm ks).fact.f2 = 0 := by rw [hN]; simp only [factS, numberS, if_neg c1, if_neg c2, if_neg c3]
          refine ⟨fun h => (by rw [e1] at h; cases h), hT, fun _ => e2, fun h => ?_⟩
          rw [e1]
          have hv : valK b ks = none := by
            cases hvk : valK b ks with
            | none => rfl
            | some ws => exact absurd (kids_closed ks hk (names_kids h).2 (by rw [hvk]; rfl)) c3
          rw [hV, hv]; rfl

theorem FactsHold_pure (l : List Nd) (b : List Bd) (h : l.length * 56 ≤ reachBytes ∧ ∀ x ∈ l, NodeOk x) (hb : b.length * 24 ≤ reachBytes) : ∃ k, sorrellaw13_FactsHold.f k l b = some true := by
  have hn : ∀ x ∈ l, x.f2.size ≤ reachBytes := fun x hx => (h.2 x hx).2.2.1
  have hk : ∀ x ∈ l, x.f3.length * 8 ≤ reachBytes := fun x hx => (h.2 x hx).2.2.2.1
  have hrb : reachBytes = 140737488351232 := rfl
  have hbl : b.length ≤ 9223372036854775807 := by omega
  refine Ev.rounds (g := fun k => sorrellaw13_FactsHold.f k l b) ?_
  unfold sorrellaw13_FactsHold.f
  have hcp := copy_ev l h.1 hk
  refine Ev.bind awake_ev (Ev.pos rfl (Ev.bind hcp ?_))
  rcases check_cases l with hc | hc
  · obtain ⟨t, rfl, hok, hs⟩ := tree_of_check hc
    obtain ⟨ns, hns, hvars⟩ := vars_tree t hok hs hn
    have H := holds3 b t hok
    refine Ev.bind (factsOf_tree t hok hs hn) (Ev.bind hcp (Ev.bind (Ev.now _) (Ev.pos (by simp; omega) ?_)))
    rw [List.nil_append]
    refine Ev.bind (eval_tree t hok hs hn hbl) (Ev.bind hcp (Ev.bind (check_ev _ hn) (Ev.pos hc (Ev.bind hcp (Ev.bind hvars ?_)))))
    have hlast : ∀ g : Int, (g = 0 ↔ (t.val b).isSome = true) → Ev (fun _ : Nat => if (ns.length : Int) > 0 then some true else some (t.fact.f1 == (g == 0))) true := by
      intro g hg
      by_cases c : (ns.length : Int) > 0
      · exact Ev.pos c (Ev.now _)
      · refine Ev.neg c (Ev.eq (Ev.now _) ?_)
        have h1 := H.closed (hns (List.eq_nil_of_length_eq_zero (by omega)))
        rw [h1, beq_iff_eq]
        cases hv : (t.val b).isSome with
        | true => rw [hg.2 hv]; rfl
        | false =>
          have : g ≠ 0 := fun h => by rw [hg.1 h] at hv; cases hv
          simp [this]
    cases hv : t.val b with
    | some v =>
      have hg : ((v, (0 : Int)).2 = 0 ↔ (t.val b).isSome = true) := by rw [hv]; simp
      have hl := hlast 0 hg
      by_cases c1 : t.fact.f1 = true
      · obtain ⟨h1, h2⟩ := H.const c1
        rw [hv] at h1
        refine Ev.pos c1 (Ev.pos rfl (Ev.pos (Option.some.inj h1) (Ev.pos h2 hl)))
      · refine Ev.neg c1 ?_
        have h0 := H.zero (Bool.eq_false_iff.2 c1)
        by_cases c2 : t.fact.f0 = true
        · exact Ev.pos c2 (Ev.pos rfl (Ev.pos h0 hl))
        · exact Ev.neg c2 (Ev.pos h0 hl)
    | none =>
      have hg : (((0 : Int), (12 : Int)).2 = 0 ↔ (t.val b).isSome = true) := by rw [hv]; simp
      have hl := hlast 12 hg
      have c1 : ¬ t.fact.f1 = true := fun h => by have := (H.const h).1; rw [hv] at this; cases this
      have c2 : ¬ t.fact.f0 = true := fun h => by have := H.total h; rw [hv] at this; cases this
      exact Ev.neg c1 (Ev.neg c2 (Ev.pos (H.zero (Bool.eq_false_iff.2 c1)) hl))
  · refine Ev.bind (factsOf_bad l hc hn) (Ev.bind hcp (Ev.bind (Ev.now _) (Ev.pos (by simp; omega) ?_)))
    rw [List.nil_append]
    refine Ev.bind (eval_bad l hc hn) (Ev.bind hcp (Ev.bind (check_ev _ hn) ?_))
    rw [hc]
    exact Ev.neg (by simp) (Ev.pos rfl (Ev.now _))
end Go.Proofs.YtpboednjlchnhaaDoor.Q
