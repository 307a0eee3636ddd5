/- Sound expressions are trees. -/
import Derived.Test.YtpboednjlchnhaaDoorZFHSpec
namespace Go.Proofs.YtpboednjlchnhaaDoor.Q
set_option linter.unusedVariables false
set_option linter.unusedSimpArgs false

inductive Tr where
  | node (op n : Int) (nm : ByteArray) (ks : List Tr)

theorem Tr.ind {P : Tr → Prop} (h : ∀ op n nm ks, (∀ k ∈ ks, P k) → P (.node op n nm ks)) : ∀ t, P t
  | .node op n nm ks => h op n nm ks (fun k hk => Tr.ind h k)
termination_by t => SizeOf.sizeOf t
decreasing_by
  have := List.sizeOf_lt_of_mem hk
  simp
  omega

mutual
def Tr.size : Tr → Nat
  | .node _ _ _ ks => sizeF ks + 1
def sizeF : List Tr → Nat
  | [] => 0
  | t :: r => t.size + sizeF r
end
/-- the places of the roots of trees that lie one behind the other from b on -/
def rootsF : List Tr → Nat → List Int
  | [], _ => []
  | t :: r, b => ((b + t.size - 1 : Nat) : Int) :: rootsF r (b + t.size)
mutual
def Tr.flat : Tr → Nat → List Nd
  | .node op n nm ks, b => flatF ks b ++ [⟨op, n, nm, rootsF ks b⟩]
def flatF : List Tr → Nat → List Nd
  | [], _ => []
  | t :: r, b => t.flat b ++ flatF r (b + t.size)
end
/-- all its nodes are sound -/
inductive Tr.ok : Tr → Prop where
  | node {op n nm ks} : soundB ⟨op, n, nm, rootsF ks 0⟩ = true → (∀ k ∈ ks, Tr.ok k) → Tr.ok (.node op n nm ks)

theorem Tr.size_pos (t : Tr) : 1 ≤ t.size := by cases t; simp [Tr.size]
theorem sizeF_append (a b : List Tr) : sizeF (a ++ b) = sizeF a + sizeF b := by
  induction a with
  | nil => simp [sizeF]
  | cons t a ih => simp only [List.cons_append, sizeF, ih]; omega
theorem rootsF_append (a b : List Tr) : ∀ p, rootsF (a ++ b) p = rootsF a p ++ rootsF b (p + sizeF a) := by
  induction a with
  | nil => intro p; simp [rootsF, sizeF]
  | cons t a ih => intro p; simp only [List.cons_append, rootsF, ih, sizeF, Nat.add_assoc]
theorem flatF_append (a b : List Tr) : ∀ p, flatF (a ++ b) p = flatF a p ++ flatF b (p + sizeF a) := by
  induction a with
  | nil => intro p; simp [flatF, sizeF]
  | cons t a ih => intro p; simp only [List.cons_append, flatF, ih, sizeF, Nat.add_assoc, List.append_assoc]
theorem rootsF_length (a : List Tr) : ∀ p, (rootsF a p).length = a.length := by
  induction a with
  | nil => intro p; rfl
  | cons t a ih => intro p; simp [rootsF, ih]
theorem flat_len (t : Tr) : ∀ p, (t.flat p).length = t.size := by
  induction t using Tr.ind with
  | h op n nm ks ih =>
    intro p
    have hf : ∀ (l : List Tr), (∀ k ∈ l, ∀ p, (k.flat p).length = k.size) → ∀ p, (flatF l p).length = sizeF l := by
      intro l
      induction l with
      | nil => intro _ p; rfl
      | cons t l ihl => intro h p; simp only [flatF, sizeF, List.length_append, h t (List.mem_cons_self ..), ihl (fun k hk => h k (List.mem_cons_of_mem _ hk))]
    simp only [Tr.flat, Tr.size, List.length_append, hf ks ih, List.length_singleton]
theorem flatF_len (l : List Tr) : ∀ p, (flatF l p).length = sizeF l := by
  induction l with
  | nil => intro p; rfl
  | cons t l ih => intro p; simp only [flatF, sizeF, List.length_append, flat_len, ih]
theorem len_le_size (l : List Tr) : l.length ≤ sizeF l := by
  induction l with
  | nil => simp [sizeF]
  | cons t l ih => have := t.size_pos; simp only [List.length_cons, sizeF]; omega

theorem soundB_len {x y : Nd} (h0 : x.f0 = y.f0) (h1 : x.f1 = y.f1) (h2 : x.f2 = y.f2) (h3 : x.f3.length = y.f3.length) : soundB x = soundB y := by
  unfold soundB
  rw [h0, h1, h2, h3]

theorem runS_append (a b : List Nd) : ∀ i o, runS (a ++ b) i o = (runS a i o).bind (runS b (i + a.length)) := by
  induction a with
  | nil => intro i o; simp [runS]
  | cons x a ih =>
    intro i o
    simp only [List.cons_append, runS]
    cases stepS o i x with
    | none => rfl
    | some o' => simp only [Option.bind_some]; rw [ih]; simp only [List.length_cons]; rw [show i + 1 + a.length = i + (a.length + 1) by omega]

/-- what the run of the check has gone through is trees -/
theorem run_forest : ∀ (e : List Nd) (ts : List Tr) (o : List Int), (∀ t ∈ ts, t.ok) → runS e (sizeF ts) (rootsF ts 0) = some o → ∃ us : List Tr, flatF us 0 = flatF ts 0 ++ e ∧ o = rootsF us 0 ∧ ∀ t ∈ us, t.ok := by
  intro e
  induction e with
  | nil =>
    intro ts o hok h
    simp only [runS] at h
    exact ⟨ts, by simp, (Option.some.inj h).symm, hok⟩
  | cons x e ih =>
    intro ts o hok h
    simp only [runS] at h
    obtain ⟨o1, h1, h2⟩ := Option.bind_eq_some_iff.1 h
    unfold stepS at h1
    split at h1
    · rename_i hc
      obtain ⟨c1, c2, c3⟩ := hc
      obtain rfl := Option.some.inj h1
      rw [rootsF_length] at c2 c3 h2
      obtain ⟨us, ks, rfl, hk⟩ : ∃ us ks : List Tr, ts = us ++ ks ∧ ks.length = x.f3.length := ⟨ts.take (ts.length - x.f3.length), ts.drop (ts.length - x.f3.length), (List.take_append_drop _ _).symm, by rw [List.length_drop]; omega⟩
      have hl : (us ++ ks).length - x.f3.length = us.length := by rw [List.length_append]; omega
      rw [hl] at c3 h2
      rw [rootsF_append, Nat.zero_add] at c3 h2
      rw [List.drop_left' (by rw [rootsF_length])] at c3
      rw [List.take_left' (by rw [rootsF_length])] at h2
      have hx : x = ⟨x.f0, x.f1, x.f2, rootsF ks (sizeF us)⟩ := by rw [c3]
      have hnode : (Tr.node x.f0 x.f1 x.f2 ks).ok := Tr.ok.node (by
        rw [← c1]
        exact soundB_len rfl rfl rfl (by show (rootsF ks 0).length = x.f3.length; rw [rootsF_length, hk])) (fun k hk => hok k (List.mem_append_right _ hk))
      have hs : sizeF (us ++ [Tr.node x.f0 x.f1 x.f2 ks]) = sizeF (us ++ ks) + 1 := by simp only [sizeF_append, sizeF, Tr.size]; omega
      have hr : rootsF (us ++ [Tr.node x.f0 x.f1 x.f2 ks]) 0 = rootsF us 0 ++ [((sizeF (us ++ ks) : Nat) : Int)] := by
        rw [rootsF_append]
        simp only [rootsF, Tr.size, Nat.zero_add, sizeF_append]
        rfl
      have hfl : flatF (us ++ [Tr.node x.f0 x.f1 x.f2 ks]) 0 = flatF (us ++ ks) 0 ++ [x] := by
        rw [flatF_append, flatF_append]
        simp only [flatF, Tr.flat, Nat.zero_add, List.append_nil, List.append_assoc]
        rw [← hx]
      obtain ⟨vs, v1, v2, v3⟩ := ih (us ++ [Tr.node x.f0 x.f1 x.f2 ks]) o (fun t ht => by
        rcases List.mem_append.1 ht with ht | ht
        · exact hok t (List.mem_append_left _ ht)
        · obtain rfl := List.mem_singleton.1 ht
          exact hnode) (by rw [hs, hr]; exact h2)
      exact ⟨vs, by rw [v1, hfl, List.append_assoc]; rfl, v2, v3⟩
    · cases h1

/-- the run of the check over a tree -/
theorem run_flat (t : Tr) : t.ok → ∀ b S, runS (t.flat b) b S = some (S ++ [((b + t.size - 1 : Nat) : Int)]) := by
  induction t using Tr.ind with
  | h op n nm ks ih =>
    intro hok b S
    cases hok with
    | node hs hks =>
    have hf : ∀ (l : List Tr), (∀ k ∈ l, ∀ b S, runS (k.flat b) b S = some (S ++ [((b + k.size - 1 : Nat) : Int)])) → ∀ b S, runS (flatF l b) b S = some (S ++ rootsF l b) := by
      intro l
      induction l with
      | nil => intro _ b S; simp [flatF, rootsF, runS]
      | cons t l ihl =>
        intro h b S
        simp only [flatF, rootsF]
        rw [runS_append, h t (List.mem_cons_self ..), Option.bind_some, flat_len, ihl (fun k hk => h k (List.mem_cons_of_mem _ hk))]
        simp
    simp only [Tr.flat]
    rw [runS_append, hf ks (fun k hk => ih k hk (hks k hk)), Option.bind_some, flatF_len]
    simp only [runS, stepS]
    rw [if_pos ⟨by rw [← hs]; exact soundB_len rfl rfl rfl (by simp [rootsF_length]), by simp, by simp⟩]
    simp [Tr.size]

theorem check_tree (t : Tr) (h : t.ok) (hs : t.size ≤ 64) : checkS (t.flat 0) = 0 := by
  unfold checkS
  have := t.size_pos
  rw [flat_len, if_neg (by omega), run_flat t h]
  rfl

theorem tree_of_check {e : List Nd} (h : checkS e = 0) : ∃ t : Tr, e = t.flat 0 ∧ t.ok ∧ t.size ≤ 64 := by
  unfold checkS at h
  split at h
  · cases h
  · rename_i hl
    split at h
    · rename_i a hr
      obtain ⟨us, h1, h2, h3⟩ := run_forest e [] [a] (fun t ht => by cases ht) hr
      match us, h2 with
      | [], h2 => simp [rootsF] at h2
      | [t], h2 =>
        have he : e = t.flat 0 := by simpa [flatF] using h1.symm
        refine ⟨t, he, h3 t (List.mem_singleton.2 rfl), ?_⟩
        rw [he, flat_len] at hl
        omega
      | t :: u :: r, h2 => simp [rootsF] at h2
    · cases h

theorem check_cases (e : List Nd) : checkS e = 0 ∨ checkS e = 1 := by
  unfold checkS
  split
  · exact .inr rfl
  · split
    · exact .inl rfl
    · exact .inr rfl
end Go.Proofs.YtpboednjlchnhaaDoor.Q
