/- sorrellaw13.FactsParts, said of numbers and lists. -/
import Derived.Test.YtpboednjlchnhaaDoorZFPFactsS
import Derived.Test.YtpboednjlchnhaaDoorZFPPartS
import Derived.Test.YtpboednjlchnhaaDoorZFP3
namespace Go.Proofs.YtpboednjlchnhaaDoor.Q
open Go.RowKit Go.Proofs.YtpboednjlchnhaaDoorW.PrintWords Go.Proofs.YtpboednjlchnhaaDoorW.PrintLast Go.Proofs.YtpboednjlchnhaaDoorW.PrintMore
set_option linter.unusedVariables false
set_option linter.unusedSimpArgs false

theorem awake_ev : Ev (fun k => sorrellaw13_awake.f k) true := by
  unfold sorrellaw13_awake.f
  have ht : (Tr.node 1 7 ⟨#[]⟩ []).ok := Tr.ok.node (by decide +kernel) (fun k hk => by cases hk)
  have := factsOf_tree (Tr.node 1 7 ⟨#[]⟩ []) ht (by simp [Tr.size, sizeF]) (fun x hx => by
    simp [Tr.flat, flatF] at hx
    subst hx
    exact Nat.zero_le _)
  refine Ev.bind this ?_
  refine Ev.pos rfl (Ev.eq (Ev.now _) ?_)
  decide +kernel

/-- the last part's fact, or nothing known -/
def lastF (fs : List Fc) : Fc := fs.getLastD ⟨false, false, 0⟩

section
variable (e : List Nd) (op n : Int) (nm : ByteArray) (ks : List Tr) (T C : Bool) (N : Int)

/-- what stands behind the loop: what is wanted of the operator -/
theorem parts_end (hok : (Tr.node op n nm ks).ok) (hf : (Tr.node op n nm ks).fact = ⟨T, C, N⟩) :
    Ev (fun k => if op = 8 then (sorrellaw13_FactsParts.j2 k ((factsK ks).all (·.f0)) (op != 2 && (factsK ks).all (·.f1)) ((factsK ks).map (·.f2)) true op n nm (rootsF ks 0) T C N (lastF (factsK ks)).f0 (lastF (factsK ks)).f1 (lastF (factsK ks)).f2) else (sorrellaw13_FactsParts.j2 k ((factsK ks).all (·.f0)) (op != 2 && (factsK ks).all (·.f1)) ((factsK ks).map (·.f2)) (op == 9) op n nm (rootsF ks 0) T C N (lastF (factsK ks)).f0 (lastF (factsK ks)).f1 (lastF (factsK ks)).f2)) true := by
  have hak := ok_kids hok
  simp only [Tr.fact, factS] at hf
  injection hf with hT hC hN
  have hlen := factsK_length ks
  generalize factsK ks = fs at *
  -- j3: the number
  have h3 : ∀ t, t = T → Ev (fun k => sorrellaw13_FactsParts.j3 k t (op != 2 && fs.all (·.f1)) (fs.map (·.f2)) op n nm (rootsF ks 0) T C N) true := by
    intro t ht
    subst ht
    refine Ev.step (fun k => by rw [sorrellaw13_FactsParts.j3]) ?_
    unfold numberS at hC hN
    by_cases c1 : op = 1
    · rw [if_pos c1] at hC hN
      refine Ev.pos c1 (Ev.eq (Ev.now _) ?_)
      have hl0 : fs = [] := by
        have h1 : (arityS op).1 = 0 := by rw [c1]; rfl
        exact List.eq_nil_of_length_eq_zero (by omega)
      rw [← hT, ← hC, ← hN, hl0, c1]
      simp [totalS]
    · rw [if_neg c1] at hC hN
      refine Ev.neg c1 ?_
      by_cases c2 : op = 2
      · rw [if_pos c2] at hC hN
        refine Ev.neg (by simp [c2]) (Ev.eq (Ev.now _) ?_)
        rw [← hC, ← hN]
        simp
      · rw [if_neg c2] at hC hN
        by_cases c3 : fs.all (·.f1) = true
        · rw [if_pos c3] at hC hN
          refine Ev.pos (by rw [c3]; simp [c2]) ?_
          refine Ev.bind (apply_ev _ _) (Ev.eq (Ev.now _) ?_)
          rw [← hC, ← hN]
          simp
        · rw [if_neg c3] at hC hN
          refine Ev.neg (by simp [c3]) (Ev.eq (Ev.now _) ?_)
          rw [← hC, ← hN]
          simp
  have hdiv : (op = 8 ∨ op = 9) → divS fs = ((lastF fs).f1 && (lastF fs).f2 != 0) := by
    intro h
    have h2 : fs.length = 2 := by have := arity_div h; omega
    match fs, h2 with
    | [a, b], _ => rfl
  have h2 : ∀ b, (b = true ↔ (op = 8 ∨ op = 9)) → Ev (fun k => sorrellaw13_FactsParts.j2 k (fs.all (·.f0)) (op != 2 && fs.all (·.f1)) (fs.map (·.f2)) b op n nm (rootsF ks 0) T C N (lastF fs).f0 (lastF fs).f1 (lastF fs).f2) true := by
    intro b hb
    refine Ev.step (fun k => by rw [sorrellaw13_FactsParts.j2]) ?_
    unfold totalS at hT
    by_cases c : b = true
    · refine Ev.pos c ?_
      have ho := hb.1 c
      rw [if_pos ho, hdiv ho] at hT
      by_cases c0 : fs.all (·.f0) = true
      · refine Ev.pos c0 ?_
        rw [c0, Bool.true_and] at hT
        by_cases c1 : (lastF fs).f1 = true
        · refine Ev.pos c1 (h3 _ ?_)
          rw [← hT, c1, Bool.true_and]
        · refine Ev.neg c1 (h3 _ ?_)
          rw [← hT]
          simp [c1]
      · refine Ev.neg c0 (h3 _ ?_)
        rw [← hT]
        simp [c0]
    · refine Ev.neg c (h3 _ ?_)
      rw [if_neg (fun h => c (hb.2 h)), Bool.and_true] at hT
      exact hT
  by_cases c : op = 8
  · exact Ev.pos c (h2 true (by simp [c]))
  · exact Ev.neg c (h2 (op == 9) (by simp [c]))

theorem parts_loop (he : e = (Tr.node op n nm ks).flat 0) (hok : (Tr.node op n nm ks).ok) (hsz : (Tr.node op n nm ks).size ≤ 64) (hn : ∀ x ∈ e, x.f2.size ≤ reachBytes) (hk : ∀ x ∈ e, x.f3.length * 8 ≤ reachBytes)
    (hf : (Tr.node op n nm ks).fact = ⟨T, C, N⟩) : ∀ (r us : List Tr), us ++ r = ks →
    Ev (fun k => sorrellaw13_FactsParts.l0 k e ((factsK us).all (·.f0)) (op != 2 && (factsK us).all (·.f1)) ((factsK us).map (·.f2)) (us.length : Int) op n nm (rootsF ks 0) T C N (lastF (factsK us)).f0 (lastF (factsK us)).f1 (lastF (factsK us)).f2) true := by
  intro r
  have hlen : e.length ≤ 64 := by rw [he, flat_len]; exact hsz
  have hks : ks.length ≤ 64 := by have := len_le_size ks; simp only [Tr.size] at hsz; omega
  induction r with
  | nil =>
    intro us h
    rw [List.append_nil] at h
    subst h
    refine Ev.step (fun k => by rw [sorrellaw13_FactsParts.l0]) (Ev.neg (by rw [rootsF_length]; omega) ?_)
    exact parts_end op n nm us T C N hok hf
  | cons s r ih =>
    intro us h
    have hul : us.length < ks.length := by rw [← h]; simp
    have hroot : (rootsF ks 0)[us.length]? = some ((sizeF us + s.size - 1 : Nat) : Int) := by
      rw [← h, rootsF_append, List.getElem?_append_right (by rw [rootsF_length]; exact Nat.le_refl _), rootsF_length, Nat.sub_self]
      simp only [rootsF, Nat.zero_add, List.getElem?_cons_zero]
    have hsin : s ∈ ks := by rw [← h]; simp
    have hsok : s.ok := by cases hok with | node _ hks => exact hks s hsin
    have hfl : e = flatF us 0 ++ s.flat (sizeF us) ++ (flatF r (sizeF us + s.size) ++ [⟨op, n, nm, rootsF ks 0⟩]) := by
      rw [he]
      simp only [Tr.flat]
      rw [← h, flatF_append]
      simp only [flatF, Nat.zero_add, List.append_assoc]
    have hssz : s.size ≤ 64 := by
      have := congrArg List.length hfl
      simp only [List.length_append, flat_len, flatF_len] at this
      omega
    have hcheck : checkS e = 0 := by rw [he]; exact check_tree _ hok hsz
    refine Ev.step (fun k => by rw [sorrellaw13_FactsParts.l0]) (Ev.pos (by rw [rootsF_length]; omega) ?_)
    refine Ev.bind (copy_ev e (by unfold reachBytes; omega) hk) (Ev.pos (by omega) ?_)
    rw [rdI hroot, wrap_succ (by omega)]
    refine Ev.bind (part_ev e hcheck hn hlen s (sizeF us) _ _ hfl (by rw [flatF_len])) ?_
    refine Ev.bind (factsOf_tree s hsok hssz (fun x hx => ?_)) ?_
    · have hx' : ∃ y ∈ e, y.f2 = x.f2 := by
        have hsh := flat_shift (sizeF us) (by
          have := congrArg List.length hfl
          simp only [List.length_append, flat_len, flatF_len] at this
          omega) s 0 (by omega)
        rw [Nat.add_zero] at hsh
        rw [← hsh] at hx
        obtain ⟨y, hy, rfl⟩ := List.mem_map.1 hx
        exact ⟨y, by rw [hfl]; simp [hy], rfl⟩
      obtain ⟨y, hy, hyx⟩ := hx'
      rw [← hyx]
      exact hn y hy
    refine Ev.pos rfl ?_
    have hgo := ih (us ++ [s]) (by rw [List.append_assoc]; exact h)
    have hfk : factsK (us ++ [s]) = factsK us ++ [s.fact] := by rw [factsK_map, factsK_map]; simp
    rw [hfk] at hgo
    simp only [List.all_append, List.map_append, List.all_cons, List.all_nil, Bool.and_true, List.map_cons, List.map_nil, List.length_append, List.length_singleton] at hgo
    rw [show lastF (factsK us ++ [s.fact]) = s.fact from by unfold lastF; simp] at hgo
    have hlm : ((factsK us).map (·.f2)).length < 17592186044416 := by rw [List.length_map, factsK_length]; omega
    by_cases c1 : (factsK us).all (·.f0) = true
    · refine Ev.pos c1 ?_
      rw [c1, Bool.true_and] at hgo
      by_cases c2 : (op != 2 && (factsK us).all (·.f1)) = true
      · refine Ev.pos c2 (Ev.pos hlm ?_)
        rw [← Bool.and_assoc, c2, Bool.true_and] at hgo
        exact hgo
      · refine Ev.neg c2 (Ev.pos hlm ?_)
        rw [← Bool.and_assoc, Bool.eq_false_iff.2 c2, Bool.false_and] at hgo
        exact hgo
    · refine Ev.neg c1 ?_
      rw [Bool.eq_false_iff.2 c1, Bool.false_and] at hgo
      by_cases c2 : (op != 2 && (factsK us).all (·.f1)) = true
      · refine Ev.pos c2 (Ev.pos hlm ?_)
        rw [← Bool.and_assoc, c2, Bool.true_and] at hgo
        exact hgo
      · refine Ev.neg c2 (Ev.pos hlm ?_)
        rw [← Bool.and_assoc, Bool.eq_false_iff.2 c2, Bool.false_and] at hgo
        exact hgo
end

theorem FactsParts_pure (l : List Nd) (h : l.length * 56 ≤ reachBytes ∧ ∀ x ∈ l, NodeOk x) : ∃ k, sorrellaw13_FactsParts.f k l = some true := by
  have hn : ∀ x ∈ l, x.f2.size ≤ reachBytes := fun x hx => (h.2 x hx).2.2.1
  have hk : ∀ x ∈ l, x.f3.length * 8 ≤ reachBytes := fun x hx => (h.2 x hx).2.2.2.1
  refine Ev.rounds (g := fun k => sorrellaw13_FactsParts.f k l) ?_
  unfold sorrellaw13_FactsParts.f
  refine Ev.bind awake_ev (Ev.pos rfl ?_)
  refine Ev.bind (copy_ev l h.1 hk) (Ev.bind (check_ev l hn) ?_)
  rcases check_cases l with hc | hc
  · rw [hc]
    obtain ⟨t, rfl, hok, hs⟩ := tree_of_check hc
    refine Ev.step (fun k => by rw [sorrellaw13_FactsParts.j0]) (Ev.neg (by simp) ?_)
    have hl := flat_len t 0
    have h1 := t.size_pos
    have hw : wrap64 (((t.flat 0).length : Int) - 1) = ((t.size - 1 : Nat) : Int) := by rw [wrap_in (by omega) (by omega)]; omega
    rw [hw]
    refine Ev.pos (by omega) (Ev.pos (by omega) ?_)
    refine Ev.bind (copy_ev _ h.1 hk) (Ev.bind (factsOf_tree t hok hs hn) ?_)
    match t, hok, hs, hn, hk, hl with
    | .node op n nm ks, hok, hs, hn, hk, hl =>
      have hx : ((Tr.node op n nm ks).flat 0)[(Tr.node op n nm ks).size - 1]? = some ⟨op, n, nm, rootsF ks 0⟩ := by
        simp only [Tr.flat, Tr.size]
        rw [List.getElem?_append_right (by rw [flatF_len]; omega), flatF_len]
        simp
      rw [rdN hx]
      have := parts_loop _ op n nm ks (Tr.node op n nm ks).fact.f0 (Tr.node op n nm ks).fact.f1 (Tr.node op n nm ks).fact.f2 rfl hok hs hn hk rfl ks [] rfl
      simpa [factsK, lastF] using this
  · rw [hc]
    exact Ev.step (fun k => by rw [sorrellaw13_FactsParts.j0]) (Ev.pos (by simp) (Ev.bind awake_ev (Ev.now _)))
end Go.Proofs.YtpboednjlchnhaaDoor.Q
