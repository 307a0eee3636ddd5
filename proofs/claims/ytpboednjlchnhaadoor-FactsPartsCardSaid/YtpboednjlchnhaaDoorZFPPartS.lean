/- What the printed sorrelref02.Copy, expr.begin, expr.join (with a nil list) and expr.Part compute: the part of a tree is a tree. -/
import Derived.Test.YtpboednjlchnhaaDoorZFPTrees
import Derived.Test.YtpboednjlchnhaaDoorZFPJoin
import Derived.Test.YtpboednjlchnhaaDoorZFPG0
import Derived.Test.YtpboednjlchnhaaDoorZFPG1
namespace Go.Proofs.YtpboednjlchnhaaDoor.Q
open Go.RowKit Go.Proofs.YtpboednjlchnhaaDoorW.PrintWords Go.Proofs.YtpboednjlchnhaaDoorW.PrintLast Go.Proofs.YtpboednjlchnhaaDoorW.PrintMore
set_option linter.unusedVariables false
set_option linter.unusedSimpArgs false

/-! ### Copy -/
theorem copy_loop (e : List Nd) (hl : e.length * 56 ≤ reachBytes) (hk : ∀ x ∈ e, x.f3.length * 8 ≤ reachBytes) : ∀ (r acc : List Nd), acc ++ r = e →
    Ev (fun k => sorrelref02_Copy.l0 k e acc (acc.length : Int)) e := by
  unfold reachBytes at hl hk
  intro r
  induction r with
  | nil =>
    intro acc h
    refine Ev.step (fun k => by rw [sorrelref02_Copy.l0]) (Ev.neg (by rw [← h]; simp) (Ev.eq (Ev.now _) (by simpa using h)))
  | cons x r ih =>
    intro acc h
    have hx : e[acc.length]? = some x := by rw [← h, List.getElem?_append_right (Nat.le_refl _)]; simp
    have hlt : acc.length < e.length := (List.getElem?_eq_some_iff.1 hx).1
    have hxk := hk x (List.mem_of_getElem? hx)
    refine Ev.step (fun k => by rw [sorrelref02_Copy.l0]) (Ev.pos (by omega) (Ev.pos (by omega) ?_))
    rw [rdN hx, wrap_succ (by omega)]
    refine Ev.bind (Ev.now _) ?_
    refine Ev.pos (by simp; omega) (Ev.pos (by omega) ?_)
    have := ih (acc ++ [x]) (by rw [List.append_assoc]; exact h)
    rw [List.length_append, List.length_singleton] at this
    exact this
theorem copy_ev (e : List Nd) (hl : e.length * 56 ≤ reachBytes) (hk : ∀ x ∈ e, x.f3.length * 8 ≤ reachBytes) : Ev (fun k => sorrelref02_Copy.f k e) e := by
  unfold sorrelref02_Copy.f
  exact copy_loop e hl hk e [] rfl

/-! ### begin -/
theorem begin_tree (e : List Nd) (he : e.length ≤ 64) (s : Tr) : ∀ (b : Nat) (post : List Nd), e.drop b = s.flat b ++ post → b + s.size ≤ e.length → Ev (fun k => expr_begin.f k e ((b + s.size - 1 : Nat) : Int)) (b : Int) := by
  unfold expr_begin.f
  induction s using Tr.ind with
  | h op n nm ks ih =>
    intro b post hd hl
    simp only [Tr.flat, Tr.size] at hd hl ⊢
    have hx : e[b + sizeF ks]? = some ⟨op, n, nm, rootsF ks b⟩ := by
      have : (e.drop b)[sizeF ks]? = some (⟨op, n, nm, rootsF ks b⟩ : Nd) := by
        rw [hd, List.append_assoc, List.getElem?_append_right (by rw [flatF_len]; exact Nat.le_refl _), flatF_len]
        simp
      rw [List.getElem?_drop] at this
      exact this
    rw [show b + (sizeF ks + 1) - 1 = b + sizeF ks from by omega]
    refine Ev.step (fun k => by rw [expr_begin.l0]) (Ev.pos (by omega) (Ev.pos (by omega) ?_))
    rw [rdN hx]
    match ks, ih, hd, hl with
    | [], _, _, _ =>
      refine Ev.neg (by simp [rootsF]) (Ev.eq (Ev.now _) (by simp [sizeF]))
    | k0 :: ks, ih, hd, hl =>
      refine Ev.pos (by simp [rootsF]) (Ev.pos (by simp [rootsF]) ?_)
      rw [show rd (rootsF (k0 :: ks) b) 0 = ((b + k0.size - 1 : Nat) : Int) from rfl]
      simp only [flatF, sizeF] at hd hl
      exact ih k0 (List.mem_cons_self ..) b (flatF ks (b + k0.size) ++ [⟨op, n, nm, rootsF (k0 :: ks) b⟩] ++ post) (by rw [hd]; simp) (by omega)

/-! ### join -/
def shiftS (d : Int) (x : Nd) : Nd := ⟨x.f0, x.f1, x.f2, x.f3.map fun k => wrap64 (k + d)⟩
theorem join_kids (d : Int) (l : List Nd) (n i : Int) (x : Nd) (acc : List Nd) (r : List Nd) (hk : x.f3.length ≤ 17592186044416) (hacc : acc.length < 2513169434916)
    (h : Ev (fun k => expr_joinN.l0 k (acc ++ [shiftS d x]) d l n (wrap64 (i + 1))) r) : ∀ (m j : Nat), j + m = x.f3.length →
    Ev (fun k => expr_joinN.l1 k acc d ((x.f3.take j).map (fun k => wrap64 (k + d)) ++ List.replicate m 0) l n i x.f3 (x.f3.length : Int) (j : Int) x.f0 x.f1 x.f2 x.f3) r := by
  intro m
  induction m with
  | zero =>
    intro j hj
    refine Ev.step (fun k => by rw [expr_joinN.l1]) (Ev.neg (by omega) (Ev.pos hacc ?_))
    rw [List.take_of_length_le (by omega), List.replicate_zero, List.append_nil]
    exact h
  | succ m ih =>
    intro j hj
    have hjl : j < x.f3.length := by omega
    have hx := List.getElem?_eq_getElem hjl
    refine Ev.step (fun k => by rw [expr_joinN.l1]) (Ev.pos (by omega) (Ev.pos (by omega) (Ev.pos (by omega) (Ev.pos (by simp; omega) ?_))))
    rw [rdI hx, wrap_succ (by omega), Int.toNat_natCast]
    have e : ((x.f3.take j).map (fun k => wrap64 (k + d)) ++ List.replicate (m + 1) 0).set j (wrap64 (x.f3[j] + d)) = (x.f3.take (j + 1)).map (fun k => wrap64 (k + d)) ++ List.replicate m 0 := by
      have hlen : ((x.f3.take j).map (fun k => wrap64 (k + d))).length = j := by rw [List.length_map, List.length_take]; omega
      rw [List.set_append_right _ _ (by rw [hlen]; exact Nat.le_refl _), hlen, Nat.sub_self, List.replicate_succ, List.set_cons_zero, List.take_add_one, hx, List.map_append, List.append_assoc]
      rfl
    rw [e]
    exact ih (j + 1) (by omega)
theorem join_loop (d : Int) (l : List Nd) (hl : l.length < 2513169434916) (hk : ∀ x ∈ l, x.f3.length ≤ 17592186044416) : ∀ (r acc pre : List Nd), pre ++ r = l → acc.length = pre.length →
    Ev (fun k => expr_joinN.l0 k acc d l (l.length : Int) (pre.length : Int)) (acc ++ r.map (shiftS d)) := by
  intro r
  induction r with
  | nil =>
    intro acc pre h ha
    refine Ev.step (fun k => by rw [expr_joinN.l0]) (Ev.neg (by rw [← h]; simp) (Ev.eq (Ev.now _) (by simp)))
  | cons x r ih =>
    intro acc pre h ha
    have hx : l[pre.length]? = some x := by rw [← h, List.getElem?_append_right (Nat.le_refl _)]; simp
    have hlt : pre.length < l.length := (List.getElem?_eq_some_iff.1 hx).1
    have hxk := hk x (List.mem_of_getElem? hx)
    refine Ev.step (fun k => by rw [expr_joinN.l0]) (Ev.pos (by omega) (Ev.pos (by omega) (Ev.pos (by omega) ?_)))
    rw [rdN hx, Int.toNat_natCast]
    refine Ev.pos (by omega) (Ev.pos (by omega) ?_)
    have := join_kids d l (l.length : Int) (pre.length : Int) x acc (acc ++ (x :: r).map (shiftS d)) hxk (by omega) (by
      rw [wrap_succ (by omega)]
      have := ih (acc ++ [shiftS d x]) (pre ++ [x]) (by rw [List.append_assoc]; exact h) (by simp [ha])
      rw [List.length_append, List.length_singleton] at this
      rw [List.map_cons, show acc ++ shiftS d x :: r.map (shiftS d) = acc ++ [shiftS d x] ++ r.map (shiftS d) from by simp]
      exact this) x.f3.length 0 (by omega)
    simpa using this
theorem join_ev (d : Int) (l : List Nd) (hl : l.length < 2513169434916) (hk : ∀ x ∈ l, x.f3.length ≤ 17592186044416) : Ev (fun k => expr_join.f k [] l d) (l.map (shiftS d)) := by
  unfold expr_join.f
  refine Ev.pos rfl ?_
  unfold expr_joinN.f
  exact Ev.eq (join_loop d l hl hk l [] [] rfl rfl) (by simp)

/-- trees that are moved -/
theorem roots_shift (b : Nat) (hb : b ≤ 1000000) : ∀ (l : List Tr) (c : Nat), c + sizeF l ≤ 1000000 → (rootsF l (b + c)).map (fun k => wrap64 (k + wrap64 (-(b : Int)))) = rootsF l c := by
  intro l
  induction l with
  | nil => intro c _; rfl
  | cons t l ih =>
    intro c hc
    simp only [sizeF] at hc
    have := t.size_pos
    simp only [rootsF, List.map_cons]
    rw [show b + c + t.size = b + (c + t.size) from by omega, ih (c + t.size) (by omega)]
    congr 1
    rw [wrap_in (i := -(b : Int)) (by omega) (by omega), wrap_in (by omega) (by omega)]
    omega
theorem flat_shift (b : Nat) (hb : b ≤ 1000000) (t : Tr) : ∀ (c : Nat), c + t.size ≤ 1000000 → (t.flat (b + c)).map (shiftS (wrap64 (-(b : Int)))) = t.flat c := by
  induction t using Tr.ind with
  | h op n nm ks ih =>
    intro c hc
    simp only [Tr.size] at hc
    have hF : ∀ (l : List Tr), (∀ k ∈ l, k ∈ ks) → ∀ c, c + sizeF l ≤ 1000000 → (flatF l (b + c)).map (shiftS (wrap64 (-(b : Int)))) = flatF l c := by
      intro l
      induction l with
      | nil => intro _ c _; rfl
      | cons t l ihl =>
        intro hm c hc
        simp only [sizeF] at hc
        simp only [flatF, List.map_append]
        rw [ih t (hm t (List.mem_cons_self ..)) c (by omega), Nat.add_assoc, ihl (fun k hk => hm k (List.mem_cons_of_mem _ hk)) (c + t.size) (by omega)]
    simp only [Tr.flat, List.map_append, List.map_cons, List.map_nil]
    rw [hF ks (fun _ h => h) c (by omega)]
    unfold shiftS
    rw [roots_shift b hb ks c (by omega)]

/-! ### Part: of a tree that stands in a sound expression -/
theorem part_ev (e : List Nd) (hc : checkS e = 0) (hn : ∀ x ∈ e, x.f2.size ≤ reachBytes) (he : e.length ≤ 64) (s : Tr) (b : Nat) (pre post : List Nd) (hp : e = pre ++ s.flat b ++ post) (hb : pre.length = b) :
    Ev (fun k => expr_Part.f k e ((b + s.size - 1 : Nat) : Int)) (s.flat 0, 0) := by
  have hs := s.size_pos
  have hl : b + s.size ≤ e.length := by rw [hp, List.length_append, List.length_append, flat_len]; omega
  unfold expr_Part.f
  refine Ev.bind (check_ev e hn) ?_
  rw [hc]
  refine Ev.pos rfl (Ev.neg (by omega) ?_)
  rw [decide_eq_false (by omega)]
  refine Ev.step (fun k => by rw [expr_Part.j0]) (Ev.neg (by simp) ?_)
  have hd : e.drop b = s.flat b ++ post := by rw [hp, List.append_assoc, List.drop_left' hb]
  refine Ev.bind (begin_tree e he s b post hd hl) ?_
  rw [wrap_succ (by omega), show b + s.size - 1 + 1 = b + s.size from by omega]
  refine Ev.pos (by omega) (Ev.pos (by omega) (Ev.pos (by omega) ?_))
  rw [Int.toNat_natCast, Int.toNat_natCast]
  have ht : (e.take (b + s.size)).drop b = s.flat b := by
    rw [hp, List.take_left' (by rw [List.length_append, flat_len, hb]), List.drop_left' hb]
  rw [ht]
  have hkl : ∀ x ∈ s.flat b, x.f3.length ≤ 17592186044416 := by
    have hall : ∀ (t : Tr) (b : Nat), t.size ≤ 64 → ∀ x ∈ t.flat b, x.f3.length ≤ 17592186044416 := by
      intro t
      induction t using Tr.ind with
      | h op n nm ks ih =>
        intro b hs x hx
        simp only [Tr.size] at hs
        have hF : ∀ (l : List Tr), (∀ k ∈ l, k ∈ ks) → sizeF l ≤ 64 → ∀ b, ∀ x ∈ flatF l b, x.f3.length ≤ 17592186044416 := by
          intro l
          induction l with
          | nil => intro _ _ b x hx; cases hx
          | cons t l ihl =>
            intro hm hs b x hx
            simp only [sizeF] at hs
            simp only [flatF, List.mem_append] at hx
            rcases hx with hx | hx
            · exact ih t (hm t (List.mem_cons_self ..)) b (by omega) x hx
            · exact ihl (fun k hk => hm k (List.mem_cons_of_mem _ hk)) (by omega) _ x hx
        simp only [Tr.flat, List.mem_append, List.mem_singleton] at hx
        rcases hx with hx | rfl
        · exact hF ks (fun _ h => h) (by omega) b x hx
        · show (rootsF ks b).length ≤ _
          rw [rootsF_length]
          have := len_le_size ks
          omega
    exact hall s b (by omega)
  refine Ev.bind (join_ev _ _ (by rw [flat_len]; omega) hkl) ?_
  have := flat_shift b (by omega) s 0 (by omega)
  rw [Nat.add_zero] at this
  rw [this]
  exact Ev.now _
end Go.Proofs.YtpboednjlchnhaaDoor.Q
