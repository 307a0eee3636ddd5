/- What eval.Eval, env.Get and expr.Vars compute, said plainly of trees; facts against values. -/
import Derived.Test.YtpboednjlchnhaaDoorZFHFactsS
import Derived.Test.YtpboednjlchnhaaDoorZFHSortStr
import Derived.Test.YtpboednjlchnhaaDoorZFHG2
import Derived.Test.YtpboednjlchnhaaDoorZFHG3
namespace Go.Proofs.YtpboednjlchnhaaDoor.Q
open Go.RowKit Go.Proofs.YtpboednjlchnhaaDoorW.PrintWords Go.Proofs.YtpboednjlchnhaaDoorW.PrintLast Go.Proofs.YtpboednjlchnhaaDoorW.PrintMore
set_option linter.unusedVariables false
set_option linter.unusedSimpArgs false

abbrev Bd := S115
/-! ### env.Get -/
theorem last_ex (b : List Bd) (nm : ByteArray) (hb : b.length ≤ 9223372036854775807) : ∀ n : Nat, n ≤ b.length → ∃ j : Int, -1 ≤ j ∧ j < b.length ∧ Ev (fun k => env_last.l0 k b nm ((n : Int) - 1)) j := by
  intro n
  induction n with
  | zero =>
    intro _
    exact ⟨-1, by omega, by omega, Ev.step (fun k => by rw [env_last.l0]) (Ev.neg (by simp) (Ev.now _))⟩
  | succ n ih =>
    intro hn
    have e1 : ((n + 1 : Nat) : Int) - 1 = n := by omega
    rw [e1]
    by_cases c : ((rd_T115 b (n : Int)).f0).toList = nm.toList
    · exact ⟨n, by omega, by omega, Ev.step (fun k => by rw [env_last.l0]) (Ev.pos (by omega) (Ev.pos (by omega) (Ev.pos (by omega) (Ev.pos c (Ev.now _)))))⟩
    · obtain ⟨j, h1, h2, h3⟩ := ih (by omega)
      refine ⟨j, h1, h2, Ev.step (fun k => by rw [env_last.l0]) (Ev.pos (by omega) (Ev.pos (by omega) (Ev.pos (by omega) (Ev.neg c ?_))))⟩
      rw [wrap_in (by omega) (by omega)]
      exact h3
theorem get_ex (b : List Bd) (nm : ByteArray) (hb : b.length ≤ 9223372036854775807) : ∃ v : Int, Ev (fun k => env_Get.f k b nm) v := by
  obtain ⟨j, h1, h2, h3⟩ := last_ex b nm hb b.length (Nat.le_refl _)
  have hl : Ev (fun k => env_last.f k b nm) j := by
    unfold env_last.f
    rw [wrap_in (by omega) (by omega)]
    exact h3
  unfold env_Get.f
  by_cases c : j ≥ 0
  · exact ⟨_, Ev.bind hl (Ev.pos c (Ev.pos c (Ev.pos h2 (Ev.now _))))⟩
  · exact ⟨0, Ev.bind hl (Ev.neg c (Ev.now _))⟩
open Classical in
/-- the number of a name -/
noncomputable def getS (b : List Bd) (nm : ByteArray) : Int := if h : ∃ v : Int, Ev (fun k => env_Get.f k b nm) v then Classical.choose h else 0
theorem get_ev (b : List Bd) (nm : ByteArray) (hb : b.length ≤ 9223372036854775807) : Ev (fun k => env_Get.f k b nm) (getS b nm) := by
  unfold getS
  rw [dif_pos (get_ex b nm hb)]
  exact Classical.choose_spec (get_ex b nm hb)

/-! ### values -/
/-- an operator over what its parts come to -/
noncomputable def opS (b : List Bd) (op n : Int) (nm : ByteArray) (args : List Int) : Option Int :=
  if op = 1 then some n else if op = 2 then some (getS b nm) else if (applyS op args).2 = 0 then some (applyS op args).1 else none
mutual
noncomputable def Tr.val (b : List Bd) : Tr → Option Int
  | .node op n nm ks => (valK b ks).bind (opS b op n nm)
noncomputable def valK (b : List Bd) : List Tr → Option (List Int)
  | [] => some []
  | t :: r => (Tr.val b t).bind fun v => (valK b r).map (v :: ·)
end
mutual
/-- what all nodes come to -/
noncomputable def Tr.vals (b : List Bd) : Tr → Option (List Int)
  | .node op n nm ks => (valsF b ks).bind fun l => ((valK b ks).bind (opS b op n nm)).map fun v => l ++ [v]
noncomputable def valsF (b : List Bd) : List Tr → Option (List Int)
  | [] => some []
  | t :: r => (Tr.vals b t).bind fun l => (valsF b r).map (l ++ ·)
end
section
variable {b : List Bd}
/-- the last of the values is the tree's own -/
theorem vals_spec (t : Tr) : (∀ l, t.vals b = some l → ∃ h v, l = h ++ [v] ∧ t.val b = some v ∧ l.length = t.size) ∧ (t.vals b = none → t.val b = none) := by
  induction t using Tr.ind with
  | h op n nm ks ih =>
    have hF : ∀ (ts : List Tr), (∀ k ∈ ts, k ∈ ks) → (∀ l, valsF b ts = some l → l.length = sizeF ts ∧ (valK b ts).isSome = true) ∧ (valsF b ts = none → valK b ts = none) := by
      intro ts
      induction ts with
      | nil => intro _; exact ⟨fun l h => by simp [valsF] at h; subst h; simp [sizeF, valK], fun h => by simp [valsF] at h⟩
      | cons t r ihr =>
        intro hm
        obtain ⟨i1, i2⟩ := ih t (hm t (List.mem_cons_self ..))
        obtain ⟨r1, r2⟩ := ihr (fun k hk => hm k (List.mem_cons_of_mem _ hk))
        simp only [valsF, valK, sizeF]
        cases ht : t.vals b with
        | none => exact ⟨fun l h => by simp at h, fun _ => by rw [i2 ht]; rfl⟩
        | some lt =>
          obtain ⟨h0, v0, e0, e1, e2⟩ := i1 lt ht
          rw [e1]
          cases hr : valsF b r with
          | none => exact ⟨fun l h => by simp at h, fun _ => by rw [r2 hr]; rfl⟩
          | some lr =>
            obtain ⟨q1, q2⟩ := r1 lr hr
            obtain ⟨w, hw⟩ := Option.isSome_iff_exists.1 q2
            refine ⟨fun l h => ?_, fun h => by simp at h⟩
            simp at h
            subst h
            rw [hw]
            exact ⟨by rw [List.length_append]; omega, rfl⟩
    obtain ⟨f1, f2⟩ := hF ks (fun _ h => h)
    simp only [Tr.vals, Tr.val, Tr.size]
    cases hk : valsF b ks with
    | none => exact ⟨fun l h => by simp at h, fun _ => by rw [f2 hk]; rfl⟩
    | some lk =>
      obtain ⟨q1, q2⟩ := f1 lk hk
      refine ⟨fun l h => ?_, fun h => ?_⟩
      · simp only [Option.bind_some, Option.map_eq_some_iff] at h
        obtain ⟨v, hv, rfl⟩ := h
        exact ⟨lk, v, rfl, hv, by rw [List.length_append, q1]; rfl⟩
      · simpa using h

theorem valK_len : ∀ (ts : List Tr) (vs : List Int), valK b ts = some vs → vs.length = ts.length
  | [], vs, h => by simp [valK] at h; subst h; rfl
  | t :: r, vs, h => by
    simp only [valK] at h
    obtain ⟨v, _, h⟩ := Option.bind_eq_some_iff.1 h
    obtain ⟨w, hw, rfl⟩ := Option.map_eq_some_iff.1 h
    rw [List.length_cons, List.length_cons, valK_len r w hw]

/-- at the roots' places stand the values of the trees -/
theorem picks_vals : ∀ (l : List Tr) (pre post vs : List Int) (ws : List Int), valsF b l = some vs → valK b l = some ws → Picks (pre ++ vs ++ post) (rootsF l pre.length) ws
  | [], pre, post, vs, ws, _, h => by simp [valK] at h; subst h; exact Picks.nil
  | t :: l, pre, post, vs, ws, h, h' => by
    simp only [valsF] at h
    simp only [valK] at h'
    obtain ⟨lt, ht, h⟩ := Option.bind_eq_some_iff.1 h
    obtain ⟨lr, hr, rfl⟩ := Option.map_eq_some_iff.1 h
    obtain ⟨h0, v0, e0, e1, e2⟩ := (vals_spec t).1 lt ht
    rw [e1, Option.bind_some] at h'
    obtain ⟨w, hw, rfl⟩ := Option.map_eq_some_iff.1 h'
    simp only [rootsF]
    have h1 : h0.length + 1 = t.size := by rw [← e2, e0]; simp
    refine Picks.cons ?_ ?_
    · rw [e0]
      have : pre ++ (h0 ++ [v0] ++ lr) ++ post = (pre ++ h0) ++ v0 :: (lr ++ post) := by simp
      rw [this, List.getElem?_append_right (by simp; omega)]
      rw [show pre.length + t.size - 1 - (pre ++ h0).length = 0 from by simp; omega]
      rfl
    · have := picks_vals l (pre ++ lt) post lr w hr hw
      rw [List.length_append, e2] at this
      rw [show pre ++ (lt ++ lr) ++ post = pre ++ lt ++ lr ++ post from by simp]
      exact this

/-- the loop over a node's parts -/
theorem args_loop (l : List Int) (e : List Nd) (ks : List Int) (hk : ks.length ≤ 9223372036854775807) (m i0 : Int) (op n : Int) (nm : ByteArray) (q : List Int) (all : List Int) (hall : all.length ≤ 4) :
    ∀ (r ws : List Int), Picks l r ws → ∀ (acc : List Int) (i : Nat), ks.drop i = r → i ≤ ks.length → acc ++ ws = all →
    Ev (fun k => eval_values.l1 k b l all e m i0 ks (ks.length : Int) (ks.length : Int) op n nm ks) q → Ev (fun k => eval_values.l1 k b l acc e m i0 ks (ks.length : Int) (i : Int) op n nm ks) q := by
  intro r ws h
  induction h with
  | nil =>
    intro acc i hr hi ha hq
    have : i = ks.length := by have : ks.length ≤ i := by simpa using hr
                               omega
    subst this
    rw [List.append_nil] at ha
    subst ha
    exact hq
  | @cons j f ks' fs hj hp ih =>
    intro acc i hr hi ha hq
    have hil : i < ks.length := by
      have := congrArg List.length hr
      simp at this
      omega
    have hx : ks[i]? = some (j : Int) := by
      have : (ks.drop i)[0]? = some (j : Int) := by rw [hr]; rfl
      simpa using this
    have hr' : ks.drop (i + 1) = ks' := by rw [← List.drop_drop, hr]; rfl
    have hjl : j < l.length := (List.getElem?_eq_some_iff.1 hj).1
    have hal : acc.length ≤ 4 := by have := congrArg List.length ha; simp at this; omega
    refine Ev.step (fun k => by rw [eval_values.l1]) (Ev.pos (by omega) (Ev.pos (by omega) (Ev.pos (by omega) ?_)))
    rw [rdI hx, rdI hj, wrap_succ (by omega)]
    exact Ev.pos (by omega) (Ev.pos (by omega) (Ev.pos (by omega) (ih _ (i + 1) hr' (by omega) (by simpa using ha) hq)))

/-- behind that loop -/
theorem node_step (l : List Int) (e : List Nd) (ks : List Int) (i : Nat) (he : e.length ≤ 64) (hi : i < e.length) (hl : l.length ≤ 64) (op n : Int) (nm : ByteArray) (q : List Int) (args : List Int) (hb : b.length ≤ 9223372036854775807)
    (hq : ∀ v, opS b op n nm args = some v → Ev (fun k => eval_values.l0 k b (l ++ [v]) e (e.length : Int) ((i + 1 : Nat) : Int)) q) (hn : opS b op n nm args = none → q = l) :
    Ev (fun k => eval_values.l1 k b l args e (e.length : Int) (i : Int) ks (ks.length : Int) (ks.length : Int) op n nm ks) q := by
  refine Ev.step (fun k => by rw [eval_values.l1]) (Ev.neg (by omega) ?_)
  rw [wrap_succ (by omega)]
  unfold opS at hq hn
  by_cases c1 : op = 1
  · rw [if_pos c1] at hq
    exact Ev.pos c1 (Ev.pos (by omega) (hq n rfl))
  · rw [if_neg c1] at hq hn
    refine Ev.neg c1 ?_
    by_cases c2 : op = 2
    · rw [if_pos c2] at hq
      exact Ev.pos c2 (Ev.bind (get_ev b nm hb) (Ev.pos (by omega) (hq _ rfl)))
    · rw [if_neg c2] at hq hn
      refine Ev.neg c2 (Ev.bind (apply_ev op args) ?_)
      by_cases c3 : (applyS op args).2 = 0
      · rw [if_pos c3] at hq
        exact Ev.pos c3 (Ev.pos (by omega) (hq _ rfl))
      · rw [if_neg c3] at hn
        refine Ev.neg c3 (Ev.eq (Ev.now _) ?_)
        exact (hn rfl).symm

theorem values_flat (e : List Nd) (he : e.length ≤ 64) (hb : b.length ≤ 9223372036854775807) (q : List Int) (t : Tr) : t.ok → ∀ (acc : List Int) (post : List Nd), e.drop acc.length = t.flat acc.length ++ post → acc.length + t.size ≤ e.length →
    (∀ vs, t.vals b = some vs → Ev (fun k => eval_values.l0 k b (acc ++ vs) e (e.length : Int) ((acc.length + t.size : Nat) : Int)) q → Ev (fun k => eval_values.l0 k b acc e (e.length : Int) (acc.length : Int)) q) ∧
    (t.vals b = none → ∃ q', q'.length < acc.length + t.size ∧ Ev (fun k => eval_values.l0 k b acc e (e.length : Int) (acc.length : Int)) q') := by
  revert q
  induction t using Tr.ind with
  | h op n nm ks ih =>
    intro q hok acc post hd hl
    have hak := ok_kids hok
    cases hok with
    | node hs hks =>
    have hF : ∀ (l : List Tr), (∀ k ∈ l, k ∈ ks) → ∀ (q : List Int) (acc : List Int) (post : List Nd), e.drop acc.length = flatF l acc.length ++ post → acc.length + sizeF l ≤ e.length →
        (∀ vs, valsF b l = some vs → Ev (fun k => eval_values.l0 k b (acc ++ vs) e (e.length : Int) ((acc.length + sizeF l : Nat) : Int)) q → Ev (fun k => eval_values.l0 k b acc e (e.length : Int) (acc.length : Int)) q) ∧
        (valsF b l = none → ∃ q', q'.length < acc.length + sizeF l ∧ Ev (fun k => eval_values.l0 k b acc e (e.length : Int) (acc.length : Int)) q') := by
      intro l
      induction l with
      | nil => intro _ q acc post _ _; exact ⟨fun vs h hq => by simp [valsF] at h; subst h; simpa [sizeF] using hq, fun h => by simp [valsF] at h⟩
      | cons t l ihl =>
        intro hm q acc post hd hl
        have htk := hm t (List.mem_cons_self ..)
        simp only [flatF, sizeF, valsF] at hd hl ⊢
        have it := fun q => ih t htk q (hks t htk) acc (flatF l (acc.length + t.size) ++ post) (by rw [hd, List.append_assoc]) (by omega)
        cases ht : t.vals b with
        | none =>
          obtain ⟨q', h1, h2⟩ := (it []).2 ht
          exact ⟨fun vs h => by simp at h, fun _ => ⟨q', by omega, h2⟩⟩
        | some lt =>
          obtain ⟨h0, v0, e0, e1, e2⟩ := (vals_spec t).1 lt ht
          have hal : (acc ++ lt).length = acc.length + t.size := by rw [List.length_append, e2]
          have il := fun q => ihl (fun k hk => hm k (List.mem_cons_of_mem _ hk)) q (acc ++ lt) post (by
            rw [hal, ← List.drop_drop, hd, List.append_assoc, List.drop_left' (flat_len t _)]) (by rw [hal]; omega)
          rw [hal] at il
          refine ⟨fun vs h hq => ?_, fun h => ?_⟩
          · rw [Option.bind_some] at h
            obtain ⟨lr, hr, rfl⟩ := Option.map_eq_some_iff.1 h
            refine (it q).1 lt ht ((il q).1 lr hr ?_)
            rw [List.append_assoc, show acc.length + t.size + sizeF l = acc.length + (t.size + sizeF l) from by omega]
            exact hq
          · have hr : valsF b l = none := by simpa using h
            obtain ⟨q', h1, h2⟩ := (il []).2 hr
            exact ⟨q', by omega, (it q').1 lt ht h2⟩
    simp only [Tr.flat, Tr.size, Tr.vals] at hd hl ⊢
    have iF := fun q => hF ks (fun _ h => h) q acc ([⟨op, n, nm, rootsF ks acc.length⟩] ++ post) (by rw [hd, List.append_assoc]) (by omega)
    cases hv : valsF b ks with
    | none =>
      obtain ⟨q', h1, h2⟩ := (iF []).2 hv
      exact ⟨fun vs h => by simp at h, fun _ => ⟨q', by omega, h2⟩⟩
    | some lk =>
      have hil : acc.length + sizeF ks < e.length := by omega
      have hx : e[acc.length + sizeF ks]? = some ⟨op, n, nm, rootsF ks acc.length⟩ := by
        have : (e.drop acc.length)[sizeF ks]? = some (⟨op, n, nm, rootsF ks acc.length⟩ : Nd) := by
          rw [hd, List.append_assoc, List.getElem?_append_right (by rw [flatF_len]; exact Nat.le_refl _), flatF_len]
          simp
        rw [List.getElem?_drop] at this
        exact this
      have h3 := arity_le op
      -- the lengths of the values of the parts
      have hlen : lk.length = sizeF ks := by
        have hg : ∀ (l : List Tr) (vs : List Int), valsF b l = some vs → vs.length = sizeF l := by
          intro l
          induction l with
          | nil => intro vs h; simp [valsF] at h; subst h; rfl
          | cons t l ihl =>
            intro vs h
            simp only [valsF] at h
            obtain ⟨lt, ht, h⟩ := Option.bind_eq_some_iff.1 h
            obtain ⟨lr, hr, rfl⟩ := Option.map_eq_some_iff.1 h
            obtain ⟨_, _, _, _, e2⟩ := (vals_spec t).1 lt ht
            rw [List.length_append, e2, ihl lr hr]; rfl
        exact hg ks lk hv
      have hws : ∃ ws, valK b ks = some ws := by
        have hg : ∀ (l : List Tr) (vs : List Int), valsF b l = some vs → ∃ ws, valK b l = some ws := by
          intro l
          induction l with
          | nil => intro vs h; exact ⟨[], by simp [valK]⟩
          | cons t l ihl =>
            intro vs h
            simp only [valsF] at h
            obtain ⟨lt, ht, h⟩ := Option.bind_eq_some_iff.1 h
            obtain ⟨lr, hr, rfl⟩ := Option.map_eq_some_iff.1 h
            obtain ⟨_, v0, _, e1, _⟩ := (vals_spec t).1 lt ht
            obtain ⟨ws, hw⟩ := ihl lr hr
            exact ⟨v0 :: ws, by simp [valK, e1, hw]⟩
        exact hg ks lk hv
      obtain ⟨ws, hws⟩ := hws
      have hwl := valK_len ks ws hws
      rw [hws, Option.bind_some, Option.bind_some]
      have hnode : ∀ q, (∀ v, opS b op n nm ws = some v → Ev (fun k => eval_values.l0 k b (acc ++ lk ++ [v]) e (e.length : Int) ((acc.length + sizeF ks + 1 : Nat) : Int)) q) → (opS b op n nm ws = none → q = acc ++ lk) →
          Ev (fun k => eval_values.l0 k b (acc ++ lk) e (e.length : Int) ((acc.length + sizeF ks : Nat) : Int)) q := by
        intro q h1 h2
        refine Ev.step (fun k => by rw [eval_values.l0]) (Ev.pos (by omega) (Ev.pos (by omega) (Ev.pos (by omega) ?_)))
        rw [rdN hx]
        have hp := picks_vals ks acc [] lk ws hv hws
        rw [List.append_nil] at hp
        refine args_loop (acc ++ lk) e (rootsF ks acc.length) (by rw [rootsF_length]; omega) _ _ op n nm q ws (by omega) _ _ hp [] 0 rfl (by omega) rfl ?_
        exact node_step (acc ++ lk) e _ (acc.length + sizeF ks) he hil (by rw [List.length_append, hlen]; omega) op n nm q ws hb h1 h2
      refine ⟨fun vs h hq => ?_, fun h => ?_⟩
      · obtain ⟨v, hv1, rfl⟩ := Option.map_eq_some_iff.1 h
        refine (iF q).1 lk hv (hnode q (fun v' hv' => ?_) (fun h => by rw [hv1] at h; cases h))
        rw [hv1] at hv'
        obtain rfl := Option.some.inj hv'
        rw [List.append_assoc, show acc.length + sizeF ks + 1 = acc.length + (sizeF ks + 1) from by omega]
        exact hq
      · have h0 : opS b op n nm ws = none := by simpa using h
        exact ⟨acc ++ lk, by rw [List.length_append, hlen]; omega, (iF _).1 lk hv (hnode _ (fun v hv' => by rw [h0] at hv'; cases hv') (fun _ => rfl))⟩

theorem eval_tree (t : Tr) (hok : t.ok) (hs : t.size ≤ 64) (hn : ∀ x ∈ t.flat 0, x.f2.size ≤ reachBytes) (hb : b.length ≤ 9223372036854775807) :
    Ev (fun k => eval_Eval.f k (t.flat 0) b) (match t.val b with | some v => (v, 0) | none => (0, 12)) := by
  have hl := flat_len t 0
  have h1 := t.size_pos
  have hc := check_ev (t.flat 0) hn
  rw [check_tree t hok hs] at hc
  have hf := fun q => values_flat (b := b) (t.flat 0) (by omega) hb q t hok [] [] (by simp) (by simp [hl])
  simp only [List.nil_append, List.length_nil, Nat.zero_add] at hf
  cases ht : t.vals b with
  | some vs =>
    obtain ⟨h0, v0, e0, e1, e2⟩ := (vals_spec t).1 vs ht
    have hvs : Ev (fun k => eval_values.f k (t.flat 0) b) vs := by
      unfold eval_values.f
      exact (hf vs).1 vs ht (Ev.step (fun k => by rw [eval_values.l0]) (Ev.neg (by omega) (Ev.now _)))
    have htr : Ev (fun k => eval_Trap.f k (t.flat 0) b) (0, 11) := by
      unfold eval_Trap.f
      exact Ev.bind hc (Ev.pos rfl (Ev.bind hvs (Ev.neg (by omega) (Ev.now _))))
    rw [e1]
    unfold eval_Eval.f
    refine Ev.bind hc (Ev.pos rfl (Ev.bind htr (Ev.pos rfl (Ev.bind hvs ?_))))
    have hw : wrap64 (((t.flat 0).length : Int) - 1) = ((t.size - 1 : Nat) : Int) := by rw [wrap_in (by omega) (by omega)]; omega
    rw [hw]
    have hx : vs[t.size - 1]? = some v0 := by
      have h2 : h0.length + 1 = t.size := by rw [← e2, e0]; simp
      rw [e0, List.getElem?_append_right (by omega), show t.size - 1 - h0.length = 0 from by omega]; rfl
    rw [rdI hx]
    exact Ev.pos (by omega) (Ev.pos (by omega) (Ev.now _))
  | none =>
    rw [(vals_spec t).2 ht]
    obtain ⟨q', h2, h3⟩ := (hf []).2 ht
    have hvs : Ev (fun k => eval_values.f k (t.flat 0) b) q' := h3
    have htr : Ev (fun k => eval_Trap.f k (t.flat 0) b) ((q'.length : Int), 0) := by
      unfold eval_Trap.f
      exact Ev.bind hc (Ev.pos rfl (Ev.bind hvs (Ev.pos (by omega) (Ev.now _))))
    unfold eval_Eval.f
    exact Ev.bind hc (Ev.pos rfl (Ev.bind htr (Ev.neg (by simp) (Ev.now _))))
theorem eval_bad (e : List Nd) (hc : checkS e = 1) (hn : ∀ x ∈ e, x.f2.size ≤ reachBytes) : Ev (fun k => eval_Eval.f k e b) (0, 1) := by
  unfold eval_Eval.f
  refine Ev.bind (check_ev _ hn) ?_
  rw [hc]
  exact Ev.neg (by simp) (Ev.now _)
end
end Go.Proofs.YtpboednjlchnhaaDoor.Q
