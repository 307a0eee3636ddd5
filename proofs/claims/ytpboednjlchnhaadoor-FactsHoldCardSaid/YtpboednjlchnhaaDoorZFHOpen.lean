/- What an argument of the laws' types reads as: the cells' values by the kinds, kind by kind; its bounds by the reading's weights and its bulk. -/
import Derived.Test.YtpboednjlchnhaaDoorZFHK
import Derived.Test.YtpboednjlchnhaaDoorRows
import Derived.Deep.Slices
import Derived.ChangeSame
import Derived.SizedLaws
namespace Go.Proofs.YtpboednjlchnhaaDoor.Q
open Go.RowKit Go.Proofs.YtpboednjlchnhaaDoorW.PrintWords Go.Proofs.YtpboednjlchnhaaDoorW.PrintLast Go.Proofs.YtpboednjlchnhaaDoorW.PrintMore
open Go.Deep Go.ChangeShapes Go.WideShapes

/-- values of type t that read as data read by the kind d; g: what the weights say, z: what the bulk is at least -/
structure Rd {α : Type} (P : Program) (t : TypeId) (d : Kd α) (g : α → Prop) (z : α → Nat) : Prop where
  sz : P.cellsOf t = d.sz
  rd : ∀ {H : Type} {enc : TypeId × Value → H} {W : World} {sp : Nat → Bool} {held : Bool} {fuel : Nat} {cs : List Value} {x : DataW H × List MemPlace},
    DataW.trod enc P W 0 sp held fuel t cs = some x → ∃ a : α, d.K W a cs ∧ ((∀ n ∈ x.1.weights P t, n ≤ reachBytes) → g a) ∧ z a ≤ Rows.uptoBulk x.1

theorem rd_int {P : Program} {t : TypeId} {k : IntKind} (hu : P.underlying t = some (.int k)) (hc : P.cellsOf t = 1) : Rd P t (Kd.int k) (fun n => (Lit.int k n).wf = true) (fun _ => 1) where
  sz := hc
  rd := by
    intro H enc W sp held fuel cs x h
    obtain ⟨n, rfl, rfl, hw⟩ := DataW.trod_int hu h
    exact ⟨n, rfl, fun _ => hw, by simp [Rows.uptoBulk]⟩
theorem rd_string {P : Program} {t : TypeId} (hu : P.underlying t = some .string) (hc : P.cellsOf t = 1) : Rd P t Kd.string (fun s => s.size ≤ reachBytes) (fun s => s.size + 1) where
  sz := hc
  rd := by
    intro H enc W sp held fuel cs x h
    obtain ⟨s, rfl, rfl, hs⟩ := DataW.trod_string hu h
    refine ⟨s, rfl, fun hn => ?_, by simp [Rows.uptoBulk]⟩
    have := hn s.data.toList.length (by simp [DataW.weights])
    simpa using this

def sumBy {α : Type} (z : α → Nat) : List α → Nat
  | [] => 0
  | x :: r => z x + sumBy z r
theorem sumBy_append {α : Type} (z : α → Nat) (l r : List α) : sumBy z (l ++ r) = sumBy z l + sumBy z r := by
  induction l with
  | nil => simp [sumBy]
  | cons x l ih => simp only [List.cons_append, sumBy, ih]; omega
theorem sumBy_le_mem {α : Type} (z : α → Nat) {l : List α} {x : α} (h : x ∈ l) : z x ≤ sumBy z l := by
  induction l with
  | nil => cases h
  | cons y r ih =>
    simp only [sumBy]
    rcases List.mem_cons.1 h with rfl | h
    · omega
    · have := ih h; omega
theorem bulkAll_append {H : Type} (l r : List (DataW H)) : Rows.uptoBulkAll (l ++ r) = Rows.uptoBulkAll l + Rows.uptoBulkAll r := by
  induction l with
  | nil => simp [Rows.uptoBulkAll]
  | cons x l ih => simp only [List.cons_append, Rows.uptoBulkAll, ih]; omega

/-- the elements by their index -/
theorem rows_by_index {α : Type} [Inhabited α] {H : Type} (z : α → Nat) (D : Nat → DataW H) (f : Nat → α) : ∀ n, (∀ i, i < n → z (f i) ≤ Rows.uptoBulk (D i)) → sumBy z ((List.range n).map f) ≤ Rows.uptoBulkAll ((List.range n).map D) := by
  intro n
  induction n with
  | zero => intro _; simp [sumBy]
  | succ n ih =>
    intro h
    rw [List.range_succ, List.map_append, List.map_append, sumBy_append, bulkAll_append]
    have h1 := ih (fun i hi => h i (by omega))
    have h2 := h n (by omega)
    simp only [List.map_cons, List.map_nil, sumBy, Rows.uptoBulkAll]
    omega

theorem weightsAll_mem {H : Type} {P : Program} {e : TypeId} {ds : List (DataW H)} {d : DataW H} (hd : d ∈ ds) : ∀ n ∈ d.weights P e, n ∈ DataW.weightsAll P e ds := by
  intro n hn
  induction ds with
  | nil => cases hd
  | cons x r ih =>
    simp only [DataW.weightsAll, List.mem_append]
    rcases List.mem_cons.1 hd with rfl | hd
    · exact .inl hn
    · exact .inr (ih hd)

theorem rd_slice {α : Type} [Inhabited α] {P : Program} {t e : TypeId} {d : Kd α} {g : α → Prop} {z : α → Nat} {B : Nat} (hu : P.underlying t = some (.slice e)) (hc : P.cellsOf t = 1) (hB : P.bytesOf e = B) (hd : Rd P e d g z) :
    Rd P t (Kd.slice e d) (fun l => l.length * B ≤ reachBytes ∧ ∀ x ∈ l, g x) (fun l => sumBy z l + 1) where
  sz := hc
  rd := by
    intro H enc W sp held fuel cs x h
    rcases open_slice hu h with ⟨rfl, rfl⟩ | ⟨a, len, cap, m, n, D, Pl, rfl, hb, hl, hm, hmm, rfl, hx⟩
    · exact ⟨[], ⟨none, 0, rfl, Nat.le_refl _, Kd.C_nil d W⟩, fun _ => ⟨by simp, by simp⟩, by simp [sumBy, Rows.uptoBulk]⟩
    have hlm : len ≤ m := by rw [hmm]; split <;> omega
    obtain ⟨f, hf⟩ := choose_lt (α := α) (n := len) (p := fun i x => ∃ cs', W.cells? 0 (a.add (i * P.cellsOf e)) (P.cellsOf e) = some cs' ∧ d.K W x cs' ∧ ((∀ n ∈ (D i).weights P e, n ≤ reachBytes) → g x) ∧ z x ≤ Rows.uptoBulk (D i)) (fun i hi => by
      obtain ⟨cs', h1, h2⟩ := hx i (by omega)
      obtain ⟨y, hk, hg, hz⟩ := hd.rd h2
      exact ⟨y, cs', h1, hk, hg, hz⟩)
    have hlen : ((List.range len).map f).length = len := by simp
    refine ⟨(List.range len).map f, ⟨some a, cap, by rw [hlen], by rw [hlen]; exact hl, ?_⟩, ?_, ?_⟩
    · refine ⟨rfl, by rw [hlen]; unfold maxLen at hm; omega, fun _ => ⟨a, rfl, fun j p hj => ?_⟩⟩
      rw [List.getElem?_map] at hj
      have hjl : j < len := by
        rcases Nat.lt_or_ge j len with h | h
        · exact h
        · rw [List.getElem?_eq_none (by simpa using h)] at hj; cases hj
      rw [List.getElem?_range hjl] at hj
      obtain rfl : f j = p := by simpa using hj
      obtain ⟨cs', h1, hk, _, _⟩ := hf j hjl
      obtain ⟨_, h2, h3⟩ := World.cells?_some h1
      rw [hd.sz] at h2 h3
      refine ⟨cs', h2, hk, fun i u hu => ?_⟩
      have hi : i < d.sz := by have := (List.getElem?_eq_some_iff.1 hu).1; omega
      have := h3 i hi
      rw [hu, Go.Deep.add_add] at this
      exact this
    · intro hw
      have hw' : ∀ n, n ∈ DataW.weights P t (.slice ((List.range len).map D) ((List.range (m - len)).map fun j => D (len + j))) → n ≤ reachBytes := hw
      simp only [DataW.weights, hu] at hw'
      refine ⟨?_, fun y hy => ?_⟩
      · have := hw' _ (List.mem_cons_self ..)
        rw [hB] at this
        rw [hlen]
        simp only [List.length_map, List.length_range] at this
        exact Nat.le_trans (Nat.mul_le_mul_right _ (by omega)) this
      · obtain ⟨i, hi, rfl⟩ := List.mem_map.1 hy
        have hi' : i < len := by simpa using hi
        obtain ⟨_, _, _, hg, _⟩ := hf i hi'
        refine hg fun n hn => hw' n (List.mem_cons_of_mem _ (List.mem_append_left _ (weightsAll_mem (List.mem_map.2 ⟨i, hi, rfl⟩) n hn)))
    · simp only [Rows.uptoBulk]
      have := rows_by_index z D f len (fun i hi => (hf i hi).choose_spec.2.2.2)
      omega

theorem weightsEach_2 {H : Type} {P : Program} {t0 t1 : TypeId} {d0 d1 : DataW H} : DataW.weightsEach P [t0, t1] [d0, d1] = d0.weights P t0 ++ (d1.weights P t1 ++ []) := rfl

/-- a struct of two fields -/
theorem rd_struct2 {α β γ : Type} {P : Program} {t : TypeId} {f0 f1 : Field} {d0 : Kd α} {d1 : Kd β} {g0 : α → Prop} {g1 : β → Prop} {z0 : α → Nat} {z1 : β → Nat} (pr : γ → α × β) (mk : α → β → γ) (hpr : ∀ a b, pr (mk a b) = (a, b))
    (hu : P.underlying t = some (.struct #[f0, f1])) (hc : P.cellsOf t = d0.sz + d1.sz) (h0 : Rd P f0.type d0 g0 z0) (h1 : Rd P f1.type d1 g1 z1) (o0 : f0.offset = 0) (o1 : f1.offset = d0.sz) :
    Rd P t (Kd.iso (Kd.pair d0 d1) pr) (fun x => g0 (pr x).1 ∧ g1 (pr x).2) (fun x => z0 (pr x).1 + z1 (pr x).2 + 1) where
  sz := hc
  rd := by
    intro H enc W sp held fuel cs x h
    obtain ⟨y0, y1, n, rfl, hl, e0, e1⟩ := trod_struct2 hu h
    obtain ⟨a0, k0, w0, b0⟩ := h0.rd e0
    obtain ⟨a1, k1, w1, b1⟩ := h1.rd e1
    refine ⟨mk a0 a1, ?_, ?_, ?_⟩
    · show (Kd.pair d0 d1).K W (pr (mk a0 a1)) cs
      rw [hpr]
      refine ⟨_, _, ?_, k0, k1⟩
      rw [o0, h0.sz, o1, h1.sz, List.drop_zero]
      rw [hc] at hl
      rw [List.take_of_length_le (l := cs.drop d0.sz) (by rw [List.length_drop]; omega), List.take_append_drop]
    · intro hw
      rw [hpr]
      have hw' : ∀ n, n ∈ DataW.weights P t (.agg [y0.1, y1.1]) → n ≤ reachBytes := hw
      simp only [DataW.weights, hu, List.map_cons, List.map_nil, DataW.weightsEach, List.mem_append] at hw'
      exact ⟨w0 fun n hn => hw' n (.inl hn), w1 fun n hn => hw' n (.inr (.inl hn))⟩
    · rw [hpr]
      simp only [Rows.uptoBulk, Rows.uptoBulkAll]
      omega

/-- a struct of four fields -/
theorem rd_struct4 {α β γ δ ε : Type} {P : Program} {t : TypeId} {f0 f1 f2 f3 : Field} {d0 : Kd α} {d1 : Kd β} {d2 : Kd γ} {d3 : Kd δ} {g0 : α → Prop} {g1 : β → Prop} {g2 : γ → Prop} {g3 : δ → Prop} {z0 : α → Nat} {z1 : β → Nat} {z2 : γ → Nat} {z3 : δ → Nat} (pr : ε → α × β × γ × δ) (mk : α → β → γ → δ → ε) (hpr : ∀ a b c d, pr (mk a b c d) = (a, b, c, d))
    (hu : P.underlying t = some (.struct #[f0, f1, f2, f3])) (hc : P.cellsOf t = d0.sz + (d1.sz + (d2.sz + d3.sz))) (h0 : Rd P f0.type d0 g0 z0) (h1 : Rd P f1.type d1 g1 z1) (h2 : Rd P f2.type d2 g2 z2) (h3 : Rd P f3.type d3 g3 z3) (o0 : f0.offset = 0) (o1 : f1.offset = d0.sz) (o2 : f2.offset = d0.sz + d1.sz) (o3 : f3.offset = d0.sz + d1.sz + d2.sz) :
    Rd P t (Kd.iso (Kd.pair d0 (Kd.pair d1 (Kd.pair d2 d3))) pr) (fun x => g0 (pr x).1 ∧ g1 (pr x).2.1 ∧ g2 (pr x).2.2.1 ∧ g3 (pr x).2.2.2) (fun x => z0 (pr x).1 + z1 (pr x).2.1 + z2 (pr x).2.2.1 + z3 (pr x).2.2.2 + 1) where
  sz := hc
  rd := by
    intro H enc W sp held fuel cs x h
    obtain ⟨xs, n, _, rfl, hl, hlen, hf⟩ := DataW.trod_struct hu h
    match xs, hlen with
    | [y0, y1, y2, y3], _ =>
    have e0 : DataW.trod enc P W 0 sp held n f0.type ((cs.drop f0.offset).take (P.cellsOf f0.type)) = some y0 := by simpa using hf 0 f0 rfl
    have e1 : DataW.trod enc P W 0 sp held n f1.type ((cs.drop f1.offset).take (P.cellsOf f1.type)) = some y1 := by simpa using hf 1 f1 rfl
    have e2 : DataW.trod enc P W 0 sp held n f2.type ((cs.drop f2.offset).take (P.cellsOf f2.type)) = some y2 := by simpa using hf 2 f2 rfl
    have e3 : DataW.trod enc P W 0 sp held n f3.type ((cs.drop f3.offset).take (P.cellsOf f3.type)) = some y3 := by simpa using hf 3 f3 rfl
    obtain ⟨a0, k0, w0, b0⟩ := h0.rd e0
    obtain ⟨a1, k1, w1, b1⟩ := h1.rd e1
    obtain ⟨a2, k2, w2, b2⟩ := h2.rd e2
    obtain ⟨a3, k3, w3, b3⟩ := h3.rd e3
    refine ⟨mk a0 a1 a2 a3, ?_, ?_, ?_⟩
    · show (Kd.pair d0 (Kd.pair d1 (Kd.pair d2 d3))).K W (pr (mk a0 a1 a2 a3)) cs
      rw [hpr]
      rw [o0, h0.sz, List.drop_zero] at k0
      rw [o1, h1.sz] at k1
      rw [o2, h2.sz] at k2
      rw [o3, h3.sz] at k3
      rw [hc] at hl
      refine ⟨_, cs.drop d0.sz, (List.take_append_drop _ _).symm, k0, _, (cs.drop d0.sz).drop d1.sz, (List.take_append_drop _ _).symm, k1, _, ((cs.drop d0.sz).drop d1.sz).drop d2.sz, (List.take_append_drop _ _).symm, ?_, ?_⟩
      · rw [List.drop_drop]; exact k2
      · rw [List.drop_drop, List.drop_drop]
        rw [List.take_of_length_le (by rw [List.length_drop]; omega)] at k3
        rw [Nat.add_assoc] at k3
        exact k3
    · intro hw
      rw [hpr]
      have hw' : ∀ n, n ∈ DataW.weights P t (.agg [y0.1, y1.1, y2.1, y3.1]) → n ≤ reachBytes := hw
      simp only [DataW.weights, hu, List.map_cons, List.map_nil, DataW.weightsEach, List.mem_append] at hw'
      exact ⟨w0 fun n hn => hw' n (.inl hn), w1 fun n hn => hw' n (.inr (.inl hn)), w2 fun n hn => hw' n (.inr (.inr (.inl hn))), w3 fun n hn => hw' n (.inr (.inr (.inr (.inl hn))))⟩
    · rw [hpr]
      simp only [List.map_cons, List.map_nil, Rows.uptoBulk, Rows.uptoBulkAll]
      omega

instance : Inhabited S29 := ⟨z29⟩

theorem rd_i64 : Rd Tryd.prog 3 (Kd.int .i64) (fun n => (Lit.int .i64 n).wf = true) (fun _ => 1) := rd_int Tryd.underlying3 (by kernel_rfl)
theorem rd_n64 : Rd Tryd.prog 2 (Kd.int .i64) (fun n => (Lit.int .i64 n).wf = true) (fun _ => 1) := rd_int Tryd.underlying2 (by kernel_rfl)
theorem rd_str : Rd Tryd.prog 9 Kd.string (fun s => s.size ≤ reachBytes) (fun s => s.size + 1) := rd_string Tryd.underlying9 (by kernel_rfl)
theorem rd_ints : Rd Tryd.prog 27 (Kd.slice 3 (Kd.int .i64)) (fun l => l.length * 8 ≤ reachBytes ∧ ∀ x ∈ l, (Lit.int .i64 x).wf = true) (fun l => sumBy (fun _ => 1) l + 1) :=
  rd_slice Tryd.underlying27 (by kernel_rfl) (by kernel_rfl) rd_i64
/-- what the weights say of a node -/
def NodeOk (x : S29) : Prop := (Lit.int .i64 x.f0).wf = true ∧ (Lit.int .i64 x.f1).wf = true ∧ x.f2.size ≤ reachBytes ∧ x.f3.length * 8 ≤ reachBytes ∧ ∀ k ∈ x.f3, (Lit.int .i64 k).wf = true
def NodeZ (x : S29) : Nat := 1 + 1 + (x.f2.size + 1) + (sumBy (fun _ => 1) x.f3 + 1) + 1
theorem rd_node : Rd Tryd.prog 29 k29 NodeOk NodeZ :=
  rd_struct4 (fun x : S29 => (x.f0, x.f1, x.f2, x.f3)) (fun a b c d => ⟨a, b, c, d⟩) (fun _ _ _ _ => rfl) Tryd.underlying29 (by kernel_rfl) rd_i64 rd_n64 rd_str rd_ints rfl rfl rfl rfl
theorem rd_nodes : Rd Tryd.prog 22 (Kd.slice 29 k29) (fun l => l.length * 56 ≤ reachBytes ∧ ∀ x ∈ l, NodeOk x) (fun l => sumBy NodeZ l + 1) :=
  rd_slice Tryd.underlying22 (by kernel_rfl) (by kernel_rfl) rd_node
end Go.Proofs.YtpboednjlchnhaaDoor.Q
