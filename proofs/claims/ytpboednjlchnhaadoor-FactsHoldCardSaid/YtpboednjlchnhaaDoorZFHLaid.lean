/- From the row's list of package-level variables to what the contracts ask of the world: the letters' spans and the digits 0 (Glob). -/
import Derived.Test.YtpboednjlchnhaaDoorZFHGlob
import Derived.Test.YtpboednjlchnhaaDoorRows
import Derived.OpenShut
import Derived.ChangeSame
import Derived.Lib.LaidTab
namespace Go.Proofs.YtpboednjlchnhaaDoor.Q
open Go.RowKit Go.ChangeShapes

theorem chunks_eq {s : Nat} (f : Nat → List Value) : ∀ (n : Nat) (cs : List Value), cs.length = n * s → (∀ i, i < n → (cs.drop (i * s)).take s = f i) → cs = (List.range n).flatMap f := by
  intro n
  induction n with
  | zero => intro cs hl _; simpa using hl
  | succ n ih =>
    intro cs hl h
    have hl' : cs.length = n * s + s := by rw [hl, Nat.succ_mul]
    rw [List.range_succ, List.flatMap_append]
    have h1 := ih (cs.take (n * s)) (by rw [List.length_take]; omega) (fun i hi => by
      rw [← h i (by omega), List.drop_take, List.take_take]
      congr 1
      have : (i + 1) * s ≤ n * s := Nat.mul_le_mul_right _ hi
      rw [Nat.succ_mul] at this
      omega)
    have h2 := h n (by omega)
    rw [List.take_of_length_le (by rw [List.length_drop]; omega)] at h2
    rw [← h1]
    simp only [List.flatMap_cons, List.flatMap_nil, List.append_nil]
    rw [← h2, List.take_append_drop]

section
variable {enc : TypeId × Value → Unit} {P : Program} {w : World} {base : Nat} {sp : Nat → Bool} {held : Bool}
theorem lit_cells {fuel : Nat} {t : TypeId} {k : IntKind} {z : Int} {cs : List Value} {p : List MemPlace} (hu : P.underlying t = some (.int k)) (h : DataW.trod enc P w base sp held fuel t cs = some (.lit (.int k z), p)) : cs = [.int k z] := by
  obtain ⟨n, rfl, he, _⟩ := DataW.trod_int hu h
  have := (Prod.mk.inj he).1
  injection this with this
  injection this with _ this
  rw [this]
theorem span_cells {fuel : Nat} {t : TypeId} {f0 f1 : Field} {k : IntKind} {a b : Int} {cs : List Value} {p : List MemPlace} (hu : P.underlying t = some (.struct #[f0, f1])) (h0 : P.underlying f0.type = some (.int k)) (h1 : P.underlying f1.type = some (.int k)) (c0 : P.cellsOf f0.type = 1) (c1 : P.cellsOf f1.type = 1) (o0 : f0.offset = 0) (o1 : f1.offset = 1) (ct : P.cellsOf t = 2)
    (h : DataW.trod enc P w base sp held fuel t cs = some (.agg [.lit (.int k a), .lit (.int k b)], p)) : cs = [.int k a, .int k b] := by
  obtain ⟨y0, y1, n, he, hl, e0, e1⟩ := trod_struct2 hu h
  have hd := (Prod.mk.inj he).1
  injection hd with hd
  injection hd with hd0 hd
  injection hd with hd1 _
  rw [c0, o0] at e0
  rw [c1, o1] at e1
  rw [ct] at hl
  have e0' : DataW.trod enc P w base sp held n f0.type ((cs.drop 0).take 1) = some (.lit (.int k a), y0.2) := by rw [e0, hd0]
  have e1' : DataW.trod enc P w base sp held n f1.type ((cs.drop 1).take 1) = some (.lit (.int k b), y1.2) := by rw [e1, hd1]
  have g0 := lit_cells h0 e0'
  have g1 := lit_cells h1 e1'
  match cs, hl with
  | [x, y], _ =>
    simp at g0 g1
    rw [g0, g1]
theorem arr_cells {fuel : Nat} {t e : TypeId} {n s : Nat} {cs : List Value} {ds : List (DataW Unit)} {p : List MemPlace} (f : Nat → List Value) (hu : P.underlying t = some (.array n e)) (ce : P.cellsOf e = s) (ct : P.cellsOf t = n * s)
    (hf : ∀ i, i < n → ∀ (fuel : Nat) (cs : List Value) (q : List MemPlace), ∀ d, ds[i]? = some d → DataW.trod enc P w base sp held fuel e cs = some (d, q) → cs = f i)
    (h : DataW.trod enc P w base sp held fuel t cs = some (.agg ds, p)) : cs = (List.range n).flatMap f := by
  obtain ⟨xs, m, _, he, hl, hlen, hx⟩ := DataW.trod_array hu h
  have hd := (Prod.mk.inj he).1
  injection hd with hd
  rw [ct] at hl
  rw [ce] at hx
  refine chunks_eq f n cs hl fun i hi => ?_
  have h1 := hx i hi
  have h2 : xs[i]? = some (xs[i]'(by omega)) := List.getElem?_eq_getElem (by omega)
  rw [h2] at h1
  refine hf i hi m _ (xs[i]'(by omega)).2 (xs[i]'(by omega)).1 ?_ h1
  rw [hd, List.getElem?_map, h2]
  rfl
end

theorem gLet : Tryd.prog.globalNamed "sorrel/runes.letters" = some 0 := by kernel_rfl
theorem gLetType : (Tryd.prog.globals[0]?).map (·.type) = some 146 := by kernel_rfl
theorem gZer : Tryd.prog.globalNamed "sorrel/runes.zeros" = some 1 := by kernel_rfl
theorem gZerType : (Tryd.prog.globals[1]?).map (·.type) = some 172 := by kernel_rfl

theorem heap_of_var {P : Program} {W : World} {nm : String} {g : Nat} {cs : Array Value} (hg : P.globalNamed nm = some g) (h : W.var? P nm = some cs) : ∃ t fr, W.heap[g]? = some (.cells cs t fr) := by
  unfold World.var? at h
  rw [hg] at h
  simp only [Option.bind_some] at h
  split at h
  · rename_i cs' t fr he
    injection h with h
    subst h
    exact ⟨t, fr, he⟩
  · cases h

/-- what the row's list gives -/
theorem glob_of_laid {W : World} (h : laidMetH Tryd.prog [("sorrel/runes.letters", Rows.laid_sorrel_runes_letters), ("sorrel/runes.zeros", Rows.laid_sorrel_runes_zeros)] W) : Glob W := by
  have h' : laidMet Tryd.prog [("sorrel/runes.letters", Rows.laid_sorrel_runes_letters), ("sorrel/runes.zeros", Rows.laid_sorrel_runes_zeros)] W := h
  obtain ⟨ps, ⟨g0, t0, cs0, fuel0, p0, q0, hg0, ht0, hv0, hd0, ⟨g1, t1, cs1, fuel1, p1, q1, hg1, ht1, hv1, hd1, _, _⟩, _⟩, _⟩ := h'
  obtain rfl := Option.some.inj (gLet.symm.trans hg0)
  obtain rfl := Option.some.inj (gLetType.symm.trans ht0)
  obtain rfl := Option.some.inj (gZer.symm.trans hg1)
  obtain rfl := Option.some.inj (gZerType.symm.trans ht1)
  have k0 : cs0.toList = letCells.toList := by
    rw [arr_cells (s := 2) (fun i => (letCells.toList.drop (i * 2)).take 2) Tryd.underlying146 (by kernel_rfl) (by kernel_rfl) (fun i hi fuel cs q d hd h => ?_) hd0]
    · rfl
    · obtain rfl | rfl | rfl | rfl | rfl | rfl | rfl | rfl | rfl | rfl | rfl | rfl | rfl : i = 0 ∨ i = 1 ∨ i = 2 ∨ i = 3 ∨ i = 4 ∨ i = 5 ∨ i = 6 ∨ i = 7 ∨ i = 8 ∨ i = 9 ∨ i = 10 ∨ i = 11 ∨ i = 12 := by omega
      all_goals
        obtain rfl := (Option.some.inj hd).symm
        exact span_cells Tryd.underlying145 Tryd.underlying21 Tryd.underlying21 (by kernel_rfl) (by kernel_rfl) rfl rfl (by kernel_rfl) h
  have k1 : cs1.toList = zerCells.toList := by
    rw [arr_cells (s := 1) (fun i => (zerCells.toList.drop (i * 1)).take 1) Tryd.underlying172 (by kernel_rfl) (by kernel_rfl) (fun i hi fuel cs q d hd h => ?_) hd1]
    · rfl
    · obtain rfl | rfl | rfl : i = 0 ∨ i = 1 ∨ i = 2 := by omega
      all_goals
        obtain rfl := (Option.some.inj hd).symm
        exact lit_cells Tryd.underlying21 h
  have e0 : cs0 = letCells := Array.ext' k0
  have e1 : cs1 = zerCells := Array.ext' k1
  subst e0
  subst e1
  exact ⟨heap_of_var gLet hv0, heap_of_var gZer hv1⟩
end Go.Proofs.YtpboednjlchnhaaDoor.Q
