/- slices.SortFunc over names by runes.Order, and slices.Compact over names: on a row of the call's own. -/
import Derived.Test.YtpboednjlchnhaaDoorZFHOrder
import Derived.Test.YtpboednjlchnhaaDoorZFHShelf
import Derived.Sort.EncStr
namespace Go.Proofs.YtpboednjlchnhaaDoor.Q
open Go.RowKit Go.Proofs.YtpboednjlchnhaaDoorW.PrintWords Go.Proofs.YtpboednjlchnhaaDoorW.PrintLast Go.Proofs.YtpboednjlchnhaaDoorW.PrintMore Go.Sort
set_option linter.unusedVariables false
set_option linter.unusedSimpArgs false

/-! ### the order -/
theorem cmpI_lt {a b : Int} (h : a < b) : cmpI a b = -1 := by unfold cmpI; rw [if_pos h]
theorem cmpI_gt {a b : Int} (h : b < a) : cmpI a b = 1 := by unfold cmpI; rw [if_neg (by omega), if_pos h]
theorem cmpI_self (a : Int) : cmpI a a = 0 := by unfold cmpI; rw [if_neg (by omega), if_neg (by omega)]
theorem cmpL_self : ∀ l, cmpL l l = 0
  | [] => rfl
  | a :: l => by simp only [cmpL, cmpI_self, if_true]; exact cmpL_self l
theorem cmpL_tr : ∀ a b c : List Int, (cmpL a b < 0 → cmpL b c < 0 → cmpL a c < 0) ∧ (0 ≤ cmpL a b → 0 ≤ cmpL b c → 0 ≤ cmpL a c)
  | [], [], [] => by simp [cmpL]
  | [], [], _ :: _ => by simp [cmpL]
  | [], _ :: _, [] => by simp [cmpL]
  | [], _ :: _, _ :: _ => by simp [cmpL]
  | _ :: _, [], [] => by simp [cmpL]
  | _ :: _, [], _ :: _ => by simp [cmpL]
  | _ :: _, _ :: _, [] => by simp [cmpL]
  | a :: l, b :: m, c :: n => by
    have ih := cmpL_tr l m n
    simp only [cmpL]
    rcases Int.lt_trichotomy a b with h1 | h1 | h1 <;> rcases Int.lt_trichotomy b c with h2 | h2 | h2
    · rw [cmpI_lt h1, cmpI_lt h2, cmpI_lt (by omega : a < c)]; simp
    · subst h2; rw [cmpI_lt h1, cmpI_self]; simp
    · rw [cmpI_lt h1, cmpI_gt h2]; simp
    · subst h1; rw [cmpI_self, cmpI_lt h2]; simp
    · subst h1; subst h2; rw [cmpI_self]; simpa using ih
    · subst h1; rw [cmpI_self, cmpI_gt h2]; simp
    · rw [cmpI_gt h1, cmpI_lt h2]; simp
    · subst h2; rw [cmpI_gt h1, cmpI_self]; simp
    · rw [cmpI_gt h1, cmpI_gt h2, cmpI_gt (by omega : c < a)]; simp

/-- the names that the code can compare -/
abbrev Nm := { s : ByteArray // s.size ≤ 70368744177664 }
instance : Inhabited Nm := ⟨⟨⟨#[]⟩, by decide⟩⟩
def nmOrd (x y : Nm) : Int := orderS x.1 y.1
def nmEnc (x : Nm) : Value := .string x.1
theorem nm_swo : SWO (ltOf nmOrd) where
  irrefl x := by simp [ltOf, nmOrd, orderS, cmpL_self]
  trans x y z h1 h2 := by
    simp only [ltOf, decide_eq_true_eq] at *
    exact (cmpL_tr _ _ _).1 h1 h2
  ntrans x y z h1 h2 := by
    simp only [ltOf, decide_eq_false_iff_not, Int.not_lt] at *
    exact (cmpL_tr _ _ _).2 h1 h2

def toNm (s : ByteArray) : Nm := if h : s.size ≤ 70368744177664 then ⟨s, h⟩ else default
def nms (xs : List ByteArray) : Array Nm := (xs.map toNm).toArray
theorem nms_back {xs : List ByteArray} (h : ∀ s ∈ xs, s.size ≤ 70368744177664) : (nms xs).toList.map Subtype.val = xs := by
  unfold nms
  simp only [List.map_map]
  conv => rhs; rw [← List.map_id xs]
  apply List.map_congr_left
  intro s hs
  show (toNm s).1 = s
  unfold toNm
  rw [dif_pos (h s hs)]
theorem nms_size (xs : List ByteArray) : (nms xs).size = xs.length := by simp [nms]
def sortD (xs : List ByteArray) : Array Nm := pdq (ltOf nmOrd) (nms xs) 0 (nms xs).size (Lib.bitLen (nms xs).size) true true
/-- the names, sorted as the code sorts them -/
def sortS (xs : List ByteArray) : List ByteArray := (sortD xs).toList.map Subtype.val
theorem sortD_perm (xs : List ByteArray) : PermIn 0 (nms xs).size (nms xs) (sortD xs) := (pdq_sorts (ltOf nmOrd) nm_swo (nms xs) 0 (nms xs).size _ true true (Nat.zero_le _) (Nat.le_refl _) (Or.inl rfl)).1
theorem sortD_size (xs : List ByteArray) : (sortD xs).size = xs.length := (sortD_perm xs).1.trans (nms_size xs)
theorem sortS_len (xs : List ByteArray) : (sortS xs).length = xs.length := by unfold sortS; rw [List.length_map, Array.length_toList, sortD_size]

/-- the names that the code can sort -/
def sortable (xs : List ByteArray) : Bool := decide (∀ s ∈ xs, s.size ≤ 70368744177664) && decide (xs.length < 4611686018427387904)
theorem sortable_of {xs : List ByteArray} (h : sortable xs = true) : (∀ s ∈ xs, s.size ≤ 70368744177664) ∧ xs.length < 4611686018427387904 := by
  simpa [sortable] using h
def bytesL (s : ByteArray) : List UInt8 := s.data.toList
def compactS (xs : List ByteArray) : List ByteArray := (Lib.compact (xs.map bytesL)).map fun l => ⟨l.toArray⟩

/-! ### the row -/
theorem holds_row {α : Type} [Inhabited α] {enc : α → Value} {w : World} {g : Nat} {cur : Array Value} {e : TypeId} {d : Array α} (hb : w.heap[g]? = some (.cells cur e (0, 0))) (ht : cur.toList.take d.size = d.toList.map enc) : Holds enc w g 0 d := by
  intro j hj
  refine ⟨?_, by simp [World.frozen?, hb]⟩
  have h1 : (cur.toList.take d.size)[j]? = (d.toList.map enc)[j]? := by rw [ht]
  rw [List.getElem?_take_of_lt hj] at h1
  simp only [World.cell?, hb, Nat.zero_add]
  simp only [Option.isSome_none, Bool.false_eq_true, if_false]
  rw [← Array.getElem?_toList, h1]
  simp [hj]
theorem take_put {α : Type} [Inhabited α] {enc : α → Value} (cur : Array Value) (d : Array α) (h : d.size ≤ cur.size) : (putCells enc 0 d cur).toList.take d.size = d.toList.map enc := by
  apply List.ext_getElem?
  intro j
  by_cases hj : j < d.size
  · rw [List.getElem?_take_of_lt hj, Array.getElem?_toList]
    simp [putCells, hj, show j < cur.size by omega]
  · rw [List.getElem?_take_eq_none (by omega), List.getElem?_eq_none (by simp; omega)]
theorem heap_put {α : Type} [Inhabited α] {enc : α → Value} {w : World} {g n : Nat} {os : Array Obj} {cur : Array Value} {e : TypeId} {fr : Nat × Nat} (d : Array α) (hb : w.heap[g]? = some (.cells cur e fr)) :
    (grow (putRow enc (Sort.ahead w n) g 0 d) os).heap[g]? = some (.cells (putCells enc 0 d cur) e fr) := by
  have hg : g < w.heap.size := (Array.getElem?_eq_some_iff.1 hb).1
  rw [heap_grow_old _ _ (by simpa using hg)]
  simp [putRow, mapBlock, Sort.ahead, Array.getElem?_modify, hb, onCells]
theorem below_put {α : Type} [Inhabited α] {enc : α → Value} {w : World} {B g n : Nat} {os : Array Obj} (d : Array α) (hB : B ≤ w.heap.size) (hg : B ≤ g) : Below B w (grow (putRow enc (Sort.ahead w n) g 0 d) os) := by
  refine ⟨rfl, rfl, rfl, ?_, fun k hk => ?_⟩
  · rw [Sort.size_grow]; simp
  · rw [heap_grow_old _ _ (by simp; omega)]
    have : g ≠ k := by omega
    simp [putRow, mapBlock, Sort.ahead, Array.getElem?_modify, this]

theorem order_cmp (blk off n : Nat) (w : World) : CmpLays1 Tryd.prog 37 #[] nmEnc nmOrd blk off n w :=
  fun m os dk hs x y => (order_calls x.1 y.1 _ x.2 y.2).mono fun _ _ ⟨he, q, os', hw⟩ => ⟨he, q, os', hw⟩

section
variable {W : World} {base e : Nat} {ok : Nat → Prop} {v : Value} {xs : List ByteArray}
theorem sort_own (hb : base ≤ W.heap.size) (h : Kd.R Kd.string e W base ok v xs) (hs : ∀ s ∈ xs, s.size ≤ 70368744177664) (hn : xs.length < 4611686018427387904) :
    Calls Tryd.prog 36 #[v, .func (.func 37) #[] #[]] W fun e' W' => e' = .returned (.tuple #[]) ∧ Kd.R Kd.string e W' base ok v (sortS xs) ∧ Below base W W' := by
  have hok := h.1
  obtain ⟨hl, ho⟩ := Kd.own_of_R h
  rcases ho with ⟨rfl, h0⟩ | ⟨g, cap, cur, rfl, hg, hh, h1, h2, h3, h4⟩
  · obtain rfl : xs = [] := List.eq_nil_of_length_eq_zero h0
    have hc := AnyF.slices_SortFunc_none (P := Tryd.prog) (ρ := Tryd.sortStr_ren) { Tryd.sortStr with } none 0 (.func (.func 37) #[] #[]) W
    refine Calls.mono hc ?_
    rintro e' W' ⟨rfl, rfl⟩
    have e0 : sortS [] = [] := List.eq_nil_of_length_eq_zero (by rw [sortS_len]; rfl)
    rw [e0]
    exact ⟨rfl, h, Below.refl _ _⟩
  · have hd : (nms xs).toList.map nmEnc = encs Value.string xs := by
      conv => rhs; rw [← nms_back hs]
      simp [encs, nmEnc, List.map_map, Function.comp_def]
    have hH : Holds nmEnc W g 0 (nms xs) := holds_row hh (by rw [nms_size, hd, ← h4, Nat.mul_one])
    have hgs : g < W.heap.size := (Array.getElem?_eq_some_iff.1 hh).1
    have eg : ∀ args w, (callFunc 37 args).run Tryd.prog w = .ok (.enter 37 args) w := enters_of Tryd.func37 (by kernel_rfl) rfl
    have hc := Any.slices_SortFunc_eq Tryd.sortStr nmEnc (fun _ => rfl) nmOrd nm_swo 37 #[] g 0 cap (nms xs) W eg (order_cmp _ _ _ _) hH hgs (by rw [nms_size]; exact hn)
    rw [nms_size] at hc
    refine Calls.mono hc ?_
    rintro e' W' ⟨rfl, n, os, rfl⟩
    have hp : pdq (ltOf nmOrd) (nms xs) 0 xs.length (Lib.bitLen xs.length) true true = sortD xs := by unfold sortD; rw [nms_size]
    rw [hp]
    refine ⟨rfl, ?_, below_put _ hb hg⟩
    have hlen := sortS_len xs
    rw [← hlen]
    refine Kd.R_of_own ?_ (by rw [hlen]; exact hok)
    refine ⟨by simp [encs], .inr ⟨g, cap, _, rfl, hg, heap_put _ hh, by rw [hlen]; exact h1, h2, by simp [putCells, h3], ?_⟩⟩
    rw [Nat.mul_one, hlen, ← sortD_size xs, take_put _ _ (by rw [sortD_size, h3]; omega)]
    simp [encs, sortS, nmEnc, List.map_map, Function.comp_def]

theorem compact_len (zs : List (List UInt8)) : (Lib.compact zs).length ≤ zs.length := by
  unfold Lib.compact Lib.compactUpTo
  rw [List.length_map]
  exact Nat.le_trans (List.length_filter_le _ _) (by simp)

theorem compact_own (hb : base ≤ W.heap.size) (h : Kd.R Kd.string e W base ok v xs) :
    Calls Tryd.prog 38 #[v] W fun e' W' => ∃ v', e' = .returned v' ∧ Kd.R Kd.string e W' base ok v' (compactS xs) ∧ Below base W W' := by
  have hok := h.1
  obtain ⟨hl, ho⟩ := Kd.own_of_R h
  rcases ho with ⟨rfl, h0⟩ | ⟨g, cap, cur, rfl, hg, hh, h1, h2, h3, h4⟩
  · obtain rfl : xs = [] := List.eq_nil_of_length_eq_zero h0
    have hc := Any.slices_Compact_string_empty Tryd.compactStr none 0 W
    refine Calls.mono hc ?_
    rintro e' W' ⟨rfl, rfl⟩
    exact ⟨_, rfl, h, Below.refl _ _⟩
  · have hz : ((xs.map bytesL).toArray).toList.map encStr = encs Value.string xs := by
      simp [encs, List.map_map, Function.comp_def, bytesL]
    have hH : Holds encStr W g 0 (xs.map bytesL).toArray := holds_row hh (by rw [hz, ← h4]; simp)
    have hcl := compact_len (xs.map bytesL)
    rw [List.length_map] at hcl
    have hm : maxLen = 9223372036854775807 := rfl
    have hc := Any.slices_Compact_string Tryd.compactStr g 0 cap (xs.map bytesL) W hH (by rw [List.length_map]; omega) (by rw [List.length_map]; exact h1)
    rw [List.length_map] at hc
    refine Calls.mono hc ?_
    rintro e' W' ⟨rfl, q, rfl⟩
    have hw : ∀ d : Array (List UInt8), putRow encStr (Sort.ahead W q) g 0 d = grow (putRow encStr (Sort.ahead W q) g 0 d) #[] := fun d => (grow_empty _).symm
    rw [hw]
    refine ⟨_, rfl, ?_, below_put _ hb hg⟩
    have hlen : (compactS xs).length = (Lib.compact (xs.map bytesL)).length := by simp [compactS]
    rw [← hlen]
    refine Kd.R_of_own ?_ hok
    refine ⟨by simp [encs], .inr ⟨g, cap, _, rfl, hg, heap_put _ hh, by rw [hlen]; omega, h2, by simp [putCells, h3], ?_⟩⟩
    have ht := take_put (enc := encStr) cur (Lib.compact (xs.map bytesL) ++ List.replicate (xs.length - (Lib.compact (xs.map bytesL)).length) []).toArray (by simp; omega)
    have hsz : (Lib.compact (xs.map bytesL) ++ List.replicate (xs.length - (Lib.compact (xs.map bytesL)).length) []).toArray.size = xs.length := by simp; omega
    rw [hsz] at ht
    have ht2 := congrArg (List.take (Lib.compact (xs.map bytesL)).length) ht
    rw [List.take_take, Nat.min_eq_left hcl] at ht2
    rw [Nat.mul_one, hlen, ht2]
    simp [encs, compactS, List.map_map, Function.comp_def]
end
end Go.Proofs.YtpboednjlchnhaaDoor.Q
