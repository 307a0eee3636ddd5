import Derived.Test.YtpboednjlchnhaaDoorZFHK
import Derived.Test.YtpboednjlchnhaaDoorZFHGlob
import Derived.Test.YtpboednjlchnhaaDoorZFHG0
import Derived.Test.YtpboednjlchnhaaDoorZFHG0
import Derived.Laws.RangeString
import Derived.Laws.RangeAny
import Derived.LoopN
import Derived.Lib.Hide
import Derived.Laws.Rows
namespace Go.Proofs.YtpboednjlchnhaaDoor.Q
open Go.RowKit
set_option linter.unusedVariables false
set_option linter.unusedSimpArgs false

def zeroOf (r : Int) : Int × Bool :=
  if 48 ≤ r ∧ r ≤ 57 then (48, true) else if 1632 ≤ r ∧ r ≤ 1641 then (1632, true) else if 65296 ≤ r ∧ r ≤ 65305 then (65296, true) else (0, false)

theorem zeroOf_1 {r : Int} (h : 48 ≤ r ∧ r ≤ 57) : zeroOf r = (48, true) := by unfold zeroOf; rw [if_pos h]
theorem zeroOf_2 {r : Int} (h : 1632 ≤ r ∧ r ≤ 1641) : zeroOf r = (1632, true) := by unfold zeroOf; rw [if_neg (by omega), if_pos h]
theorem zeroOf_3 {r : Int} (h : 65296 ≤ r ∧ r ≤ 65305) : zeroOf r = (65296, true) := by unfold zeroOf; rw [if_neg (by omega), if_neg (by omega), if_pos h]
theorem zeroOf_4 {r : Int} (h : ¬ (48 ≤ r ∧ r ≤ 57) ∧ ¬ (1632 ≤ r ∧ r ≤ 1641) ∧ ¬ (65296 ≤ r ∧ r ≤ 65305)) : zeroOf r = (0, false) := by unfold zeroOf; rw [if_neg h.1, if_neg h.2.1, if_neg h.2.2]

set_option maxHeartbeats 1000000 in
set_option maxRecDepth 100000 in
theorem zero_calls (r : Int) (w : World) (hG : Glob w) :
    Calls Tryd.prog 86 #[.int .i32 r] w fun e w' => e = .returned (.tuple #[.int .i32 (zeroOf r).1, .bool (zeroOf r).2]) ∧ w = w' := by
  obtain ⟨_, t, fr, hg1⟩ := hG
  unfold zerCells at hg1
  go_enter Tryd.func86, Tryd.ntmps86
  go_wp2_with (refine wpList_load_row rfl 172 _ rfl 1 rfl t _ fr _ hg1 Tryd.underlying172 rfl (by kernel_rfl) ?_)
  have i0 : ∀ w, (Instr.index 172 (.agg #[.int .i32 48, .int .i32 1632, .int .i32 65296]) (.int .i64 0)).run Tryd.prog w = .ok (.int .i32 48) w := fun _ => by kernel_rfl
  have i1 : ∀ w, (Instr.index 172 (.agg #[.int .i32 48, .int .i32 1632, .int .i32 65296]) (.int .i64 1)).run Tryd.prog w = .ok (.int .i32 1632) w := fun _ => by kernel_rfl
  have i2 : ∀ w, (Instr.index 172 (.agg #[.int .i32 48, .int .i32 1632, .int .i32 65296]) (.int .i64 2)).run Tryd.prog w = .ok (.int .i32 65296) w := fun _ => by kernel_rfl
  clear hg1
  refine wp_loop_rounds 4 ?_
  repeat any_goals (rw [rounds_succ]; go_wp2)
  all_goals go_ret2
  all_goals exact ⟨by first | (rw [zeroOf_1 (by omega)]; rfl) | (rw [zeroOf_2 (by omega)]; rfl) | (rw [zeroOf_3 (by omega)]; rfl) | (rw [zeroOf_4 (by omega)]; rfl), rfl⟩

def hasFrom (s : ByteArray) (r : Int) : Nat → Nat → Bool
  | 0, _ => false
  | b + 1, pos => if pos < s.size then (((Utf8.decode s pos).1 : Int) == r) || hasFrom s r b (pos + (Utf8.decode s pos).2) else false
def hasS (s : ByteArray) (r : Int) : Bool := hasFrom s r s.size 0

theorem width_pos (s : ByteArray) (pos : Nat) (h : pos < s.size) : 1 ≤ (Utf8.decode s pos).2 := by
  by_cases ha : (s[pos]'h).toNat < 128
  · rw [decode_ascii s pos h ha]
    exact Nat.le_refl _
  · exact (decode_high s pos h (by omega)).2

theorem hasFrom_end (s : ByteArray) (r : Int) (b pos : Nat) (h : ¬ pos < s.size) : hasFrom s r b pos = false := by
  cases b with
  | zero => rfl
  | succ b => simp [hasFrom, h]

set_option maxHeartbeats 1000000 in
set_option maxRecDepth 100000 in
theorem has_calls (s : ByteArray) (r : Int) (w : World) :
    Calls Tryd.prog 88 #[.string s, .int .i32 r] w fun e w' => e = .returned (.bool (hasS s r)) ∧ ∃ pos, w' = w.iter s pos := by
  go_enter Tryd.func88, Tryd.ntmps88
  go_wp2
  go_loopw [6] (fun _ w' => ∃ (pos b : Nat), w' = w.iter s pos ∧ hasFrom s r b pos = hasS s r ∧ s.size ≤ pos + b) (fun _ w' => s.size - w'.iterPos w.heap.size)
  case atStart => exact ⟨0, s.size, rfl, rfl, by omega⟩
  case round =>
    obtain ⟨pos, b, rfl, hc, hb⟩ := hrel
    have HC := Lib.hid hc; clear hc
    by_cases hp : pos < s.size
    · have hnx : ∀ ty, (Instr.next (.pointer (some ⟨w.heap.size, 0, none⟩)) true ty).run Tryd.prog (w.iter s pos) = _ := fun ty => run_next_any w s pos ty hp
      have hwd := width_pos s pos hp
      by_cases hq : (((Utf8.decode s pos).1 : Int) == r) = true
      · go_wp2
        go_ret
        have hc := HC.out
        cases b with
        | zero => omega
        | succ b => 
          have e1 : hasS s r = true := by rw [← hc]; simp only [hasFrom, hp, if_true, hq, Bool.true_or]
          rw [e1]
          exact ⟨rfl, _, rfl⟩
      · have hq' : (((Utf8.decode s pos).1 : Int) == r) = false := by simpa using hq
        clear hq
        go_wp2
        go_roundw
        case rel =>
          cases b with
          | zero => omega
          | succ b =>
            refine ⟨pos + (Utf8.decode s pos).2, b, rfl, ?_, by omega⟩
            rw [← HC.out]
            simp [hasFrom, hp, hq']
        case measure =>
          simp
          omega
    · have hnx : ∀ ty, (Instr.next (.pointer (some ⟨w.heap.size, 0, none⟩)) true ty).run Tryd.prog (w.iter s pos) = _ := fun ty => run_next_end w s pos ty hp
      go_wp2
      go_ret
      have hc := HC.out
      rw [hasFrom_end s r b pos hp] at hc
      rw [← hc]
      exact ⟨rfl, _, rfl⟩

def spans : List (Int × Int) := [(97, 122), (65, 90), (95, 95), (192, 214), (216, 246), (248, 591), (880, 893), (895, 902), (904, 1023), (1024, 1153), (1162, 1327), (19968, 40959), (66560, 66639)]
def letterB (r : Int) : Bool := spans.any fun s => decide (s.1 ≤ r ∧ r ≤ s.2)
def blanksB : ByteArray := ⟨#[32, 9, 10, 13, 194, 160, 227, 128, 128]⟩
def signsB : ByteArray := ⟨#[40, 41, 43, 45, 42, 47, 37, 38, 124, 94, 126, 60, 62, 61, 63, 58, 59, 44, 64, 194, 172, 194, 183, 195, 151, 195, 183, 226, 136, 146, 226, 136, 167, 226, 136, 168, 226, 137, 161, 226, 137, 170, 226, 137, 171, 226, 138, 149]⟩
def validB (r : Int) : Bool := decide (0 ≤ r ∧ r < 55296 ∨ 57343 < r ∧ r ≤ 1114111)
/-- what a character is in a text -/
def kindOf (r : Int) : Int :=
  if letterB r = true then 1 else if (zeroOf r).2 = true then 2 else if validB r = false ∨ r = 65533 then 0 else if hasS blanksB r = true then 3 else if hasS signsB r = true then 4 else if 8320 ≤ r ∧ r ≤ 8329 then 5 else 0

theorem notB {r lo hi : Int} (h : ¬ (lo ≤ r ∧ r ≤ hi)) : r < lo ∨ hi < r := by omega
/-- no span of the first k is met -/
def noneTo (k : Nat) (r : Int) : Prop := ∀ s ∈ spans.take k, ¬ (s.1 ≤ r ∧ r ≤ s.2)
theorem none_all {r : Int} (h : noneTo 13 r) : letterB r = false := by
  unfold letterB; rw [List.any_eq_false]; intro s hs; simpa using h s hs
theorem none_step {k : Nat} {r lo hi : Int} (hk : spans[k]? = some (lo, hi)) (h : noneTo k r) (hn : ¬ (lo ≤ r ∧ r ≤ hi)) : noneTo (k + 1) r := by
  intro s hs
  rw [List.take_add_one, hk] at hs
  rcases List.mem_append.1 hs with hs | hs
  · exact h s hs
  · obtain rfl : s = (lo, hi) := by simpa using hs
    exact hn
theorem letter_of {k : Nat} {r lo hi : Int} (hk : spans[k]? = some (lo, hi)) (h : lo ≤ r ∧ r ≤ hi) : letterB r = true := by
  unfold letterB; rw [List.any_eq_true]; exact ⟨(lo, hi), List.mem_of_getElem? hk, by simpa using h⟩
theorem below_dr {B : Nat} {a w : World} (h : Below B a w) (n : Nat) : Below B a (w.drewN n) := ⟨h.os, h.tape, h.output, h.size, h.block⟩
theorem below_it {B : Nat} {a w : World} (h : Below B a w) (hB : B ≤ a.heap.size) (s : ByteArray) (pos : Nat) : Below B a (w.iter s pos) := h.alloc (Nat.le_trans hB h.size) _
theorem valid_f (r : Int) : utf8_ValidRune.f 3 r = some (validB r) := by
  unfold utf8_ValidRune.f validB
  by_cases h0 : 0 ≤ r
  · by_cases h1 : r < 55296
    · rw [if_pos h0, decide_eq_true h1, decide_eq_true (by omega)]; rfl
    · rw [if_pos h0, decide_eq_false h1]
      simp only [utf8_ValidRune.j0]
      rw [if_neg (by simp)]
      by_cases h2 : 57343 < r
      · rw [if_pos h2]
        by_cases h3 : r ≤ 1114111
        · rw [if_pos h3, decide_eq_true (by omega)]
        · rw [if_neg h3, decide_eq_false (by omega)]
      · rw [if_neg h2, decide_eq_false (by omega)]
  · rw [if_neg h0]
    simp only [utf8_ValidRune.j0]
    rw [if_neg (by simp), if_neg (by omega)]
    simp; omega

set_option maxHeartbeats 4000000 in
set_option maxRecDepth 100000 in
theorem kind_calls (r : Int) (w : World) (hG : Glob w) :
    Calls Tryd.prog 62 #[.int .i32 r] w fun e w' => e = .returned (.int .i64 (kindOf r)) ∧ Below w.heap.size w w' := by
  have HG := Lib.hid hG
  obtain ⟨⟨t, fr, hg1⟩, _⟩ := hG
  unfold letCells at hg1
  go_enter Tryd.func62, Tryd.ntmps62
  go_wp2_with (refine wpList_load_row rfl 146 _ rfl 0 rfl t _ fr _ hg1 Tryd.underlying146 rfl (by kernel_rfl) ?_)
  clear hg1
  have i0 : ∀ w, (Instr.index 146 (.agg #[.int .i32 97, .int .i32 122, .int .i32 65, .int .i32 90, .int .i32 95, .int .i32 95, .int .i32 192, .int .i32 214, .int .i32 216, .int .i32 246, .int .i32 248, .int .i32 591, .int .i32 880, .int .i32 893, .int .i32 895, .int .i32 902, .int .i32 904, .int .i32 1023, .int .i32 1024, .int .i32 1153, .int .i32 1162, .int .i32 1327, .int .i32 19968, .int .i32 40959, .int .i32 66560, .int .i32 66639]) (.int .i64 0)).run Tryd.prog w = .ok (.agg #[.int .i32 97, .int .i32 122]) w := fun _ => by kernel_rfl
  have i1 : ∀ w, (Instr.index 146 (.agg #[.int .i32 97, .int .i32 122, .int .i32 65, .int .i32 90, .int .i32 95, .int .i32 95, .int .i32 192, .int .i32 214, .int .i32 216, .int .i32 246, .int .i32 248, .int .i32 591, .int .i32 880, .int .i32 893, .int .i32 895, .int .i32 902, .int .i32 904, .int .i32 1023, .int .i32 1024, .int .i32 1153, .int .i32 1162, .int .i32 1327, .int .i32 19968, .int .i32 40959, .int .i32 66560, .int .i32 66639]) (.int .i64 1)).run Tryd.prog w = .ok (.agg #[.int .i32 65, .int .i32 90]) w := fun _ => by kernel_rfl
  have i2 : ∀ w, (Instr.index 146 (.agg #[.int .i32 97, .int .i32 122, .int .i32 65, .int .i32 90, .int .i32 95, .int .i32 95, .int .i32 192, .int .i32 214, .int .i32 216, .int .i32 246, .int .i32 248, .int .i32 591, .int .i32 880, .int .i32 893, .int .i32 895, .int .i32 902, .int .i32 904, .int .i32 1023, .int .i32 1024, .int .i32 1153, .int .i32 1162, .int .i32 1327, .int .i32 19968, .int .i32 40959, .int .i32 66560, .int .i32 66639]) (.int .i64 2)).run Tryd.prog w = .ok (.agg #[.int .i32 95, .int .i32 95]) w := fun _ => by kernel_rfl
  have i3 : ∀ w, (Instr.index 146 (.agg #[.int .i32 97, .int .i32 122, .int .i32 65, .int .i32 90, .int .i32 95, .int .i32 95, .int .i32 192, .int .i32 214, .int .i32 216, .int .i32 246, .int .i32 248, .int .i32 591, .int .i32 880, .int .i32 893, .int .i32 895, .int .i32 902, .int .i32 904, .int .i32 1023, .int .i32 1024, .int .i32 1153, .int .i32 1162, .int .i32 1327, .int .i32 19968, .int .i32 40959, .int .i32 66560, .int .i32 66639]) (.int .i64 3)).run Tryd.prog w = .ok (.agg #[.int .i32 192, .int .i32 214]) w := fun _ => by kernel_rfl
  have i4 : ∀ w, (Instr.index 146 (.agg #[.int .i32 97, .int .i32 122, .int .i32 65, .int .i32 90, .int .i32 95, .int .i32 95, .int .i32 192, .int .i32 214, .int .i32 216, .int .i32 246, .int .i32 248, .int .i32 591, .int .i32 880, .int .i32 893, .int .i32 895, .int .i32 902, .int .i32 904, .int .i32 1023, .int .i32 1024, .int .i32 1153, .int .i32 1162, .int .i32 1327, .int .i32 19968, .int .i32 40959, .int .i32 66560, .int .i32 66639]) (.int .i64 4)).run Tryd.prog w = .ok (.agg #[.int .i32 216, .int .i32 246]) w := fun _ => by kernel_rfl
  have i5 : ∀ w, (Instr.index 146 (.agg #[.int .i32 97, .int .i32 122, .int .i32 65, .int .i32 90, .int .i32 95, .int .i32 95, .int .i32 192, .int .i32 214, .int .i32 216, .int .i32 246, .int .i32 248, .int .i32 591, .int .i32 880, .int .i32 893, .int .i32 895, .int .i32 902, .int .i32 904, .int .i32 1023, .int .i32 1024, .int .i32 1153, .int .i32 1162, .int .i32 1327, .int .i32 19968, .int .i32 40959, .int .i32 66560, .int .i32 66639]) (.int .i64 5)).run Tryd.prog w = .ok (.agg #[.int .i32 248, .int .i32 591]) w := fun _ => by kernel_rfl
  have i6 : ∀ w, (Instr.index 146 (.agg #[.int .i32 97, .int .i32 122, .int .i32 65, .int .i32 90, .int .i32 95, .int .i32 95, .int .i32 192, .int .i32 214, .int .i32 216, .int .i32 246, .int .i32 248, .int .i32 591, .int .i32 880, .int .i32 893, .int .i32 895, .int .i32 902, .int .i32 904, .int .i32 1023, .int .i32 1024, .int .i32 1153, .int .i32 1162, .int .i32 1327, .int .i32 19968, .int .i32 40959, .int .i32 66560, .int .i32 66639]) (.int .i64 6)).run Tryd.prog w = .ok (.agg #[.int .i32 880, .int .i32 893]) w := fun _ => by kernel_rfl
  have i7 : ∀ w, (Instr.index 146 (.agg #[.int .i32 97, .int .i32 122, .int .i32 65, .int .i32 90, .int .i32 95, .int .i32 95, .int .i32 192, .int .i32 214, .int .i32 216, .int .i32 246, .int .i32 248, .int .i32 591, .int .i32 880, .int .i32 893, .int .i32 895, .int .i32 902, .int .i32 904, .int .i32 1023, .int .i32 1024, .int .i32 1153, .int .i32 1162, .int .i32 1327, .int .i32 19968, .int .i32 40959, .int .i32 66560, .int .i32 66639]) (.int .i64 7)).run Tryd.prog w = .ok (.agg #[.int .i32 895, .int .i32 902]) w := fun _ => by kernel_rfl
  have i8 : ∀ w, (Instr.index 146 (.agg #[.int .i32 97, .int .i32 122, .int .i32 65, .int .i32 90, .int .i32 95, .int .i32 95, .int .i32 192, .int .i32 214, .int .i32 216, .int .i32 246, .int .i32 248, .int .i32 591, .int .i32 880, .int .i32 893, .int .i32 895, .int .i32 902, .int .i32 904, .int .i32 1023, .int .i32 1024, .int .i32 1153, .int .i32 1162, .int .i32 1327, .int .i32 19968, .int .i32 40959, .int .i32 66560, .int .i32 66639]) (.int .i64 8)).run Tryd.prog w = .ok (.agg #[.int .i32 904, .int .i32 1023]) w := fun _ => by kernel_rfl
  have i9 : ∀ w, (Instr.index 146 (.agg #[.int .i32 97, .int .i32 122, .int .i32 65, .int .i32 90, .int .i32 95, .int .i32 95, .int .i32 192, .int .i32 214, .int .i32 216, .int .i32 246, .int .i32 248, .int .i32 591, .int .i32 880, .int .i32 893, .int .i32 895, .int .i32 902, .int .i32 904, .int .i32 1023, .int .i32 1024, .int .i32 1153, .int .i32 1162, .int .i32 1327, .int .i32 19968, .int .i32 40959, .int .i32 66560, .int .i32 66639]) (.int .i64 9)).run Tryd.prog w = .ok (.agg #[.int .i32 1024, .int .i32 1153]) w := fun _ => by kernel_rfl
  have i10 : ∀ w, (Instr.index 146 (.agg #[.int .i32 97, .int .i32 122, .int .i32 65, .int .i32 90, .int .i32 95, .int .i32 95, .int .i32 192, .int .i32 214, .int .i32 216, .int .i32 246, .int .i32 248, .int .i32 591, .int .i32 880, .int .i32 893, .int .i32 895, .int .i32 902, .int .i32 904, .int .i32 1023, .int .i32 1024, .int .i32 1153, .int .i32 1162, .int .i32 1327, .int .i32 19968, .int .i32 40959, .int .i32 66560, .int .i32 66639]) (.int .i64 10)).run Tryd.prog w = .ok (.agg #[.int .i32 1162, .int .i32 1327]) w := fun _ => by kernel_rfl
  have i11 : ∀ w, (Instr.index 146 (.agg #[.int .i32 97, .int .i32 122, .int .i32 65, .int .i32 90, .int .i32 95, .int .i32 95, .int .i32 192, .int .i32 214, .int .i32 216, .int .i32 246, .int .i32 248, .int .i32 591, .int .i32 880, .int .i32 893, .int .i32 895, .int .i32 902, .int .i32 904, .int .i32 1023, .int .i32 1024, .int .i32 1153, .int .i32 1162, .int .i32 1327, .int .i32 19968, .int .i32 40959, .int .i32 66560, .int .i32 66639]) (.int .i64 11)).run Tryd.prog w = .ok (.agg #[.int .i32 19968, .int .i32 40959]) w := fun _ => by kernel_rfl
  have i12 : ∀ w, (Instr.index 146 (.agg #[.int .i32 97, .int .i32 122, .int .i32 65, .int .i32 90, .int .i32 95, .int .i32 95, .int .i32 192, .int .i32 214, .int .i32 216, .int .i32 246, .int .i32 248, .int .i32 591, .int .i32 880, .int .i32 893, .int .i32 895, .int .i32 902, .int .i32 904, .int .i32 1023, .int .i32 1024, .int .i32 1153, .int .i32 1162, .int .i32 1327, .int .i32 19968, .int .i32 40959, .int .i32 66560, .int .i32 66639]) (.int .i64 12)).run Tryd.prog w = .ok (.agg #[.int .i32 66560, .int .i32 66639]) w := fun _ => by kernel_rfl
  go_loopw [8] (fun i w' => ∃ k : Nat, k ≤ 13 ∧ i = .int .i64 k ∧ noneTo k r ∧ Below w.heap.size w w') (fun i _ => 13 - (intOf i).toNat)
  case atStart => exact ⟨0, by omega, rfl, fun s hs => by simp at hs, Below.refl _ _⟩
  case round =>
    obtain ⟨k, hk, rfl, hn, hb⟩ := hrel
    have HN := Lib.hid hn; clear hn
    rename_i wr
    obtain rfl | rfl | rfl | rfl | rfl | rfl | rfl | rfl | rfl | rfl | rfl | rfl | rfl | rfl : k = 0 ∨ k = 1 ∨ k = 2 ∨ k = 3 ∨ k = 4 ∨ k = 5 ∨ k = 6 ∨ k = 7 ∨ k = 8 ∨ k = 9 ∨ k = 10 ∨ k = 11 ∨ k = 12 ∨ k = 13 := by omega
    · clear hk i1 i2 i3 i4 i5 i6 i7 i8 i9 i10 i11 i12
      by_cases m : 97 ≤ r ∧ r ≤ 122
      · obtain ⟨m1, m2⟩ := m
        have hk1 : kindOf r = 1 := by unfold kindOf; rw [if_pos (letter_of (k := 0) rfl ⟨m1, m2⟩)]
        have HK := Lib.hid hk1; clear hk1
        go_wp2
        go_ret
        exact ⟨by rw [HK.out]; rfl, hb.alloc (hb.size) _⟩
      · rcases notB m with m1 | m1
        all_goals
          go_wp2
          go_roundw
          case rel => exact ⟨1, by omega, rfl, none_step (k := 0) rfl HN.out m, hb.alloc (hb.size) _⟩
          case measure => simp [intOf]
    · clear hk i0 i2 i3 i4 i5 i6 i7 i8 i9 i10 i11 i12
      by_cases m : 65 ≤ r ∧ r ≤ 90
      · obtain ⟨m1, m2⟩ := m
        have hk1 : kindOf r = 1 := by unfold kindOf; rw [if_pos (letter_of (k := 1) rfl ⟨m1, m2⟩)]
        have HK := Lib.hid hk1; clear hk1
        go_wp2
        go_ret
        exact ⟨by rw [HK.out]; rfl, hb.alloc (hb.size) _⟩
      · rcases notB m with m1 | m1
        all_goals
          go_wp2
          go_roundw
          case rel => exact ⟨2, by omega, rfl, none_step (k := 1) rfl HN.out m, hb.alloc (hb.size) _⟩
          case measure => simp [intOf]
    · clear hk i0 i1 i3 i4 i5 i6 i7 i8 i9 i10 i11 i12
      by_cases m : 95 ≤ r ∧ r ≤ 95
      · obtain ⟨m1, m2⟩ := m
        have hk1 : kindOf r = 1 := by unfold kindOf; rw [if_pos (letter_of (k := 2) rfl ⟨m1, m2⟩)]
        have HK := Lib.hid hk1; clear hk1
        go_wp2
        go_ret
        exact ⟨by rw [HK.out]; rfl, hb.alloc (hb.size) _⟩
      · rcases notB m with m1 | m1
        all_goals
          go_wp2
          go_roundw
          case rel => exact ⟨3, by omega, rfl, none_step (k := 2) rfl HN.out m, hb.alloc (hb.size) _⟩
          case measure => simp [intOf]
    · clear hk i0 i1 i2 i4 i5 i6 i7 i8 i9 i10 i11 i12
      by_cases m : 192 ≤ r ∧ r ≤ 214
      · obtain ⟨m1, m2⟩ := m
        have hk1 : kindOf r = 1 := by unfold kindOf; rw [if_pos (letter_of (k := 3) rfl ⟨m1, m2⟩)]
        have HK := Lib.hid hk1; clear hk1
        go_wp2
        go_ret
        exact ⟨by rw [HK.out]; rfl, hb.alloc (hb.size) _⟩
      · rcases notB m with m1 | m1
        all_goals
          go_wp2
          go_roundw
          case rel => exact ⟨4, by omega, rfl, none_step (k := 3) rfl HN.out m, hb.alloc (hb.size) _⟩
          case measure => simp [intOf]
    · clear hk i0 i1 i2 i3 i5 i6 i7 i8 i9 i10 i11 i12
      by_cases m : 216 ≤ r ∧ r ≤ 246
      · obtain ⟨m1, m2⟩ := m
        have hk1 : kindOf r = 1 := by unfold kindOf; rw [if_pos (letter_of (k := 4) rfl ⟨m1, m2⟩)]
        have HK := Lib.hid hk1; clear hk1
        go_wp2
        go_ret
        exact ⟨by rw [HK.out]; rfl, hb.alloc (hb.size) _⟩
      · rcases notB m with m1 | m1
        all_goals
          go_wp2
          go_roundw
          case rel => exact ⟨5, by omega, rfl, none_step (k := 4) rfl HN.out m, hb.alloc (hb.size) _⟩
          case measure => simp [intOf]
    · clear hk i0 i1 i2 i3 i4 i6 i7 i8 i9 i10 i11 i12
      by_cases m : 248 ≤ r ∧ r ≤ 591
      · obtain ⟨m1, m2⟩ := m
        have hk1 : kindOf r = 1 := by unfold kindOf; rw [if_pos (letter_of (k := 5) rfl ⟨m1, m2⟩)]
        have HK := Lib.hid hk1; clear hk1
        go_wp2
        go_ret
        exact ⟨by rw [HK.out]; rfl, hb.alloc (hb.size) _⟩
      · rcases notB m with m1 | m1
        all_goals
          go_wp2
          go_roundw
          case rel => exact ⟨6, by omega, rfl, none_step (k := 5) rfl HN.out m, hb.alloc (hb.size) _⟩
          case measure => simp [intOf]
    · clear hk i0 i1 i2 i3 i4 i5 i7 i8 i9 i10 i11 i12
      by_cases m : 880 ≤ r ∧ r ≤ 893
      · obtain ⟨m1, m2⟩ := m
        have hk1 : kindOf r = 1 := by unfold kindOf; rw [if_pos (letter_of (k := 6) rfl ⟨m1, m2⟩)]
        have HK := Lib.hid hk1; clear hk1
        go_wp2
        go_ret
        exact ⟨by rw [HK.out]; rfl, hb.alloc (hb.size) _⟩
      · rcases notB m with m1 | m1
        all_goals
          go_wp2
          go_roundw
          case rel => exact ⟨7, by omega, rfl, none_step (k := 6) rfl HN.out m, hb.alloc (hb.size) _⟩
          case measure => simp [intOf]
    · clear hk i0 i1 i2 i3 i4 i5 i6 i8 i9 i10 i11 i12
      by_cases m : 895 ≤ r ∧ r ≤ 902
      · obtain ⟨m1, m2⟩ := m
        have hk1 : kindOf r = 1 := by unfold kindOf; rw [if_pos (letter_of (k := 7) rfl ⟨m1, m2⟩)]
        have HK := Lib.hid hk1; clear hk1
        go_wp2
        go_ret
        exact ⟨by rw [HK.out]; rfl, hb.alloc (hb.size) _⟩
      · rcases notB m with m1 | m1
        all_goals
          go_wp2
          go_roundw
          case rel => exact ⟨8, by omega, rfl, none_step (k := 7) rfl HN.out m, hb.alloc (hb.size) _⟩
          case measure => simp [intOf]
    · clear hk i0 i1 i2 i3 i4 i5 i6 i7 i9 i10 i11 i12
      by_cases m : 904 ≤ r ∧ r ≤ 1023
      · obtain ⟨m1, m2⟩ := m
        have hk1 : kindOf r = 1 := by unfold kindOf; rw [if_pos (letter_of (k := 8) rfl ⟨m1, m2⟩)]
        have HK := Lib.hid hk1; clear hk1
        go_wp2
        go_ret
        exact ⟨by rw [HK.out]; rfl, hb.alloc (hb.size) _⟩
      · rcases notB m with m1 | m1
        all_goals
          go_wp2
          go_roundw
          case rel => exact ⟨9, by omega, rfl, none_step (k := 8) rfl HN.out m, hb.alloc (hb.size) _⟩
          case measure => simp [intOf]
    · clear hk i0 i1 i2 i3 i4 i5 i6 i7 i8 i10 i11 i12
      by_cases m : 1024 ≤ r ∧ r ≤ 1153
      · obtain ⟨m1, m2⟩ := m
        have hk1 : kindOf r = 1 := by unfold kindOf; rw [if_pos (letter_of (k := 9) rfl ⟨m1, m2⟩)]
        have HK := Lib.hid hk1; clear hk1
        go_wp2
        go_ret
        exact ⟨by rw [HK.out]; rfl, hb.alloc (hb.size) _⟩
      · rcases notB m with m1 | m1
        all_goals
          go_wp2
          go_roundw
          case rel => exact ⟨10, by omega, rfl, none_step (k := 9) rfl HN.out m, hb.alloc (hb.size) _⟩
          case measure => simp [intOf]
    · clear hk i0 i1 i2 i3 i4 i5 i6 i7 i8 i9 i11 i12
      by_cases m : 1162 ≤ r ∧ r ≤ 1327
      · obtain ⟨m1, m2⟩ := m
        have hk1 : kindOf r = 1 := by unfold kindOf; rw [if_pos (letter_of (k := 10) rfl ⟨m1, m2⟩)]
        have HK := Lib.hid hk1; clear hk1
        go_wp2
        go_ret
        exact ⟨by rw [HK.out]; rfl, hb.alloc (hb.size) _⟩
      · rcases notB m with m1 | m1
        all_goals
          go_wp2
          go_roundw
          case rel => exact ⟨11, by omega, rfl, none_step (k := 10) rfl HN.out m, hb.alloc (hb.size) _⟩
          case measure => simp [intOf]
    · clear hk i0 i1 i2 i3 i4 i5 i6 i7 i8 i9 i10 i12
      by_cases m : 19968 ≤ r ∧ r ≤ 40959
      · obtain ⟨m1, m2⟩ := m
        have hk1 : kindOf r = 1 := by unfold kindOf; rw [if_pos (letter_of (k := 11) rfl ⟨m1, m2⟩)]
        have HK := Lib.hid hk1; clear hk1
        go_wp2
        go_ret
        exact ⟨by rw [HK.out]; rfl, hb.alloc (hb.size) _⟩
      · rcases notB m with m1 | m1
        all_goals
          go_wp2
          go_roundw
          case rel => exact ⟨12, by omega, rfl, none_step (k := 11) rfl HN.out m, hb.alloc (hb.size) _⟩
          case measure => simp [intOf]
    · clear hk i0 i1 i2 i3 i4 i5 i6 i7 i8 i9 i10 i11
      by_cases m : 66560 ≤ r ∧ r ≤ 66639
      · obtain ⟨m1, m2⟩ := m
        have hk1 : kindOf r = 1 := by unfold kindOf; rw [if_pos (letter_of (k := 12) rfl ⟨m1, m2⟩)]
        have HK := Lib.hid hk1; clear hk1
        go_wp2
        go_ret
        exact ⟨by rw [HK.out]; rfl, hb.alloc (hb.size) _⟩
      · rcases notB m with m1 | m1
        all_goals
          go_wp2
          go_roundw
          case rel => exact ⟨13, by omega, rfl, none_step (k := 12) rfl HN.out m, hb.alloc (hb.size) _⟩
          case measure => simp [intOf]
    · clear hk i0 i1 i2 i3 i4 i5 i6 i7 i8 i9 i10 i11 i12
      have hL := none_all HN.out
      clear HN
      have HL := Lib.hid hL; clear hL
      have HW := Lib.hid (HG.out.below hb)
      have HV := Lib.hid (valid_f r)
      have HB := Lib.hid hb; clear hb
      by_cases z : (zeroOf r).2 = true
      · have HK := Lib.hid (show kindOf r = 2 by unfold kindOf; rw [if_neg (by rw [HL.out]; simp), if_pos z])
        go_wp2_with (go_at_call 86; refine (zero_calls _ _ HW.out).mono ?_; rintro e w' ⟨rfl, rfl⟩)
        go_ret
        exact ⟨by rw [HK.out]; rfl, (by have hb := HB.out; repeat (first | exact hb | (refine below_dr ?_ _) | (refine below_it ?_ (Nat.le_refl _) _ _)))⟩
      · have z' : (zeroOf r).2 = false := by simpa using z
        clear z
        by_cases v : validB r = true
        · by_cases q : r = 65533
          · have q' : (r == 65533) = true := by simpa using q
            have HK := Lib.hid (show kindOf r = 0 by unfold kindOf; rw [if_neg (by rw [HL.out]; simp), if_neg (by rw [z']; simp), if_pos (.inr q)])
            clear q
            go_wp2_with (first | (go_at_call 86; refine (zero_calls _ _ HW.out).mono ?_; rintro e w' ⟨rfl, rfl⟩) | (go_at_call 87; refine (utf8_ValidRune.calls 3 _ _ _ HV.out).mono ?_; rintro e w' ⟨rfl, ⟨nd, rfl⟩⟩))
            go_ret
            exact ⟨by rw [HK.out]; rfl, (by have hb := HB.out; repeat (first | exact hb | (refine below_dr ?_ _) | (refine below_it ?_ (Nat.le_refl _) _ _)))⟩
          · have q' : (r == 65533) = false := by simpa using q
            have nq : ¬ (validB r = false ∨ r = 65533) := by rw [v]; simp [q]
            have HQ := Lib.hid nq; clear nq q
            by_cases b : hasS ⟨#[32, 9, 10, 13, 194, 160, 227, 128, 128]⟩ r = true
            · have HK := Lib.hid (show kindOf r = 3 by unfold kindOf blanksB; rw [if_neg (by rw [HL.out]; simp), if_neg (by rw [z']; simp), if_neg HQ.out, if_pos b])
              go_wp2_with (first | (go_at_call 86; refine (zero_calls _ _ HW.out).mono ?_; rintro e w' ⟨rfl, rfl⟩) | (go_at_call 87; refine (utf8_ValidRune.calls 3 _ _ _ HV.out).mono ?_; rintro e w' ⟨rfl, ⟨nd, rfl⟩⟩) | (go_at_call 88; refine (has_calls _ _ _).mono ?_; rintro e w' ⟨rfl, ⟨pos, rfl⟩⟩))
              go_ret
              exact ⟨by rw [HK.out]; rfl, (by have hb := HB.out; repeat (first | exact hb | (refine below_dr ?_ _) | (refine below_it ?_ (Nat.le_refl _) _ _)))⟩
            · have b' : hasS ⟨#[32, 9, 10, 13, 194, 160, 227, 128, 128]⟩ r = false := by simpa using b
              clear b
              by_cases c : hasS ⟨#[40, 41, 43, 45, 42, 47, 37, 38, 124, 94, 126, 60, 62, 61, 63, 58, 59, 44, 64, 194, 172, 194, 183, 195, 151, 195, 183, 226, 136, 146, 226, 136, 167, 226, 136, 168, 226, 137, 161, 226, 137, 170, 226, 137, 171, 226, 138, 149]⟩ r = true
              · have HK := Lib.hid (show kindOf r = 4 by unfold kindOf blanksB signsB; rw [if_neg (by rw [HL.out]; simp), if_neg (by rw [z']; simp), if_neg HQ.out, if_neg (by rw [b']; simp), if_pos c])
                go_wp2_with (first | (go_at_call 86; refine (zero_calls _ _ HW.out).mono ?_; rintro e w' ⟨rfl, rfl⟩) | (go_at_call 87; refine (utf8_ValidRune.calls 3 _ _ _ HV.out).mono ?_; rintro e w' ⟨rfl, ⟨nd, rfl⟩⟩) | (go_at_call 88; refine (has_calls _ _ _).mono ?_; rintro e w' ⟨rfl, ⟨pos, rfl⟩⟩))
                go_ret
                exact ⟨by rw [HK.out]; rfl, (by have hb := HB.out; repeat (first | exact hb | (refine below_dr ?_ _) | (refine below_it ?_ (Nat.le_refl _) _ _)))⟩
              · have c' : hasS ⟨#[40, 41, 43, 45, 42, 47, 37, 38, 124, 94, 126, 60, 62, 61, 63, 58, 59, 44, 64, 194, 172, 194, 183, 195, 151, 195, 183, 226, 136, 146, 226, 136, 167, 226, 136, 168, 226, 137, 161, 226, 137, 170, 226, 137, 171, 226, 138, 149]⟩ r = false := by simpa using c
                clear c
                by_cases d : 8320 ≤ r ∧ r ≤ 8329
                · have HK := Lib.hid (show kindOf r = 5 by unfold kindOf blanksB signsB; rw [if_neg (by rw [HL.out]; simp), if_neg (by rw [z']; simp), if_neg HQ.out, if_neg (by rw [b']; simp), if_neg (by rw [c']; simp), if_pos d])
                  obtain ⟨d1, d2⟩ := d
                  go_wp2_with (first | (go_at_call 86; refine (zero_calls _ _ HW.out).mono ?_; rintro e w' ⟨rfl, rfl⟩) | (go_at_call 87; refine (utf8_ValidRune.calls 3 _ _ _ HV.out).mono ?_; rintro e w' ⟨rfl, ⟨nd, rfl⟩⟩) | (go_at_call 88; refine (has_calls _ _ _).mono ?_; rintro e w' ⟨rfl, ⟨pos, rfl⟩⟩))
                  go_ret
                  exact ⟨by rw [HK.out]; rfl, (by have hb := HB.out; repeat (first | exact hb | (refine below_dr ?_ _) | (refine below_it ?_ (Nat.le_refl _) _ _)))⟩
                · have HK := Lib.hid (show kindOf r = 0 by unfold kindOf blanksB signsB; rw [if_neg (by rw [HL.out]; simp), if_neg (by rw [z']; simp), if_neg HQ.out, if_neg (by rw [b']; simp), if_neg (by rw [c']; simp), if_neg d])
                  rcases notB d with d1 | d1
                  all_goals
                    go_wp2_with (first | (go_at_call 86; refine (zero_calls _ _ HW.out).mono ?_; rintro e w' ⟨rfl, rfl⟩) | (go_at_call 87; refine (utf8_ValidRune.calls 3 _ _ _ HV.out).mono ?_; rintro e w' ⟨rfl, ⟨nd, rfl⟩⟩) | (go_at_call 88; refine (has_calls _ _ _).mono ?_; rintro e w' ⟨rfl, ⟨pos, rfl⟩⟩))
                    go_ret
                    exact ⟨by rw [HK.out]; rfl, (by have hb := HB.out; repeat (first | exact hb | (refine below_dr ?_ _) | (refine below_it ?_ (Nat.le_refl _) _ _)))⟩
        · have v' : validB r = false := by simpa using v
          have HK := Lib.hid (show kindOf r = 0 by unfold kindOf; rw [if_neg (by rw [HL.out]; simp), if_neg (by rw [z']; simp), if_pos (.inl v')])
          clear v
          go_wp2_with (first | (go_at_call 86; refine (zero_calls _ _ HW.out).mono ?_; rintro e w' ⟨rfl, rfl⟩) | (go_at_call 87; refine (utf8_ValidRune.calls 3 _ _ _ HV.out).mono ?_; rintro e w' ⟨rfl, ⟨nd, rfl⟩⟩))
          go_ret
          exact ⟨by rw [HK.out]; rfl, (by have hb := HB.out; repeat (first | exact hb | (refine below_dr ?_ _) | (refine below_it ?_ (Nat.le_refl _) _ _)))⟩

end Go.Proofs.YtpboednjlchnhaaDoor.Q
