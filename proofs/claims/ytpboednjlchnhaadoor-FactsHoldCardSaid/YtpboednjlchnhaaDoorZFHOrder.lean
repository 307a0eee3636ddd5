/- runes.Order: the comparison of two names by their code points; exact as to the world behind it. -/
import Derived.Test.YtpboednjlchnhaaDoorZFHSpec
import Derived.Test.YtpboednjlchnhaaDoorZFHG0
import Derived.Laws.IdiomStrings
import Derived.Sort.Grow
import Derived.Lib.Hide
namespace Go.Proofs.YtpboednjlchnhaaDoor.Q
open Go.RowKit Go.Proofs.YtpboednjlchnhaaDoorW.PrintWords Go.Proofs.YtpboednjlchnhaaDoorW.PrintLast Go.Proofs.YtpboednjlchnhaaDoorW.PrintMore
set_option linter.unusedVariables false
set_option linter.unusedSimpArgs false

def runesAux (s : ByteArray) : Nat → Nat → List Int
  | 0, _ => []
  | b + 1, i => if i < s.size then ((Utf8.decode s i).1 : Int) :: runesAux s b (i + (Utf8.decode s i).2) else []
/-- the code points of a text -/
def runesL (s : ByteArray) : List Int := runesAux s s.size 0
theorem runesFrom_eq (s : ByteArray) : ∀ (b i : Nat) (acc : Array Value), Conv.runesFrom s b i acc = acc ++ ((runesAux s b i).map (Value.int .i32)).toArray
  | 0, _, acc => by simp [Conv.runesFrom, runesAux]
  | b + 1, i, acc => by
    unfold Conv.runesFrom runesAux
    split
    · show Conv.runesFrom s b (i + (Utf8.decode s i).2) (acc.push (.int .i32 (Int.ofNat (Utf8.decode s i).1))) = _
      rw [runesFrom_eq s b]
      apply Array.ext'
      simp
    · simp
theorem runesAux_len (s : ByteArray) : ∀ (b i : Nat), (runesAux s b i).length ≤ b
  | 0, _ => by simp [runesAux]
  | b + 1, i => by
    unfold runesAux
    split
    · have := runesAux_len s b (i + (Utf8.decode s i).2)
      simp; omega
    · simp
theorem runesL_len (s : ByteArray) : (runesL s).length ≤ s.size := runesAux_len s _ _

def cmpI (a b : Int) : Int := if a < b then -1 else if b < a then 1 else 0
def cmpL : List Int → List Int → Int
  | [], [] => 0
  | [], _ :: _ => -1
  | _ :: _, [] => 1
  | a :: l, b :: m => if cmpI a b = 0 then cmpL l m else cmpI a b

theorem cmpR_f (a b : Int) : cmp_Compare_rune.f a b = some (cmpI a b) := by
  unfold cmp_Compare_rune.f cmp_isNaN_rune.f cmpI
  by_cases h1 : a < b
  · simp [h1]
  · by_cases h2 : b < a <;> simp [h1, h2]

theorem compareR_l0 (l m : List Int) (hl : l.length < 9223372036854775807) : ∀ (n : Nat) (i k : Nat), l.length - i = n → i ≤ l.length → i ≤ m.length → n + 1 ≤ k → slices_Compare_rune_rune.l0 k l m l (l.length : Int) (i : Int) = some (cmpL (l.drop i) (m.drop i)) := by
  intro n
  induction n with
  | zero =>
    intro i k hn hi hm hk
    obtain ⟨k, rfl⟩ : ∃ q, k = q + 1 := ⟨k - 1, by omega⟩
    have hi' : i = l.length := by omega
    unfold slices_Compare_rune_rune.l0
    rw [if_neg (by omega)]
    rw [List.drop_of_length_le (by omega)]
    by_cases hm' : l.length < m.length
    · rw [if_pos (by omega), List.drop_eq_getElem_cons (by omega : i < m.length)]
      rfl
    · rw [if_neg (by omega), List.drop_of_length_le (by omega)]
      rfl
  | succ n ih =>
    intro i k hn hi hm hk
    obtain ⟨k, rfl⟩ : ∃ q, k = q + 1 := ⟨k - 1, by omega⟩
    unfold slices_Compare_rune_rune.l0
    have hil : i < l.length := by omega
    rw [if_pos (by omega), if_pos (by omega), if_pos (by omega), List.drop_eq_getElem_cons hil]
    by_cases hm' : i < m.length
    · rw [if_neg (by omega), if_pos (by omega), List.drop_eq_getElem_cons hm', rdI (List.getElem?_eq_getElem hil), rdI (List.getElem?_eq_getElem hm'), cmpR_f]
      show (if cmpI l[i] m[i] = 0 then _ else _) = _
      unfold cmpL
      by_cases hc : cmpI l[i] m[i] = 0
      · rw [if_pos hc, if_pos hc, wrap_succ (by omega), ih (i + 1) k (by omega) (by omega) (by omega) (by omega)]
      · rw [if_neg hc, if_neg hc]
    · rw [if_pos (by omega), List.drop_of_length_le (by omega : m.length ≤ i)]
      rfl
theorem compareR_f (l m : List Int) (hl : l.length < 9223372036854775807) : slices_Compare_rune_rune.f (l.length + 1) l m = some (cmpL l m) := by
  have := compareR_l0 l m hl l.length 0 (l.length + 1) (by omega) (by omega) (by omega) (by omega)
  simpa [slices_Compare_rune_rune.f] using this

/-- the order of two names -/
def orderS (s t : ByteArray) : Int := cmpL (runesL s) (runesL t)

/-- what a conversion to code points lays -/
def runesObj (w : World) (s : ByteArray) : Obj := .cells (((runesL s).map (Value.int .i32)).toArray ++ Array.replicate (grownCap w (runesL s).length 0 21 - (runesL s).length) (.int .i32 0)) 21
theorem runes_conv (w : World) (s : ByteArray) (h : s.size ≤ 70368744177664) :
    (convert 9 109 (.string s)).run Tryd.prog w = .ok (.slice (some ⟨w.heap.size, 0, none⟩) (runesL s).length (grownCap w (runesL s).length 0 21)) (w.drew.alloc (runesObj w s)) := by
  have e : Conv.runesFrom s s.size 0 #[] = ((runesL s).map (Value.int .i32)).toArray := by rw [runesFrom_eq]; simp [runesL]
  have hn : (Conv.runesFrom s s.size 0 #[]).size = (runesL s).length := by rw [e]; simp
  have := run_runes_of_string (P := Tryd.prog) w 9 109 21 s Tryd.underlying9 Tryd.underlying109 Tryd.underlying21 (by rw [hn]; have := runesL_len s; omega)
  rw [this, hn, e]
  rfl
theorem runes_cell (w : World) (s : ByteArray) (j : Nat) (u : Int) (h : (runesL s)[j]? = some u) : (w.alloc (runesObj w s)).cell? ⟨w.heap.size, j, none⟩ = some (.int .i32 u) := by
  have hj := (List.getElem?_eq_some_iff.1 h).1
  have hu := (List.getElem?_eq_some_iff.1 h).2
  simp [World.cell?, World.alloc, runesObj, -World.alloc_eq, Array.getElem?_append, hj, hu]

theorem runes_at1 (w : World) (s : ByteArray) (o : Obj) (j : Nat) (p : Int) (h : (runesL s)[j]? = some p) : (((w.alloc (runesObj w s)).alloc o).drewN 2).cell? (({ block := w.heap.size, off := 0 } : Addr).add (j * (Kd.int .i32).sz + 0)) = some (.int .i32 p) := by
  have hc := runes_cell w s j p h
  have e : ({ block := w.heap.size, off := 0 } : Addr).add (j * (Kd.int .i32).sz + 0) = ⟨w.heap.size, j, none⟩ := by show Addr.add _ (j * 1 + 0) = _; rw [Nat.mul_one, Nat.add_zero]; cases j <;> simp [Addr.add]
  rw [e]
  show ((w.alloc (runesObj w s)).alloc o).cell? _ = _
  rw [World.cell?_alloc_past o _ _ (by simp)]
  exact hc
theorem runes_at2 (w : World) (o : Obj) (t : ByteArray) (w1 : World) (j : Nat) (p : Int) (h : (runesL t)[j]? = some p) (hw : w1 = (w.alloc o).drew := by rfl) : (((w.alloc o).alloc (runesObj w1 t)).drewN 2).cell? (({ block := w.heap.size + 1, off := 0 } : Addr).add (j * (Kd.int .i32).sz + 0)) = some (.int .i32 p) := by
  subst hw
  have hc := runes_cell (w.alloc o).drew t j p h
  have e : ({ block := w.heap.size + 1, off := 0 } : Addr).add (j * (Kd.int .i32).sz + 0) = ⟨w.heap.size + 1, j, none⟩ := by show Addr.add _ (j * 1 + 0) = _; rw [Nat.mul_one, Nat.add_zero]; cases j <;> simp [Addr.add]
  rw [e]
  have es : (w.alloc o).drew.heap.size = w.heap.size + 1 := by simp
  rw [es] at hc
  exact hc

theorem order_world (w : World) (o1 o2 : Obj) (n : Nat) : ((w.drew.alloc o1).drew.alloc o2).drewN n = Sort.grow (w.drewN (n + 2)) #[o1, o2] := by
  unfold World.drewN World.alloc World.drew Sort.grow
  simp [Nat.add_assoc, Nat.add_comm, Nat.add_left_comm]
  apply Array.ext'
  simp
set_option maxHeartbeats 1000000 in
set_option maxRecDepth 100000 in
theorem order_walk (s t : ByteArray) (r : Int) (w w1 w2 : World) (a1 a2 : Addr) (n1 n2 x1 x2 : Nat)
    (c1 : (convert 9 109 (.string s)).run Tryd.prog w = .ok (.slice (some a1) n1 x1) w1)
    (c2 : (convert 9 109 (.string t)).run Tryd.prog w1 = .ok (.slice (some a2) n2 x2) w2)
    (hW : Calls Tryd.prog 56 #[.slice (some a1) n1 x1, .slice (some a2) n2 x2] w2 fun e w' => e = .returned (.int .i64 r) ∧ ∃ n, w' = w2.drewN n) :
    Calls Tryd.prog 37 #[.string s, .string t] w fun e w' => e = .returned (.int .i64 r) ∧ ∃ n, w' = w2.drewN n := by
  go_enter Tryd.func37, Tryd.ntmps37
  go_wp2_with (go_at_call 56; refine hW.mono ?_; rintro e w' ⟨rfl, n, rfl⟩)
  go_ret
  exact ⟨rfl, n, rfl⟩

theorem order_calls (s t : ByteArray) (w : World) (hs : s.size ≤ 70368744177664) (ht : t.size ≤ 70368744177664) :
    Calls Tryd.prog 37 #[.string s, .string t] w fun e w' => e = .returned (.int .i64 (orderS s t)) ∧ ∃ n os, w' = Sort.grow (w.drewN n) os := by
  have hl1 := runesL_len s
  have hl2 := runesL_len t
  have g1 := grownCap_ge w (runesL s).length 0 21
  have g2 := grownCap_ge (w.drew.alloc (runesObj w s)) (runesL t).length 0 21
  have e2 : (w.drew.alloc (runesObj w s)).heap.size = w.heap.size + 1 := by simp
  refine (order_walk s t (orderS s t) w _ _ _ _ _ _ _ _ (runes_conv w s hs) (runes_conv _ t ht) ?_).mono ?_
  · refine (slices_Compare_rune_rune.calls ((runesL s).length + 1) _ _ (runesL s) _ _ (runesL t) (orderS s t) _ ?_ g1 ?_ g2 (compareR_f _ _ (by omega))).mono ?_
    · refine ⟨rfl, by omega, fun _ => ⟨_, rfl, fun j p hp => ⟨[.int .i32 p], rfl, rfl, fun i u hu => ?_⟩⟩⟩
      obtain ⟨rfl, rfl⟩ : i = 0 ∧ u = .int .i32 p := by
        cases i with
        | zero => exact ⟨rfl, by simpa using hu.symm⟩
        | succ i => simp at hu
      exact runes_at1 w s _ j p hp
    · refine ⟨rfl, by omega, fun _ => ⟨_, rfl, fun j p hp => ⟨[.int .i32 p], rfl, rfl, fun i u hu => ?_⟩⟩⟩
      obtain ⟨rfl, rfl⟩ : i = 0 ∧ u = .int .i32 p := by
        cases i with
        | zero => exact ⟨rfl, by simpa using hu.symm⟩
        | succ i => simp at hu
      rw [e2]
      exact runes_at2 w _ t _ j p hp
    · rintro e w' ⟨rfl, n, rfl⟩
      exact ⟨rfl, n, rfl⟩
  · rintro e w' ⟨rfl, n, rfl⟩
    exact ⟨rfl, n + 2, #[runesObj w s, runesObj (w.drew.alloc (runesObj w s)) t], by rw [order_world]⟩
end Go.Proofs.YtpboednjlchnhaaDoor.Q
