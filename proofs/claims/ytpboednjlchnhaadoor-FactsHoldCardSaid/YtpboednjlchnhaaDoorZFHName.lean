import Derived.Test.YtpboednjlchnhaaDoorZFHRunes
import Derived.Lib.OthersKept
namespace Go.Proofs.YtpboednjlchnhaaDoor.Q
open Go.RowKit
set_option linter.unusedVariables false
set_option linter.unusedSimpArgs false

/-- may a character stand in a name, behind its first? -/
def inNameB (r : Int) : Bool := kindOf r == 1 || kindOf r == 2 || kindOf r == 5

set_option maxHeartbeats 1000000 in
set_option maxRecDepth 100000 in
theorem inName_calls (r : Int) (w : World) (hG : Glob w) :
    Calls Tryd.prog 63 #[.int .i32 r] w fun e w' => e = .returned (.bool (inNameB r)) ∧ Below w.heap.size w w' := by
  have HG := Lib.hid hG
  clear hG
  by_cases c1 : (kindOf r == 1) = true
  · have H := Lib.hid (show inNameB r = true by unfold inNameB; rw [c1]; rfl)
    go_enter Tryd.func63, Tryd.ntmps63
    go_wp2_with (go_at_call 62; refine (kind_calls _ _ HG.out).mono ?_; rintro e w1 ⟨rfl, hb⟩)
    go_ret
    exact ⟨by rw [H.out]; rfl, hb⟩
  · have c1' : (kindOf r == 1) = false := by simpa using c1
    clear c1
    by_cases c2 : (kindOf r == 2) = true
    · have H := Lib.hid (show inNameB r = true by unfold inNameB; rw [c1', c2]; rfl)
      go_enter Tryd.func63, Tryd.ntmps63
      go_wp2_with (go_at_call 62; refine (kind_calls _ _ HG.out).mono ?_; rintro e w1 ⟨rfl, hb⟩)
      go_ret
      exact ⟨by rw [H.out]; rfl, hb⟩
    · have c2' : (kindOf r == 2) = false := by simpa using c2
      clear c2
      by_cases c5 : (kindOf r == 5) = true
      · have H := Lib.hid (show inNameB r = true by unfold inNameB; rw [c1', c2', c5]; rfl)
        go_enter Tryd.func63, Tryd.ntmps63
        go_wp2_with (go_at_call 62; refine (kind_calls _ _ HG.out).mono ?_; rintro e w1 ⟨rfl, hb⟩)
        go_ret
        exact ⟨by rw [H.out]; rfl, hb⟩
      · have c5' : (kindOf r == 5) = false := by simpa using c5
        clear c5
        have H := Lib.hid (show inNameB r = false by unfold inNameB; rw [c1', c2', c5']; rfl)
        go_enter Tryd.func63, Tryd.ntmps63
        go_wp2_with (go_at_call 62; refine (kind_calls _ _ HG.out).mono ?_; rintro e w1 ⟨rfl, hb⟩)
        go_ret
        exact ⟨by rw [H.out]; rfl, hb⟩

/-- does a bad byte stand at a place, at which a range came by with r? -/
def badB (s : ByteArray) (pos : Nat) (r : Int) : Bool :=
  if r = 65533 then !(if 3 ≤ (s.extract pos s.size).size then ((s.extract pos s.size).extract 0 3).toList == (⟨#[239, 191, 189]⟩ : ByteArray).toList else false) else false

theorem bad_f (s : ByteArray) (pos : Nat) (r : Int) (h : pos < s.size) : runes_bad.f s (pos : Int) r = some (badB s pos r) := by
  unfold runes_bad.f badB
  by_cases c : r = 65533
  · rw [if_pos c, if_pos (by omega), if_pos (by omega), if_pos c]
    rw [show ((pos : Int)).toNat = pos from Int.toNat_natCast pos]
    unfold strings_HasPrefix.f stringslite_HasPrefix.f
    have e3 : (((⟨#[239, 191, 189]⟩ : ByteArray)).size : Int) = 3 := rfl
    rw [e3]
    by_cases d : 3 ≤ (s.extract pos s.size).size
    · rw [if_pos (by omega), if_pos (by omega), if_pos (by omega), if_pos d]; rfl
    · rw [if_neg (by omega), if_neg d]; rfl
  · rw [if_neg c, if_neg c]

/-- the characters from a place on, n of a name behind: may they end a name? -/
def nameFrom (s : ByteArray) : Nat → Nat → Nat → Bool
  | 0, _, n => decide (1 ≤ n ∧ n ≤ 16)
  | b + 1, pos, n =>
    if pos < s.size then
      if badB s pos (Utf8.decode s pos).1 || (((pos : Int) == 0) && kindOf (Utf8.decode s pos).1 != 1) || !inNameB (Utf8.decode s pos).1 then false
      else nameFrom s b (pos + (Utf8.decode s pos).2) (n + 1)
    else decide (1 ≤ n ∧ n ≤ 16)
/-- is s a name? -/
def nameB (s : ByteArray) : Bool := nameFrom s (s.size + 1) 0 0

theorem iter_below {w W : World} {s : ByteArray} {pos : Nat} (hb : Below w.heap.size w W) (hk : W.heap[w.heap.size]? = some (.stringIter s pos)) (pos' : Nat) : Below w.heap.size w (W.iterAt w.heap.size s pos') :=
  Lib.below_iterAt hb (Nat.le_refl _) s pos'
theorem iter_then {w W W' : World} {s : ByteArray} {pos : Nat} (hk : W.heap[w.heap.size]? = some (.stringIter s pos)) (hb : Below W.heap.size W W') : W'.heap[w.heap.size]? = some (.stringIter s pos) := by
  rw [hb.block _ (Array.getElem?_eq_some_iff.1 hk).1]; exact hk
theorem iter_drewN {w W : World} {s : ByteArray} {pos : Nat} (hk : W.heap[w.heap.size]? = some (.stringIter s pos)) (n : Nat) : (W.drewN n).heap[w.heap.size]? = some (.stringIter s pos) := hk
theorem below_then {a b c : World} (h1 : Below a.heap.size a b) (h2 : Below b.heap.size b c) : Below a.heap.size a c := h1.trans ⟨h2.os, h2.tape, h2.output, h2.size, fun k hk => h2.block k (Nat.lt_of_lt_of_le hk h1.size)⟩
theorem iterPos_of {w W : World} {s : ByteArray} {pos : Nat} (hk : W.heap[w.heap.size]? = some (.stringIter s pos)) : W.iterPos w.heap.size = pos := by unfold World.iterPos; rw [hk]
theorem below_tr {a b c : World} {n m : Nat} (h1 : Below n a b) (h2 : Below m b c) (h : n ≤ m) : Below n a c :=
  h1.trans ⟨h2.os, h2.tape, h2.output, h2.size, fun k hk => h2.block k (by omega)⟩


set_option maxHeartbeats 4000000 in
set_option maxRecDepth 100000 in
theorem name_calls (s : ByteArray) (w : World) (hs : s.size ≤ maxLen) (hG : Glob w) :
    Calls Tryd.prog 51 #[.string s] w fun e w' => e = .returned (.bool (nameB s)) ∧ Below w.heap.size w w' := by
  unfold maxLen at hs
  have HG := Lib.hid hG
  clear hG
  go_enter Tryd.func51, Tryd.ntmps51
  go_wp2
  go_loopw [3, 4, 5] (fun n _ _ wr => ∃ (pos b m : Nat), wr.heap[w.heap.size]? = some (.stringIter s pos) ∧ Below w.heap.size w wr ∧ n = .int .i64 m ∧ m ≤ pos ∧ nameFrom s b pos m = nameB s ∧ s.size < pos + b) (fun _ _ _ wr => s.size - wr.iterPos w.heap.size)
  case atStart => exact ⟨0, s.size + 1, 0, World.iter_heap _ _ _, (Below.refl _ _).alloc (Nat.le_refl _) _, rfl, by omega, rfl, by omega⟩
  case round =>
    obtain ⟨pos, b, m, hit, hb, rfl, hm, hc, hlt⟩ := hrel
    have HC := Lib.hid hc; clear hc
    have HI0 := Lib.hid hit
    have HB := Lib.hid hb; clear hb
    by_cases hp : pos < s.size
    · obtain ⟨b, rfl⟩ : ∃ b', b = b' + 1 := ⟨b - 1, by omega⟩
      have hnx : ∀ ty, (Instr.next (.pointer (some ⟨w.heap.size, 0, none⟩)) true ty).run Tryd.prog wr = _ := fun ty => Lib.run_next_any_at wr w.heap.size s pos ty hit hp
      have HIT := Lib.hid (Lib.iterAt_heap wr w.heap.size s pos (pos + (Utf8.decode s pos).2) hit)
      have HBI := Lib.hid (iter_below HB.out hit (pos + (Utf8.decode s pos).2))
      have HGI := Lib.hid (Glob.below HG.out HBI.out)
      have hwd := width_pos s pos hp
      have HBAD := Lib.hid (bad_f s pos ((Utf8.decode s pos).1 : Int) hp)
      by_cases cb : badB s pos ((Utf8.decode s pos).1 : Int) = true
      · have HN := Lib.hid (show nameB s = false by rw [← HC.out]; simp [nameFrom, hp, cb])
        clear hit
        go_wp2_with (go_at_call 61; refine (runes_bad.calls _ _ _ _ _ HBAD.out).mono ?_; rintro e w1 ⟨rfl, ⟨nd, rfl⟩⟩)
        go_ret
        exact ⟨by rw [HN.out]; rfl, (by have hb := HBI.out; repeat (first | exact hb | (refine below_dr ?_ _) | (refine below_then ?_ hb3) | (refine below_then ?_ hb2)))⟩
      · have cb' : badB s pos ((Utf8.decode s pos).1 : Int) = false := by simpa using cb
        clear cb
        by_cases ci : inNameB ((Utf8.decode s pos).1 : Int) = true
        · by_cases p0 : ((pos : Int) == 0) = true
          · by_cases k1 : (kindOf ((Utf8.decode s pos).1 : Int) != 1) = true
            · have HN := Lib.hid (show nameB s = false by rw [← HC.out]; simp only [nameFrom, hp, if_true, cb', p0, k1, Bool.and_self, Bool.true_or, Bool.false_or])
              clear hit
              go_wp2_with (first | (go_at_call 61; refine (runes_bad.calls _ _ _ _ _ HBAD.out).mono ?_; rintro e w1 ⟨rfl, ⟨nd, rfl⟩⟩) | (go_at_call 62; refine (kind_calls _ _ ?hgk).mono ?_; (case hgk => repeat (first | exact HGI.out | refine Glob.dr ?_ _)); rintro e w2 ⟨rfl, hb2⟩) | (go_at_call 63; refine (inName_calls _ _ ?hgi).mono ?_; (case hgi => repeat (first | exact HGI.out | refine Glob.dr ?_ _ | refine Glob.below ?_ hb2)); rintro e w3 ⟨rfl, hb3⟩))
              go_ret
              exact ⟨by rw [HN.out]; rfl, (by have hb := HBI.out; repeat (first | exact hb | (refine below_dr ?_ _) | (refine below_then ?_ hb3) | (refine below_then ?_ hb2)))⟩
            · have k1' : (kindOf ((Utf8.decode s pos).1 : Int) != 1) = false := by simpa using k1
              clear k1
              have HN := Lib.hid (show nameFrom s b (pos + (Utf8.decode s pos).2) (m + 1) = nameB s by rw [← HC.out]; simp only [nameFrom, hp, if_true, cb', p0, k1', ci, Bool.and_false, Bool.not_true, Bool.or_self]; rfl)
              clear hit
              go_wp2_with (first | (go_at_call 61; refine (runes_bad.calls _ _ _ _ _ HBAD.out).mono ?_; rintro e w1 ⟨rfl, ⟨nd, rfl⟩⟩) | (go_at_call 62; refine (kind_calls _ _ ?hgk).mono ?_; (case hgk => repeat (first | exact HGI.out | refine Glob.dr ?_ _)); rintro e w2 ⟨rfl, hb2⟩) | (go_at_call 63; refine (inName_calls _ _ ?hgi).mono ?_; (case hgi => repeat (first | exact HGI.out | refine Glob.dr ?_ _ | refine Glob.below ?_ hb2)); rintro e w3 ⟨rfl, hb3⟩))
              go_roundw
              case rel => exact ⟨pos + (Utf8.decode s pos).2, b, m + 1, by have hit := HIT.out; repeat (first | exact hit | (refine iter_drewN ?_ _) | (refine iter_then ?_ hb3) | (refine iter_then ?_ hb2)), (by have hb := HBI.out; repeat (first | exact hb | (refine below_dr ?_ _) | (refine below_then ?_ hb3) | (refine below_then ?_ hb2))), by go_num, by omega, HN.out, by omega⟩
              case measure =>
                have hi2 := (show w3.heap[w.heap.size]? = some (Obj.stringIter s (pos + (Utf8.decode s pos).2)) from (by have hit := HIT.out; repeat (first | exact hit | (refine iter_drewN ?_ _) | (refine iter_then ?_ hb3) | (refine iter_then ?_ hb2))))
                rw [iterPos_of hi2, iterPos_of HI0.out]
                omega
          · have p0' : ((pos : Int) == 0) = false := by simpa using p0
            clear p0
            have HN := Lib.hid (show nameFrom s b (pos + (Utf8.decode s pos).2) (m + 1) = nameB s by rw [← HC.out]; simp only [nameFrom, hp, if_true, cb', p0', ci, Bool.false_and, Bool.not_true, Bool.or_self]; rfl)
            clear hit
            go_wp2_with (first | (go_at_call 61; refine (runes_bad.calls _ _ _ _ _ HBAD.out).mono ?_; rintro e w1 ⟨rfl, ⟨nd, rfl⟩⟩) | (go_at_call 62; refine (kind_calls _ _ ?hgk).mono ?_; (case hgk => repeat (first | exact HGI.out | refine Glob.dr ?_ _)); rintro e w2 ⟨rfl, hb2⟩) | (go_at_call 63; refine (inName_calls _ _ ?hgi).mono ?_; (case hgi => repeat (first | exact HGI.out | refine Glob.dr ?_ _ | refine Glob.below ?_ hb2)); rintro e w3 ⟨rfl, hb3⟩))
            go_roundw
            case rel => exact ⟨pos + (Utf8.decode s pos).2, b, m + 1, by have hit := HIT.out; repeat (first | exact hit | (refine iter_drewN ?_ _) | (refine iter_then ?_ hb3) | (refine iter_then ?_ hb2)), (by have hb := HBI.out; repeat (first | exact hb | (refine below_dr ?_ _) | (refine below_then ?_ hb3) | (refine below_then ?_ hb2))), by go_num, by omega, HN.out, by omega⟩
            case measure =>
              have hi2 := (show w3.heap[w.heap.size]? = some (Obj.stringIter s (pos + (Utf8.decode s pos).2)) from (by have hit := HIT.out; repeat (first | exact hit | (refine iter_drewN ?_ _) | (refine iter_then ?_ hb3) | (refine iter_then ?_ hb2))))
              rw [iterPos_of hi2, iterPos_of HI0.out]
              omega

        · have ci' : inNameB ((Utf8.decode s pos).1 : Int) = false := by simpa using ci
          clear ci
          have HN := Lib.hid (show nameB s = false by rw [← HC.out]; simp only [nameFrom, hp, if_true, cb', ci', Bool.not_false, Bool.or_true])
          clear hit
          by_cases p0 : ((pos : Int) == 0) = true
          · by_cases k1 : (kindOf ((Utf8.decode s pos).1 : Int) != 1) = true
            · go_wp2_with (first | (go_at_call 61; refine (runes_bad.calls _ _ _ _ _ HBAD.out).mono ?_; rintro e w1 ⟨rfl, ⟨nd, rfl⟩⟩) | (go_at_call 62; refine (kind_calls _ _ ?hgk).mono ?_; (case hgk => repeat (first | exact HGI.out | refine Glob.dr ?_ _)); rintro e w2 ⟨rfl, hb2⟩) | (go_at_call 63; refine (inName_calls _ _ ?hgi).mono ?_; (case hgi => repeat (first | exact HGI.out | refine Glob.dr ?_ _ | refine Glob.below ?_ hb2)); rintro e w3 ⟨rfl, hb3⟩))
              go_ret
              exact ⟨by rw [HN.out]; rfl, (by have hb := HBI.out; repeat (first | exact hb | (refine below_dr ?_ _) | (refine below_then ?_ hb3) | (refine below_then ?_ hb2)))⟩
            · have k1' : (kindOf ((Utf8.decode s pos).1 : Int) != 1) = false := by simpa using k1
              clear k1
              go_wp2_with (first | (go_at_call 61; refine (runes_bad.calls _ _ _ _ _ HBAD.out).mono ?_; rintro e w1 ⟨rfl, ⟨nd, rfl⟩⟩) | (go_at_call 62; refine (kind_calls _ _ ?hgk).mono ?_; (case hgk => repeat (first | exact HGI.out | refine Glob.dr ?_ _)); rintro e w2 ⟨rfl, hb2⟩) | (go_at_call 63; refine (inName_calls _ _ ?hgi).mono ?_; (case hgi => repeat (first | exact HGI.out | refine Glob.dr ?_ _ | refine Glob.below ?_ hb2)); rintro e w3 ⟨rfl, hb3⟩))
              go_ret
              exact ⟨by rw [HN.out]; rfl, (by have hb := HBI.out; repeat (first | exact hb | (refine below_dr ?_ _) | (refine below_then ?_ hb3) | (refine below_then ?_ hb2)))⟩
          · have p0' : ((pos : Int) == 0) = false := by simpa using p0
            clear p0
            go_wp2_with (first | (go_at_call 61; refine (runes_bad.calls _ _ _ _ _ HBAD.out).mono ?_; rintro e w1 ⟨rfl, ⟨nd, rfl⟩⟩) | (go_at_call 62; refine (kind_calls _ _ ?hgk).mono ?_; (case hgk => repeat (first | exact HGI.out | refine Glob.dr ?_ _)); rintro e w2 ⟨rfl, hb2⟩) | (go_at_call 63; refine (inName_calls _ _ ?hgi).mono ?_; (case hgi => repeat (first | exact HGI.out | refine Glob.dr ?_ _ | refine Glob.below ?_ hb2)); rintro e w3 ⟨rfl, hb3⟩))
            go_ret
            exact ⟨by rw [HN.out]; rfl, (by have hb := HBI.out; repeat (first | exact hb | (refine below_dr ?_ _) | (refine below_then ?_ hb3) | (refine below_then ?_ hb2)))⟩
    · have hnx : ∀ ty, (Instr.next (.pointer (some ⟨w.heap.size, 0, none⟩)) true ty).run Tryd.prog wr = _ := fun ty => Lib.run_next_end_at wr w.heap.size s pos ty hit hp
      have hn : nameB s = decide (1 ≤ m ∧ m ≤ 16) := by rw [← HC.out]; cases b <;> simp [nameFrom, hp]
      have HN := Lib.hid hn; clear hn
      clear hit
      by_cases m1 : 1 ≤ m
      · by_cases m2 : m ≤ 16
        · have HM := Lib.hid (show nameB s = true by rw [HN.out, decide_eq_true ⟨m1, m2⟩])
          go_wp2
          go_ret
          exact ⟨by rw [HM.out]; show Ending.returned (.bool (decide ((m : Int) ≤ 16))) = _; rw [decide_eq_true (by omega)], HB.out⟩
        · have HM := Lib.hid (show nameB s = false by rw [HN.out, decide_eq_false (by omega)])
          have d2 : decide ((m : Int) ≤ 16) = false := by simp; omega
          go_wp2
          go_ret
          exact ⟨by rw [HM.out]; rfl, HB.out⟩
      · have HM := Lib.hid (show nameB s = false by rw [HN.out, decide_eq_false (by omega)])
        have d1 : decide (1 ≤ (m : Int)) = false := by simp; omega
        go_wp2
        go_ret
        exact ⟨by rw [HM.out]; rfl, HB.out⟩

/-- what the code of runes.Name computes -/
def runes_Name.f (a0 : ByteArray) : Option Bool := if a0.size ≤ 9223372036854775807 then some (nameB a0) else none
theorem runes_Name.calls (a0 : ByteArray) (r : Bool) (w : World) (hG : Glob w) (h : runes_Name.f a0 = some r) :
    Calls Tryd.prog 51 #[.string a0] w fun e w' => e = .returned (.bool r) ∧ Below w.heap.size w w' := by
  unfold runes_Name.f at h
  by_cases hs : a0.size ≤ 9223372036854775807
  · rw [if_pos hs] at h
    obtain rfl := Option.some.inj h
    exact name_calls a0 w (by unfold maxLen; omega) hG
  · rw [if_neg hs] at h
    cases h
end Go.Proofs.YtpboednjlchnhaaDoor.Q
