-- Written by wip/gen/myprint.py out of the translation. Not trusted: Lean checks it.
import Derived.Test.YtpboednjlchnhaaDoorZFPK
import Derived.Test.YtpboednjlchnhaaDoorZFPGlob
import Derived.Test.YtpboednjlchnhaaDoorZFPG1
import Derived.Test.YtpboednjlchnhaaDoorZFPG0
import Derived.Test.YtpboednjlchnhaaDoorZFPG1
import Derived.Test.YtpboednjlchnhaaDoorZFPG1
import Derived.Test.YtpboednjlchnhaaDoorZFPG0
import Derived.Test.YtpboednjlchnhaaDoorZFPG1
namespace Go.Proofs.YtpboednjlchnhaaDoor.Q
open Go.RowKit Go.Proofs.YtpboednjlchnhaaDoorW.PrintWords Go.Proofs.YtpboednjlchnhaaDoorW.PrintLast Go.Proofs.YtpboednjlchnhaaDoorW.PrintMore
attribute [local go_sem] max2_int min2_int max_two min_two max_three min_three max_four min_four
set_option linter.unusedVariables false
set_option linter.unusedSimpArgs false

attribute [local go_sem high] eqA31
/-! ### sorrellaw13_FactsParts: function 3 -/
mutual
def sorrellaw13_FactsParts.j0 : Nat → List (S29) → Bool → Option (Bool)
 | 0, _, _ => none
 | k + 1, x0, x25 => if x25 = true then ((sorrellaw13_awake.f k).bind fun t106 => (some t106)) else (if 0 ≤ (wrap64 ((x0.length : Int) - 1)) then (if (wrap64 ((x0.length : Int) - 1)) < (x0.length : Int) then ((sorrelref02_Copy.f k x0).bind fun t109 => ((facts_Of.f k t109).bind fun bt112 => (sorrellaw13_FactsParts.l0 k x0 true (((rd_T29 x0 (wrap64 ((x0.length : Int) - 1))).f0) != 2) ([] : List Int) 0 ((rd_T29 x0 (wrap64 ((x0.length : Int) - 1))).f0) ((rd_T29 x0 (wrap64 ((x0.length : Int) - 1))).f1) ((rd_T29 x0 (wrap64 ((x0.length : Int) - 1))).f2) ((rd_T29 x0 (wrap64 ((x0.length : Int) - 1))).f3) bt112.1 bt112.2.1 bt112.2.2.1 false false 0))) else (none)) else (none))
def sorrellaw13_FactsParts.l0 : Nat → List (S29) → Bool → Bool → List Int → Int → Int → Int → ByteArray → List Int → Bool → Bool → Int → Bool → Bool → Int → Option (Bool)
 | 0, _, _, _, _, _, _, _, _, _, _, _, _, _, _, _ => none
 | k + 1, x0, x6, x7, x8, x10, x109000, x109001, x109002, x109003, x117000, x117001, x117002, x118000, x118001, x118002 => if x10 < (x109003.length : Int) then ((sorrelref02_Copy.f k x0).bind fun t118 => (if 0 ≤ x10 then ((expr_Part.f k t118 (rd x109003 x10)).bind fun bt122 => ((facts_Of.f k bt122.1).bind fun bt126 => (if bt126.2.2.2 = 0 then (if x6 = true then (if x7 = true then (if x8.length < 17592186044416 then (sorrellaw13_FactsParts.l0 k x0 bt126.1 bt126.2.1 (x8 ++ [bt126.2.2.1]) (wrap64 (x10 + 1)) x109000 x109001 x109002 x109003 x117000 x117001 x117002 bt126.1 bt126.2.1 bt126.2.2.1) else (none)) else (if x8.length < 17592186044416 then (sorrellaw13_FactsParts.l0 k x0 bt126.1 false (x8 ++ [bt126.2.2.1]) (wrap64 (x10 + 1)) x109000 x109001 x109002 x109003 x117000 x117001 x117002 bt126.1 bt126.2.1 bt126.2.2.1) else (none))) else (if x7 = true then (if x8.length < 17592186044416 then (sorrellaw13_FactsParts.l0 k x0 false bt126.2.1 (x8 ++ [bt126.2.2.1]) (wrap64 (x10 + 1)) x109000 x109001 x109002 x109003 x117000 x117001 x117002 bt126.1 bt126.2.1 bt126.2.2.1) else (none)) else (if x8.length < 17592186044416 then (sorrellaw13_FactsParts.l0 k x0 false false (x8 ++ [bt126.2.2.1]) (wrap64 (x10 + 1)) x109000 x109001 x109002 x109003 x117000 x117001 x117002 bt126.1 bt126.2.1 bt126.2.2.1) else (none)))) else (some false)))) else (none))) else (if x109000 = 8 then (sorrellaw13_FactsParts.j2 k x6 x7 x8 true x109000 x109001 x109002 x109003 x117000 x117001 x117002 x118000 x118001 x118002) else (sorrellaw13_FactsParts.j2 k x6 x7 x8 (x109000 == 9) x109000 x109001 x109002 x109003 x117000 x117001 x117002 x118000 x118001 x118002))
def sorrellaw13_FactsParts.j2 : Nat → Bool → Bool → List Int → Bool → Int → Int → ByteArray → List Int → Bool → Bool → Int → Bool → Bool → Int → Option (Bool)
 | 0, _, _, _, _, _, _, _, _, _, _, _, _, _, _ => none
 | k + 1, x6, x7, x8, x90, x109000, x109001, x109002, x109003, x117000, x117001, x117002, x118000, x118001, x118002 => if x90 = true then (if x6 = true then (if x118001 = true then (sorrellaw13_FactsParts.j3 k (x118002 != 0) x7 x8 x109000 x109001 x109002 x109003 x117000 x117001 x117002) else (sorrellaw13_FactsParts.j3 k false x7 x8 x109000 x109001 x109002 x109003 x117000 x117001 x117002)) else (sorrellaw13_FactsParts.j3 k false x7 x8 x109000 x109001 x109002 x109003 x117000 x117001 x117002)) else (sorrellaw13_FactsParts.j3 k x6 x7 x8 x109000 x109001 x109002 x109003 x117000 x117001 x117002)
def sorrellaw13_FactsParts.j3 : Nat → Bool → Bool → List Int → Int → Int → ByteArray → List Int → Bool → Bool → Int → Option (Bool)
 | 0, _, _, _, _, _, _, _, _, _, _ => none
 | k + 1, x6, x7, x8, x109000, x109001, x109002, x109003, x117000, x117001, x117002 => if x109000 = 1 then (some (x117000 && (x117001 && (x117002 == x109001)))) else (if x7 = true then ((arith_Apply.f k x109000 x8).bind fun bt144 => (some (x117000 == x6 && (x117001 == (bt144.2 == 0) && (x117002 == bt144.1))))) else (some (x117000 == x6 && (!x117001 && (x117002 == 0)))))
end
def sorrellaw13_FactsParts.f (k : Nat) (l0 : List (S29)) : Option (Bool) := (sorrellaw13_awake.f k).bind fun t101 => (if t101 = true then ((sorrelref02_Copy.f k l0).bind fun t102 => ((expr_Check.f k t102).bind fun t105 => (sorrellaw13_FactsParts.j0 k l0 (t105 != 0)))) else (sorrellaw13_FactsParts.j0 k l0 true))
theorem sorrellaw13_FactsParts.mono_l : ∀ k, (∀ y0 y1, LeO (sorrellaw13_FactsParts.j0 k y0 y1) (sorrellaw13_FactsParts.j0 (k + 1) y0 y1)) ∧ (∀ y0 y1 y2 y3 y4 y5 y6 y7 y8 y9 y10 y11 y12 y13 y14, LeO (sorrellaw13_FactsParts.l0 k y0 y1 y2 y3 y4 y5 y6 y7 y8 y9 y10 y11 y12 y13 y14) (sorrellaw13_FactsParts.l0 (k + 1) y0 y1 y2 y3 y4 y5 y6 y7 y8 y9 y10 y11 y12 y13 y14)) ∧ (∀ y0 y1 y2 y3 y4 y5 y6 y7 y8 y9 y10 y11 y12 y13, LeO (sorrellaw13_FactsParts.j2 k y0 y1 y2 y3 y4 y5 y6 y7 y8 y9 y10 y11 y12 y13) (sorrellaw13_FactsParts.j2 (k + 1) y0 y1 y2 y3 y4 y5 y6 y7 y8 y9 y10 y11 y12 y13)) ∧ (∀ y0 y1 y2 y3 y4 y5 y6 y7 y8 y9, LeO (sorrellaw13_FactsParts.j3 k y0 y1 y2 y3 y4 y5 y6 y7 y8 y9) (sorrellaw13_FactsParts.j3 (k + 1) y0 y1 y2 y3 y4 y5 y6 y7 y8 y9))
 | 0 => ⟨fun _ _ r h => by simp [sorrellaw13_FactsParts.j0] at h, fun _ _ _ _ _ _ _ _ _ _ _ _ _ _ _ r h => by simp [sorrellaw13_FactsParts.l0] at h, fun _ _ _ _ _ _ _ _ _ _ _ _ _ _ r h => by simp [sorrellaw13_FactsParts.j2] at h, fun _ _ _ _ _ _ _ _ _ _ r h => by simp [sorrellaw13_FactsParts.j3] at h⟩
 | k + 1 => by
  obtain ⟨ih0, ih1, ih2, ih3⟩ := sorrellaw13_FactsParts.mono_l k
  refine ⟨?_, ?_, ?_, ?_⟩
  ·intro y0 y1
   unfold sorrellaw13_FactsParts.j0
   repeat' first
   | (with_reducible exact ih0 _ _)
   | (with_reducible exact ih1 _ _ _ _ _ _ _ _ _ _ _ _ _ _ _)
   | (with_reducible exact ih2 _ _ _ _ _ _ _ _ _ _ _ _ _ _)
   | (with_reducible exact ih3 _ _ _ _ _ _ _ _ _ _)
   | (with_reducible exact arith_Apply.mono _ _ _)
   | (with_reducible exact expr_Check.mono _ _)
   | (with_reducible exact expr_Part.mono _ _ _)
   | (with_reducible exact facts_Of.mono _ _)
   | (with_reducible exact sorrellaw13_awake.mono _)
   | (with_reducible exact sorrelref02_Copy.mono _ _)
   | (with_reducible exact LeO.refl _)
   | (with_reducible exact LeO.none _)
   | (with_reducible refine LeO.ite ?_ ?_)
   | (with_reducible refine LeO.bind ?_ (fun _ => ?_))
   | exact ih0 _ _
   | exact ih1 _ _ _ _ _ _ _ _ _ _ _ _ _ _ _
   | exact ih2 _ _ _ _ _ _ _ _ _ _ _ _ _ _
   | exact ih3 _ _ _ _ _ _ _ _ _ _
   | exact arith_Apply.mono _ _ _
   | exact expr_Check.mono _ _
   | exact expr_Part.mono _ _ _
   | exact facts_Of.mono _ _
   | exact sorrellaw13_awake.mono _
   | exact sorrelref02_Copy.mono _ _
   | exact LeO.none _
   | refine LeO.ite ?_ ?_
   | refine LeO.bind ?_ (fun _ => ?_)
  ·intro y0 y1 y2 y3 y4 y5 y6 y7 y8 y9 y10 y11 y12 y13 y14
   unfold sorrellaw13_FactsParts.l0
   repeat' first
   | (with_reducible exact ih0 _ _)
   | (with_reducible exact ih1 _ _ _ _ _ _ _ _ _ _ _ _ _ _ _)
   | (with_reducible exact ih2 _ _ _ _ _ _ _ _ _ _ _ _ _ _)
   | (with_reducible exact ih3 _ _ _ _ _ _ _ _ _ _)
   | (with_reducible exact arith_Apply.mono _ _ _)
   | (with_reducible exact expr_Check.mono _ _)
   | (with_reducible exact expr_Part.mono _ _ _)
   | (with_reducible exact facts_Of.mono _ _)
   | (with_reducible exact sorrellaw13_awake.mono _)
   | (with_reducible exact sorrelref02_Copy.mono _ _)
   | (with_reducible exact LeO.refl _)
   | (with_reducible exact LeO.none _)
   | (with_reducible refine LeO.ite ?_ ?_)
   | (with_reducible refine LeO.bind ?_ (fun _ => ?_))
   | exact ih0 _ _
   | exact ih1 _ _ _ _ _ _ _ _ _ _ _ _ _ _ _
   | exact ih2 _ _ _ _ _ _ _ _ _ _ _ _ _ _
   | exact ih3 _ _ _ _ _ _ _ _ _ _
   | exact arith_Apply.mono _ _ _
   | exact expr_Check.mono _ _
   | exact expr_Part.mono _ _ _
   | exact facts_Of.mono _ _
   | exact sorrellaw13_awake.mono _
   | exact sorrelref02_Copy.mono _ _
   | exact LeO.none _
   | refine LeO.ite ?_ ?_
   | refine LeO.bind ?_ (fun _ => ?_)
  ·intro y0 y1 y2 y3 y4 y5 y6 y7 y8 y9 y10 y11 y12 y13
   unfold sorrellaw13_FactsParts.j2
   repeat' first
   | (with_reducible exact ih0 _ _)
   | (with_reducible exact ih1 _ _ _ _ _ _ _ _ _ _ _ _ _ _ _)
   | (with_reducible exact ih2 _ _ _ _ _ _ _ _ _ _ _ _ _ _)
   | (with_reducible exact ih3 _ _ _ _ _ _ _ _ _ _)
   | (with_reducible exact arith_Apply.mono _ _ _)
   | (with_reducible exact expr_Check.mono _ _)
   | (with_reducible exact expr_Part.mono _ _ _)
   | (with_reducible exact facts_Of.mono _ _)
   | (with_reducible exact sorrellaw13_awake.mono _)
   | (with_reducible exact sorrelref02_Copy.mono _ _)
   | (with_reducible exact LeO.refl _)
   | (with_reducible exact LeO.none _)
   | (with_reducible refine LeO.ite ?_ ?_)
   | (with_reducible refine LeO.bind ?_ (fun _ => ?_))
   | exact ih0 _ _
   | exact ih1 _ _ _ _ _ _ _ _ _ _ _ _ _ _ _
   | exact ih2 _ _ _ _ _ _ _ _ _ _ _ _ _ _
   | exact ih3 _ _ _ _ _ _ _ _ _ _
   | exact arith_Apply.mono _ _ _
   | exact expr_Check.mono _ _
   | exact expr_Part.mono _ _ _
   | exact facts_Of.mono _ _
   | exact sorrellaw13_awake.mono _
   | exact sorrelref02_Copy.mono _ _
   | exact LeO.none _
   | refine LeO.ite ?_ ?_
   | refine LeO.bind ?_ (fun _ => ?_)
  ·intro y0 y1 y2 y3 y4 y5 y6 y7 y8 y9
   unfold sorrellaw13_FactsParts.j3
   repeat' first
   | (with_reducible exact ih0 _ _)
   | (with_reducible exact ih1 _ _ _ _ _ _ _ _ _ _ _ _ _ _ _)
   | (with_reducible exact ih2 _ _ _ _ _ _ _ _ _ _ _ _ _ _)
   | (with_reducible exact ih3 _ _ _ _ _ _ _ _ _ _)
   | (with_reducible exact arith_Apply.mono _ _ _)
   | (with_reducible exact expr_Check.mono _ _)
   | (with_reducible exact expr_Part.mono _ _ _)
   | (with_reducible exact facts_Of.mono _ _)
   | (with_reducible exact sorrellaw13_awake.mono _)
   | (with_reducible exact sorrelref02_Copy.mono _ _)
   | (with_reducible exact LeO.refl _)
   | (with_reducible exact LeO.none _)
   | (with_reducible refine LeO.ite ?_ ?_)
   | (with_reducible refine LeO.bind ?_ (fun _ => ?_))
   | exact ih0 _ _
   | exact ih1 _ _ _ _ _ _ _ _ _ _ _ _ _ _ _
   | exact ih2 _ _ _ _ _ _ _ _ _ _ _ _ _ _
   | exact ih3 _ _ _ _ _ _ _ _ _ _
   | exact arith_Apply.mono _ _ _
   | exact expr_Check.mono _ _
   | exact expr_Part.mono _ _ _
   | exact facts_Of.mono _ _
   | exact sorrellaw13_awake.mono _
   | exact sorrelref02_Copy.mono _ _
   | exact LeO.none _
   | refine LeO.ite ?_ ?_
   | refine LeO.bind ?_ (fun _ => ?_)
theorem sorrellaw13_FactsParts.mono : ∀ a0 k, LeO (sorrellaw13_FactsParts.f k a0) (sorrellaw13_FactsParts.f (k + 1) a0) := by
 intro a0 k
 obtain ⟨ih0, ih1, ih2, ih3⟩ := sorrellaw13_FactsParts.mono_l k
 unfold sorrellaw13_FactsParts.f
 repeat' first
   | (with_reducible exact ih0 _ _)
   | (with_reducible exact ih1 _ _ _ _ _ _ _ _ _ _ _ _ _ _ _)
   | (with_reducible exact ih2 _ _ _ _ _ _ _ _ _ _ _ _ _ _)
   | (with_reducible exact ih3 _ _ _ _ _ _ _ _ _ _)
   | (with_reducible exact arith_Apply.mono _ _ _)
   | (with_reducible exact expr_Check.mono _ _)
   | (with_reducible exact expr_Part.mono _ _ _)
   | (with_reducible exact facts_Of.mono _ _)
   | (with_reducible exact sorrellaw13_awake.mono _)
   | (with_reducible exact sorrelref02_Copy.mono _ _)
   | (with_reducible exact LeO.refl _)
   | (with_reducible exact LeO.none _)
   | (with_reducible refine LeO.ite ?_ ?_)
   | (with_reducible refine LeO.bind ?_ (fun _ => ?_))
   | exact ih0 _ _
   | exact ih1 _ _ _ _ _ _ _ _ _ _ _ _ _ _ _
   | exact ih2 _ _ _ _ _ _ _ _ _ _ _ _ _ _
   | exact ih3 _ _ _ _ _ _ _ _ _ _
   | exact arith_Apply.mono _ _ _
   | exact expr_Check.mono _ _
   | exact expr_Part.mono _ _ _
   | exact facts_Of.mono _ _
   | exact sorrellaw13_awake.mono _
   | exact sorrelref02_Copy.mono _ _
   | exact LeO.none _
   | refine LeO.ite ?_ ?_
   | refine LeO.bind ?_ (fun _ => ?_)
def sorrellaw13_FactsParts.T12 : Bool × List (List Nat × List Nat) := (true, [([], []), ([0], [0]), ([], []), ([2], [2]), ([], []), ([3, 4], [3, 4]), ([5], [5]), ([1, 6, 1], [1, 6]), ([7], [7]), ([8], [8]), ([8], [8]), ([9, 7, 0, 1, 2, 3, 4, 5, 6, 7, 8, 9], [9]), ([10, 11, 0, 1, 2, 3, 4, 5, 6, 7, 8, 9, 10, 11], [10])])
def sorrellaw13_FactsParts.B12 : List Nat := [0, 1, 0, 4, 0, 28, 60, 127, 255, 511, 511, 1023, 4095]
theorem sorrellaw13_FactsParts.tab12 : rtab .any (opsOf Tryd.f3 12) = sorrellaw13_FactsParts.T12 := by kernel_rfl
theorem sorrellaw13_FactsParts.bits12 : waitsOk sorrellaw13_FactsParts.T12.2 sorrellaw13_FactsParts.B12 = true := by kernel_rfl
set_option maxHeartbeats 8000000 in
set_option maxRecDepth 100000 in
theorem sorrellaw13_FactsParts.calls (k : Nat) (A0 : Option Addr) (c0 : Nat) (l0 : List (S29)) (r : Bool) (w : World) (hr0 : Kd.C k29 w A0 l0.length l0) (hc0 : l0.length ≤ c0) (hG : Glob w) (h : sorrellaw13_FactsParts.f k l0 = some r) :
  Calls Tryd.prog 3 #[.slice A0 l0.length c0] w fun e w' => e = .returned (.bool r) ∧ Below w.heap.size w w' := by
 have hu29 := Tryd.underlying29
 have hu31 := Tryd.underlying31
 have HR0 := Aside0.mk hr0
 have HC0 := Aside0.mk hc0
 clear hr0 hc0
 have HG := Aside0.mk hG
 clear hG
 have HB := Aside0.mk (Below.refl w.heap.size w)
 have H : ((sorrellaw13_awake.f k).bind fun t101 => (if t101 = true then ((sorrelref02_Copy.f k l0).bind fun t102 => ((expr_Check.f k t102).bind fun t105 => (sorrellaw13_FactsParts.j0 k l0 (t105 != 0)))) else (sorrellaw13_FactsParts.j0 k l0 true))) = some r := h
 clear h
 have HC2 := Aside0.mk H
 clear H
 go_enter Tryd.func3, Tryd.ntmps3
 go_upto_region 1 with (fail)
 go_cut [25] (fun v25 wc => ∃ (kq : Nat) (x25_1 : Bool), v25 = .bool x25_1 ∧ Aside0 (sorrellaw13_FactsParts.j0 kq l0 x25_1 = some r) ∧ Aside0 (kq ≤ k) ∧ Aside0 (Below w.heap.size w wc))
 case first =>
  have H := HC2.out
  clear HC2
  replace H := Option.bind_eq_some_iff.mp H
  obtain ⟨t101, A30, H⟩ := H
  replace H : (if t101 = true then ((sorrelref02_Copy.f k l0).bind fun t102 => ((expr_Check.f k t102).bind fun t105 => (sorrellaw13_FactsParts.j0 k l0 (t105 != 0)))) else (sorrellaw13_FactsParts.j0 k l0 true)) = some r := H
  have A3 := Aside0.mk A30
  clear A30
  by_cases c4 : t101 = true
  ·subst c4
   have H1 : ((sorrelref02_Copy.f k l0).bind fun t102 => ((expr_Check.f k t102).bind fun t105 => (sorrellaw13_FactsParts.j0 k l0 (t105 != 0)))) = some r := by rw [if_pos rfl] at H; exact H
   clear H
   have H := H1
   clear H1
   replace H := Option.bind_eq_some_iff.mp H
   obtain ⟨t102, A50, H⟩ := H
   replace H : ((expr_Check.f k t102).bind fun t105 => (sorrellaw13_FactsParts.j0 k l0 (t105 != 0))) = some r := H
   have A5 := Aside0.mk A50
   clear A50
   replace H := Option.bind_eq_some_iff.mp H
   obtain ⟨t105, A60, H⟩ := H
   replace H : (sorrellaw13_FactsParts.j0 k l0 (t105 != 0)) = some r := H
   have A6 := Aside0.mk A60
   clear A60
   have H' := Aside0.mk H
   clear H
   go_wp2_with (first | ((with_reducible refine gate_callee (f := 6) rfl ?_); refine goesL_ (some 18) rfl rfl Tryd.func6 (by kernel_rfl) rfl #[] rfl (by (try simp only [List.map_toArray, List.map_cons, List.map_nil]); first | done | rfl | (simp only [List.length_drop, List.length_take]; rfl)) ?_; (with_reducible refine (sorrellaw13_awake.calls k  true _ ?side1 A3.out).mono ?_); (case side1 => first | exact HG.out | exact Glob.below HG.out (by repeat (first | (with_reducible first | exact HB.out | apply below_alloc | apply pw_below_drewN | apply below_drew1) | exact HB.out)) | (repeat (first | exact HG.out | refine Glob.dr ?_ _))); rintro e w7 ⟨rfl, hb⟩; refine ⟨_, rfl, ?_⟩; have n0_ := Aside0.mk (below_step (by repeat (first | (with_reducible first | exact HB.out | apply below_alloc | apply pw_below_drewN | apply below_drew1) | exact HB.out)) hb); clear HB; have HB := n0_; clear n0_; (try clear hb); (try clear hb2); (try clear hk); (try clear hi)) | (go_at_call 8; (with_reducible refine (sorrelref02_Copy.calls k _ _ l0 t102 _ ?side1 ?side2 A5.out).mono ?_); (case side1 => repeat (first | exact (Kd.C_below HR0.out HB.out) | (with_reducible refine Kd.C_alloc ?_ _) | (with_reducible refine Kd.C_drewN ?_ _) | (with_reducible refine Kd.C_drew ?_))); (case side2 => exact HC0.out); rintro e w8 ⟨v103, rfl, ho0, hb⟩; have n0_ := Aside0.mk (Kd.S_lower ho0 (below_size (by repeat (first | (with_reducible first | exact HB.out | apply below_alloc | apply pw_below_drewN | apply below_drew1) | exact HB.out)))); have n1_ := Aside0.mk (below_step (by repeat (first | (with_reducible first | exact HB.out | apply below_alloc | apply pw_below_drewN | apply below_drew1) | exact HB.out)) hb); clear HB; have HO104 := n0_; have HB := n1_; clear n0_ n1_; (try clear hb); (try clear hb2); (try clear hk); (try clear hi); (try clear ho0); obtain ⟨Ao9, co9, eo9⟩ := Kd.S_slice HO104.out; subst eo9) | (go_at_call 7; (with_reducible refine (expr_Check.calls k _ _ t102 t105 _ ?side1 ?side2 ?side3 A6.out).mono ?_); (case side1 => repeat (first | exact (Kd.S_reads' HO104.out).2.2 | (with_reducible refine Kd.C_alloc ?_ _) | (with_reducible refine Kd.C_drewN ?_ _) | (with_reducible refine Kd.C_drew ?_))); (case side2 => exact (Kd.S_reads' HO104.out).2.1); (case side3 => first | exact HG.out | exact Glob.below HG.out (by repeat (first | (with_reducible first | exact HB.out | apply below_alloc | apply pw_below_drewN | apply below_drew1) | exact HB.out)) | (repeat (first | exact HG.out | refine Glob.dr ?_ _))); rintro e w10 ⟨rfl, hb⟩; have n0_ := Aside0.mk (Kd.S_below (by (with_reducible repeat (first | apply Kd.S_alloc | apply Kd.S_drewN | apply Kd.S_drew)); exact HO104.out) hb); have n1_ := Aside0.mk (below_step (by repeat (first | (with_reducible first | exact HB.out | apply below_alloc | apply pw_below_drewN | apply below_drew1) | exact HB.out)) hb); clear HO104; clear HB; have HO104 := n0_; have HB := n1_; clear n0_ n1_; (try clear hb); (try clear hb2); (try clear hk); (try clear hi)))
   go_meet
   case rel => exact ⟨_, ((t105 != 0)), (by first | rfl | (simp; done) | (simp [*]; done)), H', ⟨by first | omega | exact Nat.le_refl _⟩, ⟨by repeat (first | (with_reducible first | exact HB.out | apply below_alloc | apply pw_below_drewN | apply below_drew1) | exact HB.out)⟩⟩
  ·replace c4 := Bool.eq_false_iff.mpr c4
   subst c4
   have H1 : (sorrellaw13_FactsParts.j0 k l0 true) = some r := by rw [if_neg (show ¬ (false = true) by decide)] at H; exact H
   clear H
   have H := H1
   clear H1
   have H' := Aside0.mk H
   clear H
   go_wp2_with (first | ((with_reducible refine gate_callee (f := 6) rfl ?_); refine goesL_ (some 18) rfl rfl Tryd.func6 (by kernel_rfl) rfl #[] rfl (by (try simp only [List.map_toArray, List.map_cons, List.map_nil]); first | done | rfl | (simp only [List.length_drop, List.length_take]; rfl)) ?_; (with_reducible refine (sorrellaw13_awake.calls k  false _ ?side1 A3.out).mono ?_); (case side1 => first | exact HG.out | exact Glob.below HG.out (by repeat (first | (with_reducible first | exact HB.out | apply below_alloc | apply pw_below_drewN | apply below_drew1) | exact HB.out)) | (repeat (first | exact HG.out | refine Glob.dr ?_ _))); rintro e w11 ⟨rfl, hb⟩; refine ⟨_, rfl, ?_⟩; have n0_ := Aside0.mk (below_step (by repeat (first | (with_reducible first | exact HB.out | apply below_alloc | apply pw_below_drewN | apply below_drew1) | exact HB.out)) hb); clear HB; have HB := n0_; clear n0_; (try clear hb); (try clear hb2); (try clear hk); (try clear hi)))
   go_meet
   case rel => exact ⟨_, (true), (by first | rfl | (simp; done) | (simp [*]; done)), H', ⟨by first | omega | exact Nat.le_refl _⟩, ⟨by repeat (first | (with_reducible first | exact HB.out | apply below_alloc | apply pw_below_drewN | apply below_drew1) | exact HB.out)⟩⟩
 case rest =>
  clear HC2
  try clear p2
  try clear c3
  try clear c4
  try clear c6
  obtain ⟨kq, x25_1, rfl, HA, HJ1, HB⟩ := hcut
  cases kq with
  | zero => exact absurd HA.out (by simp [sorrellaw13_FactsParts.j0])
  | succ kj1 =>
   have H := HA.out
   clear HA
   simp only [sorrellaw13_FactsParts.j0] at H
   by_cases c12 : x25_1 = true
   ·subst c12
    have H1 : ((sorrellaw13_awake.f kj1).bind fun t106 => (some t106)) = some r := by rw [if_pos rfl] at H; exact H
    clear H
    have H := H1
    clear H1
    replace H := Option.bind_eq_some_iff.mp H
    obtain ⟨t106, A130, H⟩ := H
    replace H : (some t106) = some r := H
    have A13 := Aside0.mk A130
    clear A130
    obtain rfl := Option.some.inj H
    go_wp2_with (first | ((with_reducible refine gate_callee (f := 6) rfl ?_); refine goesL_ (some 26) rfl rfl Tryd.func6 (by kernel_rfl) rfl #[] rfl (by (try simp only [List.map_toArray, List.map_cons, List.map_nil]); first | done | rfl | (simp only [List.length_drop, List.length_take]; rfl)) ?_; (with_reducible refine (sorrellaw13_awake.calls kj1  t106 _ ?side1 A13.out).mono ?_); (case side1 => first | exact HG.out | exact Glob.below HG.out (by repeat (first | (with_reducible first | exact HB.out | apply below_alloc | apply pw_below_drewN | apply below_drew1) | exact HB.out)) | (repeat (first | exact HG.out | refine Glob.dr ?_ _))); rintro e w14 ⟨rfl, hb⟩; refine ⟨_, rfl, ?_⟩; have n0_ := Aside0.mk (below_step (by repeat (first | (with_reducible first | exact HB.out | apply below_alloc | apply pw_below_drewN | apply below_drew1) | exact HB.out)) hb); clear HB; have HB := n0_; clear n0_; (try clear hb); (try clear hb2); (try clear hk); (try clear hi)))
    go_ret
    exact ⟨by first | rfl | (simp [errW_none, errW_some] <;> rfl) | (simp [*, errW_none, errW_some] <;> rfl), by repeat (first | (with_reducible first | exact HB.out | apply below_alloc | apply pw_below_drewN | apply below_drew1) | exact HB.out)⟩
   ·replace c12 := Bool.eq_false_iff.mpr c12
    subst c12
    have H1 : (if 0 ≤ (wrap64 ((l0.length : Int) - 1)) then (if (wrap64 ((l0.length : Int) - 1)) < (l0.length : Int) then ((sorrelref02_Copy.f kj1 l0).bind fun t109 => ((facts_Of.f kj1 t109).bind fun bt112 => (sorrellaw13_FactsParts.l0 kj1 l0 true (((rd_T29 l0 (wrap64 ((l0.length : Int) - 1))).f0) != 2) ([] : List Int) 0 ((rd_T29 l0 (wrap64 ((l0.length : Int) - 1))).f0) ((rd_T29 l0 (wrap64 ((l0.length : Int) - 1))).f1) ((rd_T29 l0 (wrap64 ((l0.length : Int) - 1))).f2) ((rd_T29 l0 (wrap64 ((l0.length : Int) - 1))).f3) bt112.1 bt112.2.1 bt112.2.2.1 false false 0))) else (none)) else (none)) = some r := by rw [if_neg (show ¬ (false = true) by decide)] at H; exact H
    clear H
    have H := H1
    clear H1
    obtain ⟨ji15, hji15⟩ : ∃ j_ : Int, (wrap64 ((l0.length : Int) - 1)) = j_ := ⟨_, rfl⟩
    replace H : (if 0 ≤ (ji15) then (if (ji15) < (l0.length : Int) then ((sorrelref02_Copy.f kj1 l0).bind fun t109 => ((facts_Of.f kj1 t109).bind fun bt112 => (sorrellaw13_FactsParts.l0 kj1 l0 true (((rd_T29 l0 (ji15)).f0) != 2) ([] : List Int) 0 ((rd_T29 l0 (ji15)).f0) ((rd_T29 l0 (ji15)).f1) ((rd_T29 l0 (ji15)).f2) ((rd_T29 l0 (ji15)).f3) bt112.1 bt112.2.1 bt112.2.2.1 false false 0))) else (none)) else (none)) = some r := by first | (rw [hji15] at H; exact H) | (simp only [hji15] at H ⊢; exact H)
    have hji15w : (IntKind.i64.wrap ((l0.length : Int) - 1)) = ji15 := (i64_w _).trans hji15
    by_cases c16 : 0 ≤ (ji15)
    ·rw [if_pos c16] at H
     have c16b0 : decide (0 ≤ (ji15)) = true := decide_eq_true c16
     clear c16
     by_cases c17 : (ji15) < (l0.length : Int)
     ·rw [if_pos c17] at H
      have c17b0 : decide ((ji15) < (l0.length : Int)) = true := decide_eq_true c17
      clear c17
      replace H := Option.bind_eq_some_iff.mp H
      obtain ⟨t109, A180, H⟩ := H
      replace H : ((facts_Of.f kj1 t109).bind fun bt112 => (sorrellaw13_FactsParts.l0 kj1 l0 true (((rd_T29 l0 (ji15)).f0) != 2) ([] : List Int) 0 ((rd_T29 l0 (ji15)).f0) ((rd_T29 l0 (ji15)).f1) ((rd_T29 l0 (ji15)).f2) ((rd_T29 l0 (ji15)).f3) bt112.1 bt112.2.1 bt112.2.2.1 false false 0)) = some r := H
      have A18 := Aside0.mk A180
      clear A180
      replace H := Option.bind_eq_some_iff.mp H
      obtain ⟨⟨t112, t113, t114, t115⟩, A190, H⟩ := H
      replace H : (sorrellaw13_FactsParts.l0 kj1 l0 true (((rd_T29 l0 (ji15)).f0) != 2) ([] : List Int) 0 ((rd_T29 l0 (ji15)).f0) ((rd_T29 l0 (ji15)).f1) ((rd_T29 l0 (ji15)).f2) ((rd_T29 l0 (ji15)).f3) t112 t113 t114 false false 0) = some r := H
      have A19 := Aside0.mk A190
      clear A190
      have H' := Aside0.mk H
      clear H
      have p107 : 0 ≤ ((ji15) : Int) := of_decide_eq_true (by first | (with_reducible assumption) | assumption)
      have q107 : (ji15) < (l0.length : Int) := of_decide_eq_true (by first | (with_reducible assumption) | assumption)
      obtain ⟨ad107, A107_3, c107_3, e107, hx107_0, hx107_1, hx107_2, hx107_3, hl107_3, hi107_3⟩ := at_T29 HR0.out (ji15) p107 q107
      cases e107
      replace hx107_0 := (HB.out.cell (World.block_lt_of_cell? w _ hx107_0)).trans hx107_0
      replace hx107_1 := (HB.out.cell (World.block_lt_of_cell? w _ hx107_1)).trans hx107_1
      replace hx107_2 := (HB.out.cell (World.block_lt_of_cell? w _ hx107_2)).trans hx107_2
      replace hx107_3 := (HB.out.cell (World.block_lt_of_cell? w _ hx107_3)).trans hx107_3
      have HR107_3 := Aside0.mk hi107_3
      have HC107_3 := Aside0.mk hl107_3
      clear hi107_3 hl107_3
      replace p107 := eq_true p107
      replace q107 := eq_true q107
      go_wp2_with (first | ((with_reducible refine gate_dst (N := 3) rfl ?_); refine box_event ?hg (N := 3) ?hd (cs := #[.int .i64 0, .int .i64 0, .string (⟨#[]⟩ : ByteArray), .slice none 0 0]) (t := 29) ?hr ?_; (case hd => rfl); (case hg => rfl); (case hr => first | (go_simp; done) | (go_simp; rfl)); intro gb108 hg w20 hbox hb; have n0_ := Aside0.mk (below_step (by repeat (first | (with_reducible first | exact HB.out | apply below_alloc | apply pw_below_drewN | apply below_drew1) | exact HB.out)) hb); have n1_ := Aside0.mk (hbox); have n2_ := Aside0.mk ((by rw [hg]; exact (below_size (by repeat (first | (with_reducible first | exact HB.out | apply below_alloc | apply pw_below_drewN | apply below_drew1) | exact HB.out))) : w.heap.size ≤ gb108)); have n3_ := Aside0.mk ((by rw [hg]; exact (below_size (by repeat (first | (with_reducible first | exact HB.out | apply below_alloc | apply pw_below_drewN | apply below_drew1) | exact HB.out))) : w.heap.size ≤ gb108)); clear HB; have HB := n0_; have BK108 := n1_; have GW108 := n2_; have GE108 := n3_; clear n0_ n1_ n2_ n3_; clear hb hbox hg; have hcz21_0 : w20.cell? ⟨gb108, 0, none⟩ = some (.int .i64 0) := (blk_cell BK108.out 0).trans rfl; have hcz21_1 : w20.cell? ⟨gb108, 1, none⟩ = some (.int .i64 0) := (blk_cell BK108.out 1).trans rfl; have hcz21_2 : w20.cell? ⟨gb108, 2, none⟩ = some (.string (⟨#[]⟩ : ByteArray)) := (blk_cell BK108.out 2).trans rfl; have hcz21_3 : w20.cell? ⟨gb108, 3, none⟩ = some (.slice none 0 0) := (blk_cell BK108.out 3).trans rfl; have hfz21_0 := blk_frozen BK108.out 0; have hfz21_1 := blk_frozen BK108.out 1; have hfz21_2 := blk_frozen BK108.out 2; have hfz21_3 := blk_frozen BK108.out 3) | ((with_reducible refine gate_callee (f := 8) rfl ?_); refine goesL_ (some 35) rfl rfl Tryd.func8 (by kernel_rfl) rfl #[.slice (some ad107) l0.length c0] rfl (by (try simp only [List.map_toArray, List.map_cons, List.map_nil]); first | done | rfl | (simp only [List.length_drop, List.length_take]; rfl)) ?_; (with_reducible refine (sorrelref02_Copy.calls kj1 _ _ l0 t109 _ ?side1 ?side2 A18.out).mono ?_); (case side1 => exact Kd.C_below HR0.out (by repeat (first | (with_reducible first | exact HB.out | apply below_alloc | apply pw_below_drewN | apply below_drew1 | refine below_set ?_ GE108.out) | exact HB.out))); (case side2 => exact HC0.out); rintro e w22 ⟨v110, rfl, ho0, hb⟩; refine ⟨_, rfl, ?_⟩; have n0_ := Aside0.mk (Kd.S_lower (Kd.S_newB ho0 (g := gb108) (o := .cells #[.int .i64 ((rd_T29 l0 (ji15)).f0), .int .i64 ((rd_T29 l0 (ji15)).f1), .string ((rd_T29 l0 (ji15)).f2), .slice A107_3 ((rd_T29 l0 (ji15)).f3).length c107_3] 29 (0, 0)) (by (with_reducible repeat (first | refine blk_drewN ?_ _ | refine blk_drew ?_ | refine blk_alloc ?_ _)); refine blk_put (cs := #[.int .i64 ((rd_T29 l0 (ji15)).f0), .int .i64 ((rd_T29 l0 (ji15)).f1), .string ((rd_T29 l0 (ji15)).f2), .slice none 0 0]) ?_ 3 _ rfl; (with_reducible repeat (first | refine blk_drewN ?_ _ | refine blk_drew ?_ | refine blk_alloc ?_ _)); refine blk_put (cs := #[.int .i64 ((rd_T29 l0 (ji15)).f0), .int .i64 ((rd_T29 l0 (ji15)).f1), .string (⟨#[]⟩ : ByteArray), .slice none 0 0]) ?_ 2 _ rfl; (with_reducible repeat (first | refine blk_drewN ?_ _ | refine blk_drew ?_ | refine blk_alloc ?_ _)); refine blk_put (cs := #[.int .i64 ((rd_T29 l0 (ji15)).f0), .int .i64 0, .string (⟨#[]⟩ : ByteArray), .slice none 0 0]) ?_ 1 _ rfl; (with_reducible repeat (first | refine blk_drewN ?_ _ | refine blk_drew ?_ | refine blk_alloc ?_ _)); refine blk_put (cs := #[.int .i64 0, .int .i64 0, .string (⟨#[]⟩ : ByteArray), .slice none 0 0]) ?_ 0 _ rfl; (with_reducible repeat (first | refine blk_drewN ?_ _ | refine blk_drew ?_ | refine blk_alloc ?_ _)); exact BK108.out)) (below_size (by repeat (first | (with_reducible first | exact HB.out | apply below_alloc | apply pw_below_drewN | apply below_drew1 | refine below_set ?_ GE108.out) | exact HB.out)))); have n1_ := Aside0.mk (blk_below (g := gb108) (o := .cells #[.int .i64 ((rd_T29 l0 (ji15)).f0), .int .i64 ((rd_T29 l0 (ji15)).f1), .string ((rd_T29 l0 (ji15)).f2), .slice A107_3 ((rd_T29 l0 (ji15)).f3).length c107_3] 29 (0, 0)) (by (with_reducible repeat (first | refine blk_drewN ?_ _ | refine blk_drew ?_ | refine blk_alloc ?_ _)); refine blk_put (cs := #[.int .i64 ((rd_T29 l0 (ji15)).f0), .int .i64 ((rd_T29 l0 (ji15)).f1), .string ((rd_T29 l0 (ji15)).f2), .slice none 0 0]) ?_ 3 _ rfl; (with_reducible repeat (first | refine blk_drewN ?_ _ | refine blk_drew ?_ | refine blk_alloc ?_ _)); refine blk_put (cs := #[.int .i64 ((rd_T29 l0 (ji15)).f0), .int .i64 ((rd_T29 l0 (ji15)).f1), .string (⟨#[]⟩ : ByteArray), .slice none 0 0]) ?_ 2 _ rfl; (with_reducible repeat (first | refine blk_drewN ?_ _ | refine blk_drew ?_ | refine blk_alloc ?_ _)); refine blk_put (cs := #[.int .i64 ((rd_T29 l0 (ji15)).f0), .int .i64 0, .string (⟨#[]⟩ : ByteArray), .slice none 0 0]) ?_ 1 _ rfl; (with_reducible repeat (first | refine blk_drewN ?_ _ | refine blk_drew ?_ | refine blk_alloc ?_ _)); refine blk_put (cs := #[.int .i64 0, .int .i64 0, .string (⟨#[]⟩ : ByteArray), .slice none 0 0]) ?_ 0 _ rfl; (with_reducible repeat (first | refine blk_drewN ?_ _ | refine blk_drew ?_ | refine blk_alloc ?_ _)); exact BK108.out) hb); have n2_ := Aside0.mk (below_step (by repeat (first | (with_reducible first | exact HB.out | apply below_alloc | apply pw_below_drewN | apply below_drew1 | refine below_set ?_ GE108.out) | exact HB.out)) hb); clear BK108; clear HB; have HO111 := n0_; have BK108 := n1_; have HB := n2_; clear n0_ n1_ n2_; (try clear hb); (try clear hb2); (try clear hk); (try clear hi); (try clear ho0); obtain ⟨Ao23, co23, eo23⟩ := Kd.S_slice HO111.out; subst eo23) | ((with_reducible refine gate_callee (f := 9) rfl ?_); refine goesL_ (some 36) rfl rfl Tryd.func9 (by kernel_rfl) rfl #[.slice Ao23 t109.length co23] rfl (by (try simp only [List.map_toArray, List.map_cons, List.map_nil]); first | done | rfl | (simp only [List.length_drop, List.length_take]; rfl)) ?_; (with_reducible refine (facts_Of.calls kj1 _ _ t109 t112 t113 t114 t115 _ ?side1 ?side2 ?side3 A19.out).mono ?_); (case side1 => repeat (first | exact (Kd.S_reads' HO111.out).2.2 | (with_reducible refine Kd.C_alloc ?_ _) | (with_reducible refine Kd.C_drewN ?_ _) | (with_reducible refine Kd.C_drew ?_))); (case side2 => exact (Kd.S_reads' HO111.out).2.1); (case side3 => first | exact HG.out | exact Glob.below HG.out (by repeat (first | (with_reducible first | exact HB.out | apply below_alloc | apply pw_below_drewN | apply below_drew1 | refine below_set ?_ GE108.out) | exact HB.out)) | (repeat (first | exact HG.out | refine Glob.dr ?_ _))); rintro e w24 ⟨rfl, hb⟩; refine ⟨_, rfl, ?_⟩; have n0_ := Aside0.mk (Kd.S_below (by (with_reducible repeat (first | apply Kd.S_alloc | apply Kd.S_drewN | apply Kd.S_drew)); exact HO111.out) hb); have n1_ := Aside0.mk (blk_below (g := gb108) (o := .cells #[.int .i64 ((rd_T29 l0 (ji15)).f0), .int .i64 ((rd_T29 l0 (ji15)).f1), .string ((rd_T29 l0 (ji15)).f2), .slice A107_3 ((rd_T29 l0 (ji15)).f3).length c107_3] 29 (0, 0)) (by (with_reducible repeat (first | refine blk_drewN ?_ _ | refine blk_drew ?_ | refine blk_alloc ?_ _)); exact BK108.out) hb); have n2_ := Aside0.mk (below_step (by repeat (first | (with_reducible first | exact HB.out | apply below_alloc | apply pw_below_drewN | apply below_drew1 | refine below_set ?_ GE108.out) | exact HB.out)) hb); clear HO111; clear BK108; clear HB; have HO111 := n0_; have BK108 := n1_; have HB := n2_; clear n0_ n1_ n2_; (try clear hb); (try clear hb2); (try clear hk); (try clear hi)) | ((with_reducible refine gate_dst (N := 4) rfl ?_); refine box_event ?hg (N := 4) ?hd (cs := #[.bool false, .bool false, .int .i64 0]) (t := 31) ?hr ?_; (case hd => rfl); (case hg => rfl); (case hr => first | (go_simp; done) | (go_simp; rfl)); intro gb116 hg w25 hbox hb; have n0_ := Aside0.mk (Kd.S_below (by (with_reducible repeat (first | apply Kd.S_alloc | apply Kd.S_drewN | apply Kd.S_drew)); exact HO111.out) hb); have n1_ := Aside0.mk (blk_below (g := gb108) (o := .cells #[.int .i64 ((rd_T29 l0 (ji15)).f0), .int .i64 ((rd_T29 l0 (ji15)).f1), .string ((rd_T29 l0 (ji15)).f2), .slice A107_3 ((rd_T29 l0 (ji15)).f3).length c107_3] 29 (0, 0)) (by (with_reducible repeat (first | refine blk_drewN ?_ _ | refine blk_drew ?_ | refine blk_alloc ?_ _)); exact BK108.out) hb); have n2_ := Aside0.mk (below_step (by repeat (first | (with_reducible first | exact HB.out | apply below_alloc | apply pw_below_drewN | apply below_drew1 | refine below_set ?_ GE108.out) | exact HB.out)) hb); have n3_ := Aside0.mk (hbox); have n4_ := Aside0.mk ((by rw [hg]; exact (below_size (by repeat (first | (with_reducible first | exact HB.out | apply below_alloc | apply pw_below_drewN | apply below_drew1 | refine below_set ?_ GE108.out) | exact HB.out))) : w.heap.size ≤ gb116)); have n5_ := Aside0.mk ((by rw [hg]; exact (below_size (by repeat (first | (with_reducible first | exact HB.out | apply below_alloc | apply pw_below_drewN | apply below_drew1 | refine below_set ?_ GE108.out) | exact HB.out))) : w.heap.size ≤ gb116)); have n6_ := Aside0.mk ((by rw [hg]; exact Nat.ne_of_lt (blk_lt (g := gb108) (o := .cells #[.int .i64 ((rd_T29 l0 (ji15)).f0), .int .i64 ((rd_T29 l0 (ji15)).f1), .string ((rd_T29 l0 (ji15)).f2), .slice A107_3 ((rd_T29 l0 (ji15)).f3).length c107_3] 29 (0, 0)) (by (with_reducible repeat (first | refine blk_drewN ?_ _ | refine blk_drew ?_ | refine blk_alloc ?_ _)); exact BK108.out)) : gb108 ≠ gb116)); have n7_ := Aside0.mk ((by rw [hg]; exact Nat.ne_of_gt (blk_lt (g := gb108) (o := .cells #[.int .i64 ((rd_T29 l0 (ji15)).f0), .int .i64 ((rd_T29 l0 (ji15)).f1), .string ((rd_T29 l0 (ji15)).f2), .slice A107_3 ((rd_T29 l0 (ji15)).f3).length c107_3] 29 (0, 0)) (by (with_reducible repeat (first | refine blk_drewN ?_ _ | refine blk_drew ?_ | refine blk_alloc ?_ _)); exact BK108.out)) : gb116 ≠ gb108)); clear HO111; clear BK108; clear HB; have HO111 := n0_; have BK108 := n1_; have HB := n2_; have BK116 := n3_; have GW116 := n4_; have GE116 := n5_; have NB108_116 := n6_; have NB116_108 := n7_; clear n0_ n1_ n2_ n3_ n4_ n5_ n6_ n7_; clear hb hbox hg; have hnb26 := NB116_108.out; have hnc26 := NB108_116.out; have hcz27_0 : w25.cell? ⟨gb116, 0, none⟩ = some (.bool false) := (blk_cell BK116.out 0).trans rfl; have hcz27_1 : w25.cell? ⟨gb116, 1, none⟩ = some (.bool false) := (blk_cell BK116.out 1).trans rfl; have hcz27_2 : w25.cell? ⟨gb116, 2, none⟩ = some (.int .i64 0) := (blk_cell BK116.out 2).trans rfl; have hfz27_0 := blk_frozen BK116.out 0; have hfz27_1 := blk_frozen BK116.out 1; have hfz27_2 := blk_frozen BK116.out 2; have hcz28_0 : w25.cell? ⟨gb108, 0, none⟩ = some (.int .i64 ((rd_T29 l0 (ji15)).f0)) := (blk_cell BK108.out 0).trans rfl; have hcz28_1 : w25.cell? ⟨gb108, 1, none⟩ = some (.int .i64 ((rd_T29 l0 (ji15)).f1)) := (blk_cell BK108.out 1).trans rfl; have hcz28_2 : w25.cell? ⟨gb108, 2, none⟩ = some (.string ((rd_T29 l0 (ji15)).f2)) := (blk_cell BK108.out 2).trans rfl; have hcz28_3 : w25.cell? ⟨gb108, 3, none⟩ = some (.slice A107_3 ((rd_T29 l0 (ji15)).f3).length c107_3) := (blk_cell BK108.out 3).trans rfl; have hfz28_0 := blk_frozen BK108.out 0; have hfz28_1 := blk_frozen BK108.out 1; have hfz28_2 := blk_frozen BK108.out 2; have hfz28_3 := blk_frozen BK108.out 3) | ((with_reducible refine gate_dst (N := 9) rfl ?_); refine box_event ?hg (N := 9) ?hd (cs := #[.bool false, .bool false, .int .i64 0]) (t := 31) ?hr ?_; (case hd => rfl); (case hg => rfl); (case hr => first | (go_simp; done) | (go_simp; rfl)); intro gb117 hg w29 hbox hb; have n0_ := Aside0.mk (Kd.S_below (by (with_reducible repeat (first | apply Kd.S_alloc | apply Kd.S_drewN | apply Kd.S_drew)); exact (Kd.S_mono (Kd.S_far (p := ⟨gb116, 2, none⟩) (Kd.S_far (p := ⟨gb116, 1, none⟩) (Kd.S_far (p := ⟨gb116, 0, none⟩) (Kd.S_types HO111.out BK116.out (by decide)) (fun _ hk => hk.2) (.bool t112)) (fun _ hk => hk.2) (.bool t113)) (fun _ hk => hk.2) (.int .i64 t114)) (fun _ h_ => h_.1))) hb); have n1_ := Aside0.mk (blk_below (g := gb108) (o := .cells #[.int .i64 ((rd_T29 l0 (ji15)).f0), .int .i64 ((rd_T29 l0 (ji15)).f1), .string ((rd_T29 l0 (ji15)).f2), .slice A107_3 ((rd_T29 l0 (ji15)).f3).length c107_3] 29 (0, 0)) (by (with_reducible repeat (first | refine blk_drewN ?_ _ | refine blk_drew ?_ | refine blk_alloc ?_ _)); refine blk_far ?_ NB108_116.out _; (with_reducible repeat (first | refine blk_drewN ?_ _ | refine blk_drew ?_ | refine blk_alloc ?_ _)); refine blk_far ?_ NB108_116.out _; (with_reducible repeat (first | refine blk_drewN ?_ _ | refine blk_drew ?_ | refine blk_alloc ?_ _)); refine blk_far ?_ NB108_116.out _; (with_reducible repeat (first | refine blk_drewN ?_ _ | refine blk_drew ?_ | refine blk_alloc ?_ _)); exact BK108.out) hb); have n2_ := Aside0.mk (blk_below (g := gb116) (o := .cells #[.bool t112, .bool t113, .int .i64 t114] 31 (0, 0)) (by (with_reducible repeat (first | refine blk_drewN ?_ _ | refine blk_drew ?_ | refine blk_alloc ?_ _)); refine blk_put (cs := #[.bool t112, .bool t113, .int .i64 0]) ?_ 2 _ rfl; (with_reducible repeat (first | refine blk_drewN ?_ _ | refine blk_drew ?_ | refine blk_alloc ?_ _)); refine blk_put (cs := #[.bool t112, .bool false, .int .i64 0]) ?_ 1 _ rfl; (with_reducible repeat (first | refine blk_drewN ?_ _ | refine blk_drew ?_ | refine blk_alloc ?_ _)); refine blk_put (cs := #[.bool false, .bool false, .int .i64 0]) ?_ 0 _ rfl; (with_reducible repeat (first | refine blk_drewN ?_ _ | refine blk_drew ?_ | refine blk_alloc ?_ _)); exact BK116.out) hb); have n3_ := Aside0.mk (below_step (by repeat (first | (with_reducible first | exact HB.out | apply below_alloc | apply pw_below_drewN | apply below_drew1 | refine below_set ?_ GE108.out | refine below_set ?_ GE116.out) | exact HB.out)) hb); have n4_ := Aside0.mk (hbox); have n5_ := Aside0.mk ((by rw [hg]; exact (below_size (by repeat (first | (with_reducible first | exact HB.out | apply below_alloc | apply pw_below_drewN | apply below_drew1 | refine below_set ?_ GE108.out | refine below_set ?_ GE116.out) | exact HB.out))) : w.heap.size ≤ gb117)); have n6_ := Aside0.mk ((by rw [hg]; exact (below_size (by repeat (first | (with_reducible first | exact HB.out | apply below_alloc | apply pw_below_drewN | apply below_drew1 | refine below_set ?_ GE108.out | refine below_set ?_ GE116.out) | exact HB.out))) : w.heap.size ≤ gb117)); have n7_ := Aside0.mk ((by rw [hg]; exact Nat.ne_of_lt (blk_lt (g := gb108) (o := .cells #[.int .i64 ((rd_T29 l0 (ji15)).f0), .int .i64 ((rd_T29 l0 (ji15)).f1), .string ((rd_T29 l0 (ji15)).f2), .slice A107_3 ((rd_T29 l0 (ji15)).f3).length c107_3] 29 (0, 0)) (by (with_reducible repeat (first | refine blk_drewN ?_ _ | refine blk_drew ?_ | refine blk_alloc ?_ _)); refine blk_far ?_ NB108_116.out _; (with_reducible repeat (first | refine blk_drewN ?_ _ | refine blk_drew ?_ | refine blk_alloc ?_ _)); refine blk_far ?_ NB108_116.out _; (with_reducible repeat (first | refine blk_drewN ?_ _ | refine blk_drew ?_ | refine blk_alloc ?_ _)); refine blk_far ?_ NB108_116.out _; (with_reducible repeat (first | refine blk_drewN ?_ _ | refine blk_drew ?_ | refine blk_alloc ?_ _)); exact BK108.out)) : gb108 ≠ gb117)); have n8_ := Aside0.mk ((by rw [hg]; exact Nat.ne_of_gt (blk_lt (g := gb108) (o := .cells #[.int .i64 ((rd_T29 l0 (ji15)).f0), .int .i64 ((rd_T29 l0 (ji15)).f1), .string ((rd_T29 l0 (ji15)).f2), .slice A107_3 ((rd_T29 l0 (ji15)).f3).length c107_3] 29 (0, 0)) (by (with_reducible repeat (first | refine blk_drewN ?_ _ | refine blk_drew ?_ | refine blk_alloc ?_ _)); refine blk_far ?_ NB108_116.out _; (with_reducible repeat (first | refine blk_drewN ?_ _ | refine blk_drew ?_ | refine blk_alloc ?_ _)); refine blk_far ?_ NB108_116.out _; (with_reducible repeat (first | refine blk_drewN ?_ _ | refine blk_drew ?_ | refine blk_alloc ?_ _)); refine blk_far ?_ NB108_116.out _; (with_reducible repeat (first | refine blk_drewN ?_ _ | refine blk_drew ?_ | refine blk_alloc ?_ _)); exact BK108.out)) : gb117 ≠ gb108)); have n9_ := Aside0.mk ((by rw [hg]; exact Nat.ne_of_lt (blk_lt (g := gb116) (o := .cells #[.bool t112, .bool t113, .int .i64 t114] 31 (0, 0)) (by (with_reducible repeat (first | refine blk_drewN ?_ _ | refine blk_drew ?_ | refine blk_alloc ?_ _)); refine blk_put (cs := #[.bool t112, .bool t113, .int .i64 0]) ?_ 2 _ rfl; (with_reducible repeat (first | refine blk_drewN ?_ _ | refine blk_drew ?_ | refine blk_alloc ?_ _)); refine blk_put (cs := #[.bool t112, .bool false, .int .i64 0]) ?_ 1 _ rfl; (with_reducible repeat (first | refine blk_drewN ?_ _ | refine blk_drew ?_ | refine blk_alloc ?_ _)); refine blk_put (cs := #[.bool false, .bool false, .int .i64 0]) ?_ 0 _ rfl; (with_reducible repeat (first | refine blk_drewN ?_ _ | refine blk_drew ?_ | refine blk_alloc ?_ _)); exact BK116.out)) : gb116 ≠ gb117)); have n10_ := Aside0.mk ((by rw [hg]; exact Nat.ne_of_gt (blk_lt (g := gb116) (o := .cells #[.bool t112, .bool t113, .int .i64 t114] 31 (0, 0)) (by (with_reducible repeat (first | refine blk_drewN ?_ _ | refine blk_drew ?_ | refine blk_alloc ?_ _)); refine blk_put (cs := #[.bool t112, .bool t113, .int .i64 0]) ?_ 2 _ rfl; (with_reducible repeat (first | refine blk_drewN ?_ _ | refine blk_drew ?_ | refine blk_alloc ?_ _)); refine blk_put (cs := #[.bool t112, .bool false, .int .i64 0]) ?_ 1 _ rfl; (with_reducible repeat (first | refine blk_drewN ?_ _ | refine blk_drew ?_ | refine blk_alloc ?_ _)); refine blk_put (cs := #[.bool false, .bool false, .int .i64 0]) ?_ 0 _ rfl; (with_reducible repeat (first | refine blk_drewN ?_ _ | refine blk_drew ?_ | refine blk_alloc ?_ _)); exact BK116.out)) : gb117 ≠ gb116)); clear HO111; clear BK108; clear BK116; clear HB; have HO111 := n0_; have BK108 := n1_; have BK116 := n2_; have HB := n3_; have BK117 := n4_; have GW117 := n5_; have GE117 := n6_; have NB108_117 := n7_; have NB117_108 := n8_; have NB116_117 := n9_; have NB117_116 := n10_; clear n0_ n1_ n2_ n3_ n4_ n5_ n6_ n7_ n8_ n9_ n10_; clear hb hbox hg))
      go_loopg [6, 7, 8, 10] kj1 (fun kq v6 v7 v8 v10 w' => ∃ (x6_2 : Bool) (x7_2 : Bool) (x8_2 : List Int) (x10_2 : Int) (x118000_2 : Bool) (x118001_2 : Bool) (x118002_2 : Int), v6 = .bool x6_2 ∧ v7 = .bool x7_2 ∧ v10 = .int .i64 x10_2 ∧ Aside0 (sorrellaw13_FactsParts.l0 kq l0 x6_2 x7_2 x8_2 x10_2 ((rd_T29 l0 (ji15)).f0) ((rd_T29 l0 (ji15)).f1) ((rd_T29 l0 (ji15)).f2) ((rd_T29 l0 (ji15)).f3) t112 t113 t114 x118000_2 x118001_2 x118002_2 = some r) ∧ Aside0 (kq ≤ kj1) ∧ Aside0 (Kd.R (Kd.int .i64) 2 w' w.heap.size (fun _ => True) v8 x8_2) ∧ Aside0 (w'.heap[gb108]? = some (.cells #[.int .i64 ((rd_T29 l0 (ji15)).f0), .int .i64 ((rd_T29 l0 (ji15)).f1), .string ((rd_T29 l0 (ji15)).f2), (.slice A107_3 ((rd_T29 l0 (ji15)).f3).length c107_3)] 29 (0, 0))) ∧ Aside0 (w'.heap[gb116]? = some (.cells #[.bool t112, .bool t113, .int .i64 t114] 31 (0, 0))) ∧ Aside0 (w'.heap[gb117]? = some (.cells #[.bool x118000_2, .bool x118001_2, .int .i64 x118002_2] 31 (0, 0))) ∧ Aside0 (Below w.heap.size w w'))
      case atStart => exact ⟨(true), ((((rd_T29 l0 (ji15)).f0) != 2)), (([] : List Int)), (0), (false), (false), (0), (by first | rfl | (simp; done) | (simp [*]; done)), (by first | rfl | (simp; done) | (simp only [← hji15] <;> (first | rfl | simp)) | (simp [*]; done)), (by first | rfl | (simp; done) | (simp [*]; done)), H', ⟨Nat.le_refl _⟩, ⟨by first | exact Kd.R_nil _ _ _ _ _ | exact Kd.N_nil _ _ _ _ _ | exact Kd.V_nil _ _ _ _ _ | exact Kd.Q_nil _ _ _ _ _ | exact Kd.S_nil _ _ _ _ _⟩, ⟨by (with_reducible repeat (first | refine blk_drewN ?_ _ | refine blk_drew ?_ | refine blk_alloc ?_ _)); exact BK108.out⟩, ⟨by (with_reducible repeat (first | refine blk_drewN ?_ _ | refine blk_drew ?_ | refine blk_alloc ?_ _)); exact BK116.out⟩, ⟨by (with_reducible repeat (first | refine blk_drewN ?_ _ | refine blk_drew ?_ | refine blk_alloc ?_ _)); exact BK117.out⟩, ⟨by repeat (first | (with_reducible first | exact HB.out | apply below_alloc | apply pw_below_drewN | apply below_drew1 | refine below_set ?_ GE108.out | refine below_set ?_ GE116.out | refine below_set ?_ GE117.out) | exact HB.out)⟩⟩
      case round =>
       clear H'
       try clear c1
       try clear p1
       try clear q1
       try clear hx1
       try clear c2
       try clear p2
       try clear c3
       try clear c4
       try clear c6
       try clear p6
       try clear c8
       try clear c9
       try clear c10
       try clear p10
       try clear q10
       try clear hx10
       try clear c12
       try clear c16
       try clear c16b0
       try clear c17
       try clear c17b0
       try clear c26
       try clear hcz21_0
       try clear hcz21_1
       try clear hcz21_2
       try clear hcz21_3
       try clear hcz27_0
       try clear hcz27_1
       try clear hcz27_2
       try clear hcz28_0
       try clear hcz28_1
       try clear hcz28_2
       try clear hcz28_3
       try clear hfz21_0
       try clear hfz21_1
       try clear hfz21_2
       try clear hfz21_3
       try clear hfz27_0
       try clear hfz27_1
       try clear hfz27_2
       try clear hfz28_0
       try clear hfz28_1
       try clear hfz28_2
       try clear hfz28_3
       try clear hx107_0
       try clear hx107_1
       try clear hx107_2
       try clear hx107_3
       try clear p107
       try clear p2
       try clear q107
       obtain ⟨x6_2, x7_2, x8_2, x10_2, x118000_2, x118001_2, x118002_2, rfl, rfl, rfl, HA, HK2, HO_8, BK108, BK116, BK117, HB⟩ := hrel
       cases gk with
       | zero => exact absurd HA.out (by simp [sorrellaw13_FactsParts.l0])
       | succ k2 =>
        have H := HA.out
        clear HA
        simp only [sorrellaw13_FactsParts.l0] at H
        by_cases c30 : x10_2 < (((rd_T29 l0 (ji15)).f3).length : Int)
        ·rw [if_pos c30] at H
         have c30b0 : decide (x10_2 < (((rd_T29 l0 (ji15)).f3).length : Int)) = true := decide_eq_true c30
         clear c30
         replace H := Option.bind_eq_some_iff.mp H
         obtain ⟨t118, A310, H⟩ := H
         replace H : (if 0 ≤ x10_2 then ((expr_Part.f k2 t118 (rd ((rd_T29 l0 (ji15)).f3) x10_2)).bind fun bt122 => ((facts_Of.f k2 bt122.1).bind fun bt126 => (if bt126.2.2.2 = 0 then (if x6_2 = true then (if x7_2 = true then (if x8_2.length < 17592186044416 then (sorrellaw13_FactsParts.l0 k2 l0 bt126.1 bt126.2.1 (x8_2 ++ [bt126.2.2.1]) (wrap64 (x10_2 + 1)) ((rd_T29 l0 (ji15)).f0) ((rd_T29 l0 (ji15)).f1) ((rd_T29 l0 (ji15)).f2) ((rd_T29 l0 (ji15)).f3) t112 t113 t114 bt126.1 bt126.2.1 bt126.2.2.1) else (none)) else (if x8_2.length < 17592186044416 then (sorrellaw13_FactsParts.l0 k2 l0 bt126.1 false (x8_2 ++ [bt126.2.2.1]) (wrap64 (x10_2 + 1)) ((rd_T29 l0 (ji15)).f0) ((rd_T29 l0 (ji15)).f1) ((rd_T29 l0 (ji15)).f2) ((rd_T29 l0 (ji15)).f3) t112 t113 t114 bt126.1 bt126.2.1 bt126.2.2.1) else (none))) else (if x7_2 = true then (if x8_2.length < 17592186044416 then (sorrellaw13_FactsParts.l0 k2 l0 false bt126.2.1 (x8_2 ++ [bt126.2.2.1]) (wrap64 (x10_2 + 1)) ((rd_T29 l0 (ji15)).f0) ((rd_T29 l0 (ji15)).f1) ((rd_T29 l0 (ji15)).f2) ((rd_T29 l0 (ji15)).f3) t112 t113 t114 bt126.1 bt126.2.1 bt126.2.2.1) else (none)) else (if x8_2.length < 17592186044416 then (sorrellaw13_FactsParts.l0 k2 l0 false false (x8_2 ++ [bt126.2.2.1]) (wrap64 (x10_2 + 1)) ((rd_T29 l0 (ji15)).f0) ((rd_T29 l0 (ji15)).f1) ((rd_T29 l0 (ji15)).f2) ((rd_T29 l0 (ji15)).f3) t112 t113 t114 bt126.1 bt126.2.1 bt126.2.2.1) else (none)))) else (some false)))) else (none)) = some r := H
         have A31 := Aside0.mk A310
         clear A310
         by_cases c32 : 0 ≤ x10_2
         ·rw [if_pos c32] at H
          have c32b0 : decide (0 ≤ x10_2) = true := decide_eq_true c32
          clear c32
          replace H := Option.bind_eq_some_iff.mp H
          obtain ⟨⟨t122, t123⟩, A330, H⟩ := H
          replace H : ((facts_Of.f k2 t122).bind fun bt126 => (if bt126.2.2.2 = 0 then (if x6_2 = true then (if x7_2 = true then (if x8_2.length < 17592186044416 then (sorrellaw13_FactsParts.l0 k2 l0 bt126.1 bt126.2.1 (x8_2 ++ [bt126.2.2.1]) (wrap64 (x10_2 + 1)) ((rd_T29 l0 (ji15)).f0) ((rd_T29 l0 (ji15)).f1) ((rd_T29 l0 (ji15)).f2) ((rd_T29 l0 (ji15)).f3) t112 t113 t114 bt126.1 bt126.2.1 bt126.2.2.1) else (none)) else (if x8_2.length < 17592186044416 then (sorrellaw13_FactsParts.l0 k2 l0 bt126.1 false (x8_2 ++ [bt126.2.2.1]) (wrap64 (x10_2 + 1)) ((rd_T29 l0 (ji15)).f0) ((rd_T29 l0 (ji15)).f1) ((rd_T29 l0 (ji15)).f2) ((rd_T29 l0 (ji15)).f3) t112 t113 t114 bt126.1 bt126.2.1 bt126.2.2.1) else (none))) else (if x7_2 = true then (if x8_2.length < 17592186044416 then (sorrellaw13_FactsParts.l0 k2 l0 false bt126.2.1 (x8_2 ++ [bt126.2.2.1]) (wrap64 (x10_2 + 1)) ((rd_T29 l0 (ji15)).f0) ((rd_T29 l0 (ji15)).f1) ((rd_T29 l0 (ji15)).f2) ((rd_T29 l0 (ji15)).f3) t112 t113 t114 bt126.1 bt126.2.1 bt126.2.2.1) else (none)) else (if x8_2.length < 17592186044416 then (sorrellaw13_FactsParts.l0 k2 l0 false false (x8_2 ++ [bt126.2.2.1]) (wrap64 (x10_2 + 1)) ((rd_T29 l0 (ji15)).f0) ((rd_T29 l0 (ji15)).f1) ((rd_T29 l0 (ji15)).f2) ((rd_T29 l0 (ji15)).f3) t112 t113 t114 bt126.1 bt126.2.1 bt126.2.2.1) else (none)))) else (some false))) = some r := H
          have A33 := Aside0.mk A330
          clear A330
          replace H := Option.bind_eq_some_iff.mp H
          obtain ⟨⟨t126, t127, t128, t129⟩, A340, H⟩ := H
          replace H : (if t129 = 0 then (if x6_2 = true then (if x7_2 = true then (if x8_2.length < 17592186044416 then (sorrellaw13_FactsParts.l0 k2 l0 t126 t127 (x8_2 ++ [t128]) (wrap64 (x10_2 + 1)) ((rd_T29 l0 (ji15)).f0) ((rd_T29 l0 (ji15)).f1) ((rd_T29 l0 (ji15)).f2) ((rd_T29 l0 (ji15)).f3) t112 t113 t114 t126 t127 t128) else (none)) else (if x8_2.length < 17592186044416 then (sorrellaw13_FactsParts.l0 k2 l0 t126 false (x8_2 ++ [t128]) (wrap64 (x10_2 + 1)) ((rd_T29 l0 (ji15)).f0) ((rd_T29 l0 (ji15)).f1) ((rd_T29 l0 (ji15)).f2) ((rd_T29 l0 (ji15)).f3) t112 t113 t114 t126 t127 t128) else (none))) else (if x7_2 = true then (if x8_2.length < 17592186044416 then (sorrellaw13_FactsParts.l0 k2 l0 false t127 (x8_2 ++ [t128]) (wrap64 (x10_2 + 1)) ((rd_T29 l0 (ji15)).f0) ((rd_T29 l0 (ji15)).f1) ((rd_T29 l0 (ji15)).f2) ((rd_T29 l0 (ji15)).f3) t112 t113 t114 t126 t127 t128) else (none)) else (if x8_2.length < 17592186044416 then (sorrellaw13_FactsParts.l0 k2 l0 false false (x8_2 ++ [t128]) (wrap64 (x10_2 + 1)) ((rd_T29 l0 (ji15)).f0) ((rd_T29 l0 (ji15)).f1) ((rd_T29 l0 (ji15)).f2) ((rd_T29 l0 (ji15)).f3) t112 t113 t114 t126 t127 t128) else (none)))) else (some false)) = some r := H
          have A34 := Aside0.mk A340
          clear A340
          by_cases c35 : t129 = 0
          ·rw [if_pos c35] at H
           have c35b0 : (t129 == 0) = true := beq_iff_eq.mpr c35
           have c35b1 : (t129 != 0) = false := bne_eq_false_iff_eq.mpr c35
           clear c35
           by_cases c36 : x6_2 = true
           ·subst c36
            have H1 : (if x7_2 = true then (if x8_2.length < 17592186044416 then (sorrellaw13_FactsParts.l0 k2 l0 t126 t127 (x8_2 ++ [t128]) (wrap64 (x10_2 + 1)) ((rd_T29 l0 (ji15)).f0) ((rd_T29 l0 (ji15)).f1) ((rd_T29 l0 (ji15)).f2) ((rd_T29 l0 (ji15)).f3) t112 t113 t114 t126 t127 t128) else (none)) else (if x8_2.length < 17592186044416 then (sorrellaw13_FactsParts.l0 k2 l0 t126 false (x8_2 ++ [t128]) (wrap64 (x10_2 + 1)) ((rd_T29 l0 (ji15)).f0) ((rd_T29 l0 (ji15)).f1) ((rd_T29 l0 (ji15)).f2) ((rd_T29 l0 (ji15)).f3) t112 t113 t114 t126 t127 t128) else (none))) = some r := by rw [if_pos rfl] at H; exact H
            clear H
            have H := H1
            clear H1
            by_cases c37 : x7_2 = true
            ·subst c37
             have H1 : (if x8_2.length < 17592186044416 then (sorrellaw13_FactsParts.l0 k2 l0 t126 t127 (x8_2 ++ [t128]) (wrap64 (x10_2 + 1)) ((rd_T29 l0 (ji15)).f0) ((rd_T29 l0 (ji15)).f1) ((rd_T29 l0 (ji15)).f2) ((rd_T29 l0 (ji15)).f3) t112 t113 t114 t126 t127 t128) else (none)) = some r := by rw [if_pos rfl] at H; exact H
             clear H
             have H := H1
             clear H1
             by_cases c38 : x8_2.length < 17592186044416
             ·rw [if_pos c38] at H
              have LMc38 := Aside0.mk c38
              clear c38
              obtain ⟨y131, hy131⟩ : ∃ y_ : List Int, y_ = (x8_2 ++ [t128]) := ⟨_, rfl⟩
              replace H : (sorrellaw13_FactsParts.l0 k2 l0 t126 t127 y131 (wrap64 (x10_2 + 1)) ((rd_T29 l0 (ji15)).f0) ((rd_T29 l0 (ji15)).f1) ((rd_T29 l0 (ji15)).f2) ((rd_T29 l0 (ji15)).f3) t112 t113 t114 t126 t127 t128) = some r := by first | (rw [hy131]; with_reducible exact H) | (have H2_ := (Option.bind_some _ _).symm.trans H; rw [hy131]; with_reducible exact H2_) | (have H2_ := (Option.bind_some _ _).symm.trans H; with_reducible exact H2_) | with_reducible exact H | (rw [hy131]; exact H) | exact H
              have Ny131 := Aside0.mk hy131
              clear hy131
              have H' := Aside0.mk H
              clear H
              have hnb39 := NB108_116.out
              have hnc39 := NB116_108.out
              have hnb40 := NB108_117.out
              have hnc40 := NB117_108.out
              have hcz41_0 : wr.cell? ⟨gb108, 0, none⟩ = some (.int .i64 ((rd_T29 l0 (ji15)).f0)) := (blk_cell BK108.out 0).trans rfl
              have hcz41_1 : wr.cell? ⟨gb108, 1, none⟩ = some (.int .i64 ((rd_T29 l0 (ji15)).f1)) := (blk_cell BK108.out 1).trans rfl
              have hcz41_2 : wr.cell? ⟨gb108, 2, none⟩ = some (.string ((rd_T29 l0 (ji15)).f2)) := (blk_cell BK108.out 2).trans rfl
              have hcz41_3 : wr.cell? ⟨gb108, 3, none⟩ = some (.slice A107_3 ((rd_T29 l0 (ji15)).f3).length c107_3) := (blk_cell BK108.out 3).trans rfl
              have hfz41_0 := blk_frozen BK108.out 0
              have hfz41_1 := blk_frozen BK108.out 1
              have hfz41_2 := blk_frozen BK108.out 2
              have hfz41_3 := blk_frozen BK108.out 3
              try go_wp2
              have n0_ := Aside0.mk (Kd.R_drew HO_8.out)
              have n1_ := Aside0.mk (blk_drew BK108.out)
              have n2_ := Aside0.mk (blk_drew BK116.out)
              have n3_ := Aside0.mk (blk_drew BK117.out)
              have n4_ := Aside0.mk (below_drew1 HB.out)
              clear HO_8
              clear BK108
              clear BK116
              clear BK117
              clear HB
              have HO_8 := n0_
              have BK108 := n1_
              have BK116 := n2_
              have BK117 := n3_
              have HB := n4_
              clear n0_ n1_ n2_ n3_ n4_
              have p121 : 0 ≤ (x10_2 : Int) := of_decide_eq_true (by first | (with_reducible assumption) | assumption)
              have q121 : x10_2 < (((rd_T29 l0 (ji15)).f3).length : Int) := of_decide_eq_true (by first | (with_reducible assumption) | assumption)
              obtain ⟨ad121, e121, hx121_0⟩ := Kd.at_int HR107_3.out x10_2 p121 q121
              have hw121_0 := hx121_0
              cases e121
              replace hx121_0 := (HB.out.cell (World.block_lt_of_cell? w _ hx121_0)).trans hx121_0
              replace p121 := eq_true p121
              replace q121 := eq_true q121
              refine start_ (n := 13) (S := fun w' => w'.cell? ⟨gb108, 0, none⟩ = some (.int .i64 ((rd_T29 l0 (ji15)).f0)) ∧ w'.cell? ⟨gb108, 1, none⟩ = some (.int .i64 ((rd_T29 l0 (ji15)).f1)) ∧ w'.cell? ⟨gb108, 2, none⟩ = some (.string ((rd_T29 l0 (ji15)).f2)) ∧ w'.cell? ⟨gb108, 3, none⟩ = some (.slice (some ad121) ((rd_T29 l0 (ji15)).f3).length c107_3) ∧ w'.cell? (ad121.add (x10_2).toNat) = some (.int .i64 (rd ((rd_T29 l0 (ji15)).f3) x10_2))) (ds := []) #[false, false, false, false, false, false, false, false, false, false, false, false, false] (by kernel_rfl) rfl rfl ⟨(blk_cell BK108.out 0).trans rfl, (blk_cell BK108.out 1).trans rfl, (blk_cell BK108.out 2).trans rfl, (blk_cell BK108.out 3).trans rfl, ((HB.out.cell (World.block_lt_of_cell? w _ hw121_0)).trans hw121_0)⟩ (fun hHeld => ?_); refine with_tabW sorrellaw13_FactsParts.tab12 sorrellaw13_FactsParts.bits12 (fun HT_ HW_ => ?_)
              generalize wr.drew = w42 at HO_8 BK108 BK116 BK117 HB hx121_0 hHeld ⊢
              refine pure_ (i := 0) (N := some 50) (v := ?_) (a' := ?_) #[true, false, false, false, false, false, false, false, false, false, false, false, false] rfl rfl (any_of HT_.out (by kernel_rfl)) (fun _ _ _ h => h) (Or.inl ⟨by rfl, ?_⟩) ?_ ?_
              rotate_left
              ·intro w'
               go_simp
               with_reducible rfl
              rotate_left
              ·simp only [Act.put, List.setIfInBounds_toArray, List.set_cons_zero, List.set_cons_succ, i64_w, i32_w]
               rfl
              refine pure_ (i := 2) (N := some 52) (v := ?_) (a' := ?_) #[true, false, true, false, false, false, false, false, false, false, false, false, false] rfl rfl (any_of HT_.out (by kernel_rfl)) (fun _ _ _ h => h) (Or.inl ⟨by rfl, ?_⟩) ?_ ?_
              rotate_left
              ·intro w'
               go_simp
               with_reducible rfl
              rotate_left
              ·simp only [Act.put, List.setIfInBounds_toArray, List.set_cons_zero, List.set_cons_succ, i64_w, i32_w]
               rfl
              refine pure_ (i := 4) (N := some 54) (v := ?_) (a' := ?_) #[true, false, true, false, true, false, false, false, false, false, false, false, false] rfl rfl (any_of HT_.out (by kernel_rfl)) (fun _ _ _ h => h) (Or.inl ⟨by rfl, ?_⟩) ?_ ?_
              rotate_left
              ·intro w'
               go_simp
               with_reducible rfl
              rotate_left
              ·simp only [Act.put, List.setIfInBounds_toArray, List.set_cons_zero, List.set_cons_succ, i64_w, i32_w]
               rfl
              refine take_ (i := 3) (N := some 53) (v := ?_) (a' := ?_) #[true, false, true, true, true, false, false, false, false, false, false, false, false] rfl rfl (take_ofW HT_.out HW_.out (by kernel_rfl)) (fun _ _ _ h => h) (Or.inl ⟨by rfl, ?_⟩) hHeld ?_ ?_
              rotate_left
              ·rintro w' ⟨s0, s1, s2, s3, s4⟩
               go_simp
               with_reducible rfl
              rotate_left
              ·simp only [Act.put, List.setIfInBounds_toArray, List.set_cons_zero, List.set_cons_succ, i64_w, i32_w]
               rfl
              refine pure_ (i := 5) (N := some 55) (v := ?_) (a' := ?_) #[true, false, true, true, true, true, false, false, false, false, false, false, false] rfl rfl (any_of HT_.out (by kernel_rfl)) (fun _ _ _ h => h) (Or.inl ⟨by rfl, ?_⟩) ?_ ?_
              rotate_left
              ·intro w'
               go_simp
               with_reducible rfl
              rotate_left
              ·simp only [Act.put, List.setIfInBounds_toArray, List.set_cons_zero, List.set_cons_succ, i64_w, i32_w]
               rfl
              refine take_ (i := 6) (N := some 56) (v := ?_) (a' := ?_) #[true, false, true, true, true, true, true, false, false, false, false, false, false] rfl rfl (take_ofW HT_.out HW_.out (by kernel_rfl)) (fun _ _ _ h => h) (Or.inl ⟨by rfl, ?_⟩) hHeld ?_ ?_
              rotate_left
              ·rintro w' ⟨s0, s1, s2, s3, s4⟩
               go_simp
               with_reducible rfl
              rotate_left
              ·simp only [Act.put, List.setIfInBounds_toArray, List.set_cons_zero, List.set_cons_succ, i64_w, i32_w]
               rfl
              refine one_ (i := 1) (N := some 51) #[true, true, true, true, true, true, true, false, false, false, false, false, false] rfl rfl (one_of HT_.out (by kernel_rfl)) (by decide) (fun K hK => ?_)
              refine goes_ Tryd.func8 (by kernel_rfl) rfl #[.slice (some ad107) l0.length c0] (by rfl) rfl rfl (by (try simp only [List.map_toArray, List.map_cons, List.map_nil]); first | done | rfl | (simp only [List.length_drop, List.length_take]; rfl)) ?_
              with_reducible refine (sorrelref02_Copy.calls k2 _ _ l0 t118 _ ?side1 ?side2 A31.out).mono ?_
              (case side1 => repeat (first | exact (Kd.C_below HR0.out HB.out) | (with_reducible refine Kd.C_alloc ?_ _) | (with_reducible refine Kd.C_drewN ?_ _) | (with_reducible refine Kd.C_drew ?_)))
              (case side2 => exact HC0.out)
              rintro e w43 ⟨v119, rfl, ho0, hb⟩
              refine ⟨_, rfl, ?_⟩
              have n0_ := Aside0.mk (Kd.R_below (by (with_reducible repeat (first | apply Kd.R_alloc | apply Kd.R_drewN | apply Kd.R_drew)); exact HO_8.out) hb)
              have n1_ := Aside0.mk (Kd.S_lower (Kd.S_newB ho0 (g := gb108) (o := .cells #[.int .i64 ((rd_T29 l0 (ji15)).f0), .int .i64 ((rd_T29 l0 (ji15)).f1), .string ((rd_T29 l0 (ji15)).f2), .slice (some ad121) ((rd_T29 l0 (ji15)).f3).length c107_3] 29 (0, 0)) (by (with_reducible repeat (first | refine blk_drewN ?_ _ | refine blk_drew ?_ | refine blk_alloc ?_ _)); exact BK108.out)) (below_size (by repeat (first | (with_reducible first | exact HB.out | apply below_alloc | apply pw_below_drewN | apply below_drew1 | refine below_set ?_ GE108.out | refine below_set ?_ GE116.out | refine below_set ?_ GE117.out) | exact HB.out))))
              have n2_ := Aside0.mk (blk_below (g := gb108) (o := .cells #[.int .i64 ((rd_T29 l0 (ji15)).f0), .int .i64 ((rd_T29 l0 (ji15)).f1), .string ((rd_T29 l0 (ji15)).f2), .slice (some ad121) ((rd_T29 l0 (ji15)).f3).length c107_3] 29 (0, 0)) (by (with_reducible repeat (first | refine blk_drewN ?_ _ | refine blk_drew ?_ | refine blk_alloc ?_ _)); exact BK108.out) hb)
              have n3_ := Aside0.mk (blk_below (g := gb116) (o := .cells #[.bool t112, .bool t113, .int .i64 t114] 31 (0, 0)) (by (with_reducible repeat (first | refine blk_drewN ?_ _ | refine blk_drew ?_ | refine blk_alloc ?_ _)); exact BK116.out) hb)
              have n4_ := Aside0.mk (blk_below (g := gb117) (o := .cells #[.bool x118000_2, .bool x118001_2, .int .i64 x118002_2] 31 (0, 0)) (by (with_reducible repeat (first | refine blk_drewN ?_ _ | refine blk_drew ?_ | refine blk_alloc ?_ _)); exact BK117.out) hb)
              have n5_ := Aside0.mk (below_step (by repeat (first | (with_reducible first | exact HB.out | apply below_alloc | apply pw_below_drewN | apply below_drew1 | refine below_set ?_ GE108.out | refine below_set ?_ GE116.out | refine below_set ?_ GE117.out) | exact HB.out)) hb)
              clear HO_8
              clear BK108
              clear BK116
              clear BK117
              clear HB
              have HO_8 := n0_
              have HO120 := n1_
              have BK108 := n2_
              have BK116 := n3_
              have BK117 := n4_
              have HB := n5_
              clear n0_ n1_ n2_ n3_ n4_ n5_
              (try clear hb)
              (try clear hb2)
              (try clear hk)
              (try clear hi)
              (try clear ho0)
              obtain ⟨Ao44, co44, eo44⟩ := Kd.S_slice HO120.out
              (first | subst eo44 | (injection eo44 with f1_ f2_ f3_; have f4_ := f1_.symm; have f5_ := f3_.symm; clear f1_ f2_ f3_; subst f4_; subst f5_))
              refine hK.out _ _ ⟨(blk_cell BK108.out 0).trans rfl, (blk_cell BK108.out 1).trans rfl, (blk_cell BK108.out 2).trans rfl, (blk_cell BK108.out 3).trans rfl, ((HB.out.cell (World.block_lt_of_cell? w _ hw121_0)).trans hw121_0)⟩ (fun hHeld => ?_)
              clear hK K
              refine norm_ (a' := ?_) ?_ ?_
              rotate_left
              ·show Act.put _ (some 51) _ = _
               simp only [Act.put, List.setIfInBounds_toArray, List.set_cons_zero, List.set_cons_succ, i64_w, i32_w]
               rfl
              refine one_ (i := 7) (N := some 57) #[true, true, true, true, true, true, true, true, false, false, false, false, false] rfl rfl (one_of HT_.out (by kernel_rfl)) (by decide) (fun K hK => ?_)
              refine goes_ Tryd.func10 (by kernel_rfl) rfl #[.slice Ao44 t118.length co44, .int .i64 (rd ((rd_T29 l0 (ji15)).f3) x10_2)] (by rfl) rfl rfl (by (try simp only [List.map_toArray, List.map_cons, List.map_nil]); first | done | (simp only [hji15]; rfl) | rfl | (simp only [List.length_drop, List.length_take]; rfl)) ?_
              with_reducible refine (expr_Part.calls k2 _ _ t118 (rd ((rd_T29 l0 (ji15)).f3) x10_2) t122 t123 _ ?side1 ?side2 ?side3 A33.out).mono ?_
              (case side1 => repeat (first | exact (Kd.S_reads' HO120.out).2.2 | (with_reducible refine Kd.C_alloc ?_ _) | (with_reducible refine Kd.C_drewN ?_ _) | (with_reducible refine Kd.C_drew ?_)))
              (case side2 => exact (Kd.S_reads' HO120.out).2.1)
              (case side3 => first | exact HG.out | exact Glob.below HG.out (by repeat (first | (with_reducible first | exact HB.out | apply below_alloc | apply pw_below_drewN | apply below_drew1 | refine below_set ?_ GE108.out | refine below_set ?_ GE116.out | refine below_set ?_ GE117.out) | exact HB.out)) | (repeat (first | exact HG.out | refine Glob.dr ?_ _)))
              rintro e w45 ⟨v124, rfl, ho0, hb⟩
              refine ⟨_, rfl, ?_⟩
              have n0_ := Aside0.mk (Kd.R_below (by (with_reducible repeat (first | apply Kd.R_alloc | apply Kd.R_drewN | apply Kd.R_drew)); exact HO_8.out) hb)
              have n1_ := Aside0.mk (Kd.S_elder' (by (with_reducible repeat (first | apply Kd.S_alloc | apply Kd.S_drewN | apply Kd.S_drew)); exact HO120.out) (Kd.S_base ho0) hb)
              have n2_ := Aside0.mk (Kd.S_lower (Kd.S_newB (Kd.S_new' ho0 (Kd.S_lt (by (with_reducible repeat (first | apply Kd.S_alloc | apply Kd.S_drewN | apply Kd.S_drew)); exact HO120.out))) (g := gb108) (o := .cells #[.int .i64 ((rd_T29 l0 (ji15)).f0), .int .i64 ((rd_T29 l0 (ji15)).f1), .string ((rd_T29 l0 (ji15)).f2), .slice (some ad121) ((rd_T29 l0 (ji15)).f3).length c107_3] 29 (0, 0)) (by (with_reducible repeat (first | refine blk_drewN ?_ _ | refine blk_drew ?_ | refine blk_alloc ?_ _)); exact BK108.out)) (below_size (by repeat (first | (with_reducible first | exact HB.out | apply below_alloc | apply pw_below_drewN | apply below_drew1 | refine below_set ?_ GE108.out | refine below_set ?_ GE116.out | refine below_set ?_ GE117.out) | exact HB.out))))
              have n3_ := Aside0.mk (blk_below (g := gb108) (o := .cells #[.int .i64 ((rd_T29 l0 (ji15)).f0), .int .i64 ((rd_T29 l0 (ji15)).f1), .string ((rd_T29 l0 (ji15)).f2), .slice (some ad121) ((rd_T29 l0 (ji15)).f3).length c107_3] 29 (0, 0)) (by (with_reducible repeat (first | refine blk_drewN ?_ _ | refine blk_drew ?_ | refine blk_alloc ?_ _)); exact BK108.out) hb)
              have n4_ := Aside0.mk (blk_below (g := gb116) (o := .cells #[.bool t112, .bool t113, .int .i64 t114] 31 (0, 0)) (by (with_reducible repeat (first | refine blk_drewN ?_ _ | refine blk_drew ?_ | refine blk_alloc ?_ _)); exact BK116.out) hb)
              have n5_ := Aside0.mk (blk_below (g := gb117) (o := .cells #[.bool x118000_2, .bool x118001_2, .int .i64 x118002_2] 31 (0, 0)) (by (with_reducible repeat (first | refine blk_drewN ?_ _ | refine blk_drew ?_ | refine blk_alloc ?_ _)); exact BK117.out) hb)
              have n6_ := Aside0.mk (below_step (by repeat (first | (with_reducible first | exact HB.out | apply below_alloc | apply pw_below_drewN | apply below_drew1 | refine below_set ?_ GE108.out | refine below_set ?_ GE116.out | refine below_set ?_ GE117.out) | exact HB.out)) hb)
              clear HO_8
              clear HO120
              clear BK108
              clear BK116
              clear BK117
              clear HB
              have HO_8 := n0_
              have HO120 := n1_
              have HO125 := n2_
              have BK108 := n3_
              have BK116 := n4_
              have BK117 := n5_
              have HB := n6_
              clear n0_ n1_ n2_ n3_ n4_ n5_ n6_
              (try clear hb)
              (try clear hb2)
              (try clear hk)
              (try clear hi)
              (try clear ho0)
              refine hK.out _ _ ⟨(blk_cell BK108.out 0).trans rfl, (blk_cell BK108.out 1).trans rfl, (blk_cell BK108.out 2).trans rfl, (blk_cell BK108.out 3).trans rfl, ((HB.out.cell (World.block_lt_of_cell? w _ hw121_0)).trans hw121_0)⟩ (fun hHeld => ?_)
              clear hK K
              refine norm_ (a' := ?_) ?_ ?_
              rotate_left
              ·show Act.put _ (some 57) _ = _
               simp only [Act.put, List.setIfInBounds_toArray, List.set_cons_zero, List.set_cons_succ, i64_w, i32_w]
               rfl
              refine pure_ (i := 8) (N := some 49) (v := ?_) (a' := ?_) #[true, true, true, true, true, true, true, true, true, false, false, false, false] rfl rfl (any_of HT_.out (by kernel_rfl)) (fun _ _ _ h => h) (Or.inl ⟨by rfl, ?_⟩) ?_ ?_
              rotate_left
              ·intro w'
               go_simp
               with_reducible rfl
              rotate_left
              ·simp only [Act.put, List.setIfInBounds_toArray, List.set_cons_zero, List.set_cons_succ, i64_w, i32_w]
               rfl
              refine pure_ (i := 9) (N := some 58) (v := ?_) (a' := ?_) #[true, true, true, true, true, true, true, true, true, true, false, false, false] rfl rfl (any_of HT_.out (by kernel_rfl)) (fun _ _ _ h => h) (Or.inl ⟨by rfl, ?_⟩) ?_ ?_
              rotate_left
              ·intro w'
               go_simp
               with_reducible rfl
              rotate_left
              ·simp only [Act.put, List.setIfInBounds_toArray, List.set_cons_zero, List.set_cons_succ, i64_w, i32_w]
               rfl
              refine pure_ (i := 10) (N := some 59) (v := ?_) (a' := ?_) #[true, true, true, true, true, true, true, true, true, true, true, false, false] rfl rfl (any_of HT_.out (by kernel_rfl)) (fun _ _ _ h => h) (Or.inl ⟨by rfl, ?_⟩) ?_ ?_
              rotate_left
              ·intro w'
               go_simp
               with_reducible rfl
              rotate_left
              ·simp only [Act.put, List.setIfInBounds_toArray, List.set_cons_zero, List.set_cons_succ, i64_w, i32_w]
               rfl
              refine pure_ (i := 11) (N := some 11) (v := ?_) (a' := ?_) #[true, true, true, true, true, true, true, true, true, true, true, true, false] rfl rfl (any_of HT_.out (by kernel_rfl)) (fun _ _ _ h => h) (Or.inl ⟨by rfl, ?_⟩) ?_ ?_
              rotate_left
              ·intro w'
               go_simp
               with_reducible rfl
              rotate_left
              ·simp only [Act.put, List.setIfInBounds_toArray, List.set_cons_zero, List.set_cons_succ, i64_w, i32_w]
               rfl
              refine pure_ (i := 12) (N := some 12) (v := ?_) (a' := ?_) #[true, true, true, true, true, true, true, true, true, true, true, true, true] rfl rfl (any_of HT_.out (by kernel_rfl)) (fun _ _ _ h => h) (Or.inl ⟨by rfl, ?_⟩) ?_ ?_
              rotate_left
              ·intro w'
               go_simp
               with_reducible rfl
              rotate_left
              ·simp only [Act.put, List.setIfInBounds_toArray, List.set_cons_zero, List.set_cons_succ, i64_w, i32_w]
               rfl
              refine done_ (done_of HT_.out (by kernel_rfl)) ?_
              obtain ⟨Ao46, co46, eo46⟩ := Kd.S_slice HO125.out
              subst eo46
              try go_wp2_with (first | ((with_reducible refine gate_callee (f := 9) rfl ?_); refine goesL_ (some 62) rfl rfl Tryd.func9 (by kernel_rfl) rfl #[.slice Ao46 t122.length co46] rfl (by (try simp only [List.map_toArray, List.map_cons, List.map_nil]); first | done | rfl | (simp only [List.length_drop, List.length_take]; rfl)) ?_; (with_reducible refine (facts_Of.calls k2 _ _ t122 t126 t127 t128 t129 _ ?side1 ?side2 ?side3 A34.out).mono ?_); (case side1 => repeat (first | exact (Kd.S_reads' HO125.out).2.2 | (with_reducible refine Kd.C_alloc ?_ _) | (with_reducible refine Kd.C_drewN ?_ _) | (with_reducible refine Kd.C_drew ?_))); (case side2 => exact (Kd.S_reads' HO125.out).2.1); (case side3 => first | exact HG.out | exact Glob.below HG.out (by repeat (first | (with_reducible first | exact HB.out | apply below_alloc | apply pw_below_drewN | apply below_drew1 | refine below_set ?_ GE108.out | refine below_set ?_ GE116.out | refine below_set ?_ GE117.out) | exact HB.out)) | (repeat (first | exact HG.out | refine Glob.dr ?_ _))); rintro e w47 ⟨rfl, hb⟩; refine ⟨_, rfl, ?_⟩; have n0_ := Aside0.mk (Kd.R_below (by (with_reducible repeat (first | apply Kd.R_alloc | apply Kd.R_drewN | apply Kd.R_drew)); exact HO_8.out) hb); have n1_ := Aside0.mk (Kd.S_below (by (with_reducible repeat (first | apply Kd.S_alloc | apply Kd.S_drewN | apply Kd.S_drew)); exact HO120.out) hb); have n2_ := Aside0.mk (Kd.S_below (by (with_reducible repeat (first | apply Kd.S_alloc | apply Kd.S_drewN | apply Kd.S_drew)); exact HO125.out) hb); have n3_ := Aside0.mk (blk_below (g := gb108) (o := .cells #[.int .i64 ((rd_T29 l0 (ji15)).f0), .int .i64 ((rd_T29 l0 (ji15)).f1), .string ((rd_T29 l0 (ji15)).f2), .slice (some ad121) ((rd_T29 l0 (ji15)).f3).length c107_3] 29 (0, 0)) (by (with_reducible repeat (first | refine blk_drewN ?_ _ | refine blk_drew ?_ | refine blk_alloc ?_ _)); exact BK108.out) hb); have n4_ := Aside0.mk (blk_below (g := gb116) (o := .cells #[.bool t112, .bool t113, .int .i64 t114] 31 (0, 0)) (by (with_reducible repeat (first | refine blk_drewN ?_ _ | refine blk_drew ?_ | refine blk_alloc ?_ _)); exact BK116.out) hb); have n5_ := Aside0.mk (blk_below (g := gb117) (o := .cells #[.bool x118000_2, .bool x118001_2, .int .i64 x118002_2] 31 (0, 0)) (by (with_reducible repeat (first | refine blk_drewN ?_ _ | refine blk_drew ?_ | refine blk_alloc ?_ _)); exact BK117.out) hb); have n6_ := Aside0.mk (below_step (by repeat (first | (with_reducible first | exact HB.out | apply below_alloc | apply pw_below_drewN | apply below_drew1 | refine below_set ?_ GE108.out | refine below_set ?_ GE116.out | refine below_set ?_ GE117.out) | exact HB.out)) hb); clear HO_8; clear HO120; clear HO125; clear BK108; clear BK116; clear BK117; clear HB; have HO_8 := n0_; have HO120 := n1_; have HO125 := n2_; have BK108 := n3_; have BK116 := n4_; have BK117 := n5_; have HB := n6_; clear n0_ n1_ n2_ n3_ n4_ n5_ n6_; (try clear hb); (try clear hb2); (try clear hk); (try clear hi)) | ((with_reducible refine gate_dst (N := 13) rfl ?_); refine box_event ?hg (N := 13) ?hd (cs := #[.bool false, .bool false, .int .i64 0]) (t := 31) ?hr ?_; (case hd => rfl); (case hg => rfl); (case hr => first | (go_simp; done) | (go_simp; rfl)); intro gb130 hg w48 hbox hb; have n0_ := Aside0.mk (Kd.R_below (by (with_reducible repeat (first | apply Kd.R_alloc | apply Kd.R_drewN | apply Kd.R_drew)); exact HO_8.out) hb); have n1_ := Aside0.mk (Kd.S_below (by (with_reducible repeat (first | apply Kd.S_alloc | apply Kd.S_drewN | apply Kd.S_drew)); exact HO120.out) hb); have n2_ := Aside0.mk (Kd.S_below (by (with_reducible repeat (first | apply Kd.S_alloc | apply Kd.S_drewN | apply Kd.S_drew)); exact HO125.out) hb); have n3_ := Aside0.mk (blk_below (g := gb108) (o := .cells #[.int .i64 ((rd_T29 l0 (ji15)).f0), .int .i64 ((rd_T29 l0 (ji15)).f1), .string ((rd_T29 l0 (ji15)).f2), .slice (some ad121) ((rd_T29 l0 (ji15)).f3).length c107_3] 29 (0, 0)) (by (with_reducible repeat (first | refine blk_drewN ?_ _ | refine blk_drew ?_ | refine blk_alloc ?_ _)); exact BK108.out) hb); have n4_ := Aside0.mk (blk_below (g := gb116) (o := .cells #[.bool t112, .bool t113, .int .i64 t114] 31 (0, 0)) (by (with_reducible repeat (first | refine blk_drewN ?_ _ | refine blk_drew ?_ | refine blk_alloc ?_ _)); exact BK116.out) hb); have n5_ := Aside0.mk (blk_below (g := gb117) (o := .cells #[.bool x118000_2, .bool x118001_2, .int .i64 x118002_2] 31 (0, 0)) (by (with_reducible repeat (first | refine blk_drewN ?_ _ | refine blk_drew ?_ | refine blk_alloc ?_ _)); exact BK117.out) hb); have n6_ := Aside0.mk (below_step (by repeat (first | (with_reducible first | exact HB.out | apply below_alloc | apply pw_below_drewN | apply below_drew1 | refine below_set ?_ GE108.out | refine below_set ?_ GE116.out | refine below_set ?_ GE117.out) | exact HB.out)) hb); have n7_ := Aside0.mk (hbox); have n8_ := Aside0.mk ((by rw [hg]; exact (below_size (by repeat (first | (with_reducible first | exact HB.out | apply below_alloc | apply pw_below_drewN | apply below_drew1 | refine below_set ?_ GE108.out | refine below_set ?_ GE116.out | refine below_set ?_ GE117.out) | exact HB.out))) : w.heap.size ≤ gb130)); have n9_ := Aside0.mk ((by rw [hg]; exact (below_size (by repeat (first | (with_reducible first | exact HB.out | apply below_alloc | apply pw_below_drewN | apply below_drew1 | refine below_set ?_ GE108.out | refine below_set ?_ GE116.out | refine below_set ?_ GE117.out) | exact HB.out))) : w.heap.size ≤ gb130)); have n10_ := Aside0.mk ((by rw [hg]; exact Nat.ne_of_lt (blk_lt (g := gb108) (o := .cells #[.int .i64 ((rd_T29 l0 (ji15)).f0), .int .i64 ((rd_T29 l0 (ji15)).f1), .string ((rd_T29 l0 (ji15)).f2), .slice (some ad121) ((rd_T29 l0 (ji15)).f3).length c107_3] 29 (0, 0)) (by (with_reducible repeat (first | refine blk_drewN ?_ _ | refine blk_drew ?_ | refine blk_alloc ?_ _)); exact BK108.out)) : gb108 ≠ gb130)); have n11_ := Aside0.mk ((by rw [hg]; exact Nat.ne_of_gt (blk_lt (g := gb108) (o := .cells #[.int .i64 ((rd_T29 l0 (ji15)).f0), .int .i64 ((rd_T29 l0 (ji15)).f1), .string ((rd_T29 l0 (ji15)).f2), .slice (some ad121) ((rd_T29 l0 (ji15)).f3).length c107_3] 29 (0, 0)) (by (with_reducible repeat (first | refine blk_drewN ?_ _ | refine blk_drew ?_ | refine blk_alloc ?_ _)); exact BK108.out)) : gb130 ≠ gb108)); have n12_ := Aside0.mk ((by rw [hg]; exact Nat.ne_of_lt (blk_lt (g := gb116) (o := .cells #[.bool t112, .bool t113, .int .i64 t114] 31 (0, 0)) (by (with_reducible repeat (first | refine blk_drewN ?_ _ | refine blk_drew ?_ | refine blk_alloc ?_ _)); exact BK116.out)) : gb116 ≠ gb130)); have n13_ := Aside0.mk ((by rw [hg]; exact Nat.ne_of_gt (blk_lt (g := gb116) (o := .cells #[.bool t112, .bool t113, .int .i64 t114] 31 (0, 0)) (by (with_reducible repeat (first | refine blk_drewN ?_ _ | refine blk_drew ?_ | refine blk_alloc ?_ _)); exact BK116.out)) : gb130 ≠ gb116)); have n14_ := Aside0.mk ((by rw [hg]; exact Nat.ne_of_lt (blk_lt (g := gb117) (o := .cells #[.bool x118000_2, .bool x118001_2, .int .i64 x118002_2] 31 (0, 0)) (by (with_reducible repeat (first | refine blk_drewN ?_ _ | refine blk_drew ?_ | refine blk_alloc ?_ _)); exact BK117.out)) : gb117 ≠ gb130)); have n15_ := Aside0.mk ((by rw [hg]; exact Nat.ne_of_gt (blk_lt (g := gb117) (o := .cells #[.bool x118000_2, .bool x118001_2, .int .i64 x118002_2] 31 (0, 0)) (by (with_reducible repeat (first | refine blk_drewN ?_ _ | refine blk_drew ?_ | refine blk_alloc ?_ _)); exact BK117.out)) : gb130 ≠ gb117)); clear HO_8; clear HO120; clear HO125; clear BK108; clear BK116; clear BK117; clear HB; have HO_8 := n0_; have HO120 := n1_; have HO125 := n2_; have BK108 := n3_; have BK116 := n4_; have BK117 := n5_; have HB := n6_; have BK130 := n7_; have GW130 := n8_; have GE130 := n9_; have NB108_130 := n10_; have NB130_108 := n11_; have NB116_130 := n12_; have NB130_116 := n13_; have NB117_130 := n14_; have NB130_117 := n15_; clear n0_ n1_ n2_ n3_ n4_ n5_ n6_ n7_ n8_ n9_ n10_ n11_ n12_ n13_ n14_ n15_; clear hb hbox hg; have hnb49 := NB130_108.out; have hnc49 := NB108_130.out; have hnb50 := NB130_116.out; have hnc50 := NB116_130.out; have hnb51 := NB130_117.out; have hnc51 := NB117_130.out; have hcz52_0 : w48.cell? ⟨gb130, 0, none⟩ = some (.bool false) := (blk_cell BK130.out 0).trans rfl; have hcz52_1 : w48.cell? ⟨gb130, 1, none⟩ = some (.bool false) := (blk_cell BK130.out 1).trans rfl; have hcz52_2 : w48.cell? ⟨gb130, 2, none⟩ = some (.int .i64 0) := (blk_cell BK130.out 2).trans rfl; have hfz52_0 := blk_frozen BK130.out 0; have hfz52_1 := blk_frozen BK130.out 1; have hfz52_2 := blk_frozen BK130.out 2) | ((with_reducible refine gate_builtin (b := .append) (xs := #[.tmp 77, .tmp 80]) rfl ?_); at_builtin; refine Kd.R_append (Kd.int .i64) (w0 := w) w.heap.size rfl (.tmp 77) (.tmp 80) 34 2 (.int .i64 0) 8 rfl Tryd.underlying34 info2 rfl (by decide) (by omega) u8 x8_2 t128 [.int .i64 t128] (fun _ => True) (fun _ => False) rfl (by first | (go_simp; done) | (go_simp; rfl)) ?aP (fun _ hk => hk.elim) ?aF ?aO ?aB ?aS ?aL ?_; (case aP => exact rfl); (case aB => exact (by repeat (first | (with_reducible first | exact HB.out | apply below_alloc | apply pw_below_drewN | apply below_drew1 | refine below_set ?_ GE108.out | refine below_set ?_ GE116.out | refine below_set ?_ GE117.out | refine below_set ?_ GE130.out) | exact HB.out))); (case aF => exact (fun _ _ => trivial)); (case aO => exact (by (with_reducible repeat (first | apply Kd.R_alloc | apply Kd.R_drewN | apply Kd.R_drew)); exact Kd.R_mono (Kd.R_far (p := ⟨gb130, 2, none⟩) (Kd.R_far (p := ⟨gb130, 1, none⟩) (Kd.R_far (p := ⟨gb130, 0, none⟩) (Kd.R_types HO_8.out BK130.out (by decide)) (fun _ hk => hk.2) (.bool t126)) (fun _ hk => hk.2) (.bool t127)) (fun _ hk => hk.2) (.int .i64 t128)) (fun _ hk => trivial))); (case aS => exact (below_size (by repeat (first | (with_reducible first | exact HB.out | apply below_alloc | apply pw_below_drewN | apply below_drew1 | refine below_set ?_ GE108.out | refine below_set ?_ GE116.out | refine below_set ?_ GE117.out | refine below_set ?_ GE130.out) | exact HB.out)))); (case aL => have := LMc38.out; omega); intro v132 w53 ho hb hg hat; rw [← Ny131.out] at ho; have n0_ := Aside0.mk (blk_grown (g := gb108) (o := .cells #[.int .i64 ((rd_T29 l0 (ji15)).f0), .int .i64 ((rd_T29 l0 (ji15)).f1), .string ((rd_T29 l0 (ji15)).f2), .slice (some ad121) ((rd_T29 l0 (ji15)).f3).length c107_3] 29 (0, 0)) (by (with_reducible repeat (first | refine blk_drewN ?_ _ | refine blk_drew ?_ | refine blk_alloc ?_ _)); refine blk_far ?_ NB108_130.out _; (with_reducible repeat (first | refine blk_drewN ?_ _ | refine blk_drew ?_ | refine blk_alloc ?_ _)); refine blk_far ?_ NB108_130.out _; (with_reducible repeat (first | refine blk_drewN ?_ _ | refine blk_drew ?_ | refine blk_alloc ?_ _)); refine blk_far ?_ NB108_130.out _; (with_reducible repeat (first | refine blk_drewN ?_ _ | refine blk_drew ?_ | refine blk_alloc ?_ _)); exact BK108.out) hg (Kd.R_ne HO_8.out BK108.out (by decide))); have n1_ := Aside0.mk (blk_grown (g := gb116) (o := .cells #[.bool t112, .bool t113, .int .i64 t114] 31 (0, 0)) (by (with_reducible repeat (first | refine blk_drewN ?_ _ | refine blk_drew ?_ | refine blk_alloc ?_ _)); refine blk_far ?_ NB116_130.out _; (with_reducible repeat (first | refine blk_drewN ?_ _ | refine blk_drew ?_ | refine blk_alloc ?_ _)); refine blk_far ?_ NB116_130.out _; (with_reducible repeat (first | refine blk_drewN ?_ _ | refine blk_drew ?_ | refine blk_alloc ?_ _)); refine blk_far ?_ NB116_130.out _; (with_reducible repeat (first | refine blk_drewN ?_ _ | refine blk_drew ?_ | refine blk_alloc ?_ _)); exact BK116.out) hg (Kd.R_ne HO_8.out BK116.out (by decide))); have n2_ := Aside0.mk (blk_grown (g := gb117) (o := .cells #[.bool x118000_2, .bool x118001_2, .int .i64 x118002_2] 31 (0, 0)) (by (with_reducible repeat (first | refine blk_drewN ?_ _ | refine blk_drew ?_ | refine blk_alloc ?_ _)); refine blk_far ?_ NB117_130.out _; (with_reducible repeat (first | refine blk_drewN ?_ _ | refine blk_drew ?_ | refine blk_alloc ?_ _)); refine blk_far ?_ NB117_130.out _; (with_reducible repeat (first | refine blk_drewN ?_ _ | refine blk_drew ?_ | refine blk_alloc ?_ _)); refine blk_far ?_ NB117_130.out _; (with_reducible repeat (first | refine blk_drewN ?_ _ | refine blk_drew ?_ | refine blk_alloc ?_ _)); exact BK117.out) hg (Kd.R_ne HO_8.out BK117.out (by decide))); have n3_ := Aside0.mk (Kd.S_over' (by (with_reducible repeat (first | apply Kd.S_alloc | apply Kd.S_drewN | apply Kd.S_drew)); exact (Kd.S_mono (Kd.S_far (p := ⟨gb130, 2, none⟩) (Kd.S_far (p := ⟨gb130, 1, none⟩) (Kd.S_far (p := ⟨gb130, 0, none⟩) (Kd.S_types HO120.out BK130.out (by decide)) (fun _ hk => hk.2) (.bool t126)) (fun _ hk => hk.2) (.bool t127)) (fun _ hk => hk.2) (.int .i64 t128)) (fun _ h_ => h_.1))) (Kd.R_typed (by (with_reducible repeat (first | apply Kd.R_alloc | apply Kd.R_drewN | apply Kd.R_drew)); exact (Kd.R_mono (Kd.R_far (p := ⟨gb130, 2, none⟩) (Kd.R_far (p := ⟨gb130, 1, none⟩) (Kd.R_far (p := ⟨gb130, 0, none⟩) (Kd.R_types HO_8.out BK130.out (by decide)) (fun _ hk => hk.2) (.bool t126)) (fun _ hk => hk.2) (.bool t127)) (fun _ hk => hk.2) (.int .i64 t128)) (fun _ h_ => h_.1)))) (by decide) hg); have n4_ := Aside0.mk (Kd.S_over' (by (with_reducible repeat (first | apply Kd.S_alloc | apply Kd.S_drewN | apply Kd.S_drew)); exact (Kd.S_mono (Kd.S_far (p := ⟨gb130, 2, none⟩) (Kd.S_far (p := ⟨gb130, 1, none⟩) (Kd.S_far (p := ⟨gb130, 0, none⟩) (Kd.S_types HO125.out BK130.out (by decide)) (fun _ hk => hk.2) (.bool t126)) (fun _ hk => hk.2) (.bool t127)) (fun _ hk => hk.2) (.int .i64 t128)) (fun _ h_ => h_.1))) (Kd.R_typed (by (with_reducible repeat (first | apply Kd.R_alloc | apply Kd.R_drewN | apply Kd.R_drew)); exact (Kd.R_mono (Kd.R_far (p := ⟨gb130, 2, none⟩) (Kd.R_far (p := ⟨gb130, 1, none⟩) (Kd.R_far (p := ⟨gb130, 0, none⟩) (Kd.R_types HO_8.out BK130.out (by decide)) (fun _ hk => hk.2) (.bool t126)) (fun _ hk => hk.2) (.bool t127)) (fun _ hk => hk.2) (.int .i64 t128)) (fun _ h_ => h_.1)))) (by decide) hg); have n5_ := Aside0.mk (blk_grown (g := gb130) (o := .cells #[.bool t126, .bool t127, .int .i64 t128] 31 (0, 0)) (by (with_reducible repeat (first | refine blk_drewN ?_ _ | refine blk_drew ?_ | refine blk_alloc ?_ _)); refine blk_put (cs := #[.bool t126, .bool t127, .int .i64 0]) ?_ 2 _ rfl; (with_reducible repeat (first | refine blk_drewN ?_ _ | refine blk_drew ?_ | refine blk_alloc ?_ _)); refine blk_put (cs := #[.bool t126, .bool false, .int .i64 0]) ?_ 1 _ rfl; (with_reducible repeat (first | refine blk_drewN ?_ _ | refine blk_drew ?_ | refine blk_alloc ?_ _)); refine blk_put (cs := #[.bool false, .bool false, .int .i64 0]) ?_ 0 _ rfl; (with_reducible repeat (first | refine blk_drewN ?_ _ | refine blk_drew ?_ | refine blk_alloc ?_ _)); exact BK130.out) hg (Kd.R_ne HO_8.out BK130.out (by decide))); have n6_ := Aside0.mk (hb); have n7_ := Aside0.mk (ho); clear BK108; clear BK116; clear BK117; clear HO120; clear HO125; clear BK130; clear HB; clear HO_8; have BK108 := n0_; have BK116 := n1_; have BK117 := n2_; have HO120 := n3_; have HO125 := n4_; have BK130 := n5_; have HB := n6_; have HO133 := n7_; clear n0_ n1_ n2_ n3_ n4_ n5_ n6_ n7_; clear ho hb hg hat; have hcz54_0 : w53.cell? ⟨gb130, 0, none⟩ = some (.bool t126) := (blk_cell BK130.out 0).trans rfl; have hcz54_1 : w53.cell? ⟨gb130, 1, none⟩ = some (.bool t127) := (blk_cell BK130.out 1).trans rfl; have hcz54_2 : w53.cell? ⟨gb130, 2, none⟩ = some (.int .i64 t128) := (blk_cell BK130.out 2).trans rfl; have hfz54_0 := blk_frozen BK130.out 0; have hfz54_1 := blk_frozen BK130.out 1; have hfz54_2 := blk_frozen BK130.out 2; have hnb55 := NB117_116.out; have hnc55 := NB116_117.out; have hcz56_0 : w53.cell? ⟨gb117, 0, none⟩ = some (.bool x118000_2) := (blk_cell BK117.out 0).trans rfl; have hcz56_1 : w53.cell? ⟨gb117, 1, none⟩ = some (.bool x118001_2) := (blk_cell BK117.out 1).trans rfl; have hcz56_2 : w53.cell? ⟨gb117, 2, none⟩ = some (.int .i64 x118002_2) := (blk_cell BK117.out 2).trans rfl; have hfz56_0 := blk_frozen BK117.out 0; have hfz56_1 := blk_frozen BK117.out 1; have hfz56_2 := blk_frozen BK117.out 2))
              go_roundg k2
              case measure => have := HJ1.out; have := HK2.out; omega
              case rel => exact ⟨(t126), (t127), (y131), (wrap64 (x10_2 + 1)), (t126), (t127), (t128), (by first | rfl | (simp; done) | (simp [*]; done)), (by first | rfl | (simp; done) | (simp [*]; done)), (by first | rfl | (simp; done) | (simp [*]; done)), H', ⟨by have := HJ1.out; have := HK2.out; omega⟩, ⟨by (with_reducible repeat (first | apply Kd.R_alloc | apply Kd.R_drewN | apply Kd.R_drew)); exact Kd.R_mono (Kd.R_far (p := ⟨gb117, 2, none⟩) (Kd.R_far (p := ⟨gb117, 1, none⟩) (Kd.R_far (p := ⟨gb117, 0, none⟩) (Kd.R_types HO133.out BK117.out (by decide)) (fun _ hk => hk.2) (.bool t126)) (fun _ hk => hk.2) (.bool t127)) (fun _ hk => hk.2) (.int .i64 t128)) (fun _ hk => trivial)⟩, ⟨by (with_reducible repeat (first | refine blk_drewN ?_ _ | refine blk_drew ?_ | refine blk_alloc ?_ _)); refine blk_far ?_ NB108_117.out _; (with_reducible repeat (first | refine blk_drewN ?_ _ | refine blk_drew ?_ | refine blk_alloc ?_ _)); refine blk_far ?_ NB108_117.out _; (with_reducible repeat (first | refine blk_drewN ?_ _ | refine blk_drew ?_ | refine blk_alloc ?_ _)); refine blk_far ?_ NB108_117.out _; (with_reducible repeat (first | refine blk_drewN ?_ _ | refine blk_drew ?_ | refine blk_alloc ?_ _)); exact BK108.out⟩, ⟨by (with_reducible repeat (first | refine blk_drewN ?_ _ | refine blk_drew ?_ | refine blk_alloc ?_ _)); refine blk_far ?_ NB116_117.out _; (with_reducible repeat (first | refine blk_drewN ?_ _ | refine blk_drew ?_ | refine blk_alloc ?_ _)); refine blk_far ?_ NB116_117.out _; (with_reducible repeat (first | refine blk_drewN ?_ _ | refine blk_drew ?_ | refine blk_alloc ?_ _)); refine blk_far ?_ NB116_117.out _; (with_reducible repeat (first | refine blk_drewN ?_ _ | refine blk_drew ?_ | refine blk_alloc ?_ _)); exact BK116.out⟩, ⟨by (with_reducible repeat (first | refine blk_drewN ?_ _ | refine blk_drew ?_ | refine blk_alloc ?_ _)); refine blk_put (cs := #[.bool t126, .bool t127, .int .i64 x118002_2]) ?_ 2 _ rfl; (with_reducible repeat (first | refine blk_drewN ?_ _ | refine blk_drew ?_ | refine blk_alloc ?_ _)); refine blk_put (cs := #[.bool t126, .bool x118001_2, .int .i64 x118002_2]) ?_ 1 _ rfl; (with_reducible repeat (first | refine blk_drewN ?_ _ | refine blk_drew ?_ | refine blk_alloc ?_ _)); refine blk_put (cs := #[.bool x118000_2, .bool x118001_2, .int .i64 x118002_2]) ?_ 0 _ rfl; (with_reducible repeat (first | refine blk_drewN ?_ _ | refine blk_drew ?_ | refine blk_alloc ?_ _)); exact BK117.out⟩, ⟨by repeat (first | (with_reducible first | exact HB.out | apply below_alloc | apply pw_below_drewN | apply below_drew1 | refine below_set ?_ GE108.out | refine below_set ?_ GE116.out | refine below_set ?_ GE117.out | refine below_set ?_ GE130.out) | exact HB.out)⟩⟩
             ·rw [if_neg c38] at H
              exact absurd H (by simp)
            ·replace c37 := Bool.eq_false_iff.mpr c37
             subst c37
             have H1 : (if x8_2.length < 17592186044416 then (sorrellaw13_FactsParts.l0 k2 l0 t126 false (x8_2 ++ [t128]) (wrap64 (x10_2 + 1)) ((rd_T29 l0 (ji15)).f0) ((rd_T29 l0 (ji15)).f1) ((rd_T29 l0 (ji15)).f2) ((rd_T29 l0 (ji15)).f3) t112 t113 t114 t126 t127 t128) else (none)) = some r := by rw [if_neg (show ¬ (false = true) by decide)] at H; exact H
             clear H
             have H := H1
             clear H1
             by_cases c57 : x8_2.length < 17592186044416
             ·rw [if_pos c57] at H
              have LMc57 := Aside0.mk c57
              clear c57
              obtain ⟨y134, hy134⟩ : ∃ y_ : List Int, y_ = (x8_2 ++ [t128]) := ⟨_, rfl⟩
              replace H : (sorrellaw13_FactsParts.l0 k2 l0 t126 false y134 (wrap64 (x10_2 + 1)) ((rd_T29 l0 (ji15)).f0) ((rd_T29 l0 (ji15)).f1) ((rd_T29 l0 (ji15)).f2) ((rd_T29 l0 (ji15)).f3) t112 t113 t114 t126 t127 t128) = some r := by first | (rw [hy134]; with_reducible exact H) | (have H2_ := (Option.bind_some _ _).symm.trans H; rw [hy134]; with_reducible exact H2_) | (have H2_ := (Option.bind_some _ _).symm.trans H; with_reducible exact H2_) | with_reducible exact H | (rw [hy134]; exact H) | exact H
              have Ny134 := Aside0.mk hy134
              clear hy134
              have H' := Aside0.mk H
              clear H
              have hnb58 := NB108_116.out
              have hnc58 := NB116_108.out
              have hnb59 := NB108_117.out
              have hnc59 := NB117_108.out
              have hcz60_0 : wr.cell? ⟨gb108, 0, none⟩ = some (.int .i64 ((rd_T29 l0 (ji15)).f0)) := (blk_cell BK108.out 0).trans rfl
              have hcz60_1 : wr.cell? ⟨gb108, 1, none⟩ = some (.int .i64 ((rd_T29 l0 (ji15)).f1)) := (blk_cell BK108.out 1).trans rfl
              have hcz60_2 : wr.cell? ⟨gb108, 2, none⟩ = some (.string ((rd_T29 l0 (ji15)).f2)) := (blk_cell BK108.out 2).trans rfl
              have hcz60_3 : wr.cell? ⟨gb108, 3, none⟩ = some (.slice A107_3 ((rd_T29 l0 (ji15)).f3).length c107_3) := (blk_cell BK108.out 3).trans rfl
              have hfz60_0 := blk_frozen BK108.out 0
              have hfz60_1 := blk_frozen BK108.out 1
              have hfz60_2 := blk_frozen BK108.out 2
              have hfz60_3 := blk_frozen BK108.out 3
              try go_wp2
              have n0_ := Aside0.mk (Kd.R_drew HO_8.out)
              have n1_ := Aside0.mk (blk_drew BK108.out)
              have n2_ := Aside0.mk (blk_drew BK116.out)
              have n3_ := Aside0.mk (blk_drew BK117.out)
              have n4_ := Aside0.mk (below_drew1 HB.out)
              clear HO_8
              clear BK108
              clear BK116
              clear BK117
              clear HB
              have HO_8 := n0_
              have BK108 := n1_
              have BK116 := n2_
              have BK117 := n3_
              have HB := n4_
              clear n0_ n1_ n2_ n3_ n4_
              have p121 : 0 ≤ (x10_2 : Int) := of_decide_eq_true (by first | (with_reducible assumption) | assumption)
              have q121 : x10_2 < (((rd_T29 l0 (ji15)).f3).length : Int) := of_decide_eq_true (by first | (with_reducible assumption) | assumption)
              obtain ⟨ad121, e121, hx121_0⟩ := Kd.at_int HR107_3.out x10_2 p121 q121
              have hw121_0 := hx121_0
              cases e121
              replace hx121_0 := (HB.out.cell (World.block_lt_of_cell? w _ hx121_0)).trans hx121_0
              replace p121 := eq_true p121
              replace q121 := eq_true q121
              refine start_ (n := 13) (S := fun w' => w'.cell? ⟨gb108, 0, none⟩ = some (.int .i64 ((rd_T29 l0 (ji15)).f0)) ∧ w'.cell? ⟨gb108, 1, none⟩ = some (.int .i64 ((rd_T29 l0 (ji15)).f1)) ∧ w'.cell? ⟨gb108, 2, none⟩ = some (.string ((rd_T29 l0 (ji15)).f2)) ∧ w'.cell? ⟨gb108, 3, none⟩ = some (.slice (some ad121) ((rd_T29 l0 (ji15)).f3).length c107_3) ∧ w'.cell? (ad121.add (x10_2).toNat) = some (.int .i64 (rd ((rd_T29 l0 (ji15)).f3) x10_2))) (ds := []) #[false, false, false, false, false, false, false, false, false, false, false, false, false] (by kernel_rfl) rfl rfl ⟨(blk_cell BK108.out 0).trans rfl, (blk_cell BK108.out 1).trans rfl, (blk_cell BK108.out 2).trans rfl, (blk_cell BK108.out 3).trans rfl, ((HB.out.cell (World.block_lt_of_cell? w _ hw121_0)).trans hw121_0)⟩ (fun hHeld => ?_); refine with_tabW sorrellaw13_FactsParts.tab12 sorrellaw13_FactsParts.bits12 (fun HT_ HW_ => ?_)
              generalize wr.drew = w61 at HO_8 BK108 BK116 BK117 HB hx121_0 hHeld ⊢
              refine pure_ (i := 0) (N := some 50) (v := ?_) (a' := ?_) #[true, false, false, false, false, false, false, false, false, false, false, false, false] rfl rfl (any_of HT_.out (by kernel_rfl)) (fun _ _ _ h => h) (Or.inl ⟨by rfl, ?_⟩) ?_ ?_
              rotate_left
              ·intro w'
               go_simp
               with_reducible rfl
              rotate_left
              ·simp only [Act.put, List.setIfInBounds_toArray, List.set_cons_zero, List.set_cons_succ, i64_w, i32_w]
               rfl
              refine pure_ (i := 2) (N := some 52) (v := ?_) (a' := ?_) #[true, false, true, false, false, false, false, false, false, false, false, false, false] rfl rfl (any_of HT_.out (by kernel_rfl)) (fun _ _ _ h => h) (Or.inl ⟨by rfl, ?_⟩) ?_ ?_
              rotate_left
              ·intro w'
               go_simp
               with_reducible rfl
              rotate_left
              ·simp only [Act.put, List.setIfInBounds_toArray, List.set_cons_zero, List.set_cons_succ, i64_w, i32_w]
               rfl
              refine pure_ (i := 4) (N := some 54) (v := ?_) (a' := ?_) #[true, false, true, false, true, false, false, false, false, false, false, false, false] rfl rfl (any_of HT_.out (by kernel_rfl)) (fun _ _ _ h => h) (Or.inl ⟨by rfl, ?_⟩) ?_ ?_
              rotate_left
              ·intro w'
               go_simp
               with_reducible rfl
              rotate_left
              ·simp only [Act.put, List.setIfInBounds_toArray, List.set_cons_zero, List.set_cons_succ, i64_w, i32_w]
               rfl
              refine take_ (i := 3) (N := some 53) (v := ?_) (a' := ?_) #[true, false, true, true, true, false, false, false, false, false, false, false, false] rfl rfl (take_ofW HT_.out HW_.out (by kernel_rfl)) (fun _ _ _ h => h) (Or.inl ⟨by rfl, ?_⟩) hHeld ?_ ?_
              rotate_left
              ·rintro w' ⟨s0, s1, s2, s3, s4⟩
               go_simp
               with_reducible rfl
              rotate_left
              ·simp only [Act.put, List.setIfInBounds_toArray, List.set_cons_zero, List.set_cons_succ, i64_w, i32_w]
               rfl
              refine pure_ (i := 5) (N := some 55) (v := ?_) (a' := ?_) #[true, false, true, true, true, true, false, false, false, false, false, false, false] rfl rfl (any_of HT_.out (by kernel_rfl)) (fun _ _ _ h => h) (Or.inl ⟨by rfl, ?_⟩) ?_ ?_
              rotate_left
              ·intro w'
               go_simp
               with_reducible rfl
              rotate_left
              ·simp only [Act.put, List.setIfInBounds_toArray, List.set_cons_zero, List.set_cons_succ, i64_w, i32_w]
               rfl
              refine take_ (i := 6) (N := some 56) (v := ?_) (a' := ?_) #[true, false, true, true, true, true, true, false, false, false, false, false, false] rfl rfl (take_ofW HT_.out HW_.out (by kernel_rfl)) (fun _ _ _ h => h) (Or.inl ⟨by rfl, ?_⟩) hHeld ?_ ?_
              rotate_left
              ·rintro w' ⟨s0, s1, s2, s3, s4⟩
               go_simp
               with_reducible rfl
              rotate_left
              ·simp only [Act.put, List.setIfInBounds_toArray, List.set_cons_zero, List.set_cons_succ, i64_w, i32_w]
               rfl
              refine one_ (i := 1) (N := some 51) #[true, true, true, true, true, true, true, false, false, false, false, false, false] rfl rfl (one_of HT_.out (by kernel_rfl)) (by decide) (fun K hK => ?_)
              refine goes_ Tryd.func8 (by kernel_rfl) rfl #[.slice (some ad107) l0.length c0] (by rfl) rfl rfl (by (try simp only [List.map_toArray, List.map_cons, List.map_nil]); first | done | rfl | (simp only [List.length_drop, List.length_take]; rfl)) ?_
              with_reducible refine (sorrelref02_Copy.calls k2 _ _ l0 t118 _ ?side1 ?side2 A31.out).mono ?_
              (case side1 => repeat (first | exact (Kd.C_below HR0.out HB.out) | (with_reducible refine Kd.C_alloc ?_ _) | (with_reducible refine Kd.C_drewN ?_ _) | (with_reducible refine Kd.C_drew ?_)))
              (case side2 => exact HC0.out)
              rintro e w62 ⟨v119, rfl, ho0, hb⟩
              refine ⟨_, rfl, ?_⟩
              have n0_ := Aside0.mk (Kd.R_below (by (with_reducible repeat (first | apply Kd.R_alloc | apply Kd.R_drewN | apply Kd.R_drew)); exact HO_8.out) hb)
              have n1_ := Aside0.mk (Kd.S_lower (Kd.S_newB ho0 (g := gb108) (o := .cells #[.int .i64 ((rd_T29 l0 (ji15)).f0), .int .i64 ((rd_T29 l0 (ji15)).f1), .string ((rd_T29 l0 (ji15)).f2), .slice (some ad121) ((rd_T29 l0 (ji15)).f3).length c107_3] 29 (0, 0)) (by (with_reducible repeat (first | refine blk_drewN ?_ _ | refine blk_drew ?_ | refine blk_alloc ?_ _)); exact BK108.out)) (below_size (by repeat (first | (with_reducible first | exact HB.out | apply below_alloc | apply pw_below_drewN | apply below_drew1 | refine below_set ?_ GE108.out | refine below_set ?_ GE116.out | refine below_set ?_ GE117.out) | exact HB.out))))
              have n2_ := Aside0.mk (blk_below (g := gb108) (o := .cells #[.int .i64 ((rd_T29 l0 (ji15)).f0), .int .i64 ((rd_T29 l0 (ji15)).f1), .string ((rd_T29 l0 (ji15)).f2), .slice (some ad121) ((rd_T29 l0 (ji15)).f3).length c107_3] 29 (0, 0)) (by (with_reducible repeat (first | refine blk_drewN ?_ _ | refine blk_drew ?_ | refine blk_alloc ?_ _)); exact BK108.out) hb)
              have n3_ := Aside0.mk (blk_below (g := gb116) (o := .cells #[.bool t112, .bool t113, .int .i64 t114] 31 (0, 0)) (by (with_reducible repeat (first | refine blk_drewN ?_ _ | refine blk_drew ?_ | refine blk_alloc ?_ _)); exact BK116.out) hb)
              have n4_ := Aside0.mk (blk_below (g := gb117) (o := .cells #[.bool x118000_2, .bool x118001_2, .int .i64 x118002_2] 31 (0, 0)) (by (with_reducible repeat (first | refine blk_drewN ?_ _ | refine blk_drew ?_ | refine blk_alloc ?_ _)); exact BK117.out) hb)
              have n5_ := Aside0.mk (below_step (by repeat (first | (with_reducible first | exact HB.out | apply below_alloc | apply pw_below_drewN | apply below_drew1 | refine below_set ?_ GE108.out | refine below_set ?_ GE116.out | refine below_set ?_ GE117.out) | exact HB.out)) hb)
              clear HO_8
              clear BK108
              clear BK116
              clear BK117
              clear HB
              have HO_8 := n0_
              have HO120 := n1_
              have BK108 := n2_
              have BK116 := n3_
              have BK117 := n4_
              have HB := n5_
              clear n0_ n1_ n2_ n3_ n4_ n5_
              (try clear hb)
              (try clear hb2)
              (try clear hk)
              (try clear hi)
              (try clear ho0)
              obtain ⟨Ao63, co63, eo63⟩ := Kd.S_slice HO120.out
              (first | subst eo63 | (injection eo63 with f1_ f2_ f3_; have f4_ := f1_.symm; have f5_ := f3_.symm; clear f1_ f2_ f3_; subst f4_; subst f5_))
              refine hK.out _ _ ⟨(blk_cell BK108.out 0).trans rfl, (blk_cell BK108.out 1).trans rfl, (blk_cell BK108.out 2).trans rfl, (blk_cell BK108.out 3).trans rfl, ((HB.out.cell (World.block_lt_of_cell? w _ hw121_0)).trans hw121_0)⟩ (fun hHeld => ?_)
              clear hK K
              refine norm_ (a' := ?_) ?_ ?_
              rotate_left
              ·show Act.put _ (some 51) _ = _
               simp only [Act.put, List.setIfInBounds_toArray, List.set_cons_zero, List.set_cons_succ, i64_w, i32_w]
               rfl
              refine one_ (i := 7) (N := some 57) #[true, true, true, true, true, true, true, true, false, false, false, false, false] rfl rfl (one_of HT_.out (by kernel_rfl)) (by decide) (fun K hK => ?_)
              refine goes_ Tryd.func10 (by kernel_rfl) rfl #[.slice Ao63 t118.length co63, .int .i64 (rd ((rd_T29 l0 (ji15)).f3) x10_2)] (by rfl) rfl rfl (by (try simp only [List.map_toArray, List.map_cons, List.map_nil]); first | done | (simp only [hji15]; rfl) | rfl | (simp only [List.length_drop, List.length_take]; rfl)) ?_
              with_reducible refine (expr_Part.calls k2 _ _ t118 (rd ((rd_T29 l0 (ji15)).f3) x10_2) t122 t123 _ ?side1 ?side2 ?side3 A33.out).mono ?_
              (case side1 => repeat (first | exact (Kd.S_reads' HO120.out).2.2 | (with_reducible refine Kd.C_alloc ?_ _) | (with_reducible refine Kd.C_drewN ?_ _) | (with_reducible refine Kd.C_drew ?_)))
              (case side2 => exact (Kd.S_reads' HO120.out).2.1)
              (case side3 => first | exact HG.out | exact Glob.below HG.out (by repeat (first | (with_reducible first | exact HB.out | apply below_alloc | apply pw_below_drewN | apply below_drew1 | refine below_set ?_ GE108.out | refine below_set ?_ GE116.out | refine below_set ?_ GE117.out) | exact HB.out)) | (repeat (first | exact HG.out | refine Glob.dr ?_ _)))
              rintro e w64 ⟨v124, rfl, ho0, hb⟩
              refine ⟨_, rfl, ?_⟩
              have n0_ := Aside0.mk (Kd.R_below (by (with_reducible repeat (first | apply Kd.R_alloc | apply Kd.R_drewN | apply Kd.R_drew)); exact HO_8.out) hb)
              have n1_ := Aside0.mk (Kd.S_elder' (by (with_reducible repeat (first | apply Kd.S_alloc | apply Kd.S_drewN | apply Kd.S_drew)); exact HO120.out) (Kd.S_base ho0) hb)
              have n2_ := Aside0.mk (Kd.S_lower (Kd.S_newB (Kd.S_new' ho0 (Kd.S_lt (by (with_reducible repeat (first | apply Kd.S_alloc | apply Kd.S_drewN | apply Kd.S_drew)); exact HO120.out))) (g := gb108) (o := .cells #[.int .i64 ((rd_T29 l0 (ji15)).f0), .int .i64 ((rd_T29 l0 (ji15)).f1), .string ((rd_T29 l0 (ji15)).f2), .slice (some ad121) ((rd_T29 l0 (ji15)).f3).length c107_3] 29 (0, 0)) (by (with_reducible repeat (first | refine blk_drewN ?_ _ | refine blk_drew ?_ | refine blk_alloc ?_ _)); exact BK108.out)) (below_size (by repeat (first | (with_reducible first | exact HB.out | apply below_alloc | apply pw_below_drewN | apply below_drew1 | refine below_set ?_ GE108.out | refine below_set ?_ GE116.out | refine below_set ?_ GE117.out) | exact HB.out))))
              have n3_ := Aside0.mk (blk_below (g := gb108) (o := .cells #[.int .i64 ((rd_T29 l0 (ji15)).f0), .int .i64 ((rd_T29 l0 (ji15)).f1), .string ((rd_T29 l0 (ji15)).f2), .slice (some ad121) ((rd_T29 l0 (ji15)).f3).length c107_3] 29 (0, 0)) (by (with_reducible repeat (first | refine blk_drewN ?_ _ | refine blk_drew ?_ | refine blk_alloc ?_ _)); exact BK108.out) hb)
              have n4_ := Aside0.mk (blk_below (g := gb116) (o := .cells #[.bool t112, .bool t113, .int .i64 t114] 31 (0, 0)) (by (with_reducible repeat (first | refine blk_drewN ?_ _ | refine blk_drew ?_ | refine blk_alloc ?_ _)); exact BK116.out) hb)
              have n5_ := Aside0.mk (blk_below (g := gb117) (o := .cells #[.bool x118000_2, .bool x118001_2, .int .i64 x118002_2] 31 (0, 0)) (by (with_reducible repeat (first | refine blk_drewN ?_ _ | refine blk_drew ?_ | refine blk_alloc ?_ _)); exact BK117.out) hb)
              have n6_ := Aside0.mk (below_step (by repeat (first | (with_reducible first | exact HB.out | apply below_alloc | apply pw_below_drewN | apply below_drew1 | refine below_set ?_ GE108.out | refine below_set ?_ GE116.out | refine below_set ?_ GE117.out) | exact HB.out)) hb)
              clear HO_8
              clear HO120
              clear BK108
              clear BK116
              clear BK117
              clear HB
              have HO_8 := n0_
              have HO120 := n1_
              have HO125 := n2_
              have BK108 := n3_
              have BK116 := n4_
              have BK117 := n5_
              have HB := n6_
              clear n0_ n1_ n2_ n3_ n4_ n5_ n6_
              (try clear hb)
              (try clear hb2)
              (try clear hk)
              (try clear hi)
              (try clear ho0)
              refine hK.out _ _ ⟨(blk_cell BK108.out 0).trans rfl, (blk_cell BK108.out 1).trans rfl, (blk_cell BK108.out 2).trans rfl, (blk_cell BK108.out 3).trans rfl, ((HB.out.cell (World.block_lt_of_cell? w _ hw121_0)).trans hw121_0)⟩ (fun hHeld => ?_)
              clear hK K
              refine norm_ (a' := ?_) ?_ ?_
              rotate_left
              ·show Act.put _ (some 57) _ = _
               simp only [Act.put, List.setIfInBounds_toArray, List.set_cons_zero, List.set_cons_succ, i64_w, i32_w]
               rfl
              refine pure_ (i := 8) (N := some 49) (v := ?_) (a' := ?_) #[true, true, true, true, true, true, true, true, true, false, false, false, false] rfl rfl (any_of HT_.out (by kernel_rfl)) (fun _ _ _ h => h) (Or.inl ⟨by rfl, ?_⟩) ?_ ?_
              rotate_left
              ·intro w'
               go_simp
               with_reducible rfl
              rotate_left
              ·simp only [Act.put, List.setIfInBounds_toArray, List.set_cons_zero, List.set_cons_succ, i64_w, i32_w]
               rfl
              refine pure_ (i := 9) (N := some 58) (v := ?_) (a' := ?_) #[true, true, true, true, true, true, true, true, true, true, false, false, false] rfl rfl (any_of HT_.out (by kernel_rfl)) (fun _ _ _ h => h) (Or.inl ⟨by rfl, ?_⟩) ?_ ?_
              rotate_left
              ·intro w'
               go_simp
               with_reducible rfl
              rotate_left
              ·simp only [Act.put, List.setIfInBounds_toArray, List.set_cons_zero, List.set_cons_succ, i64_w, i32_w]
               rfl
              refine pure_ (i := 10) (N := some 59) (v := ?_) (a' := ?_) #[true, true, true, true, true, true, true, true, true, true, true, false, false] rfl rfl (any_of HT_.out (by kernel_rfl)) (fun _ _ _ h => h) (Or.inl ⟨by rfl, ?_⟩) ?_ ?_
              rotate_left
              ·intro w'
               go_simp
               with_reducible rfl
              rotate_left
              ·simp only [Act.put, List.setIfInBounds_toArray, List.set_cons_zero, List.set_cons_succ, i64_w, i32_w]
               rfl
              refine pure_ (i := 11) (N := some 11) (v := ?_) (a' := ?_) #[true, true, true, true, true, true, true, true, true, true, true, true, false] rfl rfl (any_of HT_.out (by kernel_rfl)) (fun _ _ _ h => h) (Or.inl ⟨by rfl, ?_⟩) ?_ ?_
              rotate_left
              ·intro w'
               go_simp
               with_reducible rfl
              rotate_left
              ·simp only [Act.put, List.setIfInBounds_toArray, List.set_cons_zero, List.set_cons_succ, i64_w, i32_w]
               rfl
              refine pure_ (i := 12) (N := some 12) (v := ?_) (a' := ?_) #[true, true, true, true, true, true, true, true, true, true, true, true, true] rfl rfl (any_of HT_.out (by kernel_rfl)) (fun _ _ _ h => h) (Or.inl ⟨by rfl, ?_⟩) ?_ ?_
              rotate_left
              ·intro w'
               go_simp
               with_reducible rfl
              rotate_left
              ·simp only [Act.put, List.setIfInBounds_toArray, List.set_cons_zero, List.set_cons_succ, i64_w, i32_w]
               rfl
              refine done_ (done_of HT_.out (by kernel_rfl)) ?_
              obtain ⟨Ao65, co65, eo65⟩ := Kd.S_slice HO125.out
              subst eo65
              try go_wp2_with (first | ((with_reducible refine gate_callee (f := 9) rfl ?_); refine goesL_ (some 62) rfl rfl Tryd.func9 (by kernel_rfl) rfl #[.slice Ao65 t122.length co65] rfl (by (try simp only [List.map_toArray, List.map_cons, List.map_nil]); first | done | rfl | (simp only [List.length_drop, List.length_take]; rfl)) ?_; (with_reducible refine (facts_Of.calls k2 _ _ t122 t126 t127 t128 t129 _ ?side1 ?side2 ?side3 A34.out).mono ?_); (case side1 => repeat (first | exact (Kd.S_reads' HO125.out).2.2 | (with_reducible refine Kd.C_alloc ?_ _) | (with_reducible refine Kd.C_drewN ?_ _) | (with_reducible refine Kd.C_drew ?_))); (case side2 => exact (Kd.S_reads' HO125.out).2.1); (case side3 => first | exact HG.out | exact Glob.below HG.out (by repeat (first | (with_reducible first | exact HB.out | apply below_alloc | apply pw_below_drewN | apply below_drew1 | refine below_set ?_ GE108.out | refine below_set ?_ GE116.out | refine below_set ?_ GE117.out) | exact HB.out)) | (repeat (first | exact HG.out | refine Glob.dr ?_ _))); rintro e w66 ⟨rfl, hb⟩; refine ⟨_, rfl, ?_⟩; have n0_ := Aside0.mk (Kd.R_below (by (with_reducible repeat (first | apply Kd.R_alloc | apply Kd.R_drewN | apply Kd.R_drew)); exact HO_8.out) hb); have n1_ := Aside0.mk (Kd.S_below (by (with_reducible repeat (first | apply Kd.S_alloc | apply Kd.S_drewN | apply Kd.S_drew)); exact HO120.out) hb); have n2_ := Aside0.mk (Kd.S_below (by (with_reducible repeat (first | apply Kd.S_alloc | apply Kd.S_drewN | apply Kd.S_drew)); exact HO125.out) hb); have n3_ := Aside0.mk (blk_below (g := gb108) (o := .cells #[.int .i64 ((rd_T29 l0 (ji15)).f0), .int .i64 ((rd_T29 l0 (ji15)).f1), .string ((rd_T29 l0 (ji15)).f2), .slice (some ad121) ((rd_T29 l0 (ji15)).f3).length c107_3] 29 (0, 0)) (by (with_reducible repeat (first | refine blk_drewN ?_ _ | refine blk_drew ?_ | refine blk_alloc ?_ _)); exact BK108.out) hb); have n4_ := Aside0.mk (blk_below (g := gb116) (o := .cells #[.bool t112, .bool t113, .int .i64 t114] 31 (0, 0)) (by (with_reducible repeat (first | refine blk_drewN ?_ _ | refine blk_drew ?_ | refine blk_alloc ?_ _)); exact BK116.out) hb); have n5_ := Aside0.mk (blk_below (g := gb117) (o := .cells #[.bool x118000_2, .bool x118001_2, .int .i64 x118002_2] 31 (0, 0)) (by (with_reducible repeat (first | refine blk_drewN ?_ _ | refine blk_drew ?_ | refine blk_alloc ?_ _)); exact BK117.out) hb); have n6_ := Aside0.mk (below_step (by repeat (first | (with_reducible first | exact HB.out | apply below_alloc | apply pw_below_drewN | apply below_drew1 | refine below_set ?_ GE108.out | refine below_set ?_ GE116.out | refine below_set ?_ GE117.out) | exact HB.out)) hb); clear HO_8; clear HO120; clear HO125; clear BK108; clear BK116; clear BK117; clear HB; have HO_8 := n0_; have HO120 := n1_; have HO125 := n2_; have BK108 := n3_; have BK116 := n4_; have BK117 := n5_; have HB := n6_; clear n0_ n1_ n2_ n3_ n4_ n5_ n6_; (try clear hb); (try clear hb2); (try clear hk); (try clear hi)) | ((with_reducible refine gate_dst (N := 13) rfl ?_); refine box_event ?hg (N := 13) ?hd (cs := #[.bool false, .bool false, .int .i64 0]) (t := 31) ?hr ?_; (case hd => rfl); (case hg => rfl); (case hr => first | (go_simp; done) | (go_simp; rfl)); intro gb130 hg w67 hbox hb; have n0_ := Aside0.mk (Kd.R_below (by (with_reducible repeat (first | apply Kd.R_alloc | apply Kd.R_drewN | apply Kd.R_drew)); exact HO_8.out) hb); have n1_ := Aside0.mk (Kd.S_below (by (with_reducible repeat (first | apply Kd.S_alloc | apply Kd.S_drewN | apply Kd.S_drew)); exact HO120.out) hb); have n2_ := Aside0.mk (Kd.S_below (by (with_reducible repeat (first | apply Kd.S_alloc | apply Kd.S_drewN | apply Kd.S_drew)); exact HO125.out) hb); have n3_ := Aside0.mk (blk_below (g := gb108) (o := .cells #[.int .i64 ((rd_T29 l0 (ji15)).f0), .int .i64 ((rd_T29 l0 (ji15)).f1), .string ((rd_T29 l0 (ji15)).f2), .slice (some ad121) ((rd_T29 l0 (ji15)).f3).length c107_3] 29 (0, 0)) (by (with_reducible repeat (first | refine blk_drewN ?_ _ | refine blk_drew ?_ | refine blk_alloc ?_ _)); exact BK108.out) hb); have n4_ := Aside0.mk (blk_below (g := gb116) (o := .cells #[.bool t112, .bool t113, .int .i64 t114] 31 (0, 0)) (by (with_reducible repeat (first | refine blk_drewN ?_ _ | refine blk_drew ?_ | refine blk_alloc ?_ _)); exact BK116.out) hb); have n5_ := Aside0.mk (blk_below (g := gb117) (o := .cells #[.bool x118000_2, .bool x118001_2, .int .i64 x118002_2] 31 (0, 0)) (by (with_reducible repeat (first | refine blk_drewN ?_ _ | refine blk_drew ?_ | refine blk_alloc ?_ _)); exact BK117.out) hb); have n6_ := Aside0.mk (below_step (by repeat (first | (with_reducible first | exact HB.out | apply below_alloc | apply pw_below_drewN | apply below_drew1 | refine below_set ?_ GE108.out | refine below_set ?_ GE116.out | refine below_set ?_ GE117.out) | exact HB.out)) hb); have n7_ := Aside0.mk (hbox); have n8_ := Aside0.mk ((by rw [hg]; exact (below_size (by repeat (first | (with_reducible first | exact HB.out | apply below_alloc | apply pw_below_drewN | apply below_drew1 | refine below_set ?_ GE108.out | refine below_set ?_ GE116.out | refine below_set ?_ GE117.out) | exact HB.out))) : w.heap.size ≤ gb130)); have n9_ := Aside0.mk ((by rw [hg]; exact (below_size (by repeat (first | (with_reducible first | exact HB.out | apply below_alloc | apply pw_below_drewN | apply below_drew1 | refine below_set ?_ GE108.out | refine below_set ?_ GE116.out | refine below_set ?_ GE117.out) | exact HB.out))) : w.heap.size ≤ gb130)); have n10_ := Aside0.mk ((by rw [hg]; exact Nat.ne_of_lt (blk_lt (g := gb108) (o := .cells #[.int .i64 ((rd_T29 l0 (ji15)).f0), .int .i64 ((rd_T29 l0 (ji15)).f1), .string ((rd_T29 l0 (ji15)).f2), .slice (some ad121) ((rd_T29 l0 (ji15)).f3).length c107_3] 29 (0, 0)) (by (with_reducible repeat (first | refine blk_drewN ?_ _ | refine blk_drew ?_ | refine blk_alloc ?_ _)); exact BK108.out)) : gb108 ≠ gb130)); have n11_ := Aside0.mk ((by rw [hg]; exact Nat.ne_of_gt (blk_lt (g := gb108) (o := .cells #[.int .i64 ((rd_T29 l0 (ji15)).f0), .int .i64 ((rd_T29 l0 (ji15)).f1), .string ((rd_T29 l0 (ji15)).f2), .slice (some ad121) ((rd_T29 l0 (ji15)).f3).length c107_3] 29 (0, 0)) (by (with_reducible repeat (first | refine blk_drewN ?_ _ | refine blk_drew ?_ | refine blk_alloc ?_ _)); exact BK108.out)) : gb130 ≠ gb108)); have n12_ := Aside0.mk ((by rw [hg]; exact Nat.ne_of_lt (blk_lt (g := gb116) (o := .cells #[.bool t112, .bool t113, .int .i64 t114] 31 (0, 0)) (by (with_reducible repeat (first | refine blk_drewN ?_ _ | refine blk_drew ?_ | refine blk_alloc ?_ _)); exact BK116.out)) : gb116 ≠ gb130)); have n13_ := Aside0.mk ((by rw [hg]; exact Nat.ne_of_gt (blk_lt (g := gb116) (o := .cells #[.bool t112, .bool t113, .int .i64 t114] 31 (0, 0)) (by (with_reducible repeat (first | refine blk_drewN ?_ _ | refine blk_drew ?_ | refine blk_alloc ?_ _)); exact BK116.out)) : gb130 ≠ gb116)); have n14_ := Aside0.mk ((by rw [hg]; exact Nat.ne_of_lt (blk_lt (g := gb117) (o := .cells #[.bool x118000_2, .bool x118001_2, .int .i64 x118002_2] 31 (0, 0)) (by (with_reducible repeat (first | refine blk_drewN ?_ _ | refine blk_drew ?_ | refine blk_alloc ?_ _)); exact BK117.out)) : gb117 ≠ gb130)); have n15_ := Aside0.mk ((by rw [hg]; exact Nat.ne_of_gt (blk_lt (g := gb117) (o := .cells #[.bool x118000_2, .bool x118001_2, .int .i64 x118002_2] 31 (0, 0)) (by (with_reducible repeat (first | refine blk_drewN ?_ _ | refine blk_drew ?_ | refine blk_alloc ?_ _)); exact BK117.out)) : gb130 ≠ gb117)); clear HO_8; clear HO120; clear HO125; clear BK108; clear BK116; clear BK117; clear HB; have HO_8 := n0_; have HO120 := n1_; have HO125 := n2_; have BK108 := n3_; have BK116 := n4_; have BK117 := n5_; have HB := n6_; have BK130 := n7_; have GW130 := n8_; have GE130 := n9_; have NB108_130 := n10_; have NB130_108 := n11_; have NB116_130 := n12_; have NB130_116 := n13_; have NB117_130 := n14_; have NB130_117 := n15_; clear n0_ n1_ n2_ n3_ n4_ n5_ n6_ n7_ n8_ n9_ n10_ n11_ n12_ n13_ n14_ n15_; clear hb hbox hg; have hnb68 := NB130_108.out; have hnc68 := NB108_130.out; have hnb69 := NB130_116.out; have hnc69 := NB116_130.out; have hnb70 := NB130_117.out; have hnc70 := NB117_130.out; have hcz71_0 : w67.cell? ⟨gb130, 0, none⟩ = some (.bool false) := (blk_cell BK130.out 0).trans rfl; have hcz71_1 : w67.cell? ⟨gb130, 1, none⟩ = some (.bool false) := (blk_cell BK130.out 1).trans rfl; have hcz71_2 : w67.cell? ⟨gb130, 2, none⟩ = some (.int .i64 0) := (blk_cell BK130.out 2).trans rfl; have hfz71_0 := blk_frozen BK130.out 0; have hfz71_1 := blk_frozen BK130.out 1; have hfz71_2 := blk_frozen BK130.out 2) | ((with_reducible refine gate_builtin (b := .append) (xs := #[.tmp 77, .tmp 80]) rfl ?_); at_builtin; refine Kd.R_append (Kd.int .i64) (w0 := w) w.heap.size rfl (.tmp 77) (.tmp 80) 34 2 (.int .i64 0) 8 rfl Tryd.underlying34 info2 rfl (by decide) (by omega) u8 x8_2 t128 [.int .i64 t128] (fun _ => True) (fun _ => False) rfl (by first | (go_simp; done) | (go_simp; rfl)) ?aP (fun _ hk => hk.elim) ?aF ?aO ?aB ?aS ?aL ?_; (case aP => exact rfl); (case aB => exact (by repeat (first | (with_reducible first | exact HB.out | apply below_alloc | apply pw_below_drewN | apply below_drew1 | refine below_set ?_ GE108.out | refine below_set ?_ GE116.out | refine below_set ?_ GE117.out | refine below_set ?_ GE130.out) | exact HB.out))); (case aF => exact (fun _ _ => trivial)); (case aO => exact (by (with_reducible repeat (first | apply Kd.R_alloc | apply Kd.R_drewN | apply Kd.R_drew)); exact Kd.R_mono (Kd.R_far (p := ⟨gb130, 2, none⟩) (Kd.R_far (p := ⟨gb130, 1, none⟩) (Kd.R_far (p := ⟨gb130, 0, none⟩) (Kd.R_types HO_8.out BK130.out (by decide)) (fun _ hk => hk.2) (.bool t126)) (fun _ hk => hk.2) (.bool t127)) (fun _ hk => hk.2) (.int .i64 t128)) (fun _ hk => trivial))); (case aS => exact (below_size (by repeat (first | (with_reducible first | exact HB.out | apply below_alloc | apply pw_below_drewN | apply below_drew1 | refine below_set ?_ GE108.out | refine below_set ?_ GE116.out | refine below_set ?_ GE117.out | refine below_set ?_ GE130.out) | exact HB.out)))); (case aL => have := LMc57.out; omega); intro v135 w72 ho hb hg hat; rw [← Ny134.out] at ho; have n0_ := Aside0.mk (blk_grown (g := gb108) (o := .cells #[.int .i64 ((rd_T29 l0 (ji15)).f0), .int .i64 ((rd_T29 l0 (ji15)).f1), .string ((rd_T29 l0 (ji15)).f2), .slice (some ad121) ((rd_T29 l0 (ji15)).f3).length c107_3] 29 (0, 0)) (by (with_reducible repeat (first | refine blk_drewN ?_ _ | refine blk_drew ?_ | refine blk_alloc ?_ _)); refine blk_far ?_ NB108_130.out _; (with_reducible repeat (first | refine blk_drewN ?_ _ | refine blk_drew ?_ | refine blk_alloc ?_ _)); refine blk_far ?_ NB108_130.out _; (with_reducible repeat (first | refine blk_drewN ?_ _ | refine blk_drew ?_ | refine blk_alloc ?_ _)); refine blk_far ?_ NB108_130.out _; (with_reducible repeat (first | refine blk_drewN ?_ _ | refine blk_drew ?_ | refine blk_alloc ?_ _)); exact BK108.out) hg (Kd.R_ne HO_8.out BK108.out (by decide))); have n1_ := Aside0.mk (blk_grown (g := gb116) (o := .cells #[.bool t112, .bool t113, .int .i64 t114] 31 (0, 0)) (by (with_reducible repeat (first | refine blk_drewN ?_ _ | refine blk_drew ?_ | refine blk_alloc ?_ _)); refine blk_far ?_ NB116_130.out _; (with_reducible repeat (first | refine blk_drewN ?_ _ | refine blk_drew ?_ | refine blk_alloc ?_ _)); refine blk_far ?_ NB116_130.out _; (with_reducible repeat (first | refine blk_drewN ?_ _ | refine blk_drew ?_ | refine blk_alloc ?_ _)); refine blk_far ?_ NB116_130.out _; (with_reducible repeat (first | refine blk_drewN ?_ _ | refine blk_drew ?_ | refine blk_alloc ?_ _)); exact BK116.out) hg (Kd.R_ne HO_8.out BK116.out (by decide))); have n2_ := Aside0.mk (blk_grown (g := gb117) (o := .cells #[.bool x118000_2, .bool x118001_2, .int .i64 x118002_2] 31 (0, 0)) (by (with_reducible repeat (first | refine blk_drewN ?_ _ | refine blk_drew ?_ | refine blk_alloc ?_ _)); refine blk_far ?_ NB117_130.out _; (with_reducible repeat (first | refine blk_drewN ?_ _ | refine blk_drew ?_ | refine blk_alloc ?_ _)); refine blk_far ?_ NB117_130.out _; (with_reducible repeat (first | refine blk_drewN ?_ _ | refine blk_drew ?_ | refine blk_alloc ?_ _)); refine blk_far ?_ NB117_130.out _; (with_reducible repeat (first | refine blk_drewN ?_ _ | refine blk_drew ?_ | refine blk_alloc ?_ _)); exact BK117.out) hg (Kd.R_ne HO_8.out BK117.out (by decide))); have n3_ := Aside0.mk (Kd.S_over' (by (with_reducible repeat (first | apply Kd.S_alloc | apply Kd.S_drewN | apply Kd.S_drew)); exact (Kd.S_mono (Kd.S_far (p := ⟨gb130, 2, none⟩) (Kd.S_far (p := ⟨gb130, 1, none⟩) (Kd.S_far (p := ⟨gb130, 0, none⟩) (Kd.S_types HO120.out BK130.out (by decide)) (fun _ hk => hk.2) (.bool t126)) (fun _ hk => hk.2) (.bool t127)) (fun _ hk => hk.2) (.int .i64 t128)) (fun _ h_ => h_.1))) (Kd.R_typed (by (with_reducible repeat (first | apply Kd.R_alloc | apply Kd.R_drewN | apply Kd.R_drew)); exact (Kd.R_mono (Kd.R_far (p := ⟨gb130, 2, none⟩) (Kd.R_far (p := ⟨gb130, 1, none⟩) (Kd.R_far (p := ⟨gb130, 0, none⟩) (Kd.R_types HO_8.out BK130.out (by decide)) (fun _ hk => hk.2) (.bool t126)) (fun _ hk => hk.2) (.bool t127)) (fun _ hk => hk.2) (.int .i64 t128)) (fun _ h_ => h_.1)))) (by decide) hg); have n4_ := Aside0.mk (Kd.S_over' (by (with_reducible repeat (first | apply Kd.S_alloc | apply Kd.S_drewN | apply Kd.S_drew)); exact (Kd.S_mono (Kd.S_far (p := ⟨gb130, 2, none⟩) (Kd.S_far (p := ⟨gb130, 1, none⟩) (Kd.S_far (p := ⟨gb130, 0, none⟩) (Kd.S_types HO125.out BK130.out (by decide)) (fun _ hk => hk.2) (.bool t126)) (fun _ hk => hk.2) (.bool t127)) (fun _ hk => hk.2) (.int .i64 t128)) (fun _ h_ => h_.1))) (Kd.R_typed (by (with_reducible repeat (first | apply Kd.R_alloc | apply Kd.R_drewN | apply Kd.R_drew)); exact (Kd.R_mono (Kd.R_far (p := ⟨gb130, 2, none⟩) (Kd.R_far (p := ⟨gb130, 1, none⟩) (Kd.R_far (p := ⟨gb130, 0, none⟩) (Kd.R_types HO_8.out BK130.out (by decide)) (fun _ hk => hk.2) (.bool t126)) (fun _ hk => hk.2) (.bool t127)) (fun _ hk => hk.2) (.int .i64 t128)) (fun _ h_ => h_.1)))) (by decide) hg); have n5_ := Aside0.mk (blk_grown (g := gb130) (o := .cells #[.bool t126, .bool t127, .int .i64 t128] 31 (0, 0)) (by (with_reducible repeat (first | refine blk_drewN ?_ _ | refine blk_drew ?_ | refine blk_alloc ?_ _)); refine blk_put (cs := #[.bool t126, .bool t127, .int .i64 0]) ?_ 2 _ rfl; (with_reducible repeat (first | refine blk_drewN ?_ _ | refine blk_drew ?_ | refine blk_alloc ?_ _)); refine blk_put (cs := #[.bool t126, .bool false, .int .i64 0]) ?_ 1 _ rfl; (with_reducible repeat (first | refine blk_drewN ?_ _ | refine blk_drew ?_ | refine blk_alloc ?_ _)); refine blk_put (cs := #[.bool false, .bool false, .int .i64 0]) ?_ 0 _ rfl; (with_reducible repeat (first | refine blk_drewN ?_ _ | refine blk_drew ?_ | refine blk_alloc ?_ _)); exact BK130.out) hg (Kd.R_ne HO_8.out BK130.out (by decide))); have n6_ := Aside0.mk (hb); have n7_ := Aside0.mk (ho); clear BK108; clear BK116; clear BK117; clear HO120; clear HO125; clear BK130; clear HB; clear HO_8; have BK108 := n0_; have BK116 := n1_; have BK117 := n2_; have HO120 := n3_; have HO125 := n4_; have BK130 := n5_; have HB := n6_; have HO136 := n7_; clear n0_ n1_ n2_ n3_ n4_ n5_ n6_ n7_; clear ho hb hg hat; have hcz73_0 : w72.cell? ⟨gb130, 0, none⟩ = some (.bool t126) := (blk_cell BK130.out 0).trans rfl; have hcz73_1 : w72.cell? ⟨gb130, 1, none⟩ = some (.bool t127) := (blk_cell BK130.out 1).trans rfl; have hcz73_2 : w72.cell? ⟨gb130, 2, none⟩ = some (.int .i64 t128) := (blk_cell BK130.out 2).trans rfl; have hfz73_0 := blk_frozen BK130.out 0; have hfz73_1 := blk_frozen BK130.out 1; have hfz73_2 := blk_frozen BK130.out 2; have hnb74 := NB117_116.out; have hnc74 := NB116_117.out; have hcz75_0 : w72.cell? ⟨gb117, 0, none⟩ = some (.bool x118000_2) := (blk_cell BK117.out 0).trans rfl; have hcz75_1 : w72.cell? ⟨gb117, 1, none⟩ = some (.bool x118001_2) := (blk_cell BK117.out 1).trans rfl; have hcz75_2 : w72.cell? ⟨gb117, 2, none⟩ = some (.int .i64 x118002_2) := (blk_cell BK117.out 2).trans rfl; have hfz75_0 := blk_frozen BK117.out 0; have hfz75_1 := blk_frozen BK117.out 1; have hfz75_2 := blk_frozen BK117.out 2))
              go_roundg k2
              case measure => have := HJ1.out; have := HK2.out; omega
              case rel => exact ⟨(t126), (false), (y134), (wrap64 (x10_2 + 1)), (t126), (t127), (t128), (by first | rfl | (simp; done) | (simp [*]; done)), (by first | rfl | (simp; done) | (simp [*]; done)), (by first | rfl | (simp; done) | (simp [*]; done)), H', ⟨by have := HJ1.out; have := HK2.out; omega⟩, ⟨by (with_reducible repeat (first | apply Kd.R_alloc | apply Kd.R_drewN | apply Kd.R_drew)); exact Kd.R_mono (Kd.R_far (p := ⟨gb117, 2, none⟩) (Kd.R_far (p := ⟨gb117, 1, none⟩) (Kd.R_far (p := ⟨gb117, 0, none⟩) (Kd.R_types HO136.out BK117.out (by decide)) (fun _ hk => hk.2) (.bool t126)) (fun _ hk => hk.2) (.bool t127)) (fun _ hk => hk.2) (.int .i64 t128)) (fun _ hk => trivial)⟩, ⟨by (with_reducible repeat (first | refine blk_drewN ?_ _ | refine blk_drew ?_ | refine blk_alloc ?_ _)); refine blk_far ?_ NB108_117.out _; (with_reducible repeat (first | refine blk_drewN ?_ _ | refine blk_drew ?_ | refine blk_alloc ?_ _)); refine blk_far ?_ NB108_117.out _; (with_reducible repeat (first | refine blk_drewN ?_ _ | refine blk_drew ?_ | refine blk_alloc ?_ _)); refine blk_far ?_ NB108_117.out _; (with_reducible repeat (first | refine blk_drewN ?_ _ | refine blk_drew ?_ | refine blk_alloc ?_ _)); exact BK108.out⟩, ⟨by (with_reducible repeat (first | refine blk_drewN ?_ _ | refine blk_drew ?_ | refine blk_alloc ?_ _)); refine blk_far ?_ NB116_117.out _; (with_reducible repeat (first | refine blk_drewN ?_ _ | refine blk_drew ?_ | refine blk_alloc ?_ _)); refine blk_far ?_ NB116_117.out _; (with_reducible repeat (first | refine blk_drewN ?_ _ | refine blk_drew ?_ | refine blk_alloc ?_ _)); refine blk_far ?_ NB116_117.out _; (with_reducible repeat (first | refine blk_drewN ?_ _ | refine blk_drew ?_ | refine blk_alloc ?_ _)); exact BK116.out⟩, ⟨by (with_reducible repeat (first | refine blk_drewN ?_ _ | refine blk_drew ?_ | refine blk_alloc ?_ _)); refine blk_put (cs := #[.bool t126, .bool t127, .int .i64 x118002_2]) ?_ 2 _ rfl; (with_reducible repeat (first | refine blk_drewN ?_ _ | refine blk_drew ?_ | refine blk_alloc ?_ _)); refine blk_put (cs := #[.bool t126, .bool x118001_2, .int .i64 x118002_2]) ?_ 1 _ rfl; (with_reducible repeat (first | refine blk_drewN ?_ _ | refine blk_drew ?_ | refine blk_alloc ?_ _)); refine blk_put (cs := #[.bool x118000_2, .bool x118001_2, .int .i64 x118002_2]) ?_ 0 _ rfl; (with_reducible repeat (first | refine blk_drewN ?_ _ | refine blk_drew ?_ | refine blk_alloc ?_ _)); exact BK117.out⟩, ⟨by repeat (first | (with_reducible first | exact HB.out | apply below_alloc | apply pw_below_drewN | apply below_drew1 | refine below_set ?_ GE108.out | refine below_set ?_ GE116.out | refine below_set ?_ GE117.out | refine below_set ?_ GE130.out) | exact HB.out)⟩⟩
             ·rw [if_neg c57] at H
              exact absurd H (by simp)
           ·replace c36 := Bool.eq_false_iff.mpr c36
            subst c36
            have H1 : (if x7_2 = true then (if x8_2.length < 17592186044416 then (sorrellaw13_FactsParts.l0 k2 l0 false t127 (x8_2 ++ [t128]) (wrap64 (x10_2 + 1)) ((rd_T29 l0 (ji15)).f0) ((rd_T29 l0 (ji15)).f1) ((rd_T29 l0 (ji15)).f2) ((rd_T29 l0 (ji15)).f3) t112 t113 t114 t126 t127 t128) else (none)) else (if x8_2.length < 17592186044416 then (sorrellaw13_FactsParts.l0 k2 l0 false false (x8_2 ++ [t128]) (wrap64 (x10_2 + 1)) ((rd_T29 l0 (ji15)).f0) ((rd_T29 l0 (ji15)).f1) ((rd_T29 l0 (ji15)).f2) ((rd_T29 l0 (ji15)).f3) t112 t113 t114 t126 t127 t128) else (none))) = some r := by rw [if_neg (show ¬ (false = true) by decide)] at H; exact H
            clear H
            have H := H1
            clear H1
            by_cases c76 : x7_2 = true
            ·subst c76
             have H1 : (if x8_2.length < 17592186044416 then (sorrellaw13_FactsParts.l0 k2 l0 false t127 (x8_2 ++ [t128]) (wrap64 (x10_2 + 1)) ((rd_T29 l0 (ji15)).f0) ((rd_T29 l0 (ji15)).f1) ((rd_T29 l0 (ji15)).f2) ((rd_T29 l0 (ji15)).f3) t112 t113 t114 t126 t127 t128) else (none)) = some r := by rw [if_pos rfl] at H; exact H
             clear H
             have H := H1
             clear H1
             by_cases c77 : x8_2.length < 17592186044416
             ·rw [if_pos c77] at H
              have LMc77 := Aside0.mk c77
              clear c77
              obtain ⟨y137, hy137⟩ : ∃ y_ : List Int, y_ = (x8_2 ++ [t128]) := ⟨_, rfl⟩
              replace H : (sorrellaw13_FactsParts.l0 k2 l0 false t127 y137 (wrap64 (x10_2 + 1)) ((rd_T29 l0 (ji15)).f0) ((rd_T29 l0 (ji15)).f1) ((rd_T29 l0 (ji15)).f2) ((rd_T29 l0 (ji15)).f3) t112 t113 t114 t126 t127 t128) = some r := by first | (rw [hy137]; with_reducible exact H) | (have H2_ := (Option.bind_some _ _).symm.trans H; rw [hy137]; with_reducible exact H2_) | (have H2_ := (Option.bind_some _ _).symm.trans H; with_reducible exact H2_) | with_reducible exact H | (rw [hy137]; exact H) | exact H
              have Ny137 := Aside0.mk hy137
              clear hy137
              have H' := Aside0.mk H
              clear H
              have hnb78 := NB108_116.out
              have hnc78 := NB116_108.out
              have hnb79 := NB108_117.out
              have hnc79 := NB117_108.out
              have hcz80_0 : wr.cell? ⟨gb108, 0, none⟩ = some (.int .i64 ((rd_T29 l0 (ji15)).f0)) := (blk_cell BK108.out 0).trans rfl
              have hcz80_1 : wr.cell? ⟨gb108, 1, none⟩ = some (.int .i64 ((rd_T29 l0 (ji15)).f1)) := (blk_cell BK108.out 1).trans rfl
              have hcz80_2 : wr.cell? ⟨gb108, 2, none⟩ = some (.string ((rd_T29 l0 (ji15)).f2)) := (blk_cell BK108.out 2).trans rfl
              have hcz80_3 : wr.cell? ⟨gb108, 3, none⟩ = some (.slice A107_3 ((rd_T29 l0 (ji15)).f3).length c107_3) := (blk_cell BK108.out 3).trans rfl
              have hfz80_0 := blk_frozen BK108.out 0
              have hfz80_1 := blk_frozen BK108.out 1
              have hfz80_2 := blk_frozen BK108.out 2
              have hfz80_3 := blk_frozen BK108.out 3
              try go_wp2
              have n0_ := Aside0.mk (Kd.R_drew HO_8.out)
              have n1_ := Aside0.mk (blk_drew BK108.out)
              have n2_ := Aside0.mk (blk_drew BK116.out)
              have n3_ := Aside0.mk (blk_drew BK117.out)
              have n4_ := Aside0.mk (below_drew1 HB.out)
              clear HO_8
              clear BK108
              clear BK116
              clear BK117
              clear HB
              have HO_8 := n0_
              have BK108 := n1_
              have BK116 := n2_
              have BK117 := n3_
              have HB := n4_
              clear n0_ n1_ n2_ n3_ n4_
              have p121 : 0 ≤ (x10_2 : Int) := of_decide_eq_true (by first | (with_reducible assumption) | assumption)
              have q121 : x10_2 < (((rd_T29 l0 (ji15)).f3).length : Int) := of_decide_eq_true (by first | (with_reducible assumption) | assumption)
              obtain ⟨ad121, e121, hx121_0⟩ := Kd.at_int HR107_3.out x10_2 p121 q121
              have hw121_0 := hx121_0
              cases e121
              replace hx121_0 := (HB.out.cell (World.block_lt_of_cell? w _ hx121_0)).trans hx121_0
              replace p121 := eq_true p121
              replace q121 := eq_true q121
              refine start_ (n := 13) (S := fun w' => w'.cell? ⟨gb108, 0, none⟩ = some (.int .i64 ((rd_T29 l0 (ji15)).f0)) ∧ w'.cell? ⟨gb108, 1, none⟩ = some (.int .i64 ((rd_T29 l0 (ji15)).f1)) ∧ w'.cell? ⟨gb108, 2, none⟩ = some (.string ((rd_T29 l0 (ji15)).f2)) ∧ w'.cell? ⟨gb108, 3, none⟩ = some (.slice (some ad121) ((rd_T29 l0 (ji15)).f3).length c107_3) ∧ w'.cell? (ad121.add (x10_2).toNat) = some (.int .i64 (rd ((rd_T29 l0 (ji15)).f3) x10_2))) (ds := []) #[false, false, false, false, false, false, false, false, false, false, false, false, false] (by kernel_rfl) rfl rfl ⟨(blk_cell BK108.out 0).trans rfl, (blk_cell BK108.out 1).trans rfl, (blk_cell BK108.out 2).trans rfl, (blk_cell BK108.out 3).trans rfl, ((HB.out.cell (World.block_lt_of_cell? w _ hw121_0)).trans hw121_0)⟩ (fun hHeld => ?_); refine with_tabW sorrellaw13_FactsParts.tab12 sorrellaw13_FactsParts.bits12 (fun HT_ HW_ => ?_)
              generalize wr.drew = w81 at HO_8 BK108 BK116 BK117 HB hx121_0 hHeld ⊢
              refine pure_ (i := 0) (N := some 50) (v := ?_) (a' := ?_) #[true, false, false, false, false, false, false, false, false, false, false, false, false] rfl rfl (any_of HT_.out (by kernel_rfl)) (fun _ _ _ h => h) (Or.inl ⟨by rfl, ?_⟩) ?_ ?_
              rotate_left
              ·intro w'
               go_simp
               with_reducible rfl
              rotate_left
              ·simp only [Act.put, List.setIfInBounds_toArray, List.set_cons_zero, List.set_cons_succ, i64_w, i32_w]
               rfl
              refine pure_ (i := 2) (N := some 52) (v := ?_) (a' := ?_) #[true, false, true, false, false, false, false, false, false, false, false, false, false] rfl rfl (any_of HT_.out (by kernel_rfl)) (fun _ _ _ h => h) (Or.inl ⟨by rfl, ?_⟩) ?_ ?_
              rotate_left
              ·intro w'
               go_simp
               with_reducible rfl
              rotate_left
              ·simp only [Act.put, List.setIfInBounds_toArray, List.set_cons_zero, List.set_cons_succ, i64_w, i32_w]
               rfl
              refine pure_ (i := 4) (N := some 54) (v := ?_) (a' := ?_) #[true, false, true, false, true, false, false, false, false, false, false, false, false] rfl rfl (any_of HT_.out (by kernel_rfl)) (fun _ _ _ h => h) (Or.inl ⟨by rfl, ?_⟩) ?_ ?_
              rotate_left
              ·intro w'
               go_simp
               with_reducible rfl
              rotate_left
              ·simp only [Act.put, List.setIfInBounds_toArray, List.set_cons_zero, List.set_cons_succ, i64_w, i32_w]
               rfl
              refine take_ (i := 3) (N := some 53) (v := ?_) (a' := ?_) #[true, false, true, true, true, false, false, false, false, false, false, false, false] rfl rfl (take_ofW HT_.out HW_.out (by kernel_rfl)) (fun _ _ _ h => h) (Or.inl ⟨by rfl, ?_⟩) hHeld ?_ ?_
              rotate_left
              ·rintro w' ⟨s0, s1, s2, s3, s4⟩
               go_simp
               with_reducible rfl
              rotate_left
              ·simp only [Act.put, List.setIfInBounds_toArray, List.set_cons_zero, List.set_cons_succ, i64_w, i32_w]
               rfl
              refine pure_ (i := 5) (N := some 55) (v := ?_) (a' := ?_) #[true, false, true, true, true, true, false, false, false, false, false, false, false] rfl rfl (any_of HT_.out (by kernel_rfl)) (fun _ _ _ h => h) (Or.inl ⟨by rfl, ?_⟩) ?_ ?_
              rotate_left
              ·intro w'
               go_simp
               with_reducible rfl
              rotate_left
              ·simp only [Act.put, List.setIfInBounds_toArray, List.set_cons_zero, List.set_cons_succ, i64_w, i32_w]
               rfl
              refine take_ (i := 6) (N := some 56) (v := ?_) (a' := ?_) #[true, false, true, true, true, true, true, false, false, false, false, false, false] rfl rfl (take_ofW HT_.out HW_.out (by kernel_rfl)) (fun _ _ _ h => h) (Or.inl ⟨by rfl, ?_⟩) hHeld ?_ ?_
              rotate_left
              ·rintro w' ⟨s0, s1, s2, s3, s4⟩
               go_simp
               with_reducible rfl
              rotate_left
              ·simp only [Act.put, List.setIfInBounds_toArray, List.set_cons_zero, List.set_cons_succ, i64_w, i32_w]
               rfl
              refine one_ (i := 1) (N := some 51) #[true, true, true, true, true, true, true, false, false, false, false, false, false] rfl rfl (one_of HT_.out (by kernel_rfl)) (by decide) (fun K hK => ?_)
              refine goes_ Tryd.func8 (by kernel_rfl) rfl #[.slice (some ad107) l0.length c0] (by rfl) rfl rfl (by (try simp only [List.map_toArray, List.map_cons, List.map_nil]); first | done | rfl | (simp only [List.length_drop, List.length_take]; rfl)) ?_
              with_reducible refine (sorrelref02_Copy.calls k2 _ _ l0 t118 _ ?side1 ?side2 A31.out).mono ?_
              (case side1 => repeat (first | exact (Kd.C_below HR0.out HB.out) | (with_reducible refine Kd.C_alloc ?_ _) | (with_reducible refine Kd.C_drewN ?_ _) | (with_reducible refine Kd.C_drew ?_)))
              (case side2 => exact HC0.out)
              rintro e w82 ⟨v119, rfl, ho0, hb⟩
              refine ⟨_, rfl, ?_⟩
              have n0_ := Aside0.mk (Kd.R_below (by (with_reducible repeat (first | apply Kd.R_alloc | apply Kd.R_drewN | apply Kd.R_drew)); exact HO_8.out) hb)
              have n1_ := Aside0.mk (Kd.S_lower (Kd.S_newB ho0 (g := gb108) (o := .cells #[.int .i64 ((rd_T29 l0 (ji15)).f0), .int .i64 ((rd_T29 l0 (ji15)).f1), .string ((rd_T29 l0 (ji15)).f2), .slice (some ad121) ((rd_T29 l0 (ji15)).f3).length c107_3] 29 (0, 0)) (by (with_reducible repeat (first | refine blk_drewN ?_ _ | refine blk_drew ?_ | refine blk_alloc ?_ _)); exact BK108.out)) (below_size (by repeat (first | (with_reducible first | exact HB.out | apply below_alloc | apply pw_below_drewN | apply below_drew1 | refine below_set ?_ GE108.out | refine below_set ?_ GE116.out | refine below_set ?_ GE117.out) | exact HB.out))))
              have n2_ := Aside0.mk (blk_below (g := gb108) (o := .cells #[.int .i64 ((rd_T29 l0 (ji15)).f0), .int .i64 ((rd_T29 l0 (ji15)).f1), .string ((rd_T29 l0 (ji15)).f2), .slice (some ad121) ((rd_T29 l0 (ji15)).f3).length c107_3] 29 (0, 0)) (by (with_reducible repeat (first | refine blk_drewN ?_ _ | refine blk_drew ?_ | refine blk_alloc ?_ _)); exact BK108.out) hb)
              have n3_ := Aside0.mk (blk_below (g := gb116) (o := .cells #[.bool t112, .bool t113, .int .i64 t114] 31 (0, 0)) (by (with_reducible repeat (first | refine blk_drewN ?_ _ | refine blk_drew ?_ | refine blk_alloc ?_ _)); exact BK116.out) hb)
              have n4_ := Aside0.mk (blk_below (g := gb117) (o := .cells #[.bool x118000_2, .bool x118001_2, .int .i64 x118002_2] 31 (0, 0)) (by (with_reducible repeat (first | refine blk_drewN ?_ _ | refine blk_drew ?_ | refine blk_alloc ?_ _)); exact BK117.out) hb)
              have n5_ := Aside0.mk (below_step (by repeat (first | (with_reducible first | exact HB.out | apply below_alloc | apply pw_below_drewN | apply below_drew1 | refine below_set ?_ GE108.out | refine below_set ?_ GE116.out | refine below_set ?_ GE117.out) | exact HB.out)) hb)
              clear HO_8
              clear BK108
              clear BK116
              clear BK117
              clear HB
              have HO_8 := n0_
              have HO120 := n1_
              have BK108 := n2_
              have BK116 := n3_
              have BK117 := n4_
              have HB := n5_
              clear n0_ n1_ n2_ n3_ n4_ n5_
              (try clear hb)
              (try clear hb2)
              (try clear hk)
              (try clear hi)
              (try clear ho0)
              obtain ⟨Ao83, co83, eo83⟩ := Kd.S_slice HO120.out
              (first | subst eo83 | (injection eo83 with f1_ f2_ f3_; have f4_ := f1_.symm; have f5_ := f3_.symm; clear f1_ f2_ f3_; subst f4_; subst f5_))
              refine hK.out _ _ ⟨(blk_cell BK108.out 0).trans rfl, (blk_cell BK108.out 1).trans rfl, (blk_cell BK108.out 2).trans rfl, (blk_cell BK108.out 3).trans rfl, ((HB.out.cell (World.block_lt_of_cell? w _ hw121_0)).trans hw121_0)⟩ (fun hHeld => ?_)
              clear hK K
              refine norm_ (a' := ?_) ?_ ?_
              rotate_left
              ·show Act.put _ (some 51) _ = _
               simp only [Act.put, List.setIfInBounds_toArray, List.set_cons_zero, List.set_cons_succ, i64_w, i32_w]
               rfl
              refine one_ (i := 7) (N := some 57) #[true, true, true, true, true, true, true, true, false, false, false, false, false] rfl rfl (one_of HT_.out (by kernel_rfl)) (by decide) (fun K hK => ?_)
              refine goes_ Tryd.func10 (by kernel_rfl) rfl #[.slice Ao83 t118.length co83, .int .i64 (rd ((rd_T29 l0 (ji15)).f3) x10_2)] (by rfl) rfl rfl (by (try simp only [List.map_toArray, List.map_cons, List.map_nil]); first | done | (simp only [hji15]; rfl) | rfl | (simp only [List.length_drop, List.length_take]; rfl)) ?_
              with_reducible refine (expr_Part.calls k2 _ _ t118 (rd ((rd_T29 l0 (ji15)).f3) x10_2) t122 t123 _ ?side1 ?side2 ?side3 A33.out).mono ?_
              (case side1 => repeat (first | exact (Kd.S_reads' HO120.out).2.2 | (with_reducible refine Kd.C_alloc ?_ _) | (with_reducible refine Kd.C_drewN ?_ _) | (with_reducible refine Kd.C_drew ?_)))
              (case side2 => exact (Kd.S_reads' HO120.out).2.1)
              (case side3 => first | exact HG.out | exact Glob.below HG.out (by repeat (first | (with_reducible first | exact HB.out | apply below_alloc | apply pw_below_drewN | apply below_drew1 | refine below_set ?_ GE108.out | refine below_set ?_ GE116.out | refine below_set ?_ GE117.out) | exact HB.out)) | (repeat (first | exact HG.out | refine Glob.dr ?_ _)))
              rintro e w84 ⟨v124, rfl, ho0, hb⟩
              refine ⟨_, rfl, ?_⟩
              have n0_ := Aside0.mk (Kd.R_below (by (with_reducible repeat (first | apply Kd.R_alloc | apply Kd.R_drewN | apply Kd.R_drew)); exact HO_8.out) hb)
              have n1_ := Aside0.mk (Kd.S_elder' (by (with_reducible repeat (first | apply Kd.S_alloc | apply Kd.S_drewN | apply Kd.S_drew)); exact HO120.out) (Kd.S_base ho0) hb)
              have n2_ := Aside0.mk (Kd.S_lower (Kd.S_newB (Kd.S_new' ho0 (Kd.S_lt (by (with_reducible repeat (first | apply Kd.S_alloc | apply Kd.S_drewN | apply Kd.S_drew)); exact HO120.out))) (g := gb108) (o := .cells #[.int .i64 ((rd_T29 l0 (ji15)).f0), .int .i64 ((rd_T29 l0 (ji15)).f1), .string ((rd_T29 l0 (ji15)).f2), .slice (some ad121) ((rd_T29 l0 (ji15)).f3).length c107_3] 29 (0, 0)) (by (with_reducible repeat (first | refine blk_drewN ?_ _ | refine blk_drew ?_ | refine blk_alloc ?_ _)); exact BK108.out)) (below_size (by repeat (first | (with_reducible first | exact HB.out | apply below_alloc | apply pw_below_drewN | apply below_drew1 | refine below_set ?_ GE108.out | refine below_set ?_ GE116.out | refine below_set ?_ GE117.out) | exact HB.out))))
              have n3_ := Aside0.mk (blk_below (g := gb108) (o := .cells #[.int .i64 ((rd_T29 l0 (ji15)).f0), .int .i64 ((rd_T29 l0 (ji15)).f1), .string ((rd_T29 l0 (ji15)).f2), .slice (some ad121) ((rd_T29 l0 (ji15)).f3).length c107_3] 29 (0, 0)) (by (with_reducible repeat (first | refine blk_drewN ?_ _ | refine blk_drew ?_ | refine blk_alloc ?_ _)); exact BK108.out) hb)
              have n4_ := Aside0.mk (blk_below (g := gb116) (o := .cells #[.bool t112, .bool t113, .int .i64 t114] 31 (0, 0)) (by (with_reducible repeat (first | refine blk_drewN ?_ _ | refine blk_drew ?_ | refine blk_alloc ?_ _)); exact BK116.out) hb)
              have n5_ := Aside0.mk (blk_below (g := gb117) (o := .cells #[.bool x118000_2, .bool x118001_2, .int .i64 x118002_2] 31 (0, 0)) (by (with_reducible repeat (first | refine blk_drewN ?_ _ | refine blk_drew ?_ | refine blk_alloc ?_ _)); exact BK117.out) hb)
              have n6_ := Aside0.mk (below_step (by repeat (first | (with_reducible first | exact HB.out | apply below_alloc | apply pw_below_drewN | apply below_drew1 | refine below_set ?_ GE108.out | refine below_set ?_ GE116.out | refine below_set ?_ GE117.out) | exact HB.out)) hb)
              clear HO_8
              clear HO120
              clear BK108
              clear BK116
              clear BK117
              clear HB
              have HO_8 := n0_
              have HO120 := n1_
              have HO125 := n2_
              have BK108 := n3_
              have BK116 := n4_
              have BK117 := n5_
              have HB := n6_
              clear n0_ n1_ n2_ n3_ n4_ n5_ n6_
              (try clear hb)
              (try clear hb2)
              (try clear hk)
              (try clear hi)
              (try clear ho0)
              refine hK.out _ _ ⟨(blk_cell BK108.out 0).trans rfl, (blk_cell BK108.out 1).trans rfl, (blk_cell BK108.out 2).trans rfl, (blk_cell BK108.out 3).trans rfl, ((HB.out.cell (World.block_lt_of_cell? w _ hw121_0)).trans hw121_0)⟩ (fun hHeld => ?_)
              clear hK K
              refine norm_ (a' := ?_) ?_ ?_
              rotate_left
              ·show Act.put _ (some 57) _ = _
               simp only [Act.put, List.setIfInBounds_toArray, List.set_cons_zero, List.set_cons_succ, i64_w, i32_w]
               rfl
              refine pure_ (i := 8) (N := some 49) (v := ?_) (a' := ?_) #[true, true, true, true, true, true, true, true, true, false, false, false, false] rfl rfl (any_of HT_.out (by kernel_rfl)) (fun _ _ _ h => h) (Or.inl ⟨by rfl, ?_⟩) ?_ ?_
              rotate_left
              ·intro w'
               go_simp
               with_reducible rfl
              rotate_left
              ·simp only [Act.put, List.setIfInBounds_toArray, List.set_cons_zero, List.set_cons_succ, i64_w, i32_w]
               rfl
              refine pure_ (i := 9) (N := some 58) (v := ?_) (a' := ?_) #[true, true, true, true, true, true, true, true, true, true, false, false, false] rfl rfl (any_of HT_.out (by kernel_rfl)) (fun _ _ _ h => h) (Or.inl ⟨by rfl, ?_⟩) ?_ ?_
              rotate_left
              ·intro w'
               go_simp
               with_reducible rfl
              rotate_left
              ·simp only [Act.put, List.setIfInBounds_toArray, List.set_cons_zero, List.set_cons_succ, i64_w, i32_w]
               rfl
              refine pure_ (i := 10) (N := some 59) (v := ?_) (a' := ?_) #[true, true, true, true, true, true, true, true, true, true, true, false, false] rfl rfl (any_of HT_.out (by kernel_rfl)) (fun _ _ _ h => h) (Or.inl ⟨by rfl, ?_⟩) ?_ ?_
              rotate_left
              ·intro w'
               go_simp
               with_reducible rfl
              rotate_left
              ·simp only [Act.put, List.setIfInBounds_toArray, List.set_cons_zero, List.set_cons_succ, i64_w, i32_w]
               rfl
              refine pure_ (i := 11) (N := some 11) (v := ?_) (a' := ?_) #[true, true, true, true, true, true, true, true, true, true, true, true, false] rfl rfl (any_of HT_.out (by kernel_rfl)) (fun _ _ _ h => h) (Or.inl ⟨by rfl, ?_⟩) ?_ ?_
              rotate_left
              ·intro w'
               go_simp
               with_reducible rfl
              rotate_left
              ·simp only [Act.put, List.setIfInBounds_toArray, List.set_cons_zero, List.set_cons_succ, i64_w, i32_w]
               rfl
              refine pure_ (i := 12) (N := some 12) (v := ?_) (a' := ?_) #[true, true, true, true, true, true, true, true, true, true, true, true, true] rfl rfl (any_of HT_.out (by kernel_rfl)) (fun _ _ _ h => h) (Or.inl ⟨by rfl, ?_⟩) ?_ ?_
              rotate_left
              ·intro w'
               go_simp
               with_reducible rfl
              rotate_left
              ·simp only [Act.put, List.setIfInBounds_toArray, List.set_cons_zero, List.set_cons_succ, i64_w, i32_w]
               rfl
              refine done_ (done_of HT_.out (by kernel_rfl)) ?_
              obtain ⟨Ao85, co85, eo85⟩ := Kd.S_slice HO125.out
              subst eo85
              try go_wp2_with (first | ((with_reducible refine gate_callee (f := 9) rfl ?_); refine goesL_ (some 62) rfl rfl Tryd.func9 (by kernel_rfl) rfl #[.slice Ao85 t122.length co85] rfl (by (try simp only [List.map_toArray, List.map_cons, List.map_nil]); first | done | rfl | (simp only [List.length_drop, List.length_take]; rfl)) ?_; (with_reducible refine (facts_Of.calls k2 _ _ t122 t126 t127 t128 t129 _ ?side1 ?side2 ?side3 A34.out).mono ?_); (case side1 => repeat (first | exact (Kd.S_reads' HO125.out).2.2 | (with_reducible refine Kd.C_alloc ?_ _) | (with_reducible refine Kd.C_drewN ?_ _) | (with_reducible refine Kd.C_drew ?_))); (case side2 => exact (Kd.S_reads' HO125.out).2.1); (case side3 => first | exact HG.out | exact Glob.below HG.out (by repeat (first | (with_reducible first | exact HB.out | apply below_alloc | apply pw_below_drewN | apply below_drew1 | refine below_set ?_ GE108.out | refine below_set ?_ GE116.out | refine below_set ?_ GE117.out) | exact HB.out)) | (repeat (first | exact HG.out | refine Glob.dr ?_ _))); rintro e w86 ⟨rfl, hb⟩; refine ⟨_, rfl, ?_⟩; have n0_ := Aside0.mk (Kd.R_below (by (with_reducible repeat (first | apply Kd.R_alloc | apply Kd.R_drewN | apply Kd.R_drew)); exact HO_8.out) hb); have n1_ := Aside0.mk (Kd.S_below (by (with_reducible repeat (first | apply Kd.S_alloc | apply Kd.S_drewN | apply Kd.S_drew)); exact HO120.out) hb); have n2_ := Aside0.mk (Kd.S_below (by (with_reducible repeat (first | apply Kd.S_alloc | apply Kd.S_drewN | apply Kd.S_drew)); exact HO125.out) hb); have n3_ := Aside0.mk (blk_below (g := gb108) (o := .cells #[.int .i64 ((rd_T29 l0 (ji15)).f0), .int .i64 ((rd_T29 l0 (ji15)).f1), .string ((rd_T29 l0 (ji15)).f2), .slice (some ad121) ((rd_T29 l0 (ji15)).f3).length c107_3] 29 (0, 0)) (by (with_reducible repeat (first | refine blk_drewN ?_ _ | refine blk_drew ?_ | refine blk_alloc ?_ _)); exact BK108.out) hb); have n4_ := Aside0.mk (blk_below (g := gb116) (o := .cells #[.bool t112, .bool t113, .int .i64 t114] 31 (0, 0)) (by (with_reducible repeat (first | refine blk_drewN ?_ _ | refine blk_drew ?_ | refine blk_alloc ?_ _)); exact BK116.out) hb); have n5_ := Aside0.mk (blk_below (g := gb117) (o := .cells #[.bool x118000_2, .bool x118001_2, .int .i64 x118002_2] 31 (0, 0)) (by (with_reducible repeat (first | refine blk_drewN ?_ _ | refine blk_drew ?_ | refine blk_alloc ?_ _)); exact BK117.out) hb); have n6_ := Aside0.mk (below_step (by repeat (first | (with_reducible first | exact HB.out | apply below_alloc | apply pw_below_drewN | apply below_drew1 | refine below_set ?_ GE108.out | refine below_set ?_ GE116.out | refine below_set ?_ GE117.out) | exact HB.out)) hb); clear HO_8; clear HO120; clear HO125; clear BK108; clear BK116; clear BK117; clear HB; have HO_8 := n0_; have HO120 := n1_; have HO125 := n2_; have BK108 := n3_; have BK116 := n4_; have BK117 := n5_; have HB := n6_; clear n0_ n1_ n2_ n3_ n4_ n5_ n6_; (try clear hb); (try clear hb2); (try clear hk); (try clear hi)) | ((with_reducible refine gate_dst (N := 13) rfl ?_); refine box_event ?hg (N := 13) ?hd (cs := #[.bool false, .bool false, .int .i64 0]) (t := 31) ?hr ?_; (case hd => rfl); (case hg => rfl); (case hr => first | (go_simp; done) | (go_simp; rfl)); intro gb130 hg w87 hbox hb; have n0_ := Aside0.mk (Kd.R_below (by (with_reducible repeat (first | apply Kd.R_alloc | apply Kd.R_drewN | apply Kd.R_drew)); exact HO_8.out) hb); have n1_ := Aside0.mk (Kd.S_below (by (with_reducible repeat (first | apply Kd.S_alloc | apply Kd.S_drewN | apply Kd.S_drew)); exact HO120.out) hb); have n2_ := Aside0.mk (Kd.S_below (by (with_reducible repeat (first | apply Kd.S_alloc | apply Kd.S_drewN | apply Kd.S_drew)); exact HO125.out) hb); have n3_ := Aside0.mk (blk_below (g := gb108) (o := .cells #[.int .i64 ((rd_T29 l0 (ji15)).f0), .int .i64 ((rd_T29 l0 (ji15)).f1), .string ((rd_T29 l0 (ji15)).f2), .slice (some ad121) ((rd_T29 l0 (ji15)).f3).length c107_3] 29 (0, 0)) (by (with_reducible repeat (first | refine blk_drewN ?_ _ | refine blk_drew ?_ | refine blk_alloc ?_ _)); exact BK108.out) hb); have n4_ := Aside0.mk (blk_below (g := gb116) (o := .cells #[.bool t112, .bool t113, .int .i64 t114] 31 (0, 0)) (by (with_reducible repeat (first | refine blk_drewN ?_ _ | refine blk_drew ?_ | refine blk_alloc ?_ _)); exact BK116.out) hb); have n5_ := Aside0.mk (blk_below (g := gb117) (o := .cells #[.bool x118000_2, .bool x118001_2, .int .i64 x118002_2] 31 (0, 0)) (by (with_reducible repeat (first | refine blk_drewN ?_ _ | refine blk_drew ?_ | refine blk_alloc ?_ _)); exact BK117.out) hb); have n6_ := Aside0.mk (below_step (by repeat (first | (with_reducible first | exact HB.out | apply below_alloc | apply pw_below_drewN | apply below_drew1 | refine below_set ?_ GE108.out | refine below_set ?_ GE116.out | refine below_set ?_ GE117.out) | exact HB.out)) hb); have n7_ := Aside0.mk (hbox); have n8_ := Aside0.mk ((by rw [hg]; exact (below_size (by repeat (first | (with_reducible first | exact HB.out | apply below_alloc | apply pw_below_drewN | apply below_drew1 | refine below_set ?_ GE108.out | refine below_set ?_ GE116.out | refine below_set ?_ GE117.out) | exact HB.out))) : w.heap.size ≤ gb130)); have n9_ := Aside0.mk ((by rw [hg]; exact (below_size (by repeat (first | (with_reducible first | exact HB.out | apply below_alloc | apply pw_below_drewN | apply below_drew1 | refine below_set ?_ GE108.out | refine below_set ?_ GE116.out | refine below_set ?_ GE117.out) | exact HB.out))) : w.heap.size ≤ gb130)); have n10_ := Aside0.mk ((by rw [hg]; exact Nat.ne_of_lt (blk_lt (g := gb108) (o := .cells #[.int .i64 ((rd_T29 l0 (ji15)).f0), .int .i64 ((rd_T29 l0 (ji15)).f1), .string ((rd_T29 l0 (ji15)).f2), .slice (some ad121) ((rd_T29 l0 (ji15)).f3).length c107_3] 29 (0, 0)) (by (with_reducible repeat (first | refine blk_drewN ?_ _ | refine blk_drew ?_ | refine blk_alloc ?_ _)); exact BK108.out)) : gb108 ≠ gb130)); have n11_ := Aside0.mk ((by rw [hg]; exact Nat.ne_of_gt (blk_lt (g := gb108) (o := .cells #[.int .i64 ((rd_T29 l0 (ji15)).f0), .int .i64 ((rd_T29 l0 (ji15)).f1), .string ((rd_T29 l0 (ji15)).f2), .slice (some ad121) ((rd_T29 l0 (ji15)).f3).length c107_3] 29 (0, 0)) (by (with_reducible repeat (first | refine blk_drewN ?_ _ | refine blk_drew ?_ | refine blk_alloc ?_ _)); exact BK108.out)) : gb130 ≠ gb108)); have n12_ := Aside0.mk ((by rw [hg]; exact Nat.ne_of_lt (blk_lt (g := gb116) (o := .cells #[.bool t112, .bool t113, .int .i64 t114] 31 (0, 0)) (by (with_reducible repeat (first | refine blk_drewN ?_ _ | refine blk_drew ?_ | refine blk_alloc ?_ _)); exact BK116.out)) : gb116 ≠ gb130)); have n13_ := Aside0.mk ((by rw [hg]; exact Nat.ne_of_gt (blk_lt (g := gb116) (o := .cells #[.bool t112, .bool t113, .int .i64 t114] 31 (0, 0)) (by (with_reducible repeat (first | refine blk_drewN ?_ _ | refine blk_drew ?_ | refine blk_alloc ?_ _)); exact BK116.out)) : gb130 ≠ gb116)); have n14_ := Aside0.mk ((by rw [hg]; exact Nat.ne_of_lt (blk_lt (g := gb117) (o := .cells #[.bool x118000_2, .bool x118001_2, .int .i64 x118002_2] 31 (0, 0)) (by (with_reducible repeat (first | refine blk_drewN ?_ _ | refine blk_drew ?_ | refine blk_alloc ?_ _)); exact BK117.out)) : gb117 ≠ gb130)); have n15_ := Aside0.mk ((by rw [hg]; exact Nat.ne_of_gt (blk_lt (g := gb117) (o := .cells #[.bool x118000_2, .bool x118001_2, .int .i64 x118002_2] 31 (0, 0)) (by (with_reducible repeat (first | refine blk_drewN ?_ _ | refine blk_drew ?_ | refine blk_alloc ?_ _)); exact BK117.out)) : gb130 ≠ gb117)); clear HO_8; clear HO120; clear HO125; clear BK108; clear BK116; clear BK117; clear HB; have HO_8 := n0_; have HO120 := n1_; have HO125 := n2_; have BK108 := n3_; have BK116 := n4_; have BK117 := n5_; have HB := n6_; have BK130 := n7_; have GW130 := n8_; have GE130 := n9_; have NB108_130 := n10_; have NB130_108 := n11_; have NB116_130 := n12_; have NB130_116 := n13_; have NB117_130 := n14_; have NB130_117 := n15_; clear n0_ n1_ n2_ n3_ n4_ n5_ n6_ n7_ n8_ n9_ n10_ n11_ n12_ n13_ n14_ n15_; clear hb hbox hg; have hnb88 := NB130_108.out; have hnc88 := NB108_130.out; have hnb89 := NB130_116.out; have hnc89 := NB116_130.out; have hnb90 := NB130_117.out; have hnc90 := NB117_130.out; have hcz91_0 : w87.cell? ⟨gb130, 0, none⟩ = some (.bool false) := (blk_cell BK130.out 0).trans rfl; have hcz91_1 : w87.cell? ⟨gb130, 1, none⟩ = some (.bool false) := (blk_cell BK130.out 1).trans rfl; have hcz91_2 : w87.cell? ⟨gb130, 2, none⟩ = some (.int .i64 0) := (blk_cell BK130.out 2).trans rfl; have hfz91_0 := blk_frozen BK130.out 0; have hfz91_1 := blk_frozen BK130.out 1; have hfz91_2 := blk_frozen BK130.out 2) | ((with_reducible refine gate_builtin (b := .append) (xs := #[.tmp 77, .tmp 80]) rfl ?_); at_builtin; refine Kd.R_append (Kd.int .i64) (w0 := w) w.heap.size rfl (.tmp 77) (.tmp 80) 34 2 (.int .i64 0) 8 rfl Tryd.underlying34 info2 rfl (by decide) (by omega) u8 x8_2 t128 [.int .i64 t128] (fun _ => True) (fun _ => False) rfl (by first | (go_simp; done) | (go_simp; rfl)) ?aP (fun _ hk => hk.elim) ?aF ?aO ?aB ?aS ?aL ?_; (case aP => exact rfl); (case aB => exact (by repeat (first | (with_reducible first | exact HB.out | apply below_alloc | apply pw_below_drewN | apply below_drew1 | refine below_set ?_ GE108.out | refine below_set ?_ GE116.out | refine below_set ?_ GE117.out | refine below_set ?_ GE130.out) | exact HB.out))); (case aF => exact (fun _ _ => trivial)); (case aO => exact (by (with_reducible repeat (first | apply Kd.R_alloc | apply Kd.R_drewN | apply Kd.R_drew)); exact Kd.R_mono (Kd.R_far (p := ⟨gb130, 2, none⟩) (Kd.R_far (p := ⟨gb130, 1, none⟩) (Kd.R_far (p := ⟨gb130, 0, none⟩) (Kd.R_types HO_8.out BK130.out (by decide)) (fun _ hk => hk.2) (.bool t126)) (fun _ hk => hk.2) (.bool t127)) (fun _ hk => hk.2) (.int .i64 t128)) (fun _ hk => trivial))); (case aS => exact (below_size (by repeat (first | (with_reducible first | exact HB.out | apply below_alloc | apply pw_below_drewN | apply below_drew1 | refine below_set ?_ GE108.out | refine below_set ?_ GE116.out | refine below_set ?_ GE117.out | refine below_set ?_ GE130.out) | exact HB.out)))); (case aL => have := LMc77.out; omega); intro v138 w92 ho hb hg hat; rw [← Ny137.out] at ho; have n0_ := Aside0.mk (blk_grown (g := gb108) (o := .cells #[.int .i64 ((rd_T29 l0 (ji15)).f0), .int .i64 ((rd_T29 l0 (ji15)).f1), .string ((rd_T29 l0 (ji15)).f2), .slice (some ad121) ((rd_T29 l0 (ji15)).f3).length c107_3] 29 (0, 0)) (by (with_reducible repeat (first | refine blk_drewN ?_ _ | refine blk_drew ?_ | refine blk_alloc ?_ _)); refine blk_far ?_ NB108_130.out _; (with_reducible repeat (first | refine blk_drewN ?_ _ | refine blk_drew ?_ | refine blk_alloc ?_ _)); refine blk_far ?_ NB108_130.out _; (with_reducible repeat (first | refine blk_drewN ?_ _ | refine blk_drew ?_ | refine blk_alloc ?_ _)); refine blk_far ?_ NB108_130.out _; (with_reducible repeat (first | refine blk_drewN ?_ _ | refine blk_drew ?_ | refine blk_alloc ?_ _)); exact BK108.out) hg (Kd.R_ne HO_8.out BK108.out (by decide))); have n1_ := Aside0.mk (blk_grown (g := gb116) (o := .cells #[.bool t112, .bool t113, .int .i64 t114] 31 (0, 0)) (by (with_reducible repeat (first | refine blk_drewN ?_ _ | refine blk_drew ?_ | refine blk_alloc ?_ _)); refine blk_far ?_ NB116_130.out _; (with_reducible repeat (first | refine blk_drewN ?_ _ | refine blk_drew ?_ | refine blk_alloc ?_ _)); refine blk_far ?_ NB116_130.out _; (with_reducible repeat (first | refine blk_drewN ?_ _ | refine blk_drew ?_ | refine blk_alloc ?_ _)); refine blk_far ?_ NB116_130.out _; (with_reducible repeat (first | refine blk_drewN ?_ _ | refine blk_drew ?_ | refine blk_alloc ?_ _)); exact BK116.out) hg (Kd.R_ne HO_8.out BK116.out (by decide))); have n2_ := Aside0.mk (blk_grown (g := gb117) (o := .cells #[.bool x118000_2, .bool x118001_2, .int .i64 x118002_2] 31 (0, 0)) (by (with_reducible repeat (first | refine blk_drewN ?_ _ | refine blk_drew ?_ | refine blk_alloc ?_ _)); refine blk_far ?_ NB117_130.out _; (with_reducible repeat (first | refine blk_drewN ?_ _ | refine blk_drew ?_ | refine blk_alloc ?_ _)); refine blk_far ?_ NB117_130.out _; (with_reducible repeat (first | refine blk_drewN ?_ _ | refine blk_drew ?_ | refine blk_alloc ?_ _)); refine blk_far ?_ NB117_130.out _; (with_reducible repeat (first | refine blk_drewN ?_ _ | refine blk_drew ?_ | refine blk_alloc ?_ _)); exact BK117.out) hg (Kd.R_ne HO_8.out BK117.out (by decide))); have n3_ := Aside0.mk (Kd.S_over' (by (with_reducible repeat (first | apply Kd.S_alloc | apply Kd.S_drewN | apply Kd.S_drew)); exact (Kd.S_mono (Kd.S_far (p := ⟨gb130, 2, none⟩) (Kd.S_far (p := ⟨gb130, 1, none⟩) (Kd.S_far (p := ⟨gb130, 0, none⟩) (Kd.S_types HO120.out BK130.out (by decide)) (fun _ hk => hk.2) (.bool t126)) (fun _ hk => hk.2) (.bool t127)) (fun _ hk => hk.2) (.int .i64 t128)) (fun _ h_ => h_.1))) (Kd.R_typed (by (with_reducible repeat (first | apply Kd.R_alloc | apply Kd.R_drewN | apply Kd.R_drew)); exact (Kd.R_mono (Kd.R_far (p := ⟨gb130, 2, none⟩) (Kd.R_far (p := ⟨gb130, 1, none⟩) (Kd.R_far (p := ⟨gb130, 0, none⟩) (Kd.R_types HO_8.out BK130.out (by decide)) (fun _ hk => hk.2) (.bool t126)) (fun _ hk => hk.2) (.bool t127)) (fun _ hk => hk.2) (.int .i64 t128)) (fun _ h_ => h_.1)))) (by decide) hg); have n4_ := Aside0.mk (Kd.S_over' (by (with_reducible repeat (first | apply Kd.S_alloc | apply Kd.S_drewN | apply Kd.S_drew)); exact (Kd.S_mono (Kd.S_far (p := ⟨gb130, 2, none⟩) (Kd.S_far (p := ⟨gb130, 1, none⟩) (Kd.S_far (p := ⟨gb130, 0, none⟩) (Kd.S_types HO125.out BK130.out (by decide)) (fun _ hk => hk.2) (.bool t126)) (fun _ hk => hk.2) (.bool t127)) (fun _ hk => hk.2) (.int .i64 t128)) (fun _ h_ => h_.1))) (Kd.R_typed (by (with_reducible repeat (first | apply Kd.R_alloc | apply Kd.R_drewN | apply Kd.R_drew)); exact (Kd.R_mono (Kd.R_far (p := ⟨gb130, 2, none⟩) (Kd.R_far (p := ⟨gb130, 1, none⟩) (Kd.R_far (p := ⟨gb130, 0, none⟩) (Kd.R_types HO_8.out BK130.out (by decide)) (fun _ hk => hk.2) (.bool t126)) (fun _ hk => hk.2) (.bool t127)) (fun _ hk => hk.2) (.int .i64 t128)) (fun _ h_ => h_.1)))) (by decide) hg); have n5_ := Aside0.mk (blk_grown (g := gb130) (o := .cells #[.bool t126, .bool t127, .int .i64 t128] 31 (0, 0)) (by (with_reducible repeat (first | refine blk_drewN ?_ _ | refine blk_drew ?_ | refine blk_alloc ?_ _)); refine blk_put (cs := #[.bool t126, .bool t127, .int .i64 0]) ?_ 2 _ rfl; (with_reducible repeat (first | refine blk_drewN ?_ _ | refine blk_drew ?_ | refine blk_alloc ?_ _)); refine blk_put (cs := #[.bool t126, .bool false, .int .i64 0]) ?_ 1 _ rfl; (with_reducible repeat (first | refine blk_drewN ?_ _ | refine blk_drew ?_ | refine blk_alloc ?_ _)); refine blk_put (cs := #[.bool false, .bool false, .int .i64 0]) ?_ 0 _ rfl; (with_reducible repeat (first | refine blk_drewN ?_ _ | refine blk_drew ?_ | refine blk_alloc ?_ _)); exact BK130.out) hg (Kd.R_ne HO_8.out BK130.out (by decide))); have n6_ := Aside0.mk (hb); have n7_ := Aside0.mk (ho); clear BK108; clear BK116; clear BK117; clear HO120; clear HO125; clear BK130; clear HB; clear HO_8; have BK108 := n0_; have BK116 := n1_; have BK117 := n2_; have HO120 := n3_; have HO125 := n4_; have BK130 := n5_; have HB := n6_; have HO139 := n7_; clear n0_ n1_ n2_ n3_ n4_ n5_ n6_ n7_; clear ho hb hg hat; have hcz93_0 : w92.cell? ⟨gb130, 0, none⟩ = some (.bool t126) := (blk_cell BK130.out 0).trans rfl; have hcz93_1 : w92.cell? ⟨gb130, 1, none⟩ = some (.bool t127) := (blk_cell BK130.out 1).trans rfl; have hcz93_2 : w92.cell? ⟨gb130, 2, none⟩ = some (.int .i64 t128) := (blk_cell BK130.out 2).trans rfl; have hfz93_0 := blk_frozen BK130.out 0; have hfz93_1 := blk_frozen BK130.out 1; have hfz93_2 := blk_frozen BK130.out 2; have hnb94 := NB117_116.out; have hnc94 := NB116_117.out; have hcz95_0 : w92.cell? ⟨gb117, 0, none⟩ = some (.bool x118000_2) := (blk_cell BK117.out 0).trans rfl; have hcz95_1 : w92.cell? ⟨gb117, 1, none⟩ = some (.bool x118001_2) := (blk_cell BK117.out 1).trans rfl; have hcz95_2 : w92.cell? ⟨gb117, 2, none⟩ = some (.int .i64 x118002_2) := (blk_cell BK117.out 2).trans rfl; have hfz95_0 := blk_frozen BK117.out 0; have hfz95_1 := blk_frozen BK117.out 1; have hfz95_2 := blk_frozen BK117.out 2))
              go_roundg k2
              case measure => have := HJ1.out; have := HK2.out; omega
              case rel => exact ⟨(false), (t127), (y137), (wrap64 (x10_2 + 1)), (t126), (t127), (t128), (by first | rfl | (simp; done) | (simp [*]; done)), (by first | rfl | (simp; done) | (simp [*]; done)), (by first | rfl | (simp; done) | (simp [*]; done)), H', ⟨by have := HJ1.out; have := HK2.out; omega⟩, ⟨by (with_reducible repeat (first | apply Kd.R_alloc | apply Kd.R_drewN | apply Kd.R_drew)); exact Kd.R_mono (Kd.R_far (p := ⟨gb117, 2, none⟩) (Kd.R_far (p := ⟨gb117, 1, none⟩) (Kd.R_far (p := ⟨gb117, 0, none⟩) (Kd.R_types HO139.out BK117.out (by decide)) (fun _ hk => hk.2) (.bool t126)) (fun _ hk => hk.2) (.bool t127)) (fun _ hk => hk.2) (.int .i64 t128)) (fun _ hk => trivial)⟩, ⟨by (with_reducible repeat (first | refine blk_drewN ?_ _ | refine blk_drew ?_ | refine blk_alloc ?_ _)); refine blk_far ?_ NB108_117.out _; (with_reducible repeat (first | refine blk_drewN ?_ _ | refine blk_drew ?_ | refine blk_alloc ?_ _)); refine blk_far ?_ NB108_117.out _; (with_reducible repeat (first | refine blk_drewN ?_ _ | refine blk_drew ?_ | refine blk_alloc ?_ _)); refine blk_far ?_ NB108_117.out _; (with_reducible repeat (first | refine blk_drewN ?_ _ | refine blk_drew ?_ | refine blk_alloc ?_ _)); exact BK108.out⟩, ⟨by (with_reducible repeat (first | refine blk_drewN ?_ _ | refine blk_drew ?_ | refine blk_alloc ?_ _)); refine blk_far ?_ NB116_117.out _; (with_reducible repeat (first | refine blk_drewN ?_ _ | refine blk_drew ?_ | refine blk_alloc ?_ _)); refine blk_far ?_ NB116_117.out _; (with_reducible repeat (first | refine blk_drewN ?_ _ | refine blk_drew ?_ | refine blk_alloc ?_ _)); refine blk_far ?_ NB116_117.out _; (with_reducible repeat (first | refine blk_drewN ?_ _ | refine blk_drew ?_ | refine blk_alloc ?_ _)); exact BK116.out⟩, ⟨by (with_reducible repeat (first | refine blk_drewN ?_ _ | refine blk_drew ?_ | refine blk_alloc ?_ _)); refine blk_put (cs := #[.bool t126, .bool t127, .int .i64 x118002_2]) ?_ 2 _ rfl; (with_reducible repeat (first | refine blk_drewN ?_ _ | refine blk_drew ?_ | refine blk_alloc ?_ _)); refine blk_put (cs := #[.bool t126, .bool x118001_2, .int .i64 x118002_2]) ?_ 1 _ rfl; (with_reducible repeat (first | refine blk_drewN ?_ _ | refine blk_drew ?_ | refine blk_alloc ?_ _)); refine blk_put (cs := #[.bool x118000_2, .bool x118001_2, .int .i64 x118002_2]) ?_ 0 _ rfl; (with_reducible repeat (first | refine blk_drewN ?_ _ | refine blk_drew ?_ | refine blk_alloc ?_ _)); exact BK117.out⟩, ⟨by repeat (first | (with_reducible first | exact HB.out | apply below_alloc | apply pw_below_drewN | apply below_drew1 | refine below_set ?_ GE108.out | refine below_set ?_ GE116.out | refine below_set ?_ GE117.out | refine below_set ?_ GE130.out) | exact HB.out)⟩⟩
             ·rw [if_neg c77] at H
              exact absurd H (by simp)
            ·replace c76 := Bool.eq_false_iff.mpr c76
             subst c76
             have H1 : (if x8_2.length < 17592186044416 then (sorrellaw13_FactsParts.l0 k2 l0 false false (x8_2 ++ [t128]) (wrap64 (x10_2 + 1)) ((rd_T29 l0 (ji15)).f0) ((rd_T29 l0 (ji15)).f1) ((rd_T29 l0 (ji15)).f2) ((rd_T29 l0 (ji15)).f3) t112 t113 t114 t126 t127 t128) else (none)) = some r := by rw [if_neg (show ¬ (false = true) by decide)] at H; exact H
             clear H
             have H := H1
             clear H1
             by_cases c96 : x8_2.length < 17592186044416
             ·rw [if_pos c96] at H
              have LMc96 := Aside0.mk c96
              clear c96
              obtain ⟨y140, hy140⟩ : ∃ y_ : List Int, y_ = (x8_2 ++ [t128]) := ⟨_, rfl⟩
              replace H : (sorrellaw13_FactsParts.l0 k2 l0 false false y140 (wrap64 (x10_2 + 1)) ((rd_T29 l0 (ji15)).f0) ((rd_T29 l0 (ji15)).f1) ((rd_T29 l0 (ji15)).f2) ((rd_T29 l0 (ji15)).f3) t112 t113 t114 t126 t127 t128) = some r := by first | (rw [hy140]; with_reducible exact H) | (have H2_ := (Option.bind_some _ _).symm.trans H; rw [hy140]; with_reducible exact H2_) | (have H2_ := (Option.bind_some _ _).symm.trans H; with_reducible exact H2_) | with_reducible exact H | (rw [hy140]; exact H) | exact H
              have Ny140 := Aside0.mk hy140
              clear hy140
              have H' := Aside0.mk H
              clear H
              have hnb97 := NB108_116.out
              have hnc97 := NB116_108.out
              have hnb98 := NB108_117.out
              have hnc98 := NB117_108.out
              have hcz99_0 : wr.cell? ⟨gb108, 0, none⟩ = some (.int .i64 ((rd_T29 l0 (ji15)).f0)) := (blk_cell BK108.out 0).trans rfl
              have hcz99_1 : wr.cell? ⟨gb108, 1, none⟩ = some (.int .i64 ((rd_T29 l0 (ji15)).f1)) := (blk_cell BK108.out 1).trans rfl
              have hcz99_2 : wr.cell? ⟨gb108, 2, none⟩ = some (.string ((rd_T29 l0 (ji15)).f2)) := (blk_cell BK108.out 2).trans rfl
              have hcz99_3 : wr.cell? ⟨gb108, 3, none⟩ = some (.slice A107_3 ((rd_T29 l0 (ji15)).f3).length c107_3) := (blk_cell BK108.out 3).trans rfl
              have hfz99_0 := blk_frozen BK108.out 0
              have hfz99_1 := blk_frozen BK108.out 1
              have hfz99_2 := blk_frozen BK108.out 2
              have hfz99_3 := blk_frozen BK108.out 3
              try go_wp2
              have n0_ := Aside0.mk (Kd.R_drew HO_8.out)
              have n1_ := Aside0.mk (blk_drew BK108.out)
              have n2_ := Aside0.mk (blk_drew BK116.out)
              have n3_ := Aside0.mk (blk_drew BK117.out)
              have n4_ := Aside0.mk (below_drew1 HB.out)
              clear HO_8
              clear BK108
              clear BK116
              clear BK117
              clear HB
              have HO_8 := n0_
              have BK108 := n1_
              have BK116 := n2_
              have BK117 := n3_
              have HB := n4_
              clear n0_ n1_ n2_ n3_ n4_
              have p121 : 0 ≤ (x10_2 : Int) := of_decide_eq_true (by first | (with_reducible assumption) | assumption)
              have q121 : x10_2 < (((rd_T29 l0 (ji15)).f3).length : Int) := of_decide_eq_true (by first | (with_reducible assumption) | assumption)
              obtain ⟨ad121, e121, hx121_0⟩ := Kd.at_int HR107_3.out x10_2 p121 q121
              have hw121_0 := hx121_0
              cases e121
              replace hx121_0 := (HB.out.cell (World.block_lt_of_cell? w _ hx121_0)).trans hx121_0
              replace p121 := eq_true p121
              replace q121 := eq_true q121
              refine start_ (n := 13) (S := fun w' => w'.cell? ⟨gb108, 0, none⟩ = some (.int .i64 ((rd_T29 l0 (ji15)).f0)) ∧ w'.cell? ⟨gb108, 1, none⟩ = some (.int .i64 ((rd_T29 l0 (ji15)).f1)) ∧ w'.cell? ⟨gb108, 2, none⟩ = some (.string ((rd_T29 l0 (ji15)).f2)) ∧ w'.cell? ⟨gb108, 3, none⟩ = some (.slice (some ad121) ((rd_T29 l0 (ji15)).f3).length c107_3) ∧ w'.cell? (ad121.add (x10_2).toNat) = some (.int .i64 (rd ((rd_T29 l0 (ji15)).f3) x10_2))) (ds := []) #[false, false, false, false, false, false, false, false, false, false, false, false, false] (by kernel_rfl) rfl rfl ⟨(blk_cell BK108.out 0).trans rfl, (blk_cell BK108.out 1).trans rfl, (blk_cell BK108.out 2).trans rfl, (blk_cell BK108.out 3).trans rfl, ((HB.out.cell (World.block_lt_of_cell? w _ hw121_0)).trans hw121_0)⟩ (fun hHeld => ?_); refine with_tabW sorrellaw13_FactsParts.tab12 sorrellaw13_FactsParts.bits12 (fun HT_ HW_ => ?_)
              generalize wr.drew = w100 at HO_8 BK108 BK116 BK117 HB hx121_0 hHeld ⊢
              refine pure_ (i := 0) (N := some 50) (v := ?_) (a' := ?_) #[true, false, false, false, false, false, false, false, false, false, false, false, false] rfl rfl (any_of HT_.out (by kernel_rfl)) (fun _ _ _ h => h) (Or.inl ⟨by rfl, ?_⟩) ?_ ?_
              rotate_left
              ·intro w'
               go_simp
               with_reducible rfl
              rotate_left
              ·simp only [Act.put, List.setIfInBounds_toArray, List.set_cons_zero, List.set_cons_succ, i64_w, i32_w]
               rfl
              refine pure_ (i := 2) (N := some 52) (v := ?_) (a' := ?_) #[true, false, true, false, false, false, false, false, false, false, false, false, false] rfl rfl (any_of HT_.out (by kernel_rfl)) (fun _ _ _ h => h) (Or.inl ⟨by rfl, ?_⟩) ?_ ?_
              rotate_left
              ·intro w'
               go_simp
               with_reducible rfl
              rotate_left
              ·simp only [Act.put, List.setIfInBounds_toArray, List.set_cons_zero, List.set_cons_succ, i64_w, i32_w]
               rfl
              refine pure_ (i := 4) (N := some 54) (v := ?_) (a' := ?_) #[true, false, true, false, true, false, false, false, false, false, false, false, false] rfl rfl (any_of HT_.out (by kernel_rfl)) (fun _ _ _ h => h) (Or.inl ⟨by rfl, ?_⟩) ?_ ?_
              rotate_left
              ·intro w'
               go_simp
               with_reducible rfl
              rotate_left
              ·simp only [Act.put, List.setIfInBounds_toArray, List.set_cons_zero, List.set_cons_succ, i64_w, i32_w]
               rfl
              refine take_ (i := 3) (N := some 53) (v := ?_) (a' := ?_) #[true, false, true, true, true, false, false, false, false, false, false, false, false] rfl rfl (take_ofW HT_.out HW_.out (by kernel_rfl)) (fun _ _ _ h => h) (Or.inl ⟨by rfl, ?_⟩) hHeld ?_ ?_
              rotate_left
              ·rintro w' ⟨s0, s1, s2, s3, s4⟩
               go_simp
               with_reducible rfl
              rotate_left
              ·simp only [Act.put, List.setIfInBounds_toArray, List.set_cons_zero, List.set_cons_succ, i64_w, i32_w]
               rfl
              refine pure_ (i := 5) (N := some 55) (v := ?_) (a' := ?_) #[true, false, true, true, true, true, false, false, false, false, false, false, false] rfl rfl (any_of HT_.out (by kernel_rfl)) (fun _ _ _ h => h) (Or.inl ⟨by rfl, ?_⟩) ?_ ?_
              rotate_left
              ·intro w'
               go_simp
               with_reducible rfl
              rotate_left
              ·simp only [Act.put, List.setIfInBounds_toArray, List.set_cons_zero, List.set_cons_succ, i64_w, i32_w]
               rfl
              refine take_ (i := 6) (N := some 56) (v := ?_) (a' := ?_) #[true, false, true, true, true, true, true, false, false, false, false, false, false] rfl rfl (take_ofW HT_.out HW_.out (by kernel_rfl)) (fun _ _ _ h => h) (Or.inl ⟨by rfl, ?_⟩) hHeld ?_ ?_
              rotate_left
              ·rintro w' ⟨s0, s1, s2, s3, s4⟩
               go_simp
               with_reducible rfl
              rotate_left
              ·simp only [Act.put, List.setIfInBounds_toArray, List.set_cons_zero, List.set_cons_succ, i64_w, i32_w]
               rfl
              refine one_ (i := 1) (N := some 51) #[true, true, true, true, true, true, true, false, false, false, false, false, false] rfl rfl (one_of HT_.out (by kernel_rfl)) (by decide) (fun K hK => ?_)
              refine goes_ Tryd.func8 (by kernel_rfl) rfl #[.slice (some ad107) l0.length c0] (by rfl) rfl rfl (by (try simp only [List.map_toArray, List.map_cons, List.map_nil]); first | done | rfl | (simp only [List.length_drop, List.length_take]; rfl)) ?_
              with_reducible refine (sorrelref02_Copy.calls k2 _ _ l0 t118 _ ?side1 ?side2 A31.out).mono ?_
              (case side1 => repeat (first | exact (Kd.C_below HR0.out HB.out) | (with_reducible refine Kd.C_alloc ?_ _) | (with_reducible refine Kd.C_drewN ?_ _) | (with_reducible refine Kd.C_drew ?_)))
              (case side2 => exact HC0.out)
              rintro e w101 ⟨v119, rfl, ho0, hb⟩
              refine ⟨_, rfl, ?_⟩
              have n0_ := Aside0.mk (Kd.R_below (by (with_reducible repeat (first | apply Kd.R_alloc | apply Kd.R_drewN | apply Kd.R_drew)); exact HO_8.out) hb)
              have n1_ := Aside0.mk (Kd.S_lower (Kd.S_newB ho0 (g := gb108) (o := .cells #[.int .i64 ((rd_T29 l0 (ji15)).f0), .int .i64 ((rd_T29 l0 (ji15)).f1), .string ((rd_T29 l0 (ji15)).f2), .slice (some ad121) ((rd_T29 l0 (ji15)).f3).length c107_3] 29 (0, 0)) (by (with_reducible repeat (first | refine blk_drewN ?_ _ | refine blk_drew ?_ | refine blk_alloc ?_ _)); exact BK108.out)) (below_size (by repeat (first | (with_reducible first | exact HB.out | apply below_alloc | apply pw_below_drewN | apply below_drew1 | refine below_set ?_ GE108.out | refine below_set ?_ GE116.out | refine below_set ?_ GE117.out) | exact HB.out))))
              have n2_ := Aside0.mk (blk_below (g := gb108) (o := .cells #[.int .i64 ((rd_T29 l0 (ji15)).f0), .int .i64 ((rd_T29 l0 (ji15)).f1), .string ((rd_T29 l0 (ji15)).f2), .slice (some ad121) ((rd_T29 l0 (ji15)).f3).length c107_3] 29 (0, 0)) (by (with_reducible repeat (first | refine blk_drewN ?_ _ | refine blk_drew ?_ | refine blk_alloc ?_ _)); exact BK108.out) hb)
              have n3_ := Aside0.mk (blk_below (g := gb116) (o := .cells #[.bool t112, .bool t113, .int .i64 t114] 31 (0, 0)) (by (with_reducible repeat (first | refine blk_drewN ?_ _ | refine blk_drew ?_ | refine blk_alloc ?_ _)); exact BK116.out) hb)
              have n4_ := Aside0.mk (blk_below (g := gb117) (o := .cells #[.bool x118000_2, .bool x118001_2, .int .i64 x118002_2] 31 (0, 0)) (by (with_reducible repeat (first | refine blk_drewN ?_ _ | refine blk_drew ?_ | refine blk_alloc ?_ _)); exact BK117.out) hb)
              have n5_ := Aside0.mk (below_step (by repeat (first | (with_reducible first | exact HB.out | apply below_alloc | apply pw_below_drewN | apply below_drew1 | refine below_set ?_ GE108.out | refine below_set ?_ GE116.out | refine below_set ?_ GE117.out) | exact HB.out)) hb)
              clear HO_8
              clear BK108
              clear BK116
              clear BK117
              clear HB
              have HO_8 := n0_
              have HO120 := n1_
              have BK108 := n2_
              have BK116 := n3_
              have BK117 := n4_
              have HB := n5_
              clear n0_ n1_ n2_ n3_ n4_ n5_
              (try clear hb)
              (try clear hb2)
              (try clear hk)
              (try clear hi)
              (try clear ho0)
              obtain ⟨Ao102, co102, eo102⟩ := Kd.S_slice HO120.out
              (first | subst eo102 | (injection eo102 with f1_ f2_ f3_; have f4_ := f1_.symm; have f5_ := f3_.symm; clear f1_ f2_ f3_; subst f4_; subst f5_))
              refine hK.out _ _ ⟨(blk_cell BK108.out 0).trans rfl, (blk_cell BK108.out 1).trans rfl, (blk_cell BK108.out 2).trans rfl, (blk_cell BK108.out 3).trans rfl, ((HB.out.cell (World.block_lt_of_cell? w _ hw121_0)).trans hw121_0)⟩ (fun hHeld => ?_)
              clear hK K
              refine norm_ (a' := ?_) ?_ ?_
              rotate_left
              ·show Act.put _ (some 51) _ = _
               simp only [Act.put, List.setIfInBounds_toArray, List.set_cons_zero, List.set_cons_succ, i64_w, i32_w]
               rfl
              refine one_ (i := 7) (N := some 57) #[true, true, true, true, true, true, true, true, false, false, false, false, false] rfl rfl (one_of HT_.out (by kernel_rfl)) (by decide) (fun K hK => ?_)
              refine goes_ Tryd.func10 (by kernel_rfl) rfl #[.slice Ao102 t118.length co102, .int .i64 (rd ((rd_T29 l0 (ji15)).f3) x10_2)] (by rfl) rfl rfl (by (try simp only [List.map_toArray, List.map_cons, List.map_nil]); first | done | (simp only [hji15]; rfl) | rfl | (simp only [List.length_drop, List.length_take]; rfl)) ?_
              with_reducible refine (expr_Part.calls k2 _ _ t118 (rd ((rd_T29 l0 (ji15)).f3) x10_2) t122 t123 _ ?side1 ?side2 ?side3 A33.out).mono ?_
              (case side1 => repeat (first | exact (Kd.S_reads' HO120.out).2.2 | (with_reducible refine Kd.C_alloc ?_ _) | (with_reducible refine Kd.C_drewN ?_ _) | (with_reducible refine Kd.C_drew ?_)))
              (case side2 => exact (Kd.S_reads' HO120.out).2.1)
              (case side3 => first | exact HG.out | exact Glob.below HG.out (by repeat (first | (with_reducible first | exact HB.out | apply below_alloc | apply pw_below_drewN | apply below_drew1 | refine below_set ?_ GE108.out | refine below_set ?_ GE116.out | refine below_set ?_ GE117.out) | exact HB.out)) | (repeat (first | exact HG.out | refine Glob.dr ?_ _)))
              rintro e w103 ⟨v124, rfl, ho0, hb⟩
              refine ⟨_, rfl, ?_⟩
              have n0_ := Aside0.mk (Kd.R_below (by (with_reducible repeat (first | apply Kd.R_alloc | apply Kd.R_drewN | apply Kd.R_drew)); exact HO_8.out) hb)
              have n1_ := Aside0.mk (Kd.S_elder' (by (with_reducible repeat (first | apply Kd.S_alloc | apply Kd.S_drewN | apply Kd.S_drew)); exact HO120.out) (Kd.S_base ho0) hb)
              have n2_ := Aside0.mk (Kd.S_lower (Kd.S_newB (Kd.S_new' ho0 (Kd.S_lt (by (with_reducible repeat (first | apply Kd.S_alloc | apply Kd.S_drewN | apply Kd.S_drew)); exact HO120.out))) (g := gb108) (o := .cells #[.int .i64 ((rd_T29 l0 (ji15)).f0), .int .i64 ((rd_T29 l0 (ji15)).f1), .string ((rd_T29 l0 (ji15)).f2), .slice (some ad121) ((rd_T29 l0 (ji15)).f3).length c107_3] 29 (0, 0)) (by (with_reducible repeat (first | refine blk_drewN ?_ _ | refine blk_drew ?_ | refine blk_alloc ?_ _)); exact BK108.out)) (below_size (by repeat (first | (with_reducible first | exact HB.out | apply below_alloc | apply pw_below_drewN | apply below_drew1 | refine below_set ?_ GE108.out | refine below_set ?_ GE116.out | refine below_set ?_ GE117.out) | exact HB.out))))
              have n3_ := Aside0.mk (blk_below (g := gb108) (o := .cells #[.int .i64 ((rd_T29 l0 (ji15)).f0), .int .i64 ((rd_T29 l0 (ji15)).f1), .string ((rd_T29 l0 (ji15)).f2), .slice (some ad121) ((rd_T29 l0 (ji15)).f3).length c107_3] 29 (0, 0)) (by (with_reducible repeat (first | refine blk_drewN ?_ _ | refine blk_drew ?_ | refine blk_alloc ?_ _)); exact BK108.out) hb)
              have n4_ := Aside0.mk (blk_below (g := gb116) (o := .cells #[.bool t112, .bool t113, .int .i64 t114] 31 (0, 0)) (by (with_reducible repeat (first | refine blk_drewN ?_ _ | refine blk_drew ?_ | refine blk_alloc ?_ _)); exact BK116.out) hb)
              have n5_ := Aside0.mk (blk_below (g := gb117) (o := .cells #[.bool x118000_2, .bool x118001_2, .int .i64 x118002_2] 31 (0, 0)) (by (with_reducible repeat (first | refine blk_drewN ?_ _ | refine blk_drew ?_ | refine blk_alloc ?_ _)); exact BK117.out) hb)
              have n6_ := Aside0.mk (below_step (by repeat (first | (with_reducible first | exact HB.out | apply below_alloc | apply pw_below_drewN | apply below_drew1 | refine below_set ?_ GE108.out | refine below_set ?_ GE116.out | refine below_set ?_ GE117.out) | exact HB.out)) hb)
              clear HO_8
              clear HO120
              clear BK108
              clear BK116
              clear BK117
              clear HB
              have HO_8 := n0_
              have HO120 := n1_
              have HO125 := n2_
              have BK108 := n3_
              have BK116 := n4_
              have BK117 := n5_
              have HB := n6_
              clear n0_ n1_ n2_ n3_ n4_ n5_ n6_
              (try clear hb)
              (try clear hb2)
              (try clear hk)
              (try clear hi)
              (try clear ho0)
              refine hK.out _ _ ⟨(blk_cell BK108.out 0).trans rfl, (blk_cell BK108.out 1).trans rfl, (blk_cell BK108.out 2).trans rfl, (blk_cell BK108.out 3).trans rfl, ((HB.out.cell (World.block_lt_of_cell? w _ hw121_0)).trans hw121_0)⟩ (fun hHeld => ?_)
              clear hK K
              refine norm_ (a' := ?_) ?_ ?_
              rotate_left
              ·show Act.put _ (some 57) _ = _
               simp only [Act.put, List.setIfInBounds_toArray, List.set_cons_zero, List.set_cons_succ, i64_w, i32_w]
               rfl
              refine pure_ (i := 8) (N := some 49) (v := ?_) (a' := ?_) #[true, true, true, true, true, true, true, true, true, false, false, false, false] rfl rfl (any_of HT_.out (by kernel_rfl)) (fun _ _ _ h => h) (Or.inl ⟨by rfl, ?_⟩) ?_ ?_
              rotate_left
              ·intro w'
               go_simp
               with_reducible rfl
              rotate_left
              ·simp only [Act.put, List.setIfInBounds_toArray, List.set_cons_zero, List.set_cons_succ, i64_w, i32_w]
               rfl
              refine pure_ (i := 9) (N := some 58) (v := ?_) (a' := ?_) #[true, true, true, true, true, true, true, true, true, true, false, false, false] rfl rfl (any_of HT_.out (by kernel_rfl)) (fun _ _ _ h => h) (Or.inl ⟨by rfl, ?_⟩) ?_ ?_
              rotate_left
              ·intro w'
               go_simp
               with_reducible rfl
              rotate_left
              ·simp only [Act.put, List.setIfInBounds_toArray, List.set_cons_zero, List.set_cons_succ, i64_w, i32_w]
               rfl
              refine pure_ (i := 10) (N := some 59) (v := ?_) (a' := ?_) #[true, true, true, true, true, true, true, true, true, true, true, false, false] rfl rfl (any_of HT_.out (by kernel_rfl)) (fun _ _ _ h => h) (Or.inl ⟨by rfl, ?_⟩) ?_ ?_
              rotate_left
              ·intro w'
               go_simp
               with_reducible rfl
              rotate_left
              ·simp only [Act.put, List.setIfInBounds_toArray, List.set_cons_zero, List.set_cons_succ, i64_w, i32_w]
               rfl
              refine pure_ (i := 11) (N := some 11) (v := ?_) (a' := ?_) #[true, true, true, true, true, true, true, true, true, true, true, true, false] rfl rfl (any_of HT_.out (by kernel_rfl)) (fun _ _ _ h => h) (Or.inl ⟨by rfl, ?_⟩) ?_ ?_
              rotate_left
              ·intro w'
               go_simp
               with_reducible rfl
              rotate_left
              ·simp only [Act.put, List.setIfInBounds_toArray, List.set_cons_zero, List.set_cons_succ, i64_w, i32_w]
               rfl
              refine pure_ (i := 12) (N := some 12) (v := ?_) (a' := ?_) #[true, true, true, true, true, true, true, true, true, true, true, true, true] rfl rfl (any_of HT_.out (by kernel_rfl)) (fun _ _ _ h => h) (Or.inl ⟨by rfl, ?_⟩) ?_ ?_
              rotate_left
              ·intro w'
               go_simp
               with_reducible rfl
              rotate_left
              ·simp only [Act.put, List.setIfInBounds_toArray, List.set_cons_zero, List.set_cons_succ, i64_w, i32_w]
               rfl
              refine done_ (done_of HT_.out (by kernel_rfl)) ?_
              obtain ⟨Ao104, co104, eo104⟩ := Kd.S_slice HO125.out
              subst eo104
              try go_wp2_with (first | ((with_reducible refine gate_callee (f := 9) rfl ?_); refine goesL_ (some 62) rfl rfl Tryd.func9 (by kernel_rfl) rfl #[.slice Ao104 t122.length co104] rfl (by (try simp only [List.map_toArray, List.map_cons, List.map_nil]); first | done | rfl | (simp only [List.length_drop, List.length_take]; rfl)) ?_; (with_reducible refine (facts_Of.calls k2 _ _ t122 t126 t127 t128 t129 _ ?side1 ?side2 ?side3 A34.out).mono ?_); (case side1 => repeat (first | exact (Kd.S_reads' HO125.out).2.2 | (with_reducible refine Kd.C_alloc ?_ _) | (with_reducible refine Kd.C_drewN ?_ _) | (with_reducible refine Kd.C_drew ?_))); (case side2 => exact (Kd.S_reads' HO125.out).2.1); (case side3 => first | exact HG.out | exact Glob.below HG.out (by repeat (first | (with_reducible first | exact HB.out | apply below_alloc | apply pw_below_drewN | apply below_drew1 | refine below_set ?_ GE108.out | refine below_set ?_ GE116.out | refine below_set ?_ GE117.out) | exact HB.out)) | (repeat (first | exact HG.out | refine Glob.dr ?_ _))); rintro e w105 ⟨rfl, hb⟩; refine ⟨_, rfl, ?_⟩; have n0_ := Aside0.mk (Kd.R_below (by (with_reducible repeat (first | apply Kd.R_alloc | apply Kd.R_drewN | apply Kd.R_drew)); exact HO_8.out) hb); have n1_ := Aside0.mk (Kd.S_below (by (with_reducible repeat (first | apply Kd.S_alloc | apply Kd.S_drewN | apply Kd.S_drew)); exact HO120.out) hb); have n2_ := Aside0.mk (Kd.S_below (by (with_reducible repeat (first | apply Kd.S_alloc | apply Kd.S_drewN | apply Kd.S_drew)); exact HO125.out) hb); have n3_ := Aside0.mk (blk_below (g := gb108) (o := .cells #[.int .i64 ((rd_T29 l0 (ji15)).f0), .int .i64 ((rd_T29 l0 (ji15)).f1), .string ((rd_T29 l0 (ji15)).f2), .slice (some ad121) ((rd_T29 l0 (ji15)).f3).length c107_3] 29 (0, 0)) (by (with_reducible repeat (first | refine blk_drewN ?_ _ | refine blk_drew ?_ | refine blk_alloc ?_ _)); exact BK108.out) hb); have n4_ := Aside0.mk (blk_below (g := gb116) (o := .cells #[.bool t112, .bool t113, .int .i64 t114] 31 (0, 0)) (by (with_reducible repeat (first | refine blk_drewN ?_ _ | refine blk_drew ?_ | refine blk_alloc ?_ _)); exact BK116.out) hb); have n5_ := Aside0.mk (blk_below (g := gb117) (o := .cells #[.bool x118000_2, .bool x118001_2, .int .i64 x118002_2] 31 (0, 0)) (by (with_reducible repeat (first | refine blk_drewN ?_ _ | refine blk_drew ?_ | refine blk_alloc ?_ _)); exact BK117.out) hb); have n6_ := Aside0.mk (below_step (by repeat (first | (with_reducible first | exact HB.out | apply below_alloc | apply pw_below_drewN | apply below_drew1 | refine below_set ?_ GE108.out | refine below_set ?_ GE116.out | refine below_set ?_ GE117.out) | exact HB.out)) hb); clear HO_8; clear HO120; clear HO125; clear BK108; clear BK116; clear BK117; clear HB; have HO_8 := n0_; have HO120 := n1_; have HO125 := n2_; have BK108 := n3_; have BK116 := n4_; have BK117 := n5_; have HB := n6_; clear n0_ n1_ n2_ n3_ n4_ n5_ n6_; (try clear hb); (try clear hb2); (try clear hk); (try clear hi)) | ((with_reducible refine gate_dst (N := 13) rfl ?_); refine box_event ?hg (N := 13) ?hd (cs := #[.bool false, .bool false, .int .i64 0]) (t := 31) ?hr ?_; (case hd => rfl); (case hg => rfl); (case hr => first | (go_simp; done) | (go_simp; rfl)); intro gb130 hg w106 hbox hb; have n0_ := Aside0.mk (Kd.R_below (by (with_reducible repeat (first | apply Kd.R_alloc | apply Kd.R_drewN | apply Kd.R_drew)); exact HO_8.out) hb); have n1_ := Aside0.mk (Kd.S_below (by (with_reducible repeat (first | apply Kd.S_alloc | apply Kd.S_drewN | apply Kd.S_drew)); exact HO120.out) hb); have n2_ := Aside0.mk (Kd.S_below (by (with_reducible repeat (first | apply Kd.S_alloc | apply Kd.S_drewN | apply Kd.S_drew)); exact HO125.out) hb); have n3_ := Aside0.mk (blk_below (g := gb108) (o := .cells #[.int .i64 ((rd_T29 l0 (ji15)).f0), .int .i64 ((rd_T29 l0 (ji15)).f1), .string ((rd_T29 l0 (ji15)).f2), .slice (some ad121) ((rd_T29 l0 (ji15)).f3).length c107_3] 29 (0, 0)) (by (with_reducible repeat (first | refine blk_drewN ?_ _ | refine blk_drew ?_ | refine blk_alloc ?_ _)); exact BK108.out) hb); have n4_ := Aside0.mk (blk_below (g := gb116) (o := .cells #[.bool t112, .bool t113, .int .i64 t114] 31 (0, 0)) (by (with_reducible repeat (first | refine blk_drewN ?_ _ | refine blk_drew ?_ | refine blk_alloc ?_ _)); exact BK116.out) hb); have n5_ := Aside0.mk (blk_below (g := gb117) (o := .cells #[.bool x118000_2, .bool x118001_2, .int .i64 x118002_2] 31 (0, 0)) (by (with_reducible repeat (first | refine blk_drewN ?_ _ | refine blk_drew ?_ | refine blk_alloc ?_ _)); exact BK117.out) hb); have n6_ := Aside0.mk (below_step (by repeat (first | (with_reducible first | exact HB.out | apply below_alloc | apply pw_below_drewN | apply below_drew1 | refine below_set ?_ GE108.out | refine below_set ?_ GE116.out | refine below_set ?_ GE117.out) | exact HB.out)) hb); have n7_ := Aside0.mk (hbox); have n8_ := Aside0.mk ((by rw [hg]; exact (below_size (by repeat (first | (with_reducible first | exact HB.out | apply below_alloc | apply pw_below_drewN | apply below_drew1 | refine below_set ?_ GE108.out | refine below_set ?_ GE116.out | refine below_set ?_ GE117.out) | exact HB.out))) : w.heap.size ≤ gb130)); have n9_ := Aside0.mk ((by rw [hg]; exact (below_size (by repeat (first | (with_reducible first | exact HB.out | apply below_alloc | apply pw_below_drewN | apply below_drew1 | refine below_set ?_ GE108.out | refine below_set ?_ GE116.out | refine below_set ?_ GE117.out) | exact HB.out))) : w.heap.size ≤ gb130)); have n10_ := Aside0.mk ((by rw [hg]; exact Nat.ne_of_lt (blk_lt (g := gb108) (o := .cells #[.int .i64 ((rd_T29 l0 (ji15)).f0), .int .i64 ((rd_T29 l0 (ji15)).f1), .string ((rd_T29 l0 (ji15)).f2), .slice (some ad121) ((rd_T29 l0 (ji15)).f3).length c107_3] 29 (0, 0)) (by (with_reducible repeat (first | refine blk_drewN ?_ _ | refine blk_drew ?_ | refine blk_alloc ?_ _)); exact BK108.out)) : gb108 ≠ gb130)); have n11_ := Aside0.mk ((by rw [hg]; exact Nat.ne_of_gt (blk_lt (g := gb108) (o := .cells #[.int .i64 ((rd_T29 l0 (ji15)).f0), .int .i64 ((rd_T29 l0 (ji15)).f1), .string ((rd_T29 l0 (ji15)).f2), .slice (some ad121) ((rd_T29 l0 (ji15)).f3).length c107_3] 29 (0, 0)) (by (with_reducible repeat (first | refine blk_drewN ?_ _ | refine blk_drew ?_ | refine blk_alloc ?_ _)); exact BK108.out)) : gb130 ≠ gb108)); have n12_ := Aside0.mk ((by rw [hg]; exact Nat.ne_of_lt (blk_lt (g := gb116) (o := .cells #[.bool t112, .bool t113, .int .i64 t114] 31 (0, 0)) (by (with_reducible repeat (first | refine blk_drewN ?_ _ | refine blk_drew ?_ | refine blk_alloc ?_ _)); exact BK116.out)) : gb116 ≠ gb130)); have n13_ := Aside0.mk ((by rw [hg]; exact Nat.ne_of_gt (blk_lt (g := gb116) (o := .cells #[.bool t112, .bool t113, .int .i64 t114] 31 (0, 0)) (by (with_reducible repeat (first | refine blk_drewN ?_ _ | refine blk_drew ?_ | refine blk_alloc ?_ _)); exact BK116.out)) : gb130 ≠ gb116)); have n14_ := Aside0.mk ((by rw [hg]; exact Nat.ne_of_lt (blk_lt (g := gb117) (o := .cells #[.bool x118000_2, .bool x118001_2, .int .i64 x118002_2] 31 (0, 0)) (by (with_reducible repeat (first | refine blk_drewN ?_ _ | refine blk_drew ?_ | refine blk_alloc ?_ _)); exact BK117.out)) : gb117 ≠ gb130)); have n15_ := Aside0.mk ((by rw [hg]; exact Nat.ne_of_gt (blk_lt (g := gb117) (o := .cells #[.bool x118000_2, .bool x118001_2, .int .i64 x118002_2] 31 (0, 0)) (by (with_reducible repeat (first | refine blk_drewN ?_ _ | refine blk_drew ?_ | refine blk_alloc ?_ _)); exact BK117.out)) : gb130 ≠ gb117)); clear HO_8; clear HO120; clear HO125; clear BK108; clear BK116; clear BK117; clear HB; have HO_8 := n0_; have HO120 := n1_; have HO125 := n2_; have BK108 := n3_; have BK116 := n4_; have BK117 := n5_; have HB := n6_; have BK130 := n7_; have GW130 := n8_; have GE130 := n9_; have NB108_130 := n10_; have NB130_108 := n11_; have NB116_130 := n12_; have NB130_116 := n13_; have NB117_130 := n14_; have NB130_117 := n15_; clear n0_ n1_ n2_ n3_ n4_ n5_ n6_ n7_ n8_ n9_ n10_ n11_ n12_ n13_ n14_ n15_; clear hb hbox hg; have hnb107 := NB130_108.out; have hnc107 := NB108_130.out; have hnb108 := NB130_116.out; have hnc108 := NB116_130.out; have hnb109 := NB130_117.out; have hnc109 := NB117_130.out; have hcz110_0 : w106.cell? ⟨gb130, 0, none⟩ = some (.bool false) := (blk_cell BK130.out 0).trans rfl; have hcz110_1 : w106.cell? ⟨gb130, 1, none⟩ = some (.bool false) := (blk_cell BK130.out 1).trans rfl; have hcz110_2 : w106.cell? ⟨gb130, 2, none⟩ = some (.int .i64 0) := (blk_cell BK130.out 2).trans rfl; have hfz110_0 := blk_frozen BK130.out 0; have hfz110_1 := blk_frozen BK130.out 1; have hfz110_2 := blk_frozen BK130.out 2) | ((with_reducible refine gate_builtin (b := .append) (xs := #[.tmp 77, .tmp 80]) rfl ?_); at_builtin; refine Kd.R_append (Kd.int .i64) (w0 := w) w.heap.size rfl (.tmp 77) (.tmp 80) 34 2 (.int .i64 0) 8 rfl Tryd.underlying34 info2 rfl (by decide) (by omega) u8 x8_2 t128 [.int .i64 t128] (fun _ => True) (fun _ => False) rfl (by first | (go_simp; done) | (go_simp; rfl)) ?aP (fun _ hk => hk.elim) ?aF ?aO ?aB ?aS ?aL ?_; (case aP => exact rfl); (case aB => exact (by repeat (first | (with_reducible first | exact HB.out | apply below_alloc | apply pw_below_drewN | apply below_drew1 | refine below_set ?_ GE108.out | refine below_set ?_ GE116.out | refine below_set ?_ GE117.out | refine below_set ?_ GE130.out) | exact HB.out))); (case aF => exact (fun _ _ => trivial)); (case aO => exact (by (with_reducible repeat (first | apply Kd.R_alloc | apply Kd.R_drewN | apply Kd.R_drew)); exact Kd.R_mono (Kd.R_far (p := ⟨gb130, 2, none⟩) (Kd.R_far (p := ⟨gb130, 1, none⟩) (Kd.R_far (p := ⟨gb130, 0, none⟩) (Kd.R_types HO_8.out BK130.out (by decide)) (fun _ hk => hk.2) (.bool t126)) (fun _ hk => hk.2) (.bool t127)) (fun _ hk => hk.2) (.int .i64 t128)) (fun _ hk => trivial))); (case aS => exact (below_size (by repeat (first | (with_reducible first | exact HB.out | apply below_alloc | apply pw_below_drewN | apply below_drew1 | refine below_set ?_ GE108.out | refine below_set ?_ GE116.out | refine below_set ?_ GE117.out | refine below_set ?_ GE130.out) | exact HB.out)))); (case aL => have := LMc96.out; omega); intro v141 w111 ho hb hg hat; rw [← Ny140.out] at ho; have n0_ := Aside0.mk (blk_grown (g := gb108) (o := .cells #[.int .i64 ((rd_T29 l0 (ji15)).f0), .int .i64 ((rd_T29 l0 (ji15)).f1), .string ((rd_T29 l0 (ji15)).f2), .slice (some ad121) ((rd_T29 l0 (ji15)).f3).length c107_3] 29 (0, 0)) (by (with_reducible repeat (first | refine blk_drewN ?_ _ | refine blk_drew ?_ | refine blk_alloc ?_ _)); refine blk_far ?_ NB108_130.out _; (with_reducible repeat (first | refine blk_drewN ?_ _ | refine blk_drew ?_ | refine blk_alloc ?_ _)); refine blk_far ?_ NB108_130.out _; (with_reducible repeat (first | refine blk_drewN ?_ _ | refine blk_drew ?_ | refine blk_alloc ?_ _)); refine blk_far ?_ NB108_130.out _; (with_reducible repeat (first | refine blk_drewN ?_ _ | refine blk_drew ?_ | refine blk_alloc ?_ _)); exact BK108.out) hg (Kd.R_ne HO_8.out BK108.out (by decide))); have n1_ := Aside0.mk (blk_grown (g := gb116) (o := .cells #[.bool t112, .bool t113, .int .i64 t114] 31 (0, 0)) (by (with_reducible repeat (first | refine blk_drewN ?_ _ | refine blk_drew ?_ | refine blk_alloc ?_ _)); refine blk_far ?_ NB116_130.out _; (with_reducible repeat (first | refine blk_drewN ?_ _ | refine blk_drew ?_ | refine blk_alloc ?_ _)); refine blk_far ?_ NB116_130.out _; (with_reducible repeat (first | refine blk_drewN ?_ _ | refine blk_drew ?_ | refine blk_alloc ?_ _)); refine blk_far ?_ NB116_130.out _; (with_reducible repeat (first | refine blk_drewN ?_ _ | refine blk_drew ?_ | refine blk_alloc ?_ _)); exact BK116.out) hg (Kd.R_ne HO_8.out BK116.out (by decide))); have n2_ := Aside0.mk (blk_grown (g := gb117) (o := .cells #[.bool x118000_2, .bool x118001_2, .int .i64 x118002_2] 31 (0, 0)) (by (with_reducible repeat (first | refine blk_drewN ?_ _ | refine blk_drew ?_ | refine blk_alloc ?_ _)); refine blk_far ?_ NB117_130.out _; (with_reducible repeat (first | refine blk_drewN ?_ _ | refine blk_drew ?_ | refine blk_alloc ?_ _)); refine blk_far ?_ NB117_130.out _; (with_reducible repeat (first | refine blk_drewN ?_ _ | refine blk_drew ?_ | refine blk_alloc ?_ _)); refine blk_far ?_ NB117_130.out _; (with_reducible repeat (first | refine blk_drewN ?_ _ | refine blk_drew ?_ | refine blk_alloc ?_ _)); exact BK117.out) hg (Kd.R_ne HO_8.out BK117.out (by decide))); have n3_ := Aside0.mk (Kd.S_over' (by (with_reducible repeat (first | apply Kd.S_alloc | apply Kd.S_drewN | apply Kd.S_drew)); exact (Kd.S_mono (Kd.S_far (p := ⟨gb130, 2, none⟩) (Kd.S_far (p := ⟨gb130, 1, none⟩) (Kd.S_far (p := ⟨gb130, 0, none⟩) (Kd.S_types HO120.out BK130.out (by decide)) (fun _ hk => hk.2) (.bool t126)) (fun _ hk => hk.2) (.bool t127)) (fun _ hk => hk.2) (.int .i64 t128)) (fun _ h_ => h_.1))) (Kd.R_typed (by (with_reducible repeat (first | apply Kd.R_alloc | apply Kd.R_drewN | apply Kd.R_drew)); exact (Kd.R_mono (Kd.R_far (p := ⟨gb130, 2, none⟩) (Kd.R_far (p := ⟨gb130, 1, none⟩) (Kd.R_far (p := ⟨gb130, 0, none⟩) (Kd.R_types HO_8.out BK130.out (by decide)) (fun _ hk => hk.2) (.bool t126)) (fun _ hk => hk.2) (.bool t127)) (fun _ hk => hk.2) (.int .i64 t128)) (fun _ h_ => h_.1)))) (by decide) hg); have n4_ := Aside0.mk (Kd.S_over' (by (with_reducible repeat (first | apply Kd.S_alloc | apply Kd.S_drewN | apply Kd.S_drew)); exact (Kd.S_mono (Kd.S_far (p := ⟨gb130, 2, none⟩) (Kd.S_far (p := ⟨gb130, 1, none⟩) (Kd.S_far (p := ⟨gb130, 0, none⟩) (Kd.S_types HO125.out BK130.out (by decide)) (fun _ hk => hk.2) (.bool t126)) (fun _ hk => hk.2) (.bool t127)) (fun _ hk => hk.2) (.int .i64 t128)) (fun _ h_ => h_.1))) (Kd.R_typed (by (with_reducible repeat (first | apply Kd.R_alloc | apply Kd.R_drewN | apply Kd.R_drew)); exact (Kd.R_mono (Kd.R_far (p := ⟨gb130, 2, none⟩) (Kd.R_far (p := ⟨gb130, 1, none⟩) (Kd.R_far (p := ⟨gb130, 0, none⟩) (Kd.R_types HO_8.out BK130.out (by decide)) (fun _ hk => hk.2) (.bool t126)) (fun _ hk => hk.2) (.bool t127)) (fun _ hk => hk.2) (.int .i64 t128)) (fun _ h_ => h_.1)))) (by decide) hg); have n5_ := Aside0.mk (blk_grown (g := gb130) (o := .cells #[.bool t126, .bool t127, .int .i64 t128] 31 (0, 0)) (by (with_reducible repeat (first | refine blk_drewN ?_ _ | refine blk_drew ?_ | refine blk_alloc ?_ _)); refine blk_put (cs := #[.bool t126, .bool t127, .int .i64 0]) ?_ 2 _ rfl; (with_reducible repeat (first | refine blk_drewN ?_ _ | refine blk_drew ?_ | refine blk_alloc ?_ _)); refine blk_put (cs := #[.bool t126, .bool false, .int .i64 0]) ?_ 1 _ rfl; (with_reducible repeat (first | refine blk_drewN ?_ _ | refine blk_drew ?_ | refine blk_alloc ?_ _)); refine blk_put (cs := #[.bool false, .bool false, .int .i64 0]) ?_ 0 _ rfl; (with_reducible repeat (first | refine blk_drewN ?_ _ | refine blk_drew ?_ | refine blk_alloc ?_ _)); exact BK130.out) hg (Kd.R_ne HO_8.out BK130.out (by decide))); have n6_ := Aside0.mk (hb); have n7_ := Aside0.mk (ho); clear BK108; clear BK116; clear BK117; clear HO120; clear HO125; clear BK130; clear HB; clear HO_8; have BK108 := n0_; have BK116 := n1_; have BK117 := n2_; have HO120 := n3_; have HO125 := n4_; have BK130 := n5_; have HB := n6_; have HO142 := n7_; clear n0_ n1_ n2_ n3_ n4_ n5_ n6_ n7_; clear ho hb hg hat; have hcz112_0 : w111.cell? ⟨gb130, 0, none⟩ = some (.bool t126) := (blk_cell BK130.out 0).trans rfl; have hcz112_1 : w111.cell? ⟨gb130, 1, none⟩ = some (.bool t127) := (blk_cell BK130.out 1).trans rfl; have hcz112_2 : w111.cell? ⟨gb130, 2, none⟩ = some (.int .i64 t128) := (blk_cell BK130.out 2).trans rfl; have hfz112_0 := blk_frozen BK130.out 0; have hfz112_1 := blk_frozen BK130.out 1; have hfz112_2 := blk_frozen BK130.out 2; have hnb113 := NB117_116.out; have hnc113 := NB116_117.out; have hcz114_0 : w111.cell? ⟨gb117, 0, none⟩ = some (.bool x118000_2) := (blk_cell BK117.out 0).trans rfl; have hcz114_1 : w111.cell? ⟨gb117, 1, none⟩ = some (.bool x118001_2) := (blk_cell BK117.out 1).trans rfl; have hcz114_2 : w111.cell? ⟨gb117, 2, none⟩ = some (.int .i64 x118002_2) := (blk_cell BK117.out 2).trans rfl; have hfz114_0 := blk_frozen BK117.out 0; have hfz114_1 := blk_frozen BK117.out 1; have hfz114_2 := blk_frozen BK117.out 2))
              go_roundg k2
              case measure => have := HJ1.out; have := HK2.out; omega
              case rel => exact ⟨(false), (false), (y140), (wrap64 (x10_2 + 1)), (t126), (t127), (t128), (by first | rfl | (simp; done) | (simp [*]; done)), (by first | rfl | (simp; done) | (simp [*]; done)), (by first | rfl | (simp; done) | (simp [*]; done)), H', ⟨by have := HJ1.out; have := HK2.out; omega⟩, ⟨by (with_reducible repeat (first | apply Kd.R_alloc | apply Kd.R_drewN | apply Kd.R_drew)); exact Kd.R_mono (Kd.R_far (p := ⟨gb117, 2, none⟩) (Kd.R_far (p := ⟨gb117, 1, none⟩) (Kd.R_far (p := ⟨gb117, 0, none⟩) (Kd.R_types HO142.out BK117.out (by decide)) (fun _ hk => hk.2) (.bool t126)) (fun _ hk => hk.2) (.bool t127)) (fun _ hk => hk.2) (.int .i64 t128)) (fun _ hk => trivial)⟩, ⟨by (with_reducible repeat (first | refine blk_drewN ?_ _ | refine blk_drew ?_ | refine blk_alloc ?_ _)); refine blk_far ?_ NB108_117.out _; (with_reducible repeat (first | refine blk_drewN ?_ _ | refine blk_drew ?_ | refine blk_alloc ?_ _)); refine blk_far ?_ NB108_117.out _; (with_reducible repeat (first | refine blk_drewN ?_ _ | refine blk_drew ?_ | refine blk_alloc ?_ _)); refine blk_far ?_ NB108_117.out _; (with_reducible repeat (first | refine blk_drewN ?_ _ | refine blk_drew ?_ | refine blk_alloc ?_ _)); exact BK108.out⟩, ⟨by (with_reducible repeat (first | refine blk_drewN ?_ _ | refine blk_drew ?_ | refine blk_alloc ?_ _)); refine blk_far ?_ NB116_117.out _; (with_reducible repeat (first | refine blk_drewN ?_ _ | refine blk_drew ?_ | refine blk_alloc ?_ _)); refine blk_far ?_ NB116_117.out _; (with_reducible repeat (first | refine blk_drewN ?_ _ | refine blk_drew ?_ | refine blk_alloc ?_ _)); refine blk_far ?_ NB116_117.out _; (with_reducible repeat (first | refine blk_drewN ?_ _ | refine blk_drew ?_ | refine blk_alloc ?_ _)); exact BK116.out⟩, ⟨by (with_reducible repeat (first | refine blk_drewN ?_ _ | refine blk_drew ?_ | refine blk_alloc ?_ _)); refine blk_put (cs := #[.bool t126, .bool t127, .int .i64 x118002_2]) ?_ 2 _ rfl; (with_reducible repeat (first | refine blk_drewN ?_ _ | refine blk_drew ?_ | refine blk_alloc ?_ _)); refine blk_put (cs := #[.bool t126, .bool x118001_2, .int .i64 x118002_2]) ?_ 1 _ rfl; (with_reducible repeat (first | refine blk_drewN ?_ _ | refine blk_drew ?_ | refine blk_alloc ?_ _)); refine blk_put (cs := #[.bool x118000_2, .bool x118001_2, .int .i64 x118002_2]) ?_ 0 _ rfl; (with_reducible repeat (first | refine blk_drewN ?_ _ | refine blk_drew ?_ | refine blk_alloc ?_ _)); exact BK117.out⟩, ⟨by repeat (first | (with_reducible first | exact HB.out | apply below_alloc | apply pw_below_drewN | apply below_drew1 | refine below_set ?_ GE108.out | refine below_set ?_ GE116.out | refine below_set ?_ GE117.out | refine below_set ?_ GE130.out) | exact HB.out)⟩⟩
             ·rw [if_neg c96] at H
              exact absurd H (by simp)
          ·rw [if_neg c35] at H
           have c35b0 : (t129 == 0) = false := beq_eq_false_iff_ne.mpr c35
           have c35b1 : (t129 != 0) = true := bne_iff_ne.mpr c35
           obtain rfl := Option.some.inj H
           have hnb115 := NB108_116.out
           have hnc115 := NB116_108.out
           have hnb116 := NB108_117.out
           have hnc116 := NB117_108.out
           have hcz117_0 : wr.cell? ⟨gb108, 0, none⟩ = some (.int .i64 ((rd_T29 l0 (ji15)).f0)) := (blk_cell BK108.out 0).trans rfl
           have hcz117_1 : wr.cell? ⟨gb108, 1, none⟩ = some (.int .i64 ((rd_T29 l0 (ji15)).f1)) := (blk_cell BK108.out 1).trans rfl
           have hcz117_2 : wr.cell? ⟨gb108, 2, none⟩ = some (.string ((rd_T29 l0 (ji15)).f2)) := (blk_cell BK108.out 2).trans rfl
           have hcz117_3 : wr.cell? ⟨gb108, 3, none⟩ = some (.slice A107_3 ((rd_T29 l0 (ji15)).f3).length c107_3) := (blk_cell BK108.out 3).trans rfl
           have hfz117_0 := blk_frozen BK108.out 0
           have hfz117_1 := blk_frozen BK108.out 1
           have hfz117_2 := blk_frozen BK108.out 2
           have hfz117_3 := blk_frozen BK108.out 3
           try go_wp2
           have n0_ := Aside0.mk (Kd.R_drew HO_8.out)
           have n1_ := Aside0.mk (blk_drew BK108.out)
           have n2_ := Aside0.mk (blk_drew BK116.out)
           have n3_ := Aside0.mk (blk_drew BK117.out)
           have n4_ := Aside0.mk (below_drew1 HB.out)
           clear HO_8
           clear BK108
           clear BK116
           clear BK117
           clear HB
           have HO_8 := n0_
           have BK108 := n1_
           have BK116 := n2_
           have BK117 := n3_
           have HB := n4_
           clear n0_ n1_ n2_ n3_ n4_
           have p121 : 0 ≤ (x10_2 : Int) := of_decide_eq_true (by first | (with_reducible assumption) | assumption)
           have q121 : x10_2 < (((rd_T29 l0 (ji15)).f3).length : Int) := of_decide_eq_true (by first | (with_reducible assumption) | assumption)
           obtain ⟨ad121, e121, hx121_0⟩ := Kd.at_int HR107_3.out x10_2 p121 q121
           have hw121_0 := hx121_0
           cases e121
           replace hx121_0 := (HB.out.cell (World.block_lt_of_cell? w _ hx121_0)).trans hx121_0
           replace p121 := eq_true p121
           replace q121 := eq_true q121
           refine start_ (n := 13) (S := fun w' => w'.cell? ⟨gb108, 0, none⟩ = some (.int .i64 ((rd_T29 l0 (ji15)).f0)) ∧ w'.cell? ⟨gb108, 1, none⟩ = some (.int .i64 ((rd_T29 l0 (ji15)).f1)) ∧ w'.cell? ⟨gb108, 2, none⟩ = some (.string ((rd_T29 l0 (ji15)).f2)) ∧ w'.cell? ⟨gb108, 3, none⟩ = some (.slice (some ad121) ((rd_T29 l0 (ji15)).f3).length c107_3) ∧ w'.cell? (ad121.add (x10_2).toNat) = some (.int .i64 (rd ((rd_T29 l0 (ji15)).f3) x10_2))) (ds := []) #[false, false, false, false, false, false, false, false, false, false, false, false, false] (by kernel_rfl) rfl rfl ⟨(blk_cell BK108.out 0).trans rfl, (blk_cell BK108.out 1).trans rfl, (blk_cell BK108.out 2).trans rfl, (blk_cell BK108.out 3).trans rfl, ((HB.out.cell (World.block_lt_of_cell? w _ hw121_0)).trans hw121_0)⟩ (fun hHeld => ?_); refine with_tabW sorrellaw13_FactsParts.tab12 sorrellaw13_FactsParts.bits12 (fun HT_ HW_ => ?_)
           generalize wr.drew = w118 at HO_8 BK108 BK116 BK117 HB hx121_0 hHeld ⊢
           refine pure_ (i := 0) (N := some 50) (v := ?_) (a' := ?_) #[true, false, false, false, false, false, false, false, false, false, false, false, false] rfl rfl (any_of HT_.out (by kernel_rfl)) (fun _ _ _ h => h) (Or.inl ⟨by rfl, ?_⟩) ?_ ?_
           rotate_left
           ·intro w'
            go_simp
            with_reducible rfl
           rotate_left
           ·simp only [Act.put, List.setIfInBounds_toArray, List.set_cons_zero, List.set_cons_succ, i64_w, i32_w]
            rfl
           refine pure_ (i := 2) (N := some 52) (v := ?_) (a' := ?_) #[true, false, true, false, false, false, false, false, false, false, false, false, false] rfl rfl (any_of HT_.out (by kernel_rfl)) (fun _ _ _ h => h) (Or.inl ⟨by rfl, ?_⟩) ?_ ?_
           rotate_left
           ·intro w'
            go_simp
            with_reducible rfl
           rotate_left
           ·simp only [Act.put, List.setIfInBounds_toArray, List.set_cons_zero, List.set_cons_succ, i64_w, i32_w]
            rfl
           refine pure_ (i := 4) (N := some 54) (v := ?_) (a' := ?_) #[true, false, true, false, true, false, false, false, false, false, false, false, false] rfl rfl (any_of HT_.out (by kernel_rfl)) (fun _ _ _ h => h) (Or.inl ⟨by rfl, ?_⟩) ?_ ?_
           rotate_left
           ·intro w'
            go_simp
            with_reducible rfl
           rotate_left
           ·simp only [Act.put, List.setIfInBounds_toArray, List.set_cons_zero, List.set_cons_succ, i64_w, i32_w]
            rfl
           refine take_ (i := 3) (N := some 53) (v := ?_) (a' := ?_) #[true, false, true, true, true, false, false, false, false, false, false, false, false] rfl rfl (take_ofW HT_.out HW_.out (by kernel_rfl)) (fun _ _ _ h => h) (Or.inl ⟨by rfl, ?_⟩) hHeld ?_ ?_
           rotate_left
           ·rintro w' ⟨s0, s1, s2, s3, s4⟩
            go_simp
            with_reducible rfl
           rotate_left
           ·simp only [Act.put, List.setIfInBounds_toArray, List.set_cons_zero, List.set_cons_succ, i64_w, i32_w]
            rfl
           refine pure_ (i := 5) (N := some 55) (v := ?_) (a' := ?_) #[true, false, true, true, true, true, false, false, false, false, false, false, false] rfl rfl (any_of HT_.out (by kernel_rfl)) (fun _ _ _ h => h) (Or.inl ⟨by rfl, ?_⟩) ?_ ?_
           rotate_left
           ·intro w'
            go_simp
            with_reducible rfl
           rotate_left
           ·simp only [Act.put, List.setIfInBounds_toArray, List.set_cons_zero, List.set_cons_succ, i64_w, i32_w]
            rfl
           refine take_ (i := 6) (N := some 56) (v := ?_) (a' := ?_) #[true, false, true, true, true, true, true, false, false, false, false, false, false] rfl rfl (take_ofW HT_.out HW_.out (by kernel_rfl)) (fun _ _ _ h => h) (Or.inl ⟨by rfl, ?_⟩) hHeld ?_ ?_
           rotate_left
           ·rintro w' ⟨s0, s1, s2, s3, s4⟩
            go_simp
            with_reducible rfl
           rotate_left
           ·simp only [Act.put, List.setIfInBounds_toArray, List.set_cons_zero, List.set_cons_succ, i64_w, i32_w]
            rfl
           refine one_ (i := 1) (N := some 51) #[true, true, true, true, true, true, true, false, false, false, false, false, false] rfl rfl (one_of HT_.out (by kernel_rfl)) (by decide) (fun K hK => ?_)
           refine goes_ Tryd.func8 (by kernel_rfl) rfl #[.slice (some ad107) l0.length c0] (by rfl) rfl rfl (by (try simp only [List.map_toArray, List.map_cons, List.map_nil]); first | done | rfl | (simp only [List.length_drop, List.length_take]; rfl)) ?_
           with_reducible refine (sorrelref02_Copy.calls k2 _ _ l0 t118 _ ?side1 ?side2 A31.out).mono ?_
           (case side1 => repeat (first | exact (Kd.C_below HR0.out HB.out) | (with_reducible refine Kd.C_alloc ?_ _) | (with_reducible refine Kd.C_drewN ?_ _) | (with_reducible refine Kd.C_drew ?_)))
           (case side2 => exact HC0.out)
           rintro e w119 ⟨v119, rfl, ho0, hb⟩
           refine ⟨_, rfl, ?_⟩
           have n0_ := Aside0.mk (Kd.R_below (by (with_reducible repeat (first | apply Kd.R_alloc | apply Kd.R_drewN | apply Kd.R_drew)); exact HO_8.out) hb)
           have n1_ := Aside0.mk (Kd.S_lower (Kd.S_newB ho0 (g := gb108) (o := .cells #[.int .i64 ((rd_T29 l0 (ji15)).f0), .int .i64 ((rd_T29 l0 (ji15)).f1), .string ((rd_T29 l0 (ji15)).f2), .slice (some ad121) ((rd_T29 l0 (ji15)).f3).length c107_3] 29 (0, 0)) (by (with_reducible repeat (first | refine blk_drewN ?_ _ | refine blk_drew ?_ | refine blk_alloc ?_ _)); exact BK108.out)) (below_size (by repeat (first | (with_reducible first | exact HB.out | apply below_alloc | apply pw_below_drewN | apply below_drew1 | refine below_set ?_ GE108.out | refine below_set ?_ GE116.out | refine below_set ?_ GE117.out) | exact HB.out))))
           have n2_ := Aside0.mk (blk_below (g := gb108) (o := .cells #[.int .i64 ((rd_T29 l0 (ji15)).f0), .int .i64 ((rd_T29 l0 (ji15)).f1), .string ((rd_T29 l0 (ji15)).f2), .slice (some ad121) ((rd_T29 l0 (ji15)).f3).length c107_3] 29 (0, 0)) (by (with_reducible repeat (first | refine blk_drewN ?_ _ | refine blk_drew ?_ | refine blk_alloc ?_ _)); exact BK108.out) hb)
           have n3_ := Aside0.mk (blk_below (g := gb116) (o := .cells #[.bool t112, .bool t113, .int .i64 t114] 31 (0, 0)) (by (with_reducible repeat (first | refine blk_drewN ?_ _ | refine blk_drew ?_ | refine blk_alloc ?_ _)); exact BK116.out) hb)
           have n4_ := Aside0.mk (blk_below (g := gb117) (o := .cells #[.bool x118000_2, .bool x118001_2, .int .i64 x118002_2] 31 (0, 0)) (by (with_reducible repeat (first | refine blk_drewN ?_ _ | refine blk_drew ?_ | refine blk_alloc ?_ _)); exact BK117.out) hb)
           have n5_ := Aside0.mk (below_step (by repeat (first | (with_reducible first | exact HB.out | apply below_alloc | apply pw_below_drewN | apply below_drew1 | refine below_set ?_ GE108.out | refine below_set ?_ GE116.out | refine below_set ?_ GE117.out) | exact HB.out)) hb)
           clear HO_8
           clear BK108
           clear BK116
           clear BK117
           clear HB
           have HO_8 := n0_
           have HO120 := n1_
           have BK108 := n2_
           have BK116 := n3_
           have BK117 := n4_
           have HB := n5_
           clear n0_ n1_ n2_ n3_ n4_ n5_
           (try clear hb)
           (try clear hb2)
           (try clear hk)
           (try clear hi)
           (try clear ho0)
           obtain ⟨Ao120, co120, eo120⟩ := Kd.S_slice HO120.out
           (first | subst eo120 | (injection eo120 with f1_ f2_ f3_; have f4_ := f1_.symm; have f5_ := f3_.symm; clear f1_ f2_ f3_; subst f4_; subst f5_))
           refine hK.out _ _ ⟨(blk_cell BK108.out 0).trans rfl, (blk_cell BK108.out 1).trans rfl, (blk_cell BK108.out 2).trans rfl, (blk_cell BK108.out 3).trans rfl, ((HB.out.cell (World.block_lt_of_cell? w _ hw121_0)).trans hw121_0)⟩ (fun hHeld => ?_)
           clear hK K
           refine norm_ (a' := ?_) ?_ ?_
           rotate_left
           ·show Act.put _ (some 51) _ = _
            simp only [Act.put, List.setIfInBounds_toArray, List.set_cons_zero, List.set_cons_succ, i64_w, i32_w]
            rfl
           refine one_ (i := 7) (N := some 57) #[true, true, true, true, true, true, true, true, false, false, false, false, false] rfl rfl (one_of HT_.out (by kernel_rfl)) (by decide) (fun K hK => ?_)
           refine goes_ Tryd.func10 (by kernel_rfl) rfl #[.slice Ao120 t118.length co120, .int .i64 (rd ((rd_T29 l0 (ji15)).f3) x10_2)] (by rfl) rfl rfl (by (try simp only [List.map_toArray, List.map_cons, List.map_nil]); first | done | (simp only [hji15]; rfl) | rfl | (simp only [List.length_drop, List.length_take]; rfl)) ?_
           with_reducible refine (expr_Part.calls k2 _ _ t118 (rd ((rd_T29 l0 (ji15)).f3) x10_2) t122 t123 _ ?side1 ?side2 ?side3 A33.out).mono ?_
           (case side1 => repeat (first | exact (Kd.S_reads' HO120.out).2.2 | (with_reducible refine Kd.C_alloc ?_ _) | (with_reducible refine Kd.C_drewN ?_ _) | (with_reducible refine Kd.C_drew ?_)))
           (case side2 => exact (Kd.S_reads' HO120.out).2.1)
           (case side3 => first | exact HG.out | exact Glob.below HG.out (by repeat (first | (with_reducible first | exact HB.out | apply below_alloc | apply pw_below_drewN | apply below_drew1 | refine below_set ?_ GE108.out | refine below_set ?_ GE116.out | refine below_set ?_ GE117.out) | exact HB.out)) | (repeat (first | exact HG.out | refine Glob.dr ?_ _)))
           rintro e w121 ⟨v124, rfl, ho0, hb⟩
           refine ⟨_, rfl, ?_⟩
           have n0_ := Aside0.mk (Kd.R_below (by (with_reducible repeat (first | apply Kd.R_alloc | apply Kd.R_drewN | apply Kd.R_drew)); exact HO_8.out) hb)
           have n1_ := Aside0.mk (Kd.S_elder' (by (with_reducible repeat (first | apply Kd.S_alloc | apply Kd.S_drewN | apply Kd.S_drew)); exact HO120.out) (Kd.S_base ho0) hb)
           have n2_ := Aside0.mk (Kd.S_lower (Kd.S_newB (Kd.S_new' ho0 (Kd.S_lt (by (with_reducible repeat (first | apply Kd.S_alloc | apply Kd.S_drewN | apply Kd.S_drew)); exact HO120.out))) (g := gb108) (o := .cells #[.int .i64 ((rd_T29 l0 (ji15)).f0), .int .i64 ((rd_T29 l0 (ji15)).f1), .string ((rd_T29 l0 (ji15)).f2), .slice (some ad121) ((rd_T29 l0 (ji15)).f3).length c107_3] 29 (0, 0)) (by (with_reducible repeat (first | refine blk_drewN ?_ _ | refine blk_drew ?_ | refine blk_alloc ?_ _)); exact BK108.out)) (below_size (by repeat (first | (with_reducible first | exact HB.out | apply below_alloc | apply pw_below_drewN | apply below_drew1 | refine below_set ?_ GE108.out | refine below_set ?_ GE116.out | refine below_set ?_ GE117.out) | exact HB.out))))
           have n3_ := Aside0.mk (blk_below (g := gb108) (o := .cells #[.int .i64 ((rd_T29 l0 (ji15)).f0), .int .i64 ((rd_T29 l0 (ji15)).f1), .string ((rd_T29 l0 (ji15)).f2), .slice (some ad121) ((rd_T29 l0 (ji15)).f3).length c107_3] 29 (0, 0)) (by (with_reducible repeat (first | refine blk_drewN ?_ _ | refine blk_drew ?_ | refine blk_alloc ?_ _)); exact BK108.out) hb)
           have n4_ := Aside0.mk (blk_below (g := gb116) (o := .cells #[.bool t112, .bool t113, .int .i64 t114] 31 (0, 0)) (by (with_reducible repeat (first | refine blk_drewN ?_ _ | refine blk_drew ?_ | refine blk_alloc ?_ _)); exact BK116.out) hb)
           have n5_ := Aside0.mk (blk_below (g := gb117) (o := .cells #[.bool x118000_2, .bool x118001_2, .int .i64 x118002_2] 31 (0, 0)) (by (with_reducible repeat (first | refine blk_drewN ?_ _ | refine blk_drew ?_ | refine blk_alloc ?_ _)); exact BK117.out) hb)
           have n6_ := Aside0.mk (below_step (by repeat (first | (with_reducible first | exact HB.out | apply below_alloc | apply pw_below_drewN | apply below_drew1 | refine below_set ?_ GE108.out | refine below_set ?_ GE116.out | refine below_set ?_ GE117.out) | exact HB.out)) hb)
           clear HO_8
           clear HO120
           clear BK108
           clear BK116
           clear BK117
           clear HB
           have HO_8 := n0_
           have HO120 := n1_
           have HO125 := n2_
           have BK108 := n3_
           have BK116 := n4_
           have BK117 := n5_
           have HB := n6_
           clear n0_ n1_ n2_ n3_ n4_ n5_ n6_
           (try clear hb)
           (try clear hb2)
           (try clear hk)
           (try clear hi)
           (try clear ho0)
           refine hK.out _ _ ⟨(blk_cell BK108.out 0).trans rfl, (blk_cell BK108.out 1).trans rfl, (blk_cell BK108.out 2).trans rfl, (blk_cell BK108.out 3).trans rfl, ((HB.out.cell (World.block_lt_of_cell? w _ hw121_0)).trans hw121_0)⟩ (fun hHeld => ?_)
           clear hK K
           refine norm_ (a' := ?_) ?_ ?_
           rotate_left
           ·show Act.put _ (some 57) _ = _
            simp only [Act.put, List.setIfInBounds_toArray, List.set_cons_zero, List.set_cons_succ, i64_w, i32_w]
            rfl
           refine pure_ (i := 8) (N := some 49) (v := ?_) (a' := ?_) #[true, true, true, true, true, true, true, true, true, false, false, false, false] rfl rfl (any_of HT_.out (by kernel_rfl)) (fun _ _ _ h => h) (Or.inl ⟨by rfl, ?_⟩) ?_ ?_
           rotate_left
           ·intro w'
            go_simp
            with_reducible rfl
           rotate_left
           ·simp only [Act.put, List.setIfInBounds_toArray, List.set_cons_zero, List.set_cons_succ, i64_w, i32_w]
            rfl
           refine pure_ (i := 9) (N := some 58) (v := ?_) (a' := ?_) #[true, true, true, true, true, true, true, true, true, true, false, false, false] rfl rfl (any_of HT_.out (by kernel_rfl)) (fun _ _ _ h => h) (Or.inl ⟨by rfl, ?_⟩) ?_ ?_
           rotate_left
           ·intro w'
            go_simp
            with_reducible rfl
           rotate_left
           ·simp only [Act.put, List.setIfInBounds_toArray, List.set_cons_zero, List.set_cons_succ, i64_w, i32_w]
            rfl
           refine pure_ (i := 10) (N := some 59) (v := ?_) (a' := ?_) #[true, true, true, true, true, true, true, true, true, true, true, false, false] rfl rfl (any_of HT_.out (by kernel_rfl)) (fun _ _ _ h => h) (Or.inl ⟨by rfl, ?_⟩) ?_ ?_
           rotate_left
           ·intro w'
            go_simp
            with_reducible rfl
           rotate_left
           ·simp only [Act.put, List.setIfInBounds_toArray, List.set_cons_zero, List.set_cons_succ, i64_w, i32_w]
            rfl
           refine pure_ (i := 11) (N := some 11) (v := ?_) (a' := ?_) #[true, true, true, true, true, true, true, true, true, true, true, true, false] rfl rfl (any_of HT_.out (by kernel_rfl)) (fun _ _ _ h => h) (Or.inl ⟨by rfl, ?_⟩) ?_ ?_
           rotate_left
           ·intro w'
            go_simp
            with_reducible rfl
           rotate_left
           ·simp only [Act.put, List.setIfInBounds_toArray, List.set_cons_zero, List.set_cons_succ, i64_w, i32_w]
            rfl
           refine pure_ (i := 12) (N := some 12) (v := ?_) (a' := ?_) #[true, true, true, true, true, true, true, true, true, true, true, true, true] rfl rfl (any_of HT_.out (by kernel_rfl)) (fun _ _ _ h => h) (Or.inl ⟨by rfl, ?_⟩) ?_ ?_
           rotate_left
           ·intro w'
            go_simp
            with_reducible rfl
           rotate_left
           ·simp only [Act.put, List.setIfInBounds_toArray, List.set_cons_zero, List.set_cons_succ, i64_w, i32_w]
            rfl
           refine done_ (done_of HT_.out (by kernel_rfl)) ?_
           obtain ⟨Ao122, co122, eo122⟩ := Kd.S_slice HO125.out
           subst eo122
           try go_wp2_with (first | ((with_reducible refine gate_callee (f := 9) rfl ?_); refine goesL_ (some 62) rfl rfl Tryd.func9 (by kernel_rfl) rfl #[.slice Ao122 t122.length co122] rfl (by (try simp only [List.map_toArray, List.map_cons, List.map_nil]); first | done | rfl | (simp only [List.length_drop, List.length_take]; rfl)) ?_; (with_reducible refine (facts_Of.calls k2 _ _ t122 t126 t127 t128 t129 _ ?side1 ?side2 ?side3 A34.out).mono ?_); (case side1 => repeat (first | exact (Kd.S_reads' HO125.out).2.2 | (with_reducible refine Kd.C_alloc ?_ _) | (with_reducible refine Kd.C_drewN ?_ _) | (with_reducible refine Kd.C_drew ?_))); (case side2 => exact (Kd.S_reads' HO125.out).2.1); (case side3 => first | exact HG.out | exact Glob.below HG.out (by repeat (first | (with_reducible first | exact HB.out | apply below_alloc | apply pw_below_drewN | apply below_drew1 | refine below_set ?_ GE108.out | refine below_set ?_ GE116.out | refine below_set ?_ GE117.out) | exact HB.out)) | (repeat (first | exact HG.out | refine Glob.dr ?_ _))); rintro e w123 ⟨rfl, hb⟩; refine ⟨_, rfl, ?_⟩; have n0_ := Aside0.mk (Kd.R_below (by (with_reducible repeat (first | apply Kd.R_alloc | apply Kd.R_drewN | apply Kd.R_drew)); exact HO_8.out) hb); have n1_ := Aside0.mk (Kd.S_below (by (with_reducible repeat (first | apply Kd.S_alloc | apply Kd.S_drewN | apply Kd.S_drew)); exact HO120.out) hb); have n2_ := Aside0.mk (Kd.S_below (by (with_reducible repeat (first | apply Kd.S_alloc | apply Kd.S_drewN | apply Kd.S_drew)); exact HO125.out) hb); have n3_ := Aside0.mk (blk_below (g := gb108) (o := .cells #[.int .i64 ((rd_T29 l0 (ji15)).f0), .int .i64 ((rd_T29 l0 (ji15)).f1), .string ((rd_T29 l0 (ji15)).f2), .slice (some ad121) ((rd_T29 l0 (ji15)).f3).length c107_3] 29 (0, 0)) (by (with_reducible repeat (first | refine blk_drewN ?_ _ | refine blk_drew ?_ | refine blk_alloc ?_ _)); exact BK108.out) hb); have n4_ := Aside0.mk (blk_below (g := gb116) (o := .cells #[.bool t112, .bool t113, .int .i64 t114] 31 (0, 0)) (by (with_reducible repeat (first | refine blk_drewN ?_ _ | refine blk_drew ?_ | refine blk_alloc ?_ _)); exact BK116.out) hb); have n5_ := Aside0.mk (blk_below (g := gb117) (o := .cells #[.bool x118000_2, .bool x118001_2, .int .i64 x118002_2] 31 (0, 0)) (by (with_reducible repeat (first | refine blk_drewN ?_ _ | refine blk_drew ?_ | refine blk_alloc ?_ _)); exact BK117.out) hb); have n6_ := Aside0.mk (below_step (by repeat (first | (with_reducible first | exact HB.out | apply below_alloc | apply pw_below_drewN | apply below_drew1 | refine below_set ?_ GE108.out | refine below_set ?_ GE116.out | refine below_set ?_ GE117.out) | exact HB.out)) hb); clear HO_8; clear HO120; clear HO125; clear BK108; clear BK116; clear BK117; clear HB; have HO_8 := n0_; have HO120 := n1_; have HO125 := n2_; have BK108 := n3_; have BK116 := n4_; have BK117 := n5_; have HB := n6_; clear n0_ n1_ n2_ n3_ n4_ n5_ n6_; (try clear hb); (try clear hb2); (try clear hk); (try clear hi)) | ((with_reducible refine gate_dst (N := 13) rfl ?_); refine box_event ?hg (N := 13) ?hd (cs := #[.bool false, .bool false, .int .i64 0]) (t := 31) ?hr ?_; (case hd => rfl); (case hg => rfl); (case hr => first | (go_simp; done) | (go_simp; rfl)); intro gb130 hg w124 hbox hb; have n0_ := Aside0.mk (Kd.R_below (by (with_reducible repeat (first | apply Kd.R_alloc | apply Kd.R_drewN | apply Kd.R_drew)); exact HO_8.out) hb); have n1_ := Aside0.mk (Kd.S_below (by (with_reducible repeat (first | apply Kd.S_alloc | apply Kd.S_drewN | apply Kd.S_drew)); exact HO120.out) hb); have n2_ := Aside0.mk (Kd.S_below (by (with_reducible repeat (first | apply Kd.S_alloc | apply Kd.S_drewN | apply Kd.S_drew)); exact HO125.out) hb); have n3_ := Aside0.mk (blk_below (g := gb108) (o := .cells #[.int .i64 ((rd_T29 l0 (ji15)).f0), .int .i64 ((rd_T29 l0 (ji15)).f1), .string ((rd_T29 l0 (ji15)).f2), .slice (some ad121) ((rd_T29 l0 (ji15)).f3).length c107_3] 29 (0, 0)) (by (with_reducible repeat (first | refine blk_drewN ?_ _ | refine blk_drew ?_ | refine blk_alloc ?_ _)); exact BK108.out) hb); have n4_ := Aside0.mk (blk_below (g := gb116) (o := .cells #[.bool t112, .bool t113, .int .i64 t114] 31 (0, 0)) (by (with_reducible repeat (first | refine blk_drewN ?_ _ | refine blk_drew ?_ | refine blk_alloc ?_ _)); exact BK116.out) hb); have n5_ := Aside0.mk (blk_below (g := gb117) (o := .cells #[.bool x118000_2, .bool x118001_2, .int .i64 x118002_2] 31 (0, 0)) (by (with_reducible repeat (first | refine blk_drewN ?_ _ | refine blk_drew ?_ | refine blk_alloc ?_ _)); exact BK117.out) hb); have n6_ := Aside0.mk (below_step (by repeat (first | (with_reducible first | exact HB.out | apply below_alloc | apply pw_below_drewN | apply below_drew1 | refine below_set ?_ GE108.out | refine below_set ?_ GE116.out | refine below_set ?_ GE117.out) | exact HB.out)) hb); have n7_ := Aside0.mk (hbox); have n8_ := Aside0.mk ((by rw [hg]; exact (below_size (by repeat (first | (with_reducible first | exact HB.out | apply below_alloc | apply pw_below_drewN | apply below_drew1 | refine below_set ?_ GE108.out | refine below_set ?_ GE116.out | refine below_set ?_ GE117.out) | exact HB.out))) : w.heap.size ≤ gb130)); have n9_ := Aside0.mk ((by rw [hg]; exact (below_size (by repeat (first | (with_reducible first | exact HB.out | apply below_alloc | apply pw_below_drewN | apply below_drew1 | refine below_set ?_ GE108.out | refine below_set ?_ GE116.out | refine below_set ?_ GE117.out) | exact HB.out))) : w.heap.size ≤ gb130)); have n10_ := Aside0.mk ((by rw [hg]; exact Nat.ne_of_lt (blk_lt (g := gb108) (o := .cells #[.int .i64 ((rd_T29 l0 (ji15)).f0), .int .i64 ((rd_T29 l0 (ji15)).f1), .string ((rd_T29 l0 (ji15)).f2), .slice (some ad121) ((rd_T29 l0 (ji15)).f3).length c107_3] 29 (0, 0)) (by (with_reducible repeat (first | refine blk_drewN ?_ _ | refine blk_drew ?_ | refine blk_alloc ?_ _)); exact BK108.out)) : gb108 ≠ gb130)); have n11_ := Aside0.mk ((by rw [hg]; exact Nat.ne_of_gt (blk_lt (g := gb108) (o := .cells #[.int .i64 ((rd_T29 l0 (ji15)).f0), .int .i64 ((rd_T29 l0 (ji15)).f1), .string ((rd_T29 l0 (ji15)).f2), .slice (some ad121) ((rd_T29 l0 (ji15)).f3).length c107_3] 29 (0, 0)) (by (with_reducible repeat (first | refine blk_drewN ?_ _ | refine blk_drew ?_ | refine blk_alloc ?_ _)); exact BK108.out)) : gb130 ≠ gb108)); have n12_ := Aside0.mk ((by rw [hg]; exact Nat.ne_of_lt (blk_lt (g := gb116) (o := .cells #[.bool t112, .bool t113, .int .i64 t114] 31 (0, 0)) (by (with_reducible repeat (first | refine blk_drewN ?_ _ | refine blk_drew ?_ | refine blk_alloc ?_ _)); exact BK116.out)) : gb116 ≠ gb130)); have n13_ := Aside0.mk ((by rw [hg]; exact Nat.ne_of_gt (blk_lt (g := gb116) (o := .cells #[.bool t112, .bool t113, .int .i64 t114] 31 (0, 0)) (by (with_reducible repeat (first | refine blk_drewN ?_ _ | refine blk_drew ?_ | refine blk_alloc ?_ _)); exact BK116.out)) : gb130 ≠ gb116)); have n14_ := Aside0.mk ((by rw [hg]; exact Nat.ne_of_lt (blk_lt (g := gb117) (o := .cells #[.bool x118000_2, .bool x118001_2, .int .i64 x118002_2] 31 (0, 0)) (by (with_reducible repeat (first | refine blk_drewN ?_ _ | refine blk_drew ?_ | refine blk_alloc ?_ _)); exact BK117.out)) : gb117 ≠ gb130)); have n15_ := Aside0.mk ((by rw [hg]; exact Nat.ne_of_gt (blk_lt (g := gb117) (o := .cells #[.bool x118000_2, .bool x118001_2, .int .i64 x118002_2] 31 (0, 0)) (by (with_reducible repeat (first | refine blk_drewN ?_ _ | refine blk_drew ?_ | refine blk_alloc ?_ _)); exact BK117.out)) : gb130 ≠ gb117)); clear HO_8; clear HO120; clear HO125; clear BK108; clear BK116; clear BK117; clear HB; have HO_8 := n0_; have HO120 := n1_; have HO125 := n2_; have BK108 := n3_; have BK116 := n4_; have BK117 := n5_; have HB := n6_; have BK130 := n7_; have GW130 := n8_; have GE130 := n9_; have NB108_130 := n10_; have NB130_108 := n11_; have NB116_130 := n12_; have NB130_116 := n13_; have NB117_130 := n14_; have NB130_117 := n15_; clear n0_ n1_ n2_ n3_ n4_ n5_ n6_ n7_ n8_ n9_ n10_ n11_ n12_ n13_ n14_ n15_; clear hb hbox hg; have hnb125 := NB130_108.out; have hnc125 := NB108_130.out; have hnb126 := NB130_116.out; have hnc126 := NB116_130.out; have hnb127 := NB130_117.out; have hnc127 := NB117_130.out; have hcz128_0 : w124.cell? ⟨gb130, 0, none⟩ = some (.bool false) := (blk_cell BK130.out 0).trans rfl; have hcz128_1 : w124.cell? ⟨gb130, 1, none⟩ = some (.bool false) := (blk_cell BK130.out 1).trans rfl; have hcz128_2 : w124.cell? ⟨gb130, 2, none⟩ = some (.int .i64 0) := (blk_cell BK130.out 2).trans rfl; have hfz128_0 := blk_frozen BK130.out 0; have hfz128_1 := blk_frozen BK130.out 1; have hfz128_2 := blk_frozen BK130.out 2))
           go_ret
           exact ⟨by first | rfl | (simp [errW_none, errW_some] <;> rfl) | (simp only [← hji15]; first | rfl | (simp [errW_none, errW_some] <;> rfl)) | (simp [*, errW_none, errW_some] <;> rfl), by repeat (first | (with_reducible first | exact HB.out | apply below_alloc | apply pw_below_drewN | apply below_drew1 | refine below_set ?_ GE108.out | refine below_set ?_ GE116.out | refine below_set ?_ GE117.out | refine below_set ?_ GE130.out) | exact HB.out)⟩
         ·rw [if_neg c32] at H
          exact absurd H (by simp)
        ·rw [if_neg c30] at H
         have c30b0 : decide (x10_2 < (((rd_T29 l0 (ji15)).f3).length : Int)) = false := decide_eq_false c30
         clear c30
         have HC129 := Aside0.mk H
         clear H
         have hnb130 := NB108_116.out
         have hnc130 := NB116_108.out
         have hnb131 := NB108_117.out
         have hnc131 := NB117_108.out
         have hcz132_0 : wr.cell? ⟨gb108, 0, none⟩ = some (.int .i64 ((rd_T29 l0 (ji15)).f0)) := (blk_cell BK108.out 0).trans rfl
         have hcz132_1 : wr.cell? ⟨gb108, 1, none⟩ = some (.int .i64 ((rd_T29 l0 (ji15)).f1)) := (blk_cell BK108.out 1).trans rfl
         have hcz132_2 : wr.cell? ⟨gb108, 2, none⟩ = some (.string ((rd_T29 l0 (ji15)).f2)) := (blk_cell BK108.out 2).trans rfl
         have hcz132_3 : wr.cell? ⟨gb108, 3, none⟩ = some (.slice A107_3 ((rd_T29 l0 (ji15)).f3).length c107_3) := (blk_cell BK108.out 3).trans rfl
         have hfz132_0 := blk_frozen BK108.out 0
         have hfz132_1 := blk_frozen BK108.out 1
         have hfz132_2 := blk_frozen BK108.out 2
         have hfz132_3 := blk_frozen BK108.out 3
         go_upto_region 20 with (fail)
         go_cut [90] (fun v90 wc => ∃ (kq : Nat) (x90_128 : Bool), v90 = .bool x90_128 ∧ Aside0 (sorrellaw13_FactsParts.j2 kq x6_2 x7_2 x8_2 x90_128 ((rd_T29 l0 (ji15)).f0) ((rd_T29 l0 (ji15)).f1) ((rd_T29 l0 (ji15)).f2) ((rd_T29 l0 (ji15)).f3) t112 t113 t114 x118000_2 x118001_2 x118002_2 = some r) ∧ Aside0 (kq ≤ k2) ∧ Aside0 (Kd.R (Kd.int .i64) 2 wc w.heap.size (fun _ => True) u8 x8_2) ∧ Aside0 (wc.heap[gb108]? = some (.cells #[.int .i64 ((rd_T29 l0 (ji15)).f0), .int .i64 ((rd_T29 l0 (ji15)).f1), .string ((rd_T29 l0 (ji15)).f2), (.slice A107_3 ((rd_T29 l0 (ji15)).f3).length c107_3)] 29 (0, 0))) ∧ Aside0 (wc.heap[gb116]? = some (.cells #[.bool t112, .bool t113, .int .i64 t114] 31 (0, 0))) ∧ Aside0 (wc.heap[gb117]? = some (.cells #[.bool x118000_2, .bool x118001_2, .int .i64 x118002_2] 31 (0, 0))) ∧ Aside0 (Below w.heap.size w wc))
         case first =>
          have H := HC129.out
          clear HC129
          by_cases c133 : ((rd_T29 l0 (ji15)).f0) = 8
          ·rw [if_pos c133] at H
           have c133b0 : (((rd_T29 l0 (ji15)).f0) == 8) = true := beq_iff_eq.mpr c133
           have c133b1 : (((rd_T29 l0 (ji15)).f0) != 8) = false := bne_eq_false_iff_eq.mpr c133
           clear c133
           (first | rw [c133b0] | (simp only [i64_w, i32_w]; rw [c133b0]) | skip)
           have H' := Aside0.mk H
           clear H
           have hnb134 := NB108_116.out
           have hnc134 := NB116_108.out
           have hnb135 := NB108_117.out
           have hnc135 := NB117_108.out
           have hcz136_0 : wr.cell? ⟨gb108, 0, none⟩ = some (.int .i64 ((rd_T29 l0 (ji15)).f0)) := (blk_cell BK108.out 0).trans rfl
           have hcz136_1 : wr.cell? ⟨gb108, 1, none⟩ = some (.int .i64 ((rd_T29 l0 (ji15)).f1)) := (blk_cell BK108.out 1).trans rfl
           have hcz136_2 : wr.cell? ⟨gb108, 2, none⟩ = some (.string ((rd_T29 l0 (ji15)).f2)) := (blk_cell BK108.out 2).trans rfl
           have hcz136_3 : wr.cell? ⟨gb108, 3, none⟩ = some (.slice A107_3 ((rd_T29 l0 (ji15)).f3).length c107_3) := (blk_cell BK108.out 3).trans rfl
           have hfz136_0 := blk_frozen BK108.out 0
           have hfz136_1 := blk_frozen BK108.out 1
           have hfz136_2 := blk_frozen BK108.out 2
           have hfz136_3 := blk_frozen BK108.out 3
           go_wp2
           go_meet
           case rel => exact ⟨_, (true), (by first | rfl | (simp; done) | (simp [*]; done)), H', ⟨by have := HJ1.out; have := HK2.out; first | omega | exact Nat.le_refl _⟩, ⟨by (with_reducible repeat (first | apply Kd.R_alloc | apply Kd.R_drewN | apply Kd.R_drew)); exact HO_8.out⟩, ⟨by (with_reducible repeat (first | refine blk_drewN ?_ _ | refine blk_drew ?_ | refine blk_alloc ?_ _)); exact BK108.out⟩, ⟨by (with_reducible repeat (first | refine blk_drewN ?_ _ | refine blk_drew ?_ | refine blk_alloc ?_ _)); exact BK116.out⟩, ⟨by (with_reducible repeat (first | refine blk_drewN ?_ _ | refine blk_drew ?_ | refine blk_alloc ?_ _)); exact BK117.out⟩, ⟨by repeat (first | (with_reducible first | exact HB.out | apply below_alloc | apply pw_below_drewN | apply below_drew1 | refine below_set ?_ GE108.out | refine below_set ?_ GE116.out | refine below_set ?_ GE117.out) | exact HB.out)⟩⟩
          ·rw [if_neg c133] at H
           have c133b0 : (((rd_T29 l0 (ji15)).f0) == 8) = false := beq_eq_false_iff_ne.mpr c133
           have c133b1 : (((rd_T29 l0 (ji15)).f0) != 8) = true := bne_iff_ne.mpr c133
           (first | rw [c133b0] | (simp only [i64_w, i32_w]; rw [c133b0]) | skip)
           have H' := Aside0.mk H
           clear H
           have hnb137 := NB108_116.out
           have hnc137 := NB116_108.out
           have hnb138 := NB108_117.out
           have hnc138 := NB117_108.out
           have hcz139_0 : wr.cell? ⟨gb108, 0, none⟩ = some (.int .i64 ((rd_T29 l0 (ji15)).f0)) := (blk_cell BK108.out 0).trans rfl
           have hcz139_1 : wr.cell? ⟨gb108, 1, none⟩ = some (.int .i64 ((rd_T29 l0 (ji15)).f1)) := (blk_cell BK108.out 1).trans rfl
           have hcz139_2 : wr.cell? ⟨gb108, 2, none⟩ = some (.string ((rd_T29 l0 (ji15)).f2)) := (blk_cell BK108.out 2).trans rfl
           have hcz139_3 : wr.cell? ⟨gb108, 3, none⟩ = some (.slice A107_3 ((rd_T29 l0 (ji15)).f3).length c107_3) := (blk_cell BK108.out 3).trans rfl
           have hfz139_0 := blk_frozen BK108.out 0
           have hfz139_1 := blk_frozen BK108.out 1
           have hfz139_2 := blk_frozen BK108.out 2
           have hfz139_3 := blk_frozen BK108.out 3
           go_wp2
           go_meet
           case rel => exact ⟨_, ((((rd_T29 l0 (ji15)).f0) == 9)), (by first | rfl | (simp; done) | (simp only [← hji15] <;> (first | rfl | simp)) | (simp [*]; done)), H', ⟨by have := HJ1.out; have := HK2.out; first | omega | exact Nat.le_refl _⟩, ⟨by (with_reducible repeat (first | apply Kd.R_alloc | apply Kd.R_drewN | apply Kd.R_drew)); exact HO_8.out⟩, ⟨by (with_reducible repeat (first | refine blk_drewN ?_ _ | refine blk_drew ?_ | refine blk_alloc ?_ _)); exact BK108.out⟩, ⟨by (with_reducible repeat (first | refine blk_drewN ?_ _ | refine blk_drew ?_ | refine blk_alloc ?_ _)); exact BK116.out⟩, ⟨by (with_reducible repeat (first | refine blk_drewN ?_ _ | refine blk_drew ?_ | refine blk_alloc ?_ _)); exact BK117.out⟩, ⟨by repeat (first | (with_reducible first | exact HB.out | apply below_alloc | apply pw_below_drewN | apply below_drew1 | refine below_set ?_ GE108.out | refine below_set ?_ GE116.out | refine below_set ?_ GE117.out) | exact HB.out)⟩⟩
         case rest =>
          clear HC129
          try clear c1
          try clear p1
          try clear q1
          try clear hx1
          try clear p2
          try clear c3
          try clear p6
          try clear c7
          try clear c8
          try clear c9
          try clear c10
          try clear c11
          try clear c12
          try clear p12
          try clear q12
          try clear hx12
          try clear c13
          try clear c30
          try clear c30b0
          try clear c32
          try clear c35
          try clear c35b0
          try clear c35b1
          try clear p64
          try clear c76
          try clear c77
          try clear c88
          try clear c89
          try clear c90
          try clear c94
          try clear c96
          try clear c97
          try clear c98
          try clear c107
          try clear c108
          try clear c109
          try clear c113
          try clear c115
          try clear c116
          try clear p121
          try clear q121
          try clear hx121
          try clear c125
          try clear c126
          try clear c127
          try clear c130
          try clear c131
          try clear c133
          try clear c133b0
          try clear c133b1
          try clear c134
          try clear c135
          try clear c137
          try clear c138
          try clear hcz110_0
          try clear hcz110_1
          try clear hcz110_2
          try clear hcz112_0
          try clear hcz112_1
          try clear hcz112_2
          try clear hcz114_0
          try clear hcz114_1
          try clear hcz114_2
          try clear hcz117_0
          try clear hcz117_1
          try clear hcz117_2
          try clear hcz117_3
          try clear hcz128_0
          try clear hcz128_1
          try clear hcz128_2
          try clear hcz132_0
          try clear hcz132_1
          try clear hcz132_2
          try clear hcz132_3
          try clear hcz136_0
          try clear hcz136_1
          try clear hcz136_2
          try clear hcz136_3
          try clear hcz139_0
          try clear hcz139_1
          try clear hcz139_2
          try clear hcz139_3
          try clear hcz91_0
          try clear hcz91_1
          try clear hcz91_2
          try clear hcz93_0
          try clear hcz93_1
          try clear hcz93_2
          try clear hcz95_0
          try clear hcz95_1
          try clear hcz95_2
          try clear hcz99_0
          try clear hcz99_1
          try clear hcz99_2
          try clear hcz99_3
          try clear hfz110_0
          try clear hfz110_1
          try clear hfz110_2
          try clear hfz112_0
          try clear hfz112_1
          try clear hfz112_2
          try clear hfz114_0
          try clear hfz114_1
          try clear hfz114_2
          try clear hfz117_0
          try clear hfz117_1
          try clear hfz117_2
          try clear hfz117_3
          try clear hfz128_0
          try clear hfz128_1
          try clear hfz128_2
          try clear hfz132_0
          try clear hfz132_1
          try clear hfz132_2
          try clear hfz132_3
          try clear hfz136_0
          try clear hfz136_1
          try clear hfz136_2
          try clear hfz136_3
          try clear hfz139_0
          try clear hfz139_1
          try clear hfz139_2
          try clear hfz139_3
          try clear hfz91_0
          try clear hfz91_1
          try clear hfz91_2
          try clear hfz93_0
          try clear hfz93_1
          try clear hfz93_2
          try clear hfz95_0
          try clear hfz95_1
          try clear hfz95_2
          try clear hfz99_0
          try clear hfz99_1
          try clear hfz99_2
          try clear hfz99_3
          try clear hx121_0
          try clear p121
          try clear q121
          obtain ⟨kq, x90_128, rfl, HA, HJ128, HO_8, BK108, BK116, BK117, HB⟩ := hcut
          cases kq with
          | zero => exact absurd HA.out (by simp [sorrellaw13_FactsParts.j2])
          | succ kj128 =>
           have H := HA.out
           clear HA
           simp only [sorrellaw13_FactsParts.j2] at H
           have HC140 := Aside0.mk H
           clear H
           go_upto_if 90 with (fail)
           go_cut [6] (fun v6 wc => ∃ (kq : Nat) (x6_139 : Bool), v6 = .bool x6_139 ∧ Aside0 (sorrellaw13_FactsParts.j3 kq x6_139 x7_2 x8_2 ((rd_T29 l0 (ji15)).f0) ((rd_T29 l0 (ji15)).f1) ((rd_T29 l0 (ji15)).f2) ((rd_T29 l0 (ji15)).f3) t112 t113 t114 = some r) ∧ Aside0 (kq ≤ kj128) ∧ Aside0 (Kd.R (Kd.int .i64) 2 wc w.heap.size (fun _ => True) u8 x8_2) ∧ Aside0 (wc.heap[gb108]? = some (.cells #[.int .i64 ((rd_T29 l0 (ji15)).f0), .int .i64 ((rd_T29 l0 (ji15)).f1), .string ((rd_T29 l0 (ji15)).f2), (.slice A107_3 ((rd_T29 l0 (ji15)).f3).length c107_3)] 29 (0, 0))) ∧ Aside0 (wc.heap[gb116]? = some (.cells #[.bool t112, .bool t113, .int .i64 t114] 31 (0, 0))) ∧ Aside0 (wc.heap[gb117]? = some (.cells #[.bool x118000_2, .bool x118001_2, .int .i64 x118002_2] 31 (0, 0))) ∧ Aside0 (Below w.heap.size w wc))
           case first =>
            have H := HC140.out
            clear HC140
            by_cases c141 : x90_128 = true
            ·subst c141
             have H1 : (if x6_2 = true then (if x118001_2 = true then (sorrellaw13_FactsParts.j3 kj128 (x118002_2 != 0) x7_2 x8_2 ((rd_T29 l0 (ji15)).f0) ((rd_T29 l0 (ji15)).f1) ((rd_T29 l0 (ji15)).f2) ((rd_T29 l0 (ji15)).f3) t112 t113 t114) else (sorrellaw13_FactsParts.j3 kj128 false x7_2 x8_2 ((rd_T29 l0 (ji15)).f0) ((rd_T29 l0 (ji15)).f1) ((rd_T29 l0 (ji15)).f2) ((rd_T29 l0 (ji15)).f3) t112 t113 t114)) else (sorrellaw13_FactsParts.j3 kj128 false x7_2 x8_2 ((rd_T29 l0 (ji15)).f0) ((rd_T29 l0 (ji15)).f1) ((rd_T29 l0 (ji15)).f2) ((rd_T29 l0 (ji15)).f3) t112 t113 t114)) = some r := by rw [if_pos rfl] at H; exact H
             clear H
             have H := H1
             clear H1
             by_cases c142 : x6_2 = true
             ·subst c142
              have H1 : (if x118001_2 = true then (sorrellaw13_FactsParts.j3 kj128 (x118002_2 != 0) x7_2 x8_2 ((rd_T29 l0 (ji15)).f0) ((rd_T29 l0 (ji15)).f1) ((rd_T29 l0 (ji15)).f2) ((rd_T29 l0 (ji15)).f3) t112 t113 t114) else (sorrellaw13_FactsParts.j3 kj128 false x7_2 x8_2 ((rd_T29 l0 (ji15)).f0) ((rd_T29 l0 (ji15)).f1) ((rd_T29 l0 (ji15)).f2) ((rd_T29 l0 (ji15)).f3) t112 t113 t114)) = some r := by rw [if_pos rfl] at H; exact H
              clear H
              have H := H1
              clear H1
              by_cases c143 : x118001_2 = true
              ·subst c143
               have H1 : (sorrellaw13_FactsParts.j3 kj128 (x118002_2 != 0) x7_2 x8_2 ((rd_T29 l0 (ji15)).f0) ((rd_T29 l0 (ji15)).f1) ((rd_T29 l0 (ji15)).f2) ((rd_T29 l0 (ji15)).f3) t112 t113 t114) = some r := by rw [if_pos rfl] at H; exact H
               clear H
               have H := H1
               clear H1
               have H' := Aside0.mk H
               clear H
               have hnb144 := NB117_108.out
               have hnc144 := NB108_117.out
               have hnb145 := NB117_116.out
               have hnc145 := NB116_117.out
               have hcz146_0 : wc.cell? ⟨gb117, 0, none⟩ = some (.bool x118000_2) := (blk_cell BK117.out 0).trans rfl
               have hcz146_1 : wc.cell? ⟨gb117, 1, none⟩ = some (.bool true) := (blk_cell BK117.out 1).trans rfl
               have hcz146_2 : wc.cell? ⟨gb117, 2, none⟩ = some (.int .i64 x118002_2) := (blk_cell BK117.out 2).trans rfl
               have hfz146_0 := blk_frozen BK117.out 0
               have hfz146_1 := blk_frozen BK117.out 1
               have hfz146_2 := blk_frozen BK117.out 2
               go_wp2
               go_meet
               case rel => exact ⟨_, ((x118002_2 != 0)), (by first | rfl | (simp; done) | (simp [*]; done)), H', ⟨by have := HJ1.out; have := HK2.out; have := HJ128.out; first | omega | exact Nat.le_refl _⟩, ⟨by (with_reducible repeat (first | apply Kd.R_alloc | apply Kd.R_drewN | apply Kd.R_drew)); exact HO_8.out⟩, ⟨by (with_reducible repeat (first | refine blk_drewN ?_ _ | refine blk_drew ?_ | refine blk_alloc ?_ _)); exact BK108.out⟩, ⟨by (with_reducible repeat (first | refine blk_drewN ?_ _ | refine blk_drew ?_ | refine blk_alloc ?_ _)); exact BK116.out⟩, ⟨by (with_reducible repeat (first | refine blk_drewN ?_ _ | refine blk_drew ?_ | refine blk_alloc ?_ _)); exact BK117.out⟩, ⟨by repeat (first | (with_reducible first | exact HB.out | apply below_alloc | apply pw_below_drewN | apply below_drew1 | refine below_set ?_ GE108.out | refine below_set ?_ GE116.out | refine below_set ?_ GE117.out) | exact HB.out)⟩⟩
              ·replace c143 := Bool.eq_false_iff.mpr c143
               subst c143
               have H1 : (sorrellaw13_FactsParts.j3 kj128 false x7_2 x8_2 ((rd_T29 l0 (ji15)).f0) ((rd_T29 l0 (ji15)).f1) ((rd_T29 l0 (ji15)).f2) ((rd_T29 l0 (ji15)).f3) t112 t113 t114) = some r := by rw [if_neg (show ¬ (false = true) by decide)] at H; exact H
               clear H
               have H := H1
               clear H1
               have H' := Aside0.mk H
               clear H
               have hnb147 := NB117_108.out
               have hnc147 := NB108_117.out
               have hnb148 := NB117_116.out
               have hnc148 := NB116_117.out
               have hcz149_0 : wc.cell? ⟨gb117, 0, none⟩ = some (.bool x118000_2) := (blk_cell BK117.out 0).trans rfl
               have hcz149_1 : wc.cell? ⟨gb117, 1, none⟩ = some (.bool false) := (blk_cell BK117.out 1).trans rfl
               have hcz149_2 : wc.cell? ⟨gb117, 2, none⟩ = some (.int .i64 x118002_2) := (blk_cell BK117.out 2).trans rfl
               have hfz149_0 := blk_frozen BK117.out 0
               have hfz149_1 := blk_frozen BK117.out 1
               have hfz149_2 := blk_frozen BK117.out 2
               go_wp2
               go_meet
               case rel => exact ⟨_, (false), (by first | rfl | (simp; done) | (simp [*]; done)), H', ⟨by have := HJ1.out; have := HK2.out; have := HJ128.out; first | omega | exact Nat.le_refl _⟩, ⟨by (with_reducible repeat (first | apply Kd.R_alloc | apply Kd.R_drewN | apply Kd.R_drew)); exact HO_8.out⟩, ⟨by (with_reducible repeat (first | refine blk_drewN ?_ _ | refine blk_drew ?_ | refine blk_alloc ?_ _)); exact BK108.out⟩, ⟨by (with_reducible repeat (first | refine blk_drewN ?_ _ | refine blk_drew ?_ | refine blk_alloc ?_ _)); exact BK116.out⟩, ⟨by (with_reducible repeat (first | refine blk_drewN ?_ _ | refine blk_drew ?_ | refine blk_alloc ?_ _)); exact BK117.out⟩, ⟨by repeat (first | (with_reducible first | exact HB.out | apply below_alloc | apply pw_below_drewN | apply below_drew1 | refine below_set ?_ GE108.out | refine below_set ?_ GE116.out | refine below_set ?_ GE117.out) | exact HB.out)⟩⟩
             ·replace c142 := Bool.eq_false_iff.mpr c142
              subst c142
              have H1 : (sorrellaw13_FactsParts.j3 kj128 false x7_2 x8_2 ((rd_T29 l0 (ji15)).f0) ((rd_T29 l0 (ji15)).f1) ((rd_T29 l0 (ji15)).f2) ((rd_T29 l0 (ji15)).f3) t112 t113 t114) = some r := by rw [if_neg (show ¬ (false = true) by decide)] at H; exact H
              clear H
              have H := H1
              clear H1
              have H' := Aside0.mk H
              clear H
              go_wp2
              go_meet
              case rel => exact ⟨_, (false), (by first | rfl | (simp; done) | (simp [*]; done)), H', ⟨by have := HJ1.out; have := HK2.out; have := HJ128.out; first | omega | exact Nat.le_refl _⟩, ⟨by (with_reducible repeat (first | apply Kd.R_alloc | apply Kd.R_drewN | apply Kd.R_drew)); exact HO_8.out⟩, ⟨by (with_reducible repeat (first | refine blk_drewN ?_ _ | refine blk_drew ?_ | refine blk_alloc ?_ _)); exact BK108.out⟩, ⟨by (with_reducible repeat (first | refine blk_drewN ?_ _ | refine blk_drew ?_ | refine blk_alloc ?_ _)); exact BK116.out⟩, ⟨by (with_reducible repeat (first | refine blk_drewN ?_ _ | refine blk_drew ?_ | refine blk_alloc ?_ _)); exact BK117.out⟩, ⟨by repeat (first | (with_reducible first | exact HB.out | apply below_alloc | apply pw_below_drewN | apply below_drew1 | refine below_set ?_ GE108.out | refine below_set ?_ GE116.out | refine below_set ?_ GE117.out) | exact HB.out)⟩⟩
            ·replace c141 := Bool.eq_false_iff.mpr c141
             subst c141
             have H1 : (sorrellaw13_FactsParts.j3 kj128 x6_2 x7_2 x8_2 ((rd_T29 l0 (ji15)).f0) ((rd_T29 l0 (ji15)).f1) ((rd_T29 l0 (ji15)).f2) ((rd_T29 l0 (ji15)).f3) t112 t113 t114) = some r := by rw [if_neg (show ¬ (false = true) by decide)] at H; exact H
             clear H
             have H := H1
             clear H1
             have H' := Aside0.mk H
             clear H
             go_wp2
             go_meet
             case rel => exact ⟨_, (x6_2), (by first | rfl | (simp; done) | (simp [*]; done)), H', ⟨by have := HJ1.out; have := HK2.out; have := HJ128.out; first | omega | exact Nat.le_refl _⟩, ⟨by (with_reducible repeat (first | apply Kd.R_alloc | apply Kd.R_drewN | apply Kd.R_drew)); exact HO_8.out⟩, ⟨by (with_reducible repeat (first | refine blk_drewN ?_ _ | refine blk_drew ?_ | refine blk_alloc ?_ _)); exact BK108.out⟩, ⟨by (with_reducible repeat (first | refine blk_drewN ?_ _ | refine blk_drew ?_ | refine blk_alloc ?_ _)); exact BK116.out⟩, ⟨by (with_reducible repeat (first | refine blk_drewN ?_ _ | refine blk_drew ?_ | refine blk_alloc ?_ _)); exact BK117.out⟩, ⟨by repeat (first | (with_reducible first | exact HB.out | apply below_alloc | apply pw_below_drewN | apply below_drew1 | refine below_set ?_ GE108.out | refine below_set ?_ GE116.out | refine below_set ?_ GE117.out) | exact HB.out)⟩⟩
           case rest =>
            clear HC140
            try clear c1
            try clear p1
            try clear q1
            try clear hx1
            try clear p2
            try clear c3
            try clear p6
            try clear c7
            try clear c8
            try clear c9
            try clear c10
            try clear c11
            try clear c12
            try clear p12
            try clear q12
            try clear hx12
            try clear c13
            try clear c14
            try clear c30
            try clear c30b0
            try clear c32
            try clear c35
            try clear c35b0
            try clear c35b1
            try clear p64
            try clear c76
            try clear c77
            try clear c88
            try clear c89
            try clear c90
            try clear c94
            try clear c96
            try clear c97
            try clear c98
            try clear c107
            try clear c108
            try clear c109
            try clear c113
            try clear c115
            try clear c116
            try clear p121
            try clear q121
            try clear hx121
            try clear c125
            try clear c126
            try clear c127
            try clear c130
            try clear c131
            try clear c133
            try clear c133b0
            try clear c133b1
            try clear c134
            try clear c135
            try clear c137
            try clear c138
            try clear c141
            try clear c142
            try clear c143
            try clear c144
            try clear c145
            try clear c147
            try clear c148
            try clear hcz110_0
            try clear hcz110_1
            try clear hcz110_2
            try clear hcz112_0
            try clear hcz112_1
            try clear hcz112_2
            try clear hcz114_0
            try clear hcz114_1
            try clear hcz114_2
            try clear hcz117_0
            try clear hcz117_1
            try clear hcz117_2
            try clear hcz117_3
            try clear hcz128_0
            try clear hcz128_1
            try clear hcz128_2
            try clear hcz132_0
            try clear hcz132_1
            try clear hcz132_2
            try clear hcz132_3
            try clear hcz136_0
            try clear hcz136_1
            try clear hcz136_2
            try clear hcz136_3
            try clear hcz139_0
            try clear hcz139_1
            try clear hcz139_2
            try clear hcz139_3
            try clear hcz146_0
            try clear hcz146_1
            try clear hcz146_2
            try clear hcz149_0
            try clear hcz149_1
            try clear hcz149_2
            try clear hcz91_0
            try clear hcz91_1
            try clear hcz91_2
            try clear hcz93_0
            try clear hcz93_1
            try clear hcz93_2
            try clear hcz95_0
            try clear hcz95_1
            try clear hcz95_2
            try clear hcz99_0
            try clear hcz99_1
            try clear hcz99_2
            try clear hcz99_3
            try clear hfz110_0
            try clear hfz110_1
            try clear hfz110_2
            try clear hfz112_0
            try clear hfz112_1
            try clear hfz112_2
            try clear hfz114_0
            try clear hfz114_1
            try clear hfz114_2
            try clear hfz117_0
            try clear hfz117_1
            try clear hfz117_2
            try clear hfz117_3
            try clear hfz128_0
            try clear hfz128_1
            try clear hfz128_2
            try clear hfz132_0
            try clear hfz132_1
            try clear hfz132_2
            try clear hfz132_3
            try clear hfz136_0
            try clear hfz136_1
            try clear hfz136_2
            try clear hfz136_3
            try clear hfz139_0
            try clear hfz139_1
            try clear hfz139_2
            try clear hfz139_3
            try clear hfz146_0
            try clear hfz146_1
            try clear hfz146_2
            try clear hfz149_0
            try clear hfz149_1
            try clear hfz149_2
            try clear hfz91_0
            try clear hfz91_1
            try clear hfz91_2
            try clear hfz93_0
            try clear hfz93_1
            try clear hfz93_2
            try clear hfz95_0
            try clear hfz95_1
            try clear hfz95_2
            try clear hfz99_0
            try clear hfz99_1
            try clear hfz99_2
            try clear hfz99_3
            try clear hx121_0
            try clear p1
            try clear p12
            try clear p121
            try clear p2
            try clear p6
            try clear p64
            try clear q1
            try clear q12
            try clear q121
            obtain ⟨kq, x6_139, rfl, HA, HJ139, HO_8, BK108, BK116, BK117, HB⟩ := hcut
            cases kq with
            | zero => exact absurd HA.out (by simp [sorrellaw13_FactsParts.j3])
            | succ kj139 =>
             have H := HA.out
             clear HA
             simp only [sorrellaw13_FactsParts.j3] at H
             by_cases c150 : ((rd_T29 l0 (ji15)).f0) = 1
             ·rw [if_pos c150] at H
              have c150b0 : (((rd_T29 l0 (ji15)).f0) == 1) = true := beq_iff_eq.mpr c150
              have c150b1 : (((rd_T29 l0 (ji15)).f0) != 1) = false := bne_eq_false_iff_eq.mpr c150
              clear c150
              obtain rfl := Option.some.inj H
              have hz0 : ∀ o, (wc.alloc o).cell? ⟨gb108, 0, none⟩ = some (.int .i64 ((rd_T29 l0 (ji15)).f0)) := fun o => (blk_cell (blk_alloc BK108.out o) 0).trans rfl
              have hz1 : ∀ o, (wc.alloc o).cell? ⟨gb108, 1, none⟩ = some (.int .i64 ((rd_T29 l0 (ji15)).f1)) := fun o => (blk_cell (blk_alloc BK108.out o) 1).trans rfl
              have hy0 : ∀ o, (wc.alloc o).cell? ⟨gb116, 0, none⟩ = some (.bool t112) := fun o => (blk_cell (blk_alloc BK116.out o) 0).trans rfl
              have hy1 : ∀ o, (wc.alloc o).cell? ⟨gb116, 1, none⟩ = some (.bool t113) := fun o => (blk_cell (blk_alloc BK116.out o) 1).trans rfl
              have hy2 : ∀ o, (wc.alloc o).cell? ⟨gb116, 2, none⟩ = some (.int .i64 t114) := fun o => (blk_cell (blk_alloc BK116.out o) 2).trans rfl
              clear hji15 hji15w hnb130 hnc130 hnb131 hnc131 hnb26 hnc26 H
              clear c150b1
              go_wp2_with (fail)
              go_ret
              exact ⟨rfl, below_alloc HB.out _⟩
             ·rw [if_neg c150] at H
              have c150b0 : (((rd_T29 l0 (ji15)).f0) == 1) = false := beq_eq_false_iff_ne.mpr c150
              have c150b1 : (((rd_T29 l0 (ji15)).f0) != 1) = true := bne_iff_ne.mpr c150
              by_cases c161 : x7_2 = true
              ·subst c161
               have H1 : ((arith_Apply.f kj139 ((rd_T29 l0 (ji15)).f0) x8_2).bind fun bt144 => (some (t112 == x6_139 && (t113 == (bt144.2 == 0) && (t114 == bt144.1))))) = some r := by rw [if_pos rfl] at H; exact H
               clear H
               have H := H1
               clear H1
               replace H := Option.bind_eq_some_iff.mp H
               obtain ⟨⟨t144, t145⟩, A1620, H⟩ := H
               replace H : (some (t112 == x6_139 && (t113 == (t145 == 0) && (t114 == t144)))) = some r := H
               have A162 := Aside0.mk A1620
               clear A1620
               obtain rfl := Option.some.inj H
               have hz0 : ∀ o, (wc.alloc o).cell? ⟨gb108, 0, none⟩ = some (.int .i64 ((rd_T29 l0 (ji15)).f0)) := fun o => (blk_cell (blk_alloc BK108.out o) 0).trans rfl
               have hz1 : ∀ o, (wc.alloc o).cell? ⟨gb108, 1, none⟩ = some (.int .i64 ((rd_T29 l0 (ji15)).f1)) := fun o => (blk_cell (blk_alloc BK108.out o) 1).trans rfl
               have hy0 : ∀ o, (wc.alloc o).cell? ⟨gb116, 0, none⟩ = some (.bool t112) := fun o => (blk_cell (blk_alloc BK116.out o) 0).trans rfl
               have hy1 : ∀ o, (wc.alloc o).cell? ⟨gb116, 1, none⟩ = some (.bool t113) := fun o => (blk_cell (blk_alloc BK116.out o) 1).trans rfl
               have hy2 : ∀ o, (wc.alloc o).cell? ⟨gb116, 2, none⟩ = some (.int .i64 t114) := fun o => (blk_cell (blk_alloc BK116.out o) 2).trans rfl
               clear hji15 hji15w hnb130 hnc130 hnb131 hnc131 hnb26 hnc26 H
               obtain ⟨A8, c8, rfl, l8, g8⟩ := Kd.R_reads HO_8.out
               have G8 := Aside0.mk g8
               have L8 := Aside0.mk l8
               clear g8 l8 c150b1
               have hn1 : gb116 ≠ wc.heap.size := Nat.ne_of_lt (blk_lt BK116.out)
               have hn2 : wc.heap.size ≠ gb116 := fun e => hn1 e.symm
               go_wp2_with (go_at_call 11; (with_reducible refine (arith_Apply.calls kj139 _ A8 c8 x8_2 t144 t145 _ (Kd.C_below G8.out (below_alloc (Below.refl _ _) _)) L8.out A162.out).mono ?_); rintro e w' ⟨rfl, ⟨nd, rfl⟩⟩)
               go_ret
               exact ⟨rfl, by repeat (first | exact HB.out | apply below_alloc | apply pw_below_drewN | apply below_drew1 | refine below_set ?_ HB.out.size)⟩
              ·replace c161 := Bool.eq_false_iff.mpr c161
               subst c161
               have H1 : (some (t112 == x6_139 && (!t113 && (t114 == 0)))) = some r := by rw [if_neg (show ¬ (false = true) by decide)] at H; exact H
               clear H
               have H := H1
               clear H1
               obtain rfl := Option.some.inj H
               have hz0 : ∀ o, (wc.alloc o).cell? ⟨gb108, 0, none⟩ = some (.int .i64 ((rd_T29 l0 (ji15)).f0)) := fun o => (blk_cell (blk_alloc BK108.out o) 0).trans rfl
               have hz1 : ∀ o, (wc.alloc o).cell? ⟨gb108, 1, none⟩ = some (.int .i64 ((rd_T29 l0 (ji15)).f1)) := fun o => (blk_cell (blk_alloc BK108.out o) 1).trans rfl
               have hy0 : ∀ o, (wc.alloc o).cell? ⟨gb116, 0, none⟩ = some (.bool t112) := fun o => (blk_cell (blk_alloc BK116.out o) 0).trans rfl
               have hy1 : ∀ o, (wc.alloc o).cell? ⟨gb116, 1, none⟩ = some (.bool t113) := fun o => (blk_cell (blk_alloc BK116.out o) 1).trans rfl
               have hy2 : ∀ o, (wc.alloc o).cell? ⟨gb116, 2, none⟩ = some (.int .i64 t114) := fun o => (blk_cell (blk_alloc BK116.out o) 2).trans rfl
               clear hji15 hji15w hnb130 hnc130 hnb131 hnc131 hnb26 hnc26 H
               clear c150b1
               go_wp2_with (fail)
               go_ret
               exact ⟨rfl, below_alloc HB.out _⟩
     ·rw [if_neg c17] at H
      exact absurd H (by simp)
    ·rw [if_neg c16] at H
     exact absurd H (by simp)

end Go.Proofs.YtpboednjlchnhaaDoor.Q
