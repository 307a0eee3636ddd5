import Derived.Test.YtpboednjlchnhaaDoorZFPK
import Derived.Test.YtpboednjlchnhaaDoorZFPG0
namespace Go.Proofs.YtpboednjlchnhaaDoor.Q
open Go.RowKit Go.Proofs.YtpboednjlchnhaaDoorW.PrintWords Go.Proofs.YtpboednjlchnhaaDoorW.PrintLast Go.Proofs.YtpboednjlchnhaaDoorW.PrintMore
/-! expr.join where the list is nil. -/
def expr_join.f (k : Nat) (l0 : List S29) (l1 : List S29) (a2 : Int) : Option (List S29) := if l0.length = 0 then expr_joinN.f k l1 a2 else none
theorem expr_join.mono : ∀ a0 a1 a2 k, LeO (expr_join.f k a0 a1 a2) (expr_join.f (k + 1) a0 a1 a2) := by
  intro a0 a1 a2 k r h
  have h2 : (if a0.length = 0 then expr_joinN.f k a1 a2 else none) = some r := h
  show (if a0.length = 0 then expr_joinN.f (k + 1) a1 a2 else none) = some r
  by_cases c : a0.length = 0
  · rw [if_pos c] at h2 ⊢; exact expr_joinN.mono a1 a2 k r h2
  · rw [if_neg c] at h2; cases h2
theorem expr_join.calls (k : Nat) (A0 : Option Addr) (c0 : Nat) (l0 : List S29) (A1 : Option Addr) (c1 : Nat) (l1 : List S29) (a2 : Int) (r : List S29) (w : World) (hr0 : A0 = none ∧ c0 = 0) (hc0 : l0.length ≤ c0) (hr1 : Kd.C k29 w A1 l1.length l1) (hc1 : l1.length ≤ c1) (h : expr_join.f k l0 l1 a2 = some r) :
    Calls Tryd.prog 30 #[.slice A0 l0.length c0, .slice A1 l1.length c1, .int .i64 a2] w fun e w' => ∃ v0_ : Value, e = .returned (v0_) ∧ Kd.S k29 29 w' w.heap.size (fun _ => True) v0_ r ∧ Below w.heap.size w w' := by
  obtain ⟨rfl, rfl⟩ := hr0
  obtain rfl : l0 = [] := List.eq_nil_of_length_eq_zero (by omega)
  unfold expr_join.f at h
  rw [if_pos List.length_nil] at h
  exact expr_joinN.calls k A1 c1 l1 a2 r w hr1 hc1 h
end Go.Proofs.YtpboednjlchnhaaDoor.Q
