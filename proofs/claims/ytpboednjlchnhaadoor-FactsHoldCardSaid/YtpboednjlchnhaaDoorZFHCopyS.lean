/- sorrelref02.Copy answers its argument. -/
import Derived.Test.YtpboednjlchnhaaDoorZFHSpec
import Derived.Test.YtpboednjlchnhaaDoorZFHG1
namespace Go.Proofs.YtpboednjlchnhaaDoor.Q
open Go.RowKit Go.Proofs.YtpboednjlchnhaaDoorW.PrintWords Go.Proofs.YtpboednjlchnhaaDoorW.PrintLast Go.Proofs.YtpboednjlchnhaaDoorW.PrintMore
set_option linter.unusedVariables false
set_option linter.unusedSimpArgs false

/-! ### Copy -/
theorem copy_loop (e : List Nd) (hl : e.length * 56 ≤ reachBytes) (hk : ∀ x ∈ e, x.f3.length * 8 ≤ reachBytes) : ∀ (r acc : List Nd), acc ++ r = e →
    Ev (fun k => sorrelref02_Copy.l0 k e acc (acc.length : Int)) e := by
  unfold reachBytes at hl hk
  intro r
  induction r with
  | nil =>
    intro acc h
    refine Ev.step (fun k => by rw [sorrelref02_Copy.l0]) (Ev.neg (by rw [← h]; simp) (Ev.eq (Ev.now _) (by simpa using h)))
  | cons x r ih =>
    intro acc h
    have hx : e[acc.length]? = some x := by rw [← h, List.getElem?_append_right (Nat.le_refl _)]; simp
    have hlt : acc.length < e.length := (List.getElem?_eq_some_iff.1 hx).1
    have hxk := hk x (List.mem_of_getElem? hx)
    refine Ev.step (fun k => by rw [sorrelref02_Copy.l0]) (Ev.pos (by omega) (Ev.pos (by omega) ?_))
    rw [rdN hx, wrap_succ (by omega)]
    refine Ev.bind (Ev.now _) ?_
    refine Ev.pos (by simp; omega) (Ev.pos (by omega) ?_)
    have := ih (acc ++ [x]) (by rw [List.append_assoc]; exact h)
    rw [List.length_append, List.length_singleton] at this
    exact this
theorem copy_ev (e : List Nd) (hl : e.length * 56 ≤ reachBytes) (hk : ∀ x ∈ e, x.f3.length * 8 ≤ reachBytes) : Ev (fun k => sorrelref02_Copy.f k e) e := by
  unfold sorrelref02_Copy.f
  exact copy_loop e hl hk e [] rfl

end Go.Proofs.YtpboednjlchnhaaDoor.Q
