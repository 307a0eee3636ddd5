/- sorrellaw13.awake. -/
import Derived.Test.YtpboednjlchnhaaDoorZFHFactsS
import Derived.Test.YtpboednjlchnhaaDoorZFHG2
namespace Go.Proofs.YtpboednjlchnhaaDoor.Q
open Go.RowKit Go.Proofs.YtpboednjlchnhaaDoorW.PrintWords Go.Proofs.YtpboednjlchnhaaDoorW.PrintLast Go.Proofs.YtpboednjlchnhaaDoorW.PrintMore
set_option linter.unusedVariables false
set_option linter.unusedSimpArgs false

theorem awake_ev : Ev (fun k => sorrellaw13_awake.f k) true := by
  unfold sorrellaw13_awake.f
  have ht : (Tr.node 1 7 ⟨#[]⟩ []).ok := Tr.ok.node (by decide +kernel) (fun k hk => by cases hk)
  have := factsOf_tree (Tr.node 1 7 ⟨#[]⟩ []) ht (by simp [Tr.size, sizeF]) (fun x hx => by
    simp [Tr.flat, flatF] at hx
    subst hx
    exact Nat.zero_le _)
  refine Ev.bind this ?_
  refine Ev.pos rfl (Ev.eq (Ev.now _) ?_)
  decide +kernel

end Go.Proofs.YtpboednjlchnhaaDoor.Q
