-- Written by wip/gen/myprint.py out of the translation. Not trusted: Lean checks it.
import Derived.Test.YtpboednjlchnhaaDoorZFHK
import Derived.Test.YtpboednjlchnhaaDoorZFHGlob
import Derived.Test.YtpboednjlchnhaaDoorZFHG2
import Derived.Test.YtpboednjlchnhaaDoorZFHG3
import Derived.Test.YtpboednjlchnhaaDoorZFHG2
import Derived.Test.YtpboednjlchnhaaDoorZFHG2
import Derived.Test.YtpboednjlchnhaaDoorZFHG1
import Derived.Test.YtpboednjlchnhaaDoorZFHG2
namespace Go.Proofs.YtpboednjlchnhaaDoor.Q
open Go.RowKit Go.Proofs.YtpboednjlchnhaaDoorW.PrintWords Go.Proofs.YtpboednjlchnhaaDoorW.PrintLast Go.Proofs.YtpboednjlchnhaaDoorW.PrintMore
attribute [local go_sem] max2_int min2_int max_two min_two max_three min_three max_four min_four
set_option linter.unusedVariables false
set_option linter.unusedSimpArgs false

attribute [local go_sem high] eqA31
/-! ### sorrellaw13_FactsHold: function 4 -/
def sorrellaw13_FactsHold.f (k : Nat) (l0 : List (S29)) (l1 : List (S115)) : Option (Bool) := (sorrellaw13_awake.f k).bind fun t101 => (if t101 = true then ((sorrelref02_Copy.f k l0).bind fun t102 => ((facts_Of.f k t102).bind fun bt105 => ((sorrelref02_Copy.f k l0).bind fun t110 => ((some (([] : List (S115)) : List (S115))).bind fun y113 => (if y113.length + l1.length < 5864062014805 then ((eval_Eval.f k t110 (y113 ++ l1)).bind fun bt119 => ((sorrelref02_Copy.f k l0).bind fun t121 => ((expr_Check.f k t121).bind fun t124 => (if t124 = 0 then ((sorrelref02_Copy.f k l0).bind fun t125 => ((expr_Vars.f k t125).bind fun bt128 => (if bt105.2.1 = true then (if bt119.2 = 0 then (if bt119.1 = bt105.2.2.1 then (if bt105.1 = true then (if (bt128.1.length : Int) > 0 then (some true) else (some (bt105.2.1 == (bt119.2 == 0)))) else (some false)) else (some false)) else (some false)) else (if bt105.1 = true then (if bt119.2 = 0 then (if bt105.2.2.1 = 0 then (if (bt128.1.length : Int) > 0 then (some true) else (some (bt105.2.1 == (bt119.2 == 0)))) else (some false)) else (some false)) else (if bt105.2.2.1 = 0 then (if (bt128.1.length : Int) > 0 then (some true) else (some (bt105.2.1 == (bt119.2 == 0)))) else (some false)))))) else (if bt105.2.2.2 = 1 then (some (!bt105.1 && (!bt105.2.1 && (bt105.2.2.1 == 0)))) else (some false)))))) else (none)))))) else (some false))
theorem sorrellaw13_FactsHold.mono : ∀ a0 a1 k, LeO (sorrellaw13_FactsHold.f k a0 a1) (sorrellaw13_FactsHold.f (k + 1) a0 a1) := by
 intro a0 a1 k
 unfold sorrellaw13_FactsHold.f
 repeat' first
   | (with_reducible exact eval_Eval.mono _ _ _)
   | (with_reducible exact expr_Check.mono _ _)
   | (with_reducible exact expr_Vars.mono _ _)
   | (with_reducible exact facts_Of.mono _ _)
   | (with_reducible exact sorrellaw13_awake.mono _)
   | (with_reducible exact sorrelref02_Copy.mono _ _)
   | (with_reducible exact LeO.refl _)
   | (with_reducible exact LeO.none _)
   | (with_reducible refine LeO.ite ?_ ?_)
   | (with_reducible refine LeO.bind ?_ (fun _ => ?_))
   | exact eval_Eval.mono _ _ _
   | exact expr_Check.mono _ _
   | exact expr_Vars.mono _ _
   | exact facts_Of.mono _ _
   | exact sorrellaw13_awake.mono _
   | exact sorrelref02_Copy.mono _ _
   | exact LeO.none _
   | refine LeO.ite ?_ ?_
   | refine LeO.bind ?_ (fun _ => ?_)
end Go.Proofs.YtpboednjlchnhaaDoor.Q
