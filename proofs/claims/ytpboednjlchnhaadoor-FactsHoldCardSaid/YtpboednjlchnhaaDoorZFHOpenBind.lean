/- reading a list of bindings. -/
import Derived.Test.YtpboednjlchnhaaDoorZFHOpen
namespace Go.Proofs.YtpboednjlchnhaaDoor.Q
open Go.RowKit Go.ChangeShapes Go.Proofs.YtpboednjlchnhaaDoorW.PrintWords Go.Proofs.YtpboednjlchnhaaDoorW.PrintLast Go.Proofs.YtpboednjlchnhaaDoorW.PrintMore
instance : Inhabited S115 := ⟨z115⟩
theorem rd_bname : Rd Tryd.prog 9 Kd.string (fun s => s.size ≤ reachBytes) (fun s => s.size + 1) := rd_string Tryd.underlying9 (by kernel_rfl)
theorem rd_bnum : Rd Tryd.prog 2 (Kd.int .i64) (fun n => (Lit.int .i64 n).wf = true) (fun _ => 1) := rd_int Tryd.underlying2 (by kernel_rfl)
theorem rd_bind : Rd Tryd.prog 115 k115 (fun x : S115 => x.f0.size ≤ reachBytes ∧ (Lit.int .i64 x.f1).wf = true) (fun x => (x.f0.size + 1) + 1 + 1) :=
  rd_struct2 (fun x : S115 => (x.f0, x.f1)) (fun a b => ⟨a, b⟩) (fun _ _ => rfl) Tryd.underlying115 (by kernel_rfl) rd_bname rd_bnum rfl rfl
theorem rd_binds : Rd Tryd.prog 40 (Kd.slice 115 k115) (fun l => l.length * 24 ≤ reachBytes ∧ ∀ x ∈ l, x.f0.size ≤ reachBytes ∧ (Lit.int .i64 x.f1).wf = true) (fun l => sumBy (fun x : S115 => (x.f0.size + 1) + 1 + 1) l + 1) :=
  rd_slice Tryd.underlying40 (by kernel_rfl) (by kernel_rfl) rd_bind

end Go.Proofs.YtpboednjlchnhaaDoor.Q
