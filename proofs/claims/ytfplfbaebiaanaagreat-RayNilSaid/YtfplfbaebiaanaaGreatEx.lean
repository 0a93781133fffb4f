import Derived.Test.YtfplfbaebiaanaaGreatFn
import Derived.Test.YtfplfbaebiaanaaGreatFeG
noncomputable section
namespace Go.Proofs.YtfplfbaebiaanaaGreat
open Go.RowKit Go.Fe
theorem fe21_ok : FnOk Tryz.prog 21 fe21 := kitOk.fns 21 fe21 (by kernel_rfl)
theorem fe7_ok : FnOk Tryz.prog 7 fe7 := kitOk.fns 7 fe7 (by kernel_rfl)
/-- the document's rows: a run -/
theorem blocked_run : trueB ((fnV kit.tb (kit.env 100 30) 100 fe21) Hid.bare st00 []).out = true := by kernel_rfl
theorem blocked_true (w : World) : Calls Tryz.prog 21 #[] w fun e w' => e = .returned (.bool true) ∧ Below w.heap.size w w' := by
  have := calls_true (fnV_ok kitOk.tb (Kit.env_ok kitOk 100 30) kitOk.mixed fe21_ok) (args := []) (by simp) blocked_run (fun _ => (0, 0)) w
  simpa using this
/-- the kit, with the example's contract -/
def gEx : List (Nat × PC) := [(21, cTrue)]
theorem gEx_ok : ∀ q ∈ gEx, PcOk Tryz.prog q.1 q.2 ∧ Bodied Tryz.prog q.1 := by
  intro q hq
  simp only [gEx, List.mem_cons, List.not_mem_nil, or_false] at hq
  subst hq
  exact ⟨cTrue_ok blocked_true, fe21_ok.bodied⟩
def kitX : Kit := { kit with G := lookG gEx }
theorem kitX_ok : KitOk Tryz.prog kitX := ⟨kitOk.tb, kitOk.mixed, kitOk.fns, lookG_ok gEx_ok, kitOk.O, kitOk.Ob, kitOk.X⟩
end Go.Proofs.YtfplfbaebiaanaaGreat
