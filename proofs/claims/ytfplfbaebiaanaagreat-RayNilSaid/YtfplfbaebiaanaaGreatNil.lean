/- RayNil answers true, whatever the two points. No condition. -/
import Derived.Test.YtfplfbaebiaanaaGreatRows
import Derived.Test.YtfplfbaebiaanaaGreatEx
import Derived.ProofKit
namespace Go.Proofs.YtfplfbaebiaanaaGreat
open Go.ChangeShapes Go.WideShapes Go.ChangeAt Go.RowKit Go.Fe
theorem Tryz.own : ownKnob Tryz.prog.godebug = none := by kernel_rfl
theorem Tryz.laidOut : laidOutB Tryz.prog = true := by kernel_rfl
theorem nil_run (x0 x1 x2 x3 x4 x5 : Value) : trueB ((fnV kitX.tb (kitX.env 100 10) 100 fe7) Hid.bare st00 [.e (.g [.c x0, .c x1, .c x2]), .e (.g [.c x3, .c x4, .c x5])]).out = true := by kernel_rfl
theorem nil_calls (x0 x1 x2 x3 x4 x5 : Value) (w : World) : Calls Tryz.prog 7 #[.agg #[x0, x1, x2], .agg #[x3, x4, x5]] w fun e w' => e = .returned (.bool true) ∧ Below w.heap.size w w' := by
  have := calls_true (fnV_ok kitX_ok.tb (Kit.env_ok kitX_ok 100 10) kitX_ok.mixed fe7_ok) (args := [.e (.g [.c x0, .c x1, .c x2]), .e (.g [.c x3, .c x4, .c x5])]) (by simp [AV.bd, EV.bd, SV.bd]) (nil_run x0 x1 x2 x3 x4 x5) (fun _ => (0, 0)) w
  simpa [AV.val_e, EV.val_g, SV.vals, SV.val] using this
theorem agg3 {cs : Array Value} (h : cs.size = 3) : ∃ x y z, cs = #[x, y, z] := by
  obtain ⟨l⟩ := cs
  match l, h with
  | [x, y, z], _ => exact ⟨x, y, z, rfl⟩
set_option maxRecDepth 100000 in
theorem rayNil_lifted (os : Os) (started : os.Started) (H : Type) (enc : TypeId × Value → H) :
    ReturnsInHanded {} Tryz.checked os 7 .any (Rows.rayNilSpec.pre6 enc Tryz.prog Tryz.f7 Rows.rayNilRow.domain false) (Rows.rayNilSpec.post enc Tryz.prog Tryz.f7 false true false false) := by
  refine returnsInHanded_of_change (C := Tryz.checked) Tryz.own started (by kernel_rfl) Tryz.func7
    (ChangeSpec.witness6 (enc := enc) (C := Tryz.checked) false ⟨#[], #[.agg #[.int .i64 0, .int .i64 0, .int .i64 0], .agg #[.int .i64 0, .int .i64 0, .int .i64 0]], []⟩ 8 (by kernel_rfl) (by kernel_rfl) (by kernel_rfl) (by kernel_rfl)) ?_
  intro W base args ds gs before hval0 hW hcnd _
  have hW' := hW
  obtain ⟨p, q, hA0, hV, rfl, hfz, hnd⟩ := hW
  have hA : DataW.TrodAll enc Tryz.prog W 0 (fun _ => true) true Tryz.f7.params.toList args.toList ds p := hA0
  rw [Tryz.params7] at hA
  obtain ⟨v0, v1, d0, d1, p0, p1, rfl, rfl, rfl, h0, h1⟩ := trodAll_two hA
  obtain ⟨rfl, rfl⟩ := trodVars_none hV
  have hval : ∀ (j : Nat) t v, Tryz.f7.params[j]? = some t → #[v0, v1][j]? = some v → Value.okWide Tryz.prog W .any base t v := hval0
  rw [Tryz.params7] at hval
  obtain ⟨c0, rfl, z0⟩ := okWide_struct Tryz.underlying39 (hval 0 39 v0 rfl rfl)
  obtain ⟨c1, rfl, z1⟩ := okWide_struct Tryz.underlying39 (hval 1 39 v1 rfl rfl)
  have hC : Tryz.prog.cellsOf 39 = 3 := by kernel_rfl
  rw [hC] at z0 z1
  obtain ⟨x0, x1, x2, rfl⟩ := agg3 z0
  obtain ⟨x3, x4, x5, rfl⟩ := agg3 z1
  clear hA0 hval0 hval
  simp only [List.append_nil] at hW'
  have hlt : ∀ x ∈ p0 ++ p1, x.block < W.heap.size := fun x hx => by simpa using hW'.lt x hx
  refine (nil_calls x0 x1 x2 x3 x4 x5 W).mono fun e W' ⟨he, bel⟩ => ?_
  subst he
  refine ⟨_, rfl, _, _, _, [], p0 ++ p1, [], hW', ?_, ?_, ?_, bel.frame _, fun h => by cases h⟩
  · exact trodAll_mk1 (shut_bool Tryz.underlying4 true)
  · exact trodAll_mk2 (Below.trod Tryz.laidOut (by kernel_rfl) (of_decide_eq_true (by kernel_rfl)) h0 bel (fun x hx => hlt x (List.mem_append_left _ hx))) (Below.trod Tryz.laidOut (by kernel_rfl) (of_decide_eq_true (by kernel_rfl)) h1 bel (fun x hx => hlt x (List.mem_append_right _ hx)))
  · rfl
theorem rayNil_holds : Rows.RayNilSaid :=
  OpenClaim.holds_of_wide 7 Tryz.f7 rfl rfl rfl rfl rfl rfl rfl ⟨rfl, rfl, rfl, rfl, rfl⟩ rfl rfl rfl rfl rfl (by kernel_rfl) Tryz.func7 (by kernel_rfl)
    (of_decide_eq_true (by kernel_rfl)) (by unfold Func.isWrapper; first | (rw [if_pos (by decide +kernel)]; kernel_rfl) | (rw [if_neg (by decide +kernel)]; exact ⟨rfl, rfl⟩))
    (fun os started H enc _ => rayNil_lifted os started H enc)
end Go.Proofs.YtfplfbaebiaanaaGreat
