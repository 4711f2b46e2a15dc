/- merestonelaw13.FrameBits answers true for every input and leaves its arguments as they were. No condition. -/
import Derived.Test.YtkhgjmbpodkdnaaLift
import Derived.Test.YtkhgjmbpodkdnaaLift8
import Derived.Test.YtkhgjmbpodkdnaaLawBits
namespace Go.Proofs.Ytkhgjmbpodkdnaa
open Go.RowKit Go.WideShapes Go.ChangeShapes Go.Deep Go.ChangeAt Go.Joins
set_option maxRecDepth 100000 in
theorem frameBits_lifted (os : Os) (started : os.Started) (H : Type) (enc : TypeId × Value → H) :
    ReturnsInHanded {} Try.checked os 10 .any (Rows.frameBitsSpec.pre6 enc Try.prog Try.f10 Rows.frameBitsRow.domain false) (Rows.frameBitsSpec.post enc Try.prog Try.f10 false true false false) := by
  refine returnsInHanded_of_change_sized (C := Try.checked) Try.own started (by kernel_rfl) Try.func10
    (ChangeSpec.witness6 (enc := enc) (C := Try.checked) false ⟨#[], #[.int .i64 0, .slice none 0 0, .int .u16 0], []⟩ 8 (by kernel_rfl) (by kernel_rfl) (by kernel_rfl) (by kernel_rfl)) ?_
  intro W base args ds gs before hval0 hW _ hsz0 _
  have hsz : (DataW.weightsEach Try.prog (Try.f10.params.toList ++ Rows.frameBitsSpec.plain.varTypes Try.prog) (ds ++ gs)).all (· ≤ reachBytes) = true := hsz0
  clear hsz0
  have hval : ∀ (j : Nat) t v, Try.f10.params[j]? = some t → args[j]? = some v → Value.okWide Try.prog W .any base t v := hval0
  have hW' := hW
  obtain ⟨p, q, hA0, hV, rfl, _, _⟩ := hW
  have hA : DataW.TrodAll enc Try.prog W 0 (fun _ => true) true Try.f10.params.toList args.toList ds p := hA0
  rw [Try.params10] at hA hval hsz
  obtain ⟨v0, v1, v2, d0, d1, d2, p0, p1, p2, rfl, rfl, rfl, h0, h1, h2⟩ := trodAll_three hA
  obtain ⟨rfl, rfl⟩ := trodVars_none hV
  obtain ⟨x0, rfl, rfl, rfl, wx0⟩ := open_int Try.underlying3 (hval 0 3 v0 rfl rfl) h0
  have bx0 := bounds_i64 wx0
  obtain ⟨xs1, A1, cap1, rfl, hr1, hn1, hc1, hd1⟩ := open_bytes Try.underlying22 Try.underlying5 Try.cells_u8 Try.bytes_u8 (hval 1 22 v1 rfl rfl) h1 (fun elems spare hd => sized_slice hsz (j := 1) (t := 22) (e := 5) rfl (by rw [hd]; rfl) Try.underlying22)
  obtain ⟨x2, rfl, rfl, rfl, wx2⟩ := open_int Try.underlying42 (hval 2 42 v2 rfl rfl) h2
  have bx2 := bounds_u16 wx2
  clear hA0 hval0
  refine (bits_any xs1 A1 _ cap1 x0 x2 W hr1 hn1 bx2.1 bx2.2).mono fun e W' ⟨he, hb⟩ => ⟨_, he, ?_⟩
  exact law_post Try.laidOut (by kernel_rfl) (by kernel_rfl) Try.underlying4 rfl hW' rfl rfl rfl hb

theorem frameBits_holds : Rows.FrameBitsSaid :=
  OpenClaim.holds_of_wide 10 Try.f10 rfl rfl rfl rfl rfl rfl rfl ⟨rfl, rfl, rfl, rfl, rfl⟩ rfl rfl rfl rfl rfl (by kernel_rfl) Try.func10 (by kernel_rfl)
    (of_decide_eq_true (by kernel_rfl)) (by unfold Func.isWrapper; rw [if_neg (of_decide_eq_false (by kernel_rfl))]; exact ⟨rfl, rfl⟩)
    (fun os started H enc _ => frameBits_lifted os started H enc)
#print axioms frameBits_holds
end Go.Proofs.Ytkhgjmbpodkdnaa
