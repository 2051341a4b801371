import Derived.Lay
import Derived.SevenTiedAt
import Derived.Stop.LaidErr
import Derived.Test.YtkflmidichikjaaGreatDoorCards
import Derived.Test.YtkflmidichikjaaGreatDoorTie
set_option linter.all false
section
namespace Go.Proofs.YtkflmidichikjaaGreatDoor.systemPose
open Go
theorem and_t {a b : Bool} (ha : a = true) (hb : b = true) : (a && b) = true := by rw [ha, hb]; rfl
set_option maxHeartbeats 16000000 in
theorem facts : joinedFacts Tryz.prog 4 Tryz.f4 Rows.systemPoseSpec Rows.systemPoseRow = true := by
 unfold joinedFacts
 repeat' (with_reducible refine and_t ?_ ?_)
 all_goals (as_aux_lemma=>kernel_rfl)
end Go.Proofs.YtkflmidichikjaaGreatDoor.systemPose
end
section
namespace Go.Proofs.YtkflmidichikjaaGreatDoor.systemPose
open Go
theorem named : Tryz.prog.funcNamed Rows.systemPoseRow.func = some 4 := by kernel_rfl
theorem wrapped : Tryz.f4.isWrapper Tryz.prog Rows.systemPoseRow.wrapper Rows.systemPoseRow.mainSum := by
 unfold Func.isWrapper
 first|(rw [if_pos (by decide +kernel)];kernel_rfl)|(rw [if_neg (by decide +kernel)];exact ⟨rfl,rfl⟩)
theorem instanced : Tryz.f4.isInstance Tryz.prog Rows.systemPoseRow.origin Rows.systemPoseRow.targs := of_decide_eq_true (by kernel_rfl)
theorem over_of (h : ∀ os : Os, os.Started → ∀ (H : Type) (enc : TypeId × Value → H), ReturnsInHanded {} Tryz.checked os 4 .any (fun w args => (Rows.systemPoseSpec.pre enc Tryz.prog Tryz.f4 [] false w args ∧ laidMetH Tryz.prog Rows.systemPoseRow.laid w) ∧ sizedMet enc Tryz.prog Tryz.f4 (OpenSpec.ofChange Rows.systemPoseSpec) false w args)
 (Rows.systemPoseSpec.post enc Tryz.prog Tryz.f4 false true false false)) : Rows.systemPoseRow.holds Tryz.pinned (OpenSpec.ofChange Rows.systemPoseSpec) :=
 OpenClaim.holds_of_wide 4 Tryz.f4 rfl rfl rfl rfl rfl rfl rfl ⟨rfl,rfl,rfl,rfl,rfl⟩ rfl rfl rfl rfl rfl named Tryz.func4 facts
  instanced wrapped
  (fun os started H enc _=>h os started H enc)
end Go.Proofs.YtkflmidichikjaaGreatDoor.systemPose
end
section
namespace Go.Proofs.YtkflmidichikjaaGreatDoor.systemPose
open Go
theorem wft : Rows.systemPoseRow.wfByText (OpenSpec.ofChange Rows.systemPoseSpec) = true := by kernel_rfl
theorem mains : Tryz.pinned.checked.prog.mainIs = some ((true : Bool), Rows.systemPoseCard.stood.harness.2.toList) := by kernel_rfl
theorem lookd : Rows.systemPoseCard.stood.looks = Tryz.pinned.checked.prog.looks [] := by kernel_rfl
theorem goesb : false = Rows.systemPoseRow.goesBy Tryz.pinned.checked.prog := by kernel_rfl
theorem wants : ([32, 33].all fun u => !Tryz.prog.wantsStandIn u) = true := by kernel_rfl
theorem proved_of (over : Rows.systemPoseRow.holds Tryz.pinned (OpenSpec.ofChange Rows.systemPoseSpec)) : Rows.SystemPoseCardSaid :=
 Claim7.holds_tied_plain_at .later [] [.data] true (true,Rows.systemPoseCard.stood.harness.2) Rows.systemPoseCard.stood.looks over (fun _ h=>by cases h) wft (fun _ h=>by cases h) systemPose_row_tie rfl ⟨rfl,rfl⟩ mains rfl
  (fun f fn hf hfn=>by
   obtain rfl : f=4:=Option.some.inj (named.symm.trans hf) |>.symm
   obtain rfl : fn=Tryz.f4:=(Option.some.inj (Tryz.func4.symm.trans hfn)).symm
   exact ⟨lookd,fun j t ht=>by
    rw [Tryz.params4] at ht
    have hm : t∈[32,33]:=by simpa using Array.mem_of_getElem? ht
    exact (show Tryz.prog.wantsStandIn t=false by simpa using List.all_eq_true.1 wants t hm)⟩)
  goesb
end Go.Proofs.YtkflmidichikjaaGreatDoor.systemPose
end
