import Derived.Lay
import Derived.SevenTiedAt
import Derived.Stop.LaidErr
import Derived.Test.YtkflmidichikjaaGreatDoorCards
import Derived.Test.YtkflmidichikjaaGreatDoorTie
set_option linter.all false
section
namespace Go.Proofs.YtkflmidichikjaaGreatDoor.systemReplays
open Go
theorem and_t {a b : Bool} (ha : a = true) (hb : b = true) : (a && b) = true := by rw [ha, hb]; rfl
set_option maxHeartbeats 16000000 in
theorem facts : joinedFacts Tryz.prog 5 Tryz.f5 Rows.systemReplaysSpec Rows.systemReplaysRow = true := by
 unfold joinedFacts
 repeat' (with_reducible refine and_t ?_ ?_)
 all_goals (as_aux_lemma=>kernel_rfl)
end Go.Proofs.YtkflmidichikjaaGreatDoor.systemReplays
end
section
namespace Go.Proofs.YtkflmidichikjaaGreatDoor.systemReplays
open Go
theorem named : Tryz.prog.funcNamed Rows.systemReplaysRow.func = some 5 := by kernel_rfl
theorem wrapped : Tryz.f5.isWrapper Tryz.prog Rows.systemReplaysRow.wrapper Rows.systemReplaysRow.mainSum := by
 unfold Func.isWrapper
 first|(rw [if_pos (by decide +kernel)];kernel_rfl)|(rw [if_neg (by decide +kernel)];exact ⟨rfl,rfl⟩)
theorem instanced : Tryz.f5.isInstance Tryz.prog Rows.systemReplaysRow.origin Rows.systemReplaysRow.targs := of_decide_eq_true (by kernel_rfl)
theorem over_of (h : ∀ os : Os, os.Started → ∀ (H : Type) (enc : TypeId × Value → H), ReturnsInHanded {} Tryz.checked os 5 .any (fun w args => (Rows.systemReplaysSpec.pre enc Tryz.prog Tryz.f5 [] false w args ∧ laidMetH Tryz.prog Rows.systemReplaysRow.laid w) ∧ sizedMet enc Tryz.prog Tryz.f5 (OpenSpec.ofChange Rows.systemReplaysSpec) false w args)
 (Rows.systemReplaysSpec.post enc Tryz.prog Tryz.f5 false true false false)) : Rows.systemReplaysRow.holds Tryz.pinned (OpenSpec.ofChange Rows.systemReplaysSpec) :=
 OpenClaim.holds_of_wide 5 Tryz.f5 rfl rfl rfl rfl rfl rfl rfl ⟨rfl,rfl,rfl,rfl,rfl⟩ rfl rfl rfl rfl rfl named Tryz.func5 facts
  instanced wrapped
  (fun os started H enc _=>h os started H enc)
end Go.Proofs.YtkflmidichikjaaGreatDoor.systemReplays
end
section
namespace Go.Proofs.YtkflmidichikjaaGreatDoor.systemReplays
open Go
theorem wft : Rows.systemReplaysRow.wfByText (OpenSpec.ofChange Rows.systemReplaysSpec) = true := by kernel_rfl
theorem mains : Tryz.pinned.checked.prog.mainIs = some ((true : Bool), Rows.systemReplaysCard.stood.harness.2.toList) := by kernel_rfl
theorem lookd : Rows.systemReplaysCard.stood.looks = Tryz.pinned.checked.prog.looks [] := by kernel_rfl
theorem goesb : false = Rows.systemReplaysRow.goesBy Tryz.pinned.checked.prog := by kernel_rfl
theorem wants : ([38, 33].all fun u => !Tryz.prog.wantsStandIn u) = true := by kernel_rfl
theorem proved_of (over : Rows.systemReplaysRow.holds Tryz.pinned (OpenSpec.ofChange Rows.systemReplaysSpec)) : Rows.SystemReplaysCardSaid :=
 Claim7.holds_tied_plain_at .later [] [.data] true (true,Rows.systemReplaysCard.stood.harness.2) Rows.systemReplaysCard.stood.looks over (fun _ h=>by cases h) wft (fun _ h=>by cases h) systemReplays_row_tie rfl ⟨rfl,rfl⟩ mains rfl
  (fun f fn hf hfn=>by
   obtain rfl : f=5:=Option.some.inj (named.symm.trans hf) |>.symm
   obtain rfl : fn=Tryz.f5:=(Option.some.inj (Tryz.func5.symm.trans hfn)).symm
   exact ⟨lookd,fun j t ht=>by
    rw [Tryz.params5] at ht
    have hm : t∈[38,33]:=by simpa using Array.mem_of_getElem? ht
    exact (show Tryz.prog.wantsStandIn t=false by simpa using List.all_eq_true.1 wants t hm)⟩)
  goesb
end Go.Proofs.YtkflmidichikjaaGreatDoor.systemReplays
end
