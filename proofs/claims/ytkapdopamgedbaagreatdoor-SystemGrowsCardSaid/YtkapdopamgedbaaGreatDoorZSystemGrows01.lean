import Derived.Lay
import Derived.SevenTiedAt
import Derived.Stop.LaidErr
import Derived.Test.YtkapdopamgedbaaGreatDoorCards
import Derived.Test.YtkapdopamgedbaaGreatDoorTie
set_option linter.all false
section
namespace Go.Proofs.YtkapdopamgedbaaGreatDoor.systemGrows
open Go
theorem and_t {a b : Bool} (ha : a = true) (hb : b = true) : (a && b) = true := by rw [ha, hb]; rfl
set_option maxHeartbeats 16000000 in
theorem facts : joinedFacts Tryz.prog 3 Tryz.f3 Rows.systemGrowsSpec Rows.systemGrowsRow = true := by
 unfold joinedFacts
 repeat' (with_reducible refine and_t ?_ ?_)
 all_goals (as_aux_lemma=>kernel_rfl)
end Go.Proofs.YtkapdopamgedbaaGreatDoor.systemGrows
end
section
namespace Go.Proofs.YtkapdopamgedbaaGreatDoor.systemGrows
open Go
theorem named : Tryz.prog.funcNamed Rows.systemGrowsRow.func = some 3 := by kernel_rfl
theorem wrapped : Tryz.f3.isWrapper Tryz.prog Rows.systemGrowsRow.wrapper Rows.systemGrowsRow.mainSum := by
 unfold Func.isWrapper
 first|(rw [if_pos (by decide +kernel)];kernel_rfl)|(rw [if_neg (by decide +kernel)];exact ⟨rfl,rfl⟩)
theorem instanced : Tryz.f3.isInstance Tryz.prog Rows.systemGrowsRow.origin Rows.systemGrowsRow.targs := of_decide_eq_true (by kernel_rfl)
theorem over_of (h : ∀ os : Os, os.Started → ∀ (H : Type) (enc : TypeId × Value → H), ReturnsInHanded {} Tryz.checked os 3 .any (fun w args => (Rows.systemGrowsSpec.pre enc Tryz.prog Tryz.f3 [] false w args ∧ laidMetH Tryz.prog Rows.systemGrowsRow.laid w) ∧ sizedMet enc Tryz.prog Tryz.f3 (OpenSpec.ofChange Rows.systemGrowsSpec) false w args)
 (Rows.systemGrowsSpec.post enc Tryz.prog Tryz.f3 false true false false)) : Rows.systemGrowsRow.holds Tryz.pinned (OpenSpec.ofChange Rows.systemGrowsSpec) :=
 OpenClaim.holds_of_wide 3 Tryz.f3 rfl rfl rfl rfl rfl rfl rfl ⟨rfl,rfl,rfl,rfl,rfl⟩ rfl rfl rfl rfl rfl named Tryz.func3 facts
  instanced wrapped
  (fun os started H enc _=>h os started H enc)
end Go.Proofs.YtkapdopamgedbaaGreatDoor.systemGrows
end
section
namespace Go.Proofs.YtkapdopamgedbaaGreatDoor.systemGrows
open Go
theorem wft : Rows.systemGrowsRow.wfByText (OpenSpec.ofChange Rows.systemGrowsSpec) = true := by kernel_rfl
theorem mains : Tryz.pinned.checked.prog.mainIs = some ((true : Bool), Rows.systemGrowsCard.stood.harness.2.toList) := by kernel_rfl
theorem lookd : Rows.systemGrowsCard.stood.looks = Tryz.pinned.checked.prog.looks [] := by kernel_rfl
theorem goesb : false = Rows.systemGrowsRow.goesBy Tryz.pinned.checked.prog := by kernel_rfl
theorem wants : ([32, 33].all fun u => !Tryz.prog.wantsStandIn u) = true := by kernel_rfl
theorem proved_of (over : Rows.systemGrowsRow.holds Tryz.pinned (OpenSpec.ofChange Rows.systemGrowsSpec)) : Rows.SystemGrowsCardSaid :=
 Claim7.holds_tied_plain_at .later [] [.data] true (true,Rows.systemGrowsCard.stood.harness.2) Rows.systemGrowsCard.stood.looks over (fun _ h=>by cases h) wft (fun _ h=>by cases h) systemGrows_row_tie rfl ⟨rfl,rfl⟩ mains rfl
  (fun f fn hf hfn=>by
   obtain rfl : f=3:=Option.some.inj (named.symm.trans hf) |>.symm
   obtain rfl : fn=Tryz.f3:=(Option.some.inj (Tryz.func3.symm.trans hfn)).symm
   exact ⟨lookd,fun j t ht=>by
    rw [Tryz.params3] at ht
    have hm : t∈[32,33]:=by simpa using Array.mem_of_getElem? ht
    exact (show Tryz.prog.wantsStandIn t=false by simpa using List.all_eq_true.1 wants t hm)⟩)
  goesb
end Go.Proofs.YtkapdopamgedbaaGreatDoor.systemGrows
end
