/-
  ToolsExports, for every input: the Go function wayfinderlaw45.ToolsExports returns true, and its arguments read afterwards as before. The tied card.
-/
import Derived.Lay
import Derived.SevenTiedAt
import Derived.Stop.LaidErr
import Derived.Test.YtadichckbogcjaaDoorCards
import Derived.Test.YtadichckbogcjaaDoorTie
import Derived.Test.YtadichckbogcjaaDoorOp
import Derived.Test.YtadichckbogcjaaDoorHs
import Derived.Test.YtadichckbogcjaaDoorLwTi
set_option linter.all false
namespace Go.Proofs.YtadichckbogcjaaDoor.toolsExports
open Go.ChangeShapes Go.WideShapes Go.ChangeAt Go.RowKit

set_option maxRecDepth 100000 in
theorem lifted (os : Os) (started : os.Started) (H : Type) (enc : TypeId × Value → H) :
    ReturnsInHanded {} Tryd.checked os 5 .any (fun w args => (Rows.toolsExportsSpec.pre enc Tryd.prog Tryd.f5 [] false w args ∧ laidMetH Tryd.prog Rows.toolsExportsRow.laid w) ∧ sizedMet enc Tryd.prog Tryd.f5 (OpenSpec.ofChange Rows.toolsExportsSpec) false w args)
      (Rows.toolsExportsSpec.post enc Tryd.prog Tryd.f5 false true false false) := by
  refine handed_sh (C := Tryd.checked) (X := fun w _ => laidMetH Tryd.prog Rows.toolsExportsRow.laid w) (fun _ _ _ hh h => h.of_heap hh) own started (by kernel_rfl) Tryd.func5
    (ChangeSpec.witness_shaped (enc := enc) (C := Tryd.checked) (os := os) (X := fun w _ => laidMetH Tryd.prog Rows.toolsExportsRow.laid w) false (World.laidAll Tryd.prog os Rows.toolsExportsRow.laid) #[.slice none 0 0] 8 (World.laidAll_os _ _ _)
      (World.shaped_of_ZipB (by kernel_rfl) (by kernel_rfl)) (by kernel_rfl) (by kernel_rfl) (by kernel_rfl)
      (by rw [MakeChecks.laidMetH_plain _ _ _ (by kernel_rfl)]; exact laidMet_laidAll _ (by kernel_rfl) (by kernel_rfl))) ?_
  intro W base args ds gs before hval0 hW hcnd _ hL hsh _
  have hval : ∀ (j : Nat) t v, Tryd.f5.params[j]? = some t → args[j]? = some v → Value.okWide Tryd.prog W .any base t v := hval0
  have hL1 : laidMet Tryd.prog Rows.toolsExportsRow.laid W := (MakeChecks.laidMetH_plain _ _ _ (by kernel_rfl)).mp hL
  have hp0 : En.p10W W := Lib.tabIs_of_head (g := 3) (t := 123) (n := 20) (e := 101) (rest := Rows.toolsExportsRow.laid.drop 3) (by kernel_rfl) (by kernel_rfl) (by kernel_rfl) (by kernel_rfl) (by kernel_rfl) (by kernel_rfl) (show laidMet Tryd.prog (_ :: _) W from hL1.tail.tail)
  have hp : En.stW W := ⟨hp0, En.Cut.s1_3 W hsh, err_cell (n := "strconv.ErrSyntax") (r := Rows.toolsExportsRow.laid.drop 6) (hL1.tail.tail.tail.tail.tail) (by kernel_rfl) (by kernel_rfl), err_cell (n := "strconv.ErrRange") (r := Rows.toolsExportsRow.laid.drop 5) (hL1.tail.tail.tail.tail) (by kernel_rfl) (by kernel_rfl)⟩
  clear hL1
  have hW' := hW
  obtain ⟨p, q, hA0, hV, rfl, hfz, hnd⟩ := hW
  have hA : DataW.TrodAll enc Tryd.prog W 0 (fun _ => true) true Tryd.f5.params.toList args.toList ds p := hA0
  rw [Tryd.params5] at hA hval
  obtain ⟨v0, vs0, d0, ds0, p0, q0, hargs, rfl, rfl, h0, r0⟩ := trodAll_cons hA
  obtain ⟨rfl, rfl, rfl⟩ := trodAll_nil r0
  obtain rfl : args = #[v0] := by cases args; simp_all
  obtain ⟨rfl, rfl⟩ := trodVars_none hV
  have k0 := h0
  have lt0 : ∀ x ∈ p0, x.block < W.heap.size := by obtain ⟨m, hm⟩ := k0; exact DataW.trod_lt m _ _ _ hm
  obtain ⟨A0, n0, c0, V0, rfl, ga0, gb0, gs0⟩ := open_slO 4 4 Tryd.underlying31 (by kernel_rfl) (by kernel_rfl) (hval 0 31 v0 rfl rfl) h0
  clear hA0 hval0
  refine (En.exports_walk A0 n0 c0 V0 W hp gs0 ga0 gb0).mono fun e W' ⟨he, bel⟩ => ?_
  subst he
  exact ⟨_, rfl, _, _, _, [], _, [], hW', trodAll_mk1 (shut_bool Tryd.underlying4 _), (trodAll_cons_mk (Below.trod laidOut (by kernel_rfl) (of_decide_eq_true (by kernel_rfl)) k0 bel lt0) trodAll_mk0), rfl, bel.frame _, fun h => by cases h⟩

theorem over : Rows.toolsExportsRow.holds Tryd.pinned (OpenSpec.ofChange Rows.toolsExportsSpec) :=
  OpenClaim.holds_of_wide 5 Tryd.f5 rfl rfl rfl rfl rfl rfl rfl ⟨rfl, rfl, rfl, rfl, rfl⟩ rfl rfl rfl rfl rfl (by kernel_rfl) Tryd.func5 (by kernel_rfl)
    (of_decide_eq_true (by kernel_rfl)) (by unfold Func.isWrapper; first | (rw [if_pos (by decide +kernel)]; kernel_rfl) | (rw [if_neg (by decide +kernel)]; exact ⟨rfl, rfl⟩))
    (fun os started H enc _ => lifted os started H enc)

theorem proved : Rows.ToolsExportsCardSaid :=
  Claim7.holds_tied_plain_at .later [] [.data, .data, .data, .data, .sentinel, .sentinel, .pinned] true (true, Rows.toolsExportsCard.stood.harness.2) Rows.toolsExportsCard.stood.looks over (fun _ h => by cases h) (by kernel_rfl) (fun _ h => by cases h) toolsExports_row_tie rfl ⟨rfl, rfl⟩ (by kernel_rfl) rfl
    (fun f fn hf hfn => by
      obtain rfl : f = 5 := Option.some.inj ((show Tryd.prog.funcNamed Rows.toolsExportsRow.func = some 5 by kernel_rfl).symm.trans hf) |>.symm
      obtain rfl : fn = Tryd.f5 := (Option.some.inj (Tryd.func5.symm.trans hfn)).symm
      exact ⟨by kernel_rfl, fun j t ht => by
        rw [Tryd.params5] at ht
        have hm : t ∈ [31] := by simpa using Array.mem_of_getElem? ht
        have hall : ([31].all fun u => !Tryd.prog.wantsStandIn u) = true := by kernel_rfl
        exact (show Tryd.prog.wantsStandIn t = false by simpa using List.all_eq_true.1 hall t hm)⟩)
    (by kernel_rfl)
#print axioms proved
end Go.Proofs.YtadichckbogcjaaDoor.toolsExports
