import Derived.Test.YtkflmidichikjaaGreatDoorZSystemReplays01
import Derived.Test.YtkflmidichikjaaGreatDoorZSystemReplays36
import Derived.Test.YtkflmidichikjaaGreatDoorZSystemReplays45
set_option linter.all false
namespace Go.Proofs.YtkflmidichikjaaGreatDoor.systemReplays
open Go.ChangeShapes Go.WideShapes Go.ChangeAt Go.RowKit
theorem own : ownKnob Tryz.prog.godebug = none := by kernel_rfl
theorem laidOut : laidOutB Tryz.prog = true := by kernel_rfl

set_option maxRecDepth 100000 in
theorem lifted (os : Os) (started : os.Started) (H : Type) (enc : TypeId × Value → H) :
    ReturnsInHanded {} Tryz.checked os 5 .any (fun w args => (Rows.systemReplaysSpec.pre enc Tryz.prog Tryz.f5 [] false w args ∧ laidMetH Tryz.prog Rows.systemReplaysRow.laid w) ∧ sizedMet enc Tryz.prog Tryz.f5 (OpenSpec.ofChange Rows.systemReplaysSpec) false w args)
      (Rows.systemReplaysSpec.post enc Tryz.prog Tryz.f5 false true false false) := by
  refine returnsInHanded_of_change_and (C := Tryz.checked) (X := fun w _ => laidMetH Tryz.prog Rows.systemReplaysRow.laid w) (fun _ _ _ hh h => h.of_heap hh) own started (by kernel_rfl) Tryz.func5
    (ChangeSpec.witness_shaped (enc := enc) (C := Tryz.checked) (os := os) (X := fun w _ => laidMetH Tryz.prog Rows.systemReplaysRow.laid w) false (World.laidAll Tryz.prog os Rows.systemReplaysRow.laid) #[.agg #[.int .i64 0, .int .i64 0, .slice none 0 0, .int .i64 0, .int .i64 0, .slice none 0 0, .int .i64 0, .int .i64 0, .int .i64 0, .int .i64 0, .int .i64 0, .int .i64 0, .int .i64 0, .slice none 0 0, .slice none 0 0, .int .i64 0, .int .i64 0], .slice none 0 0] 8 (World.laidAll_os _ _ _)
      (World.shaped_of_ZipB (by kernel_rfl) (by kernel_rfl)) (by kernel_rfl) (by kernel_rfl) (by kernel_rfl)
      (by rw [MakeChecks.laidMetH_plain _ _ _ (by kernel_rfl)]; exact laidMet_laidAll _ (by kernel_rfl) (by kernel_rfl))) ?_
  intro W base args ds gs before hval0 hW hcnd _ hL _
  have hval : ∀ (j : Nat) t v, Tryz.f5.params[j]? = some t → args[j]? = some v → Value.okWide Tryz.prog W .any base t v := hval0
  clear hL
  have hW' := hW
  obtain ⟨p, q, hA0, hV, rfl, hfz, hnd⟩ := hW
  have hA : DataW.TrodAll enc Tryz.prog W 0 (fun _ => true) true Tryz.f5.params.toList args.toList ds p := hA0
  rw [Tryz.params5] at hA hval
  obtain ⟨v0, vs0, d0, ds0, p0, q0, hargs, rfl, rfl, h0, r0⟩ := trodAll_cons hA
  obtain ⟨v1, vs1, d1, ds1, p1, q1, rfl, rfl, rfl, h1, r1⟩ := trodAll_cons r0
  obtain ⟨rfl, rfl, rfl⟩ := trodAll_nil r1
  obtain rfl : args = #[v0, v1] := by cases args; simp_all
  obtain ⟨rfl, rfl⟩ := trodVars_none hV
  have k0 := h0
  have lt0 : ∀ x ∈ p0, x.block < W.heap.size := by obtain ⟨m, hm⟩ := k0; exact DataW.trod_lt m _ _ _ hm
  have k1 := h1
  have lt1 : ∀ x ∈ p1, x.block < W.heap.size := by obtain ⟨m, hm⟩ := k1; exact DataW.trod_lt m _ _ _ hm
  have j0 := hval 0 38 v0 rfl rfl
  have j1 := hval 1 33 v1 rfl rfl
  obtain ⟨cs0, rfl, _⟩ := okWide_struct Tryz.underlying38 j0
  obtain ⟨f0, e0⟩ := h0
  obtain ⟨b0, rd0, sh0⟩ := V.open_cells 6 V.shSetup_ok e0
  obtain ⟨s, g, hv0, hw0, hk0, _⟩ := V.open_setup sh0 rd0
  obtain ⟨A', n', c', rfl⟩ := okWide_slice Tryz.underlying33 j1
  obtain ⟨f1, e1⟩ := h1
  obtain ⟨b1, rd1, sh1⟩ := V.open_cells 6 V.shInps_ok e1
  obtain ⟨l, A, c, hv1, hw1, _⟩ := V.open_inps sh1 rd1
  clear hA0 hval0
  have hc := V.CF_calls (V.replays_c.out hk0) (V.Entr.of Tryz.func5 rfl rfl) (w := W) ⟨hw0, hw1, trivial⟩
  have hargs2 : (V.SV.vals (fun _ => 0) [V.Sys.Setup.s s g, .fz A c 10 (V.flD V.Sys.Inp.e l)]).toArray = #[Value.agg cs0, Value.slice A' n' c'] := by
    have h9 : [Value.slice A' n' c'] = [Value.slice A (V.flD V.Sys.Inp.e l).length c] := hv1
    have h8 : Value.agg cs0.toList.toArray = (V.Sys.Setup.s s g).val (fun _ => 0) := hv0
    rw [Array.toArray_toList] at h8
    rw [h8, (List.cons.inj h9).1]
    rfl
  rw [hargs2] at hc
  refine hc.mono fun e W' ⟨he, bel⟩ => ?_
  subst he
  exact ⟨_, rfl, _, _, _, [], _, [], hW', trodAll_mk1 (shut_bool Tryz.underlying4 _), (trodAll_cons_mk (Below.trod laidOut (by kernel_rfl) (of_decide_eq_true (by kernel_rfl)) k0 bel lt0) (trodAll_cons_mk (Below.trod laidOut (by kernel_rfl) (of_decide_eq_true (by kernel_rfl)) k1 bel lt1) trodAll_mk0)), rfl, bel.frame _, fun h => by cases h⟩

theorem proved : Rows.SystemReplaysCardSaid := proved_of (over_of lifted)
#print axioms proved
end Go.Proofs.YtkflmidichikjaaGreatDoor.systemReplays
