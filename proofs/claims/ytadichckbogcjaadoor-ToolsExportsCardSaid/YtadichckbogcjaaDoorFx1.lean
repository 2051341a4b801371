/- Contracts of package frame by the executor. -/
/- Frames, points and cells by the executor: the program and the reference. -/
import Derived.Test.YtadichckbogcjaaDoorBs0
import Derived.Test.YtadichckbogcjaaDoorFr1
import Derived.Test.YtadichckbogcjaaDoorEp
set_option linter.all false
namespace Go.Proofs.YtadichckbogcjaaDoor.En
open Go.RowKit
set_option maxRecDepth 100000

end Go.Proofs.YtadichckbogcjaaDoor.En

namespace Go.Proofs.YtadichckbogcjaaDoor.En
open Go.RowKit
set_option maxRecDepth 100000

theorem PureX.mk' {P : Program} {f : FuncId} {args : List SV} {x : SV} (hen : Entr P f) (hx : x.wf 0) (hw : SV.wfs 0 args) (h : ∀ w, Calls P f (SV.vals (fun _ => 0) args).toArray w fun e w' => e = .returned (x.val fun _ => 0) ∧ Below w.heap.size w w') : PureX P f args x := by
  refine ⟨hen, hx, fun σ w => ?_⟩
  have h1 := h w
  rw [SV.vals_ext (n := 0) (σ := σ) (σ' := fun _ => 0) (by simp) args hw] at h1
  rw [SV.val_ext (n := 0) (σ := σ) (σ' := fun _ => 0) (by simp) x hx] at h1
  exact h1
theorem Size_x (n m : Int) (h0 : 0 ≤ m) (h1 : m ≤ 9000000000000000000) : PureX Tryd.prog 35 [I n, I m] (B (szB n m)) := by
  refine PureX.of Tryd.func35 rfl tabOk rfl rfl rfl (by simp [SV.wfs, SV.wf]) (by simp [SV.wfs, SV.wf]) fun w => ?_
  (conv=>whnf);repeat' (first|((with_reducible refine isW ?_;first|refine xwr_ok (by omega) (by omega) ?_|refine xwr_raw ?_);conv=>whnf)|with_reducible exact rfl|((with_reducible first|refine xif_kt (by assumption) ?_|refine xif_kf (by assumption) ?_);conv=>whnf)|((with_reducible refine xif_s ?_ ?_)<;>(intro hb;(try simp (disch:=omega) only [hbS] at hb)<;>conv=>whnf)))
  all_goals refine Fin_pure rfl ?_ trivial
  all_goals simp [szB]
  all_goals omega

abbrev FrT := Int × Int × Int
/-- the image of a cell, and its error -/
def cellR (f : FrT) (c : CellT) : CellT × Int :=
  if szB f.2.1 8192 && szB f.2.2 8192 && szB c.1 16384 && szB c.2 16384 then
    if szB (min (tX (f.1 % 4) c.1 c.2) (tX (f.1 % 4) (c.1 + 1) (c.2 + 1)) + f.2.1) 16384 && szB (min (tY (f.1 % 4) c.1 c.2) (tY (f.1 % 4) (c.1 + 1) (c.2 + 1)) + f.2.2) 16384 then
      ((min (tX (f.1 % 4) c.1 c.2) (tX (f.1 % 4) (c.1 + 1) (c.2 + 1)) + f.2.1, min (tY (f.1 % 4) c.1 c.2) (tY (f.1 % 4) (c.1 + 1) (c.2 + 1)) + f.2.2), 0)
    else ((0, 0), 2)
  else ((0, 0), 1)
theorem szB_bd {n m : Int} (h : szB n m = true) : -m ≤ n ∧ n ≤ m := by simpa [szB] using h
theorem tXY_bd {q x y m : Int} (h : -m ≤ x ∧ x ≤ m ∧ -m ≤ y ∧ y ≤ m) : -m ≤ tX q x y ∧ tX q x y ≤ m ∧ -m ≤ tY q x y ∧ tY q x y ≤ m := by
  unfold tX tY
  repeat' split
  all_goals omega
end Go.Proofs.YtadichckbogcjaaDoor.En
