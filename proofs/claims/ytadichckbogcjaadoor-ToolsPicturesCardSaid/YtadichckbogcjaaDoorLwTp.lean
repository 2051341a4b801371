/- The walk of ToolsPictures. -/
import Derived.Test.YtadichckbogcjaaDoorXq
import Derived.Test.YtadichckbogcjaaDoorBr
import Derived.Test.YtadichckbogcjaaDoorOq
set_option linter.all false
namespace Go.Proofs.YtadichckbogcjaaDoor.En
open Go.RowKit
set_option maxRecDepth 100000

set_option maxHeartbeats 4000000 in
theorem pictures_x (x y : Int) (A : Option Addr) (c : Nat) (l : List UInt8) {n : Nat} (hl : l.length = n) (hn : n ≤ maxLen) (A2 : Option Addr) (c2 : Nat) (cs : List CellT) {m : Nat} (hm : cs.length = m) (hm2 : m ≤ maxLen) (p : CellT) :
    CallW Tryd.prog 3 [plX3 x y A n c, .v (.slice A2 m c2), .a [I p.1, I p.2]] (fun w => p10W w ∧ ArgSl w A n 1 (l.map encU) ∧ ArgSl w A2 m 2 (cs.map encCl)) (B true) := by
  have k1 := Picture_w x y A c l hl hn A2 c2 cs hm hm2 p
  have k2 := rPicture_w x y A c l hl hn A2 c2 cs hm hm2 p
  have hn1 := hn
  have hm1 := hm2
  unfold maxLen at hn1 hm1
  generalize pictP x y l cs p = T at *
  refine CallW.of Tryd.func3 rfl tabOk rfl rfl rfl (by simp [SV.wfs, SV.wf]) (by simp [SV.wfs, SV.wf]) fun w hpre => ?_
  have htm := fun {ob : List OB} => p10W.mem (C := ⟨Tryd.prog, tab, Tryd.f3.ntmps, w, fun _ => False, 0, id, false⟩) (ob := ob) hpre.1 rfl
  (conv=>whnf);repeat' (first|((with_reducible refine isC ?_);first|((first|(with_reducible refine isF 7 ?_;refine CallX_w (awake45_x) ?_ ?_);(focus exact htm)|(with_reducible refine isF 8 ?_;refine CallX_w (k1) ?_ ?_);(focus exact fun σ fp w hm => ⟨hpre.2.1.mem (by decide) rfl σ fp w hm, hpre.2.2.mem (by decide) rfl σ fp w hm⟩)|(with_reducible refine isF 9 ?_;refine CallX_w (k2) ?_ ?_);(focus exact fun σ fp w hm => ⟨hpre.2.1.mem (by decide) rfl σ fp w hm, hpre.2.2.mem (by decide) rfl σ fp w hm⟩));conv=>whnf))|((with_reducible refine isV ?_);first|(refine ValX_sEq (r := true) rfl Tryd.underlying9 (by simp) ?_; conv => whnf))|((first|refine DrawX_s tabOk folOk ?_|refine DrawS_i (by kernel_rfl) ?_|with_reducible refine andX_i ?_ ?_)<;>conv=>whnf)|with_reducible exact rfl|((with_reducible first|refine xif_kt (by assumption) ?_|refine xif_kf (by assumption) ?_);conv=>whnf)|((with_reducible refine xif_s ?_ ?_)<;>(intro hb;(try simp (disch:=omega) only [hbS] at hb)<;>conv=>whnf)))
  all_goals try (exfalso; omega)
  all_goals exact Fin_pure rfl rfl trivial
/-- the same, over arguments as they are opened -/
theorem pictures_walk (x y : Int) (A : Option Addr) (n c : Nat) (l : List UInt8) (A2 : Option Addr) (n2 c2 : Nat) (V2 : Nat → Nat → Int) (X Y : Int) (w : World) (hp : p10W w) (hl : l.length = n) (ho : ArgSl w A n 1 (l.map encU)) (g0 : n ≤ c) (k0 : c ≤ maxLen) (h0 : SlO w A2 n2 2 V2) (g2 : n2 ≤ c2) (k2 : c2 ≤ maxLen) :
    Calls Tryd.prog 3 #[.agg #[.int .i64 x, .int .i64 y, .slice A n c], .slice A2 n2 c2, .agg #[.int .i64 X, .int .i64 Y]] w fun e w' => e = .returned (.bool true) ∧ Below w.heap.size w w' := by
  have a0 := ArgSl.of_SlO encCl (fun i => (V2 i 0, V2 i 1)) h0 (by decide) (fun i => rfl)
  generalize e0 : (List.range n2).map (fun i => (V2 i 0, V2 i 1)) = xs at a0
  obtain rfl : xs.length = n2 := by rw [← e0]; simp
  exact (pictures_x x y A c l hl (by omega) A2 c2 xs rfl (by omega) (X, Y)).2.2 (fun _ => 0) w ⟨hp, ho, a0⟩
end Go.Proofs.YtadichckbogcjaaDoor.En
