/- evidence.tally: list. -/
import Derived.Test.YtodaijlclbngbaaGreatTe
import Derived.Test.YtodaijlclbngbaaGreatFs
set_option linter.all false
namespace Go.Proofs.YtodaijlclbngbaaGreat.En
open Go.RowKit Go.Sort
set_option maxRecDepth 100000

theorem Values_m (b : Nat) : CallM Tryz.prog 95 [.v (.map (some b))] (fun _ _ => True) [] (fun _ : Unit => .fn 122 [.p 0 0]) (fun _ => [.box 94 [.v (.map (some b))]]) := by
  refine CallM.of (m := 0) Tryz.func95 rfl tabOk rfl rfl rfl rfl (by simp [SV.wfs, SV.wf]) fun w M π _ => ?_
  (conv => whnf); repeat' (first | (with_reducible exact rfl) | ((with_reducible refine xif_kt (by with_reducible assumption) ?_); conv => whnf) | ((with_reducible refine xif_kf (by with_reducible assumption) ?_); conv => whnf) | (((with_reducible refine xif_s ?_ ?_) <;> (intro hb; (try simp (disch := omega) only [hbS] at hb))) <;> (conv => whnf)))
  exact Fin_m () [0] ⟨rfl, by simp [SV.wf, SV.wfs]⟩ ⟨⟨rfl, rfl, by simp [SV.wf, SV.wfs]⟩, trivial⟩ (by decide) rfl
/-- what list returns: those that are not 0, ascending -/
def IsList (L ys : List EntT) : Prop := ys.Perm (L.filter fun e => !zeroE e) ∧ asc ys
theorem IsList.unique {L ys zs : List EntT} (h1 : IsList L ys) (h2 : IsList L zs) : ys = zs := asc_unique h1.2 h2.2 (h1.1.trans h2.1.symm)
abbrev LstT (L : List EntT) := {p : Option Addr × Nat × List EntT // IsList L p.2.2}
def neT (L : List EntT) : Prop := L.Pairwise fun a b => a.cell ≠ b.cell
set_option maxHeartbeats 1000000 in
theorem list_m (b : Nat) (L : List EntT) (hL : neT L) (hn : L.length ≤ 1000000000) :
    CallM Tryz.prog 69 [.v (.map (some b))] (fun _ _ => True) [talO b L]
      (fun p : LstT L => .v (.slice p.1.1 p.1.2.2.length p.1.2.1)) (fun p => [talO b L, .row 81 4 p.1.1 p.1.2.2.length p.1.2.1 (p.1.2.2.map encE)]) := by
  refine CallM.of (m := 1) Tryz.func69 rfl tabOk rfl rfl rfl rfl (by simp [SV.wfs, SV.wf]) fun w M π _ => ?_
  (conv => whnf); repeat' (first | ((with_reducible refine isC ?_); first | (refine CallX_m (Values_m b) [] rfl trivial (by decide) (fun _ _ _ _ => trivial) ?_; intro p; conv => whnf) | (refine CallX_collect (b := b) (L := L) (j := 1) (q := 0) rfl rfl rfl hn ?_; intro ys A c hp hc; conv => whnf)) | (with_reducible exact rfl) | ((with_reducible refine xif_kt (by with_reducible assumption) ?_); conv => whnf) | ((with_reducible refine xif_kf (by with_reducible assumption) ?_); conv => whnf) | (((with_reducible refine xif_s ?_ ?_) <;> (intro hb; (try simp (disch := omega) only [hbS] at hb))) <;> (conv => whnf)))
  have hyl : ys.length ≤ 1000000000 := by rw [hp.length_eq]; exact hn
  (conv => whnf); repeat' (first | ((with_reducible refine isC ?_); first | (refine CallX_m (DeleteFuncE_m 97 zeroE list1_x A c ys rfl hyl hc) [2] rfl ⟨⟨rfl, rfl, rfl, rfl, rfl, rfl⟩, trivial⟩ (by decide) (fun _ _ _ _ => trivial) ?_; intro p; conv => whnf)) | (with_reducible exact rfl) | ((with_reducible refine xif_kt (by with_reducible assumption) ?_); conv => whnf) | ((with_reducible refine xif_kf (by with_reducible assumption) ?_); conv => whnf) | (((with_reducible refine xif_s ?_ ?_) <;> (intro hb; (try simp (disch := omega) only [hbS] at hb))) <;> (conv => whnf)))
  have hfl : (ys.filter fun e => !zeroE e).length ≤ 1000000000 := Nat.le_trans (List.length_filter_le _ _) hyl
  have hne : (ys.filter fun e => !zeroE e).Pairwise fun a b => a.cell ≠ b.cell := (((hp.pairwise_iff (fun {a b} h => h.symm)).2 hL).sublist List.filter_sublist)
  have hpf : (ys.filter fun e => !zeroE e).Perm (L.filter fun e => !zeroE e) := hp.filter _
  generalize ys.filter (fun e => !zeroE e) = zs at *
  (conv => whnf); repeat' (first | ((with_reducible refine isC ?_); first | (refine CallX_args [.v (.slice A zs.length c), .fn 99 []] (fun σ => rfl) ?_; refine CallX_sortE rfl (list2_d e0 e0).1 list2_d 2 zs rfl rfl (by omega) ?_; intro vs hv hs; conv => whnf)) | (with_reducible exact rfl) | ((with_reducible refine xif_kt (by with_reducible assumption) ?_); conv => whnf) | ((with_reducible refine xif_kf (by with_reducible assumption) ?_); conv => whnf) | (((with_reducible refine xif_s ?_ ?_) <;> (intro hb; (try simp (disch := omega) only [hbS] at hb))) <;> (conv => whnf)))
  have hvl := hv.length_eq
  refine Fin_m ⟨(A, c, vs), hv.trans hpf, asc_of_sorted hv (by rw [hvl]; exact hs) hne⟩ [0, 2] ⟨?_, by simp [SV.wf, SV.wfs]⟩ ⟨fun _ _ h => h, ⟨rfl, rfl, rfl, hvl.symm, rfl, rfl⟩, trivial⟩ (by decide) rfl
  show _ = SV.v (.slice A vs.length c)
  rw [hvl]
end Go.Proofs.YtodaijlclbngbaaGreat.En
