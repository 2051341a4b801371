/- Plain: evidence of a moved pose. -/
import Derived.Test.YtdjimfngnhnhnaaOm
set_option linter.all false
namespace Go.Proofs.Ytdjimfngnhnhnaa.En
open Go.RowKit

def movC (k : CellT) (c : CellT) : CellT := (c.1 + k.1, c.2 + k.2)
def movE (k : CellT) (e : EntT) : EntT := (e.1 + k.1, e.2.1 + k.2, e.2.2.1, e.2.2.2)
def movP (k : CellT) (p : PtT) : PtT := (p.1 + k.1 * 64, p.2 + k.2 * 64)
theorem sub_mov (k : CellT) (p : PtT) (c : CellT) : subR (sqR (movC k c)) (ptR (movP k p)) = subR (sqR c) (ptR p) := by
  unfold subR sqR ptR movC movP
  dsimp only
  refine Prod.ext ?_ (Prod.ext ?_ (Prod.ext ?_ ?_)) <;> (dsimp only; omega)
theorem hit_mov (k : CellT) (p : PtT) (v : VecT) (lo hi : Int) (c : CellT) : hitR (ptR (movP k p)) v lo hi (movC k c) = hitR (ptR p) v lo hi c := by
  unfold hitR
  rw [sub_mov]
theorem span_mov (a b k : Int) : spanF (a + k * 64, b + k * 64) = ((spanF (a, b)).1 + k, (spanF (a, b)).2 + k) := by
  unfold spanF
  refine Prod.ext ?_ ?_ <;> (dsimp only; omega)
theorem reach_mov (a b n d lo hi k : Int) : reachF (a + k * 64) (b + k * 64) n d lo hi = ((reachF a b n d lo hi).1 + k * 64, (reachF a b n d lo hi).2 + k * 64) := by
  unfold reachF
  refine Prod.ext ?_ ?_ <;> (dsimp only; omega)
theorem traced_mov (k : CellT) (p : PtT) (v : VecT) (lo hi : Int) (c : CellT) : movC k c ∈ tracedL (movP k p) v lo hi ↔ c ∈ tracedL p v lo hi := by
  unfold tracedL
  rw [mem_sweep, mem_sweep, hit_mov]
  have hx : swX (ptR (movP k p)) v lo hi = ((swX (ptR p) v lo hi).1 + k.1, (swX (ptR p) v lo hi).2 + k.1) := by
    unfold swX ptR movP
    dsimp only
    rw [reach_mov]
    exact span_mov _ _ _
  have hy : swY (ptR (movP k p)) v lo hi = ((swY (ptR p) v lo hi).1 + k.2, (swY (ptR p) v lo hi).2 + k.2) := by
    unfold swY ptR movP
    dsimp only
    rw [reach_mov]
    exact span_mov _ _ _
  rw [hx, hy]
  unfold movC
  dsimp only
  constructor
  · rintro ⟨h1, h2, h3⟩
    exact ⟨h1, by omega, by omega⟩
  · rintro ⟨h1, h2, h3⟩
    exact ⟨h1, by omega, by omega⟩
theorem traced_nodup (p : PtT) (v : VecT) (lo hi : Int) : (tracedL p v lo hi).Nodup := sweep_nodup _ _ _ _
theorem count_of {l : List CellT} (h : l.Nodup) (c : CellT) : l.count c = if c ∈ l then 1 else 0 := h.count
theorem met_nodup (p : PtT) (v : VecT) (b : BeamT) : (metL p v b).Nodup := traced_nodup _ _ _ _
def movA (k : CellT) (a : PoseT) : PoseT := (a.1 + k.1 * 64, a.2.1 + k.2 * 64, a.2.2)
theorem contB_mov (k : CellT) (at_ : PoseT) (b : BeamT) (c : CellT) : contB (movA k at_) b (movC k c) = contB at_ b c := by
  unfold contB contE
  have h1 : (movC k c ∈ endsL ((movA k at_).1, (movA k at_).2.1) (beamF (movA k at_).2.2 b.1) b) ↔ (c ∈ endsL (at_.1, at_.2.1) (beamF at_.2.2 b.1) b) := by
    unfold endsL
    split
    · simp
    · exact traced_mov k (at_.1, at_.2.1) _ _ _ c
  have h2 : (movC k c ∈ metL ((movA k at_).1, (movA k at_).2.1) (beamF (movA k at_).2.2 b.1) b) ↔ (c ∈ metL (at_.1, at_.2.1) (beamF at_.2.2 b.1) b) := traced_mov k (at_.1, at_.2.1) _ _ _ c
  rw [count_of (met_nodup _ _ _), count_of (met_nodup _ _ _)]
  simp only [h1, h2]
theorem contS_mov (k : CellT) (at_ : PoseT) (s : List BeamT) (c : CellT) : contS (movA k at_) s (movC k c) = contS at_ s c := by
  unfold contS
  simp only [contB_mov]
theorem asc_mov (k : CellT) {l : List EntT} (h : asc l) : asc (l.map (movE k)) := by
  unfold asc at *
  rw [List.pairwise_map]
  refine h.imp fun {a b} hab => ?_
  have hab' := (befB_iff _ _).1 hab
  unfold EntT.cell at hab'
  rw [befB_iff]
  unfold movE EntT.cell
  dsimp only at hab' ⊢
  omega
theorem ofE_mov (k : CellT) (at_ : PoseT) (s : List BeamT) (h1 : ofOk (movA k at_) s = ofOk at_ s) : ofE (movA k at_) s = ((ofE at_ s).1.map (movE k), (ofE at_ s).2) := by
  cases hk : ofOk at_ s with
  | false =>
    unfold ofE
    rw [h1, hk]
    rfl
  | true =>
    have e1 := (ofE_rep (h1.trans hk)).1
    have e2 := (ofE_rep hk).1
    have e3 : Rep (contS (movA k at_) s) ((ofE at_ s).1.map (movE k)) := by
      refine ⟨asc_mov k e2.1, fun e => ?_⟩
      rw [List.mem_map]
      have hc : e.cell = movC k (e.1 - k.1, e.2.1 - k.2) := by
        unfold movC EntT.cell
        exact Prod.ext (by dsimp only; omega) (by dsimp only; omega)
      constructor
      · rintro ⟨x, hx, rfl⟩
        obtain ⟨hz, hv⟩ := (e2.2 x).1 hx
        refine ⟨hz, ?_⟩
        have : (movE k x).cell = movC k x.cell := rfl
        rw [this, contS_mov, hv]
        rfl
      · rintro ⟨hz, hv⟩
        refine ⟨(e.1 - k.1, e.2.1 - k.2, e.2.2.1, e.2.2.2), (e2.2 _).2 ⟨hz, ?_⟩, ?_⟩
        · rw [hc, contS_mov] at hv
          exact hv
        · unfold movE
          exact Prod.ext (by dsimp only; omega) (Prod.ext (by dsimp only; omega) rfl)
    refine Prod.ext (e1.unique e3 fun _ => rfl) ?_
    rw [ofE_code, ofE_code, h1]
theorem ofE_near (at_ : PoseT) (s : List BeamT) : ∀ e ∈ (ofE at_ s).1, (-16384 ≤ e.1 ∧ e.1 ≤ 16384) ∧ (-16384 ≤ e.2.1 ∧ e.2.1 ≤ 16384) := by
  intro e he
  cases hk : ofOk at_ s with
  | false =>
    unfold ofE at he
    rw [hk] at he
    simp at he
  | true =>
    have := vE_good (ofE_rep hk).2 he
    simp only [goodB, szB, Bool.and_eq_true, decide_eq_true_eq] at this
    exact ⟨this.1.2, this.2⟩
end Go.Proofs.Ytdjimfngnhnhnaa.En
