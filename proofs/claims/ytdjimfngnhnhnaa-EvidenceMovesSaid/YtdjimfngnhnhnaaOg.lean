/- evidence.Of by the executor. -/
import Derived.Test.YtdjimfngnhnhnaaOe
import Derived.Test.YtdjimfngnhnhnaaHg
set_option linter.all false
namespace Go.Proofs.Ytdjimfngnhnhnaa.En
open Go.RowKit
set_option maxRecDepth 100000



abbrev PoseT := Int × Int × Int
def stepT (ends : List CellT) (L : List EntT) (c : CellT) : List EntT := if ends.any (inB c) then addT L c 1 0 else addT L c 0 1
def reachB (b : BeamT) : Int := if b.2 < 0 then 1024 else b.2
def endsL (p : PtT) (v : VecT) (b : BeamT) : List CellT := if b.2 < 0 then [] else tracedL p v b.2 b.2
def metL (p : PtT) (v : VecT) (b : BeamT) : List CellT := tracedL p v 0 (reachB b)
def beamT (at_ : PoseT) (L : List EntT) (b : BeamT) : List EntT := (metL (at_.1, at_.2.1) (beamF at_.2.2 b.1) b).foldl (stepT (endsL (at_.1, at_.2.1) (beamF at_.2.2 b.1) b)) L
def ofL (at_ : PoseT) (s : List BeamT) : List EntT := s.foldl (beamT at_) []
def ofOk (at_ : PoseT) (s : List BeamT) : Bool := szB at_.1 262144 && szB at_.2.1 262144 && decide (0 ≤ at_.2.2) && decide (at_.2.2 < 256) && scanB s
def IsOf (at_ : PoseT) (s : List BeamT) (ys : List EntT) : Prop := if ofOk at_ s then IsList (ofL at_ s) ys else ys = []
abbrev OfT (at_ : PoseT) (s : List BeamT) := {q : Option Addr × Nat × List EntT // IsOf at_ s q.2.2}

/-- what is kept of a tally: cells apart, counters bounded, not too long -/
structure OkT (K : Nat) (L : List EntT) : Prop where
  ne : neT L
  bd : bdT K L
  len : L.length ≤ K
theorem OkT.nil : OkT 0 [] := ⟨by simp [neT], by simp [bdT], by simp⟩
theorem OkT.mono {K K' : Nat} {L : List EntT} (h : OkT K L) (hk : K ≤ K') : OkT K' L :=
  ⟨h.ne, fun e he => by have := h.bd e he; omega, by have := h.len; omega⟩
theorem OkT.add {K : Nat} {L : List EntT} (h : OkT K L) (c : CellT) (a p : Int) (ha : 0 ≤ a ∧ a ≤ 1) (hp : 0 ≤ p ∧ p ≤ 1) : OkT (K + 1) (addT L c a p) :=
  ⟨addT_ne h.ne c a p, by have := bd_add (by omega) h.bd c a p ha hp; simpa using this, Nat.le_trans (setT_len _ _) (by have := h.len; omega)⟩
theorem OkT.step {K : Nat} {L : List EntT} (h : OkT K L) (ends : List CellT) (c : CellT) : OkT (K + 1) (stepT ends L c) := by
  unfold stepT
  split
  · exact h.add c 1 0 (by decide) (by decide)
  · exact h.add c 0 1 (by decide) (by decide)
theorem OkT.steps (ends : List CellT) : ∀ (l : List CellT) {K : Nat} {L : List EntT}, OkT K L → OkT (K + l.length) (l.foldl (stepT ends) L)
  | [], K, L, h => h
  | c :: l, K, L, h => by
    have := OkT.steps ends l (h.step ends c)
    rw [List.foldl_cons, List.length_cons, show K + (l.length + 1) = K + 1 + l.length by omega]
    exact this
theorem OkT.room {K : Nat} {L : List EntT} (h : OkT K L) (hK : K ≤ 1000000) (c : CellT) (a p : Int) (ha : 0 ≤ a ∧ a ≤ 1) (hp : 0 ≤ p ∧ p ≤ 1) :
    (-4611686018427387904 ≤ (getT L c).2.2.1 + a ∧ (getT L c).2.2.1 + a ≤ 4611686018427387904) ∧ (-4611686018427387904 ≤ (getT L c).2.2.2 + p ∧ (getT L c).2.2.2 + p ≤ 4611686018427387904) := by
  have := bd_get (K := K) (by omega) h.bd c
  omega
theorem fold_take {α β : Type} (f : β → α → β) (b : β) {l : List α} {j : Nat} {d : α} (hj : j < l.length) : (l.take (j + 1)).foldl f b = f ((l.take j).foldl f b) (l.getD j d) := by
  rw [List.take_succ_eq_append_getElem hj, List.foldl_append]
  simp [hj]
theorem traced_len {p : PtT} {v : VecT} {lo hi : Int} (h1 : -1048576 ≤ p.1 ∧ p.1 ≤ 1048576 ∧ -1048576 ≤ p.2 ∧ p.2 ≤ 1048576) (hv : vecB v = true) (h2 : 0 ≤ lo ∧ lo ≤ hi ∧ hi ≤ 2048) : (tracedL p v lo hi).length ≤ 10000 := by
  obtain ⟨p1, p2, p3, p4⟩ := h1
  obtain ⟨l1, l2, l3⟩ := h2
  have hb := sw_bd (r := ptR p) (v := v) (lo := lo) (hi := hi) ⟨p1, Int.le_refl _, p2, p3, Int.le_refl _, p4, by simp [ptR], by simp [ptR], hv, l1, l2, l3⟩
  unfold tracedL sweepL
  have := outK_len (hitR (ptR p) v lo hi) (swX (ptR p) v lo hi).1 (swY (ptR p) v lo hi).1 ((swX (ptR p) v lo hi).2 - (swX (ptR p) v lo hi).1 + 1).toNat (by omega) ((swY (ptR p) v lo hi).2 - (swY (ptR p) v lo hi).1 + 1).toNat
  omega
theorem scan_ok {s : List BeamT} (h : scanB s = true) {k : Nat} (hk : k < s.length) : s.length ≤ 32 ∧ 0 ≤ (s.getD k b0).1 ∧ (s.getD k b0).1 < 256 ∧ -1 ≤ (s.getD k b0).2 ∧ (s.getD k b0).2 ≤ 1024 := by
  simp only [scanB, Bool.and_eq_true, decide_eq_true_eq, Bool.not_eq_true', List.any_eq_false] at h
  have h2 := h.2 (s.getD k b0) (by simp [hk])
  simp only [wrongB, Bool.or_eq_true, decide_eq_true_eq] at h2
  omega
theorem met_len {at_ : PoseT} {b : BeamT} (h1 : szB at_.1 262144 = true) (h2 : szB at_.2.1 262144 = true) (h3 : -1 ≤ b.2 ∧ b.2 ≤ 1024) : (metL (at_.1, at_.2.1) (beamF at_.2.2 b.1) b).length ≤ 10000 := by
  have g1 := szB_bd h1
  have g2 := szB_bd h2
  refine traced_len (by dsimp only; omega) (beam_vec _ _) ?_
  unfold reachB
  split <;> omega
theorem of_okT {at_ : PoseT} {s : List BeamT} (h1 : szB at_.1 262144 = true) (h2 : szB at_.2.1 262144 = true) (hs : scanB s = true) : ∀ k, k ≤ s.length → OkT (k * 10000) ((s.take k).foldl (beamT at_) [])
  | 0, _ => by simpa using OkT.nil
  | k + 1, hk => by
    have ih := of_okT h1 h2 hs k (by omega)
    rw [fold_take (d := b0) _ _ (by omega)]
    obtain ⟨_, _, _, q1, q2⟩ := scan_ok hs (k := k) (by omega)
    have hl := met_len (b := s.getD k b0) h1 h2 ⟨q1, q2⟩
    exact (ih.steps _ _).mono (by omega)
end Go.Proofs.Ytdjimfngnhnhnaa.En
