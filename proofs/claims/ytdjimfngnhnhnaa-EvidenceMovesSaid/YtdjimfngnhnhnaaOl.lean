/- Plain laws of evidence.Of: what a scan adds at a cell. -/
import Derived.Test.YtdjimfngnhnhnaaCc
import Derived.Test.YtdjimfngnhnhnaaOi
set_option linter.all false
namespace Go.Proofs.Ytdjimfngnhnhnaa.En
open Go.RowKit

/-! ### the swept cells -/
theorem mem_rowK {p : CellT → Bool} {x0 y : Int} {j : Nat} {c : CellT} : c ∈ rowK p x0 y j ↔ p c = true ∧ c.2 = y ∧ x0 ≤ c.1 ∧ c.1 < x0 + j := by
  unfold rowK
  rw [List.mem_filter, List.mem_map]
  constructor
  · rintro ⟨⟨i, hi, rfl⟩, h2⟩
    have := List.mem_range.1 hi
    exact ⟨h2, rfl, by dsimp only; omega, by dsimp only; omega⟩
  · rintro ⟨h1, h2, h3, h4⟩
    exact ⟨⟨(c.1 - x0).toNat, List.mem_range.2 (by omega), Prod.ext (by dsimp only; omega) h2.symm⟩, h1⟩
theorem mem_outK {p : CellT → Bool} {x0 y0 : Int} {w k : Nat} {c : CellT} : c ∈ outK p x0 y0 w k ↔ p c = true ∧ (x0 ≤ c.1 ∧ c.1 < x0 + w) ∧ y0 ≤ c.2 ∧ c.2 < y0 + k := by
  unfold outK
  rw [List.mem_flatMap]
  constructor
  · rintro ⟨i, hi, h⟩
    have := List.mem_range.1 hi
    obtain ⟨h1, h2, h3, h4⟩ := mem_rowK.1 h
    exact ⟨h1, ⟨h3, h4⟩, by omega, by omega⟩
  · rintro ⟨h1, ⟨h2, h3⟩, h4, h5⟩
    exact ⟨(c.2 - y0).toNat, List.mem_range.2 (by omega), mem_rowK.2 ⟨h1, by omega, h2, h3⟩⟩
theorem rowK_nodup (p : CellT → Bool) (x0 y : Int) : ∀ j : Nat, (rowK p x0 y j).Nodup
  | 0 => by simp [rowK]
  | j + 1 => by
    rw [rowK_succ, List.nodup_append]
    refine ⟨rowK_nodup p x0 y j, by split <;> simp, ?_⟩
    intro a ha b hb hab
    subst hab
    have h1 := mem_rowK.1 ha
    split at hb
    · rw [List.mem_singleton] at hb
      subst hb
      dsimp only at h1
      omega
    · cases hb
theorem outK_nodup (p : CellT → Bool) (x0 y0 : Int) (w : Nat) : ∀ k : Nat, (outK p x0 y0 w k).Nodup
  | 0 => by simp [outK]
  | k + 1 => by
    rw [outK_succ, List.nodup_append]
    refine ⟨outK_nodup p x0 y0 w k, rowK_nodup _ _ _ _, ?_⟩
    intro a ha b hb hab
    subst hab
    have h1 := mem_outK.1 ha
    have h2 := mem_rowK.1 hb
    omega
theorem mem_sweep {r : RectT} {v : VecT} {lo hi : Int} {c : CellT} : c ∈ sweepL r v lo hi ↔ hitR r v lo hi c = true ∧ ((swX r v lo hi).1 ≤ c.1 ∧ c.1 ≤ (swX r v lo hi).2) ∧ (swY r v lo hi).1 ≤ c.2 ∧ c.2 ≤ (swY r v lo hi).2 := by
  unfold sweepL
  rw [mem_outK]
  constructor
  · rintro ⟨h1, h2, h3⟩
    refine ⟨h1, ?_, ?_⟩ <;> omega
  · rintro ⟨h1, h2, h3⟩
    refine ⟨h1, ?_, ?_⟩ <;> omega
theorem sweep_nodup (r : RectT) (v : VecT) (lo hi : Int) : (sweepL r v lo hi).Nodup := outK_nodup _ _ _ _ _
theorem met_near {at_ : PoseT} {b : BeamT} (h1 : szB at_.1 262144 = true) (h2 : szB at_.2.1 262144 = true) (h3 : -1 ≤ b.2 ∧ b.2 ≤ 1024) {c : CellT} (hc : c ∈ metL (at_.1, at_.2.1) (beamF at_.2.2 b.1) b) : (-5000 ≤ c.1 ∧ c.1 ≤ 5000) ∧ (-5000 ≤ c.2 ∧ c.2 ≤ 5000) := by
  have g1 := szB_bd h1
  have g2 := szB_bd h2
  have hr : 0 ≤ reachB b ∧ reachB b ≤ 1024 := by
    unfold reachB
    split <;> omega
  obtain ⟨_, hx, hy⟩ := mem_sweep.1 hc
  have hb := sw_bd (r := ptR (at_.1, at_.2.1)) (v := beamF at_.2.2 b.1) (lo := 0) (hi := reachB b) ⟨by dsimp only [ptR]; omega, Int.le_refl _, by dsimp only [ptR]; omega, by dsimp only [ptR]; omega, Int.le_refl _, by dsimp only [ptR]; omega, by simp [ptR], by simp [ptR], beam_vec _ _, Int.le_refl _, hr.1, by omega⟩
  dsimp only [ptR] at hb hx hy
  dsimp only [ptR] at *
  omega

/-! ### the tally as a sum -/
def contE (ends l : List CellT) (c : CellT) : Int × Int := if c ∈ ends then ((l.count c : Int), 0) else (0, (l.count c : Int))
theorem any_in {ends : List CellT} {c : CellT} : ends.any (inB c) = true ↔ c ∈ ends := by
  rw [List.any_eq_true]
  constructor
  · rintro ⟨x, hx, h⟩
    rw [inB, decide_eq_true_eq] at h
    exact h ▸ hx
  · intro h
    exact ⟨c, h, by simp [inB]⟩
theorem step_val {L : List EntT} (h : neT L) (ends : List CellT) (d c : CellT) : neT (stepT ends L d) ∧ valT (stepT ends L d) c = if d = c then (if d ∈ ends then ((valT L c).1 + 1, (valT L c).2) else ((valT L c).1, (valT L c).2 + 1)) else valT L c := by
  unfold stepT
  by_cases hd : d ∈ ends
  · rw [if_pos (any_in.2 hd)]
    refine ⟨addT_ne h _ _ _, ?_⟩
    rw [valT_add h]
    split
    · rename_i hc
      subst hc
      try rw [if_pos hd]
      simp
    · rfl
  · rw [if_neg (fun h => hd (any_in.1 h))]
    refine ⟨addT_ne h _ _ _, ?_⟩
    rw [valT_add h]
    split
    · rename_i hc
      subst hc
      try rw [if_neg hd]
      simp
    · rfl
theorem steps_val (ends : List CellT) (c : CellT) : ∀ (l : List CellT) {L : List EntT}, neT L → neT (l.foldl (stepT ends) L) ∧ valT (l.foldl (stepT ends) L) c = ((valT L c).1 + (contE ends l c).1, (valT L c).2 + (contE ends l c).2)
  | [], L, h => by
    refine ⟨h, ?_⟩
    unfold contE
    split <;> simp
  | d :: l, L, h => by
    obtain ⟨h1, h2⟩ := step_val h ends d c
    obtain ⟨h3, h4⟩ := steps_val ends c l h1
    rw [List.foldl_cons]
    refine ⟨h3, ?_⟩
    rw [h4, h2]
    unfold contE
    rw [List.count_cons]
    by_cases hdc : d = c
    · subst hdc
      by_cases hd : d ∈ ends
      · simp [hd]
        omega
      · simp [hd]
        omega
    · have : (d == c) = false := by simpa using hdc
      simp [hdc]
/-- what one beam adds at a cell -/
def contB (at_ : PoseT) (b : BeamT) (c : CellT) : Int × Int := contE (endsL (at_.1, at_.2.1) (beamF at_.2.2 b.1) b) (metL (at_.1, at_.2.1) (beamF at_.2.2 b.1) b) c
def contS (at_ : PoseT) (s : List BeamT) (c : CellT) : Int × Int := ((s.map fun b => (contB at_ b c).1).sum, (s.map fun b => (contB at_ b c).2).sum)
theorem beams_val (at_ : PoseT) (c : CellT) : ∀ (s : List BeamT) {L : List EntT}, neT L → neT (s.foldl (beamT at_) L) ∧ valT (s.foldl (beamT at_) L) c = ((valT L c).1 + (contS at_ s c).1, (valT L c).2 + (contS at_ s c).2)
  | [], L, h => by
    refine ⟨h, ?_⟩
    simp [contS]
  | b :: s, L, h => by
    obtain ⟨h1, h2⟩ := steps_val (endsL (at_.1, at_.2.1) (beamF at_.2.2 b.1) b) c (metL (at_.1, at_.2.1) (beamF at_.2.2 b.1) b) h
    obtain ⟨h3, h4⟩ := beams_val at_ c s (L := beamT at_ L b) h1
    rw [List.foldl_cons]
    refine ⟨h3, ?_⟩
    rw [h4]
    have h2' : valT (beamT at_ L b) c = ((valT L c).1 + (contB at_ b c).1, (valT L c).2 + (contB at_ b c).2) := h2
    rw [h2']
    simp only [contS, List.map_cons, List.sum_cons]
    refine Prod.ext ?_ ?_ <;> (dsimp only; omega)
theorem of_ne (at_ : PoseT) (s : List BeamT) : neT (ofL at_ s) := (beams_val at_ (0, 0) s (L := []) (by simp [neT])).1
theorem of_val (at_ : PoseT) (s : List BeamT) (c : CellT) : valT (ofL at_ s) c = contS at_ s c := by
  have := (beams_val at_ c s (L := []) (by simp [neT])).2
  unfold ofL
  rw [this, valT_none (L := []) (by simp)]
  simp
theorem of_rep {at_ : PoseT} {s : List BeamT} {ys : List EntT} (hk : ofOk at_ s = true) (h : IsOf at_ s ys) : Rep (contS at_ s) ys := by
  unfold IsOf at h
  rw [if_pos hk] at h
  have e : ys = lstF (ofL at_ s) := h.unique (lstF_list (of_ne at_ s))
  rw [e]
  exact (rep_lst (of_ne at_ s)).congr fun c => of_val at_ s c
theorem ofOk_bd {at_ : PoseT} {s : List BeamT} (h : ofOk at_ s = true) : szB at_.1 262144 = true ∧ szB at_.2.1 262144 = true ∧ scanB s = true := by
  simp only [ofOk, Bool.and_eq_true] at h
  exact ⟨h.1.1.1.1, h.1.1.1.2, h.2⟩
theorem contB_met {at_ : PoseT} {b : BeamT} {c : CellT} (h : contB at_ b c ≠ (0, 0)) : c ∈ metL (at_.1, at_.2.1) (beamF at_.2.2 b.1) b := by
  apply Classical.byContradiction
  intro hn
  apply h
  unfold contB contE
  rw [List.count_eq_zero_of_not_mem hn]
  split <;> rfl
theorem contS_met {at_ : PoseT} {c : CellT} : ∀ {s : List BeamT}, contS at_ s c ≠ (0, 0) → ∃ b ∈ s, contB at_ b c ≠ (0, 0)
  | [], h => (h rfl).elim
  | b :: s, h => by
    by_cases hb : contB at_ b c = (0, 0)
    · have e : contS at_ (b :: s) c = contS at_ s c := by
        simp only [contS, List.map_cons, List.sum_cons, hb, Int.zero_add]
      rw [e] at h
      obtain ⟨x, hx, hc⟩ := contS_met h
      exact ⟨x, List.mem_cons_of_mem _ hx, hc⟩
    · exact ⟨b, by simp, hb⟩
theorem scan_mem {s : List BeamT} (h : scanB s = true) {b : BeamT} (hb : b ∈ s) : 0 ≤ b.1 ∧ b.1 < 256 ∧ -1 ≤ b.2 ∧ b.2 ≤ 1024 := by
  obtain ⟨k, hk, rfl⟩ := List.getElem_of_mem hb
  have := scan_ok h hk
  simp only [List.getD_eq_getElem?_getD, List.getElem?_eq_getElem hk, Option.getD_some] at this
  omega
/-- what Of returns is valid -/
theorem of_vE {at_ : PoseT} {s : List BeamT} {ys : List EntT} (hk : ofOk at_ s = true) (h : IsOf at_ s ys) : vE ys = true ∧ ∀ e ∈ ys, 0 ≤ e.2.2.1 ∧ 0 ≤ e.2.2.2 := by
  have hr := of_rep hk h
  obtain ⟨b1, b2, b3⟩ := ofOk_bd hk
  have hok := of_okT b1 b2 b3 s.length (Nat.le_refl _)
  rw [List.take_length] at hok
  have hs : s.length ≤ 32 := by
    simp only [scanB, Bool.and_eq_true, decide_eq_true_eq] at b3
    exact b3.1
  have hk' : OkT 320000 (ofL at_ s) := hok.mono (by omega)
  have hL : IsList (ofL at_ s) ys := by
    unfold IsOf at h
    rwa [if_pos hk] at h
  have hmem : ∀ e ∈ ys, e ∈ ofL at_ s ∧ zeroE e = false := fun e he => by
    have := hL.1.mem_iff.1 he
    rw [List.mem_filter] at this
    exact ⟨this.1, by simpa using this.2⟩
  refine ⟨asc_vE hr.1 (fun e he => ?_) ?_, fun e he => ?_⟩
  · obtain ⟨hz, hv⟩ := (hr.2 e).1 he
    have hb := hk'.bd e (hmem e he).1
    have hne : contS at_ s e.cell ≠ (0, 0) := by
      rw [hv]
      intro h0
      have e1 := (Prod.ext_iff.1 h0).1
      have e2 := (Prod.ext_iff.1 h0).2
      dsimp only at e1 e2
      unfold zeroE at hz
      rw [e1, e2] at hz
      cases hz
    obtain ⟨b, hbs, hc⟩ := contS_met hne
    have hm := scan_mem b3 hbs
    have hn := met_near b1 b2 ⟨hm.2.2.1, hm.2.2.2⟩ (contB_met hc)
    have n1 : -5000 ≤ e.1 ∧ e.1 ≤ 5000 := hn.1
    have n2 : -5000 ≤ e.2.1 ∧ e.2.1 ≤ 5000 := hn.2
    simp only [goodB, Bool.and_eq_true]
    refine ⟨⟨⟨?_, ?_⟩, ?_⟩, ?_⟩
    · simp only [countB, szB, Bool.and_eq_true, decide_eq_true_eq]
      omega
    · rw [Bool.not_eq_true']
      exact hz
    · simp only [szB, decide_eq_true_eq]
      omega
    · simp only [szB, decide_eq_true_eq]
      omega
  · have h1 := hL.1.length_eq
    have h2 := List.length_filter_le (fun e => !zeroE e) (ofL at_ s)
    have h3 := hk'.len
    omega
  · have hb := hk'.bd e (hmem e he).1
    omega
end Go.Proofs.Ytdjimfngnhnhnaa.En
