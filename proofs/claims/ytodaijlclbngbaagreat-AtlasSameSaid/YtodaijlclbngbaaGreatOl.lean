/- Plain laws of evidence.Of: what a scan adds at a cell. -/
/- evidence.Of as a function of its input; law15.place. -/
/- Plain: evidence of a moved pose. -/
import Derived.Test.YtodaijlclbngbaaGreatCb
import Derived.Test.YtodaijlclbngbaaGreatOi
set_option linter.all false
namespace Go.Proofs.YtodaijlclbngbaaGreat.En
open Go.RowKit

/-! ### the swept cells -/
theorem mem_rowK {p : CellT → Bool} {x0 y : Int} {j : Nat} {c : CellT} : c ∈ rowK p x0 y j ↔ p c = true ∧ c.2 = y ∧ x0 ≤ c.1 ∧ c.1 < x0 + j := by
  unfold rowK
  rw [List.mem_filter, List.mem_map]
  constructor
  · rintro ⟨⟨i, hi, rfl⟩, h2⟩
    have := List.mem_range.1 hi
    exact ⟨h2, rfl, by dsimp only; omega, by dsimp only; omega⟩
  · rintro ⟨h1, h2, h3, h4⟩
    exact ⟨⟨(c.1 - x0).toNat, List.mem_range.2 (by omega), Prod.ext (by dsimp only; omega) h2.symm⟩, h1⟩
theorem mem_outK {p : CellT → Bool} {x0 y0 : Int} {w k : Nat} {c : CellT} : c ∈ outK p x0 y0 w k ↔ p c = true ∧ (x0 ≤ c.1 ∧ c.1 < x0 + w) ∧ y0 ≤ c.2 ∧ c.2 < y0 + k := by
  unfold outK
  rw [List.mem_flatMap]
  constructor
  · rintro ⟨i, hi, h⟩
    have := List.mem_range.1 hi
    obtain ⟨h1, h2, h3, h4⟩ := mem_rowK.1 h
    exact ⟨h1, ⟨h3, h4⟩, by omega, by omega⟩
  · rintro ⟨h1, ⟨h2, h3⟩, h4, h5⟩
    exact ⟨(c.2 - y0).toNat, List.mem_range.2 (by omega), mem_rowK.2 ⟨h1, by omega, h2, h3⟩⟩
theorem rowK_nodup (p : CellT → Bool) (x0 y : Int) : ∀ j : Nat, (rowK p x0 y j).Nodup
  | 0 => by simp [rowK]
  | j + 1 => by
    rw [rowK_succ, List.nodup_append]
    refine ⟨rowK_nodup p x0 y j, by split <;> simp, ?_⟩
    intro a ha b hb hab
    subst hab
    have h1 := mem_rowK.1 ha
    split at hb
    · rw [List.mem_singleton] at hb
      subst hb
      dsimp only at h1
      omega
    · cases hb
theorem outK_nodup (p : CellT → Bool) (x0 y0 : Int) (w : Nat) : ∀ k : Nat, (outK p x0 y0 w k).Nodup
  | 0 => by simp [outK]
  | k + 1 => by
    rw [outK_succ, List.nodup_append]
    refine ⟨outK_nodup p x0 y0 w k, rowK_nodup _ _ _ _, ?_⟩
    intro a ha b hb hab
    subst hab
    have h1 := mem_outK.1 ha
    have h2 := mem_rowK.1 hb
    omega
theorem mem_sweep {r : RectT} {v : VecT} {lo hi : Int} {c : CellT} : c ∈ sweepL r v lo hi ↔ hitR r v lo hi c = true ∧ ((swX r v lo hi).1 ≤ c.1 ∧ c.1 ≤ (swX r v lo hi).2) ∧ (swY r v lo hi).1 ≤ c.2 ∧ c.2 ≤ (swY r v lo hi).2 := by
  unfold sweepL
  rw [mem_outK]
  constructor
  · rintro ⟨h1, h2, h3⟩
    refine ⟨h1, ?_, ?_⟩ <;> omega
  · rintro ⟨h1, h2, h3⟩
    refine ⟨h1, ?_, ?_⟩ <;> omega
theorem sweep_nodup (r : RectT) (v : VecT) (lo hi : Int) : (sweepL r v lo hi).Nodup := outK_nodup _ _ _ _ _
theorem met_near {at_ : PoseT} {b : BeamT} (h1 : szB at_.1 262144 = true) (h2 : szB at_.2.1 262144 = true) (h3 : -1 ≤ b.2 ∧ b.2 ≤ 1024) {c : CellT} (hc : c ∈ metL (at_.1, at_.2.1) (beamF at_.2.2 b.1) b) : (-5000 ≤ c.1 ∧ c.1 ≤ 5000) ∧ (-5000 ≤ c.2 ∧ c.2 ≤ 5000) := by
  have g1 := szB_bd h1
  have g2 := szB_bd h2
  have hr : 0 ≤ reachB b ∧ reachB b ≤ 1024 := by
    unfold reachB
    split <;> omega
  obtain ⟨_, hx, hy⟩ := mem_sweep.1 hc
  have hb := sw_bd (r := ptR (at_.1, at_.2.1)) (v := beamF at_.2.2 b.1) (lo := 0) (hi := reachB b) ⟨by dsimp only [ptR]; omega, Int.le_refl _, by dsimp only [ptR]; omega, by dsimp only [ptR]; omega, Int.le_refl _, by dsimp only [ptR]; omega, by simp [ptR], by simp [ptR], beam_vec _ _, Int.le_refl _, hr.1, by omega⟩
  dsimp only [ptR] at hb hx hy
  dsimp only [ptR] at *
  omega

/-! ### the tally as a sum -/
def contE (ends l : List CellT) (c : CellT) : Int × Int := if c ∈ ends then ((l.count c : Int), 0) else (0, (l.count c : Int))
theorem any_in {ends : List CellT} {c : CellT} : ends.any (inB c) = true ↔ c ∈ ends := by
  rw [List.any_eq_true]
  constructor
  · rintro ⟨x, hx, h⟩
    rw [inB, decide_eq_true_eq] at h
    exact h ▸ hx
  · intro h
    exact ⟨c, h, by simp [inB]⟩
theorem step_val {L : List EntT} (h : neT L) (ends : List CellT) (d c : CellT) : neT (stepT ends L d) ∧ valT (stepT ends L d) c = if d = c then (if d ∈ ends then ((valT L c).1 + 1, (valT L c).2) else ((valT L c).1, (valT L c).2 + 1)) else valT L c := by
  unfold stepT
  by_cases hd : d ∈ ends
  · rw [if_pos (any_in.2 hd)]
    refine ⟨addT_ne h _ _ _, ?_⟩
    rw [valT_add h]
    split
    · rename_i hc
      subst hc
      try rw [if_pos hd]
      simp
    · rfl
  · rw [if_neg (fun h => hd (any_in.1 h))]
    refine ⟨addT_ne h _ _ _, ?_⟩
    rw [valT_add h]
    split
    · rename_i hc
      subst hc
      try rw [if_neg hd]
      simp
    · rfl
theorem steps_val (ends : List CellT) (c : CellT) : ∀ (l : List CellT) {L : List EntT}, neT L → neT (l.foldl (stepT ends) L) ∧ valT (l.foldl (stepT ends) L) c = ((valT L c).1 + (contE ends l c).1, (valT L c).2 + (contE ends l c).2)
  | [], L, h => by
    refine ⟨h, ?_⟩
    unfold contE
    split <;> simp
  | d :: l, L, h => by
    obtain ⟨h1, h2⟩ := step_val h ends d c
    obtain ⟨h3, h4⟩ := steps_val ends c l h1
    rw [List.foldl_cons]
    refine ⟨h3, ?_⟩
    rw [h4, h2]
    unfold contE
    rw [List.count_cons]
    by_cases hdc : d = c
    · subst hdc
      by_cases hd : d ∈ ends
      · simp [hd]
        omega
      · simp [hd]
        omega
    · have : (d == c) = false := by simpa using hdc
      simp [hdc]
/-- what one beam adds at a cell -/
def contB (at_ : PoseT) (b : BeamT) (c : CellT) : Int × Int := contE (endsL (at_.1, at_.2.1) (beamF at_.2.2 b.1) b) (metL (at_.1, at_.2.1) (beamF at_.2.2 b.1) b) c
def contS (at_ : PoseT) (s : List BeamT) (c : CellT) : Int × Int := ((s.map fun b => (contB at_ b c).1).sum, (s.map fun b => (contB at_ b c).2).sum)
theorem beams_val (at_ : PoseT) (c : CellT) : ∀ (s : List BeamT) {L : List EntT}, neT L → neT (s.foldl (beamT at_) L) ∧ valT (s.foldl (beamT at_) L) c = ((valT L c).1 + (contS at_ s c).1, (valT L c).2 + (contS at_ s c).2)
  | [], L, h => by
    refine ⟨h, ?_⟩
    simp [contS]
  | b :: s, L, h => by
    obtain ⟨h1, h2⟩ := steps_val (endsL (at_.1, at_.2.1) (beamF at_.2.2 b.1) b) c (metL (at_.1, at_.2.1) (beamF at_.2.2 b.1) b) h
    obtain ⟨h3, h4⟩ := beams_val at_ c s (L := beamT at_ L b) h1
    rw [List.foldl_cons]
    refine ⟨h3, ?_⟩
    rw [h4]
    have h2' : valT (beamT at_ L b) c = ((valT L c).1 + (contB at_ b c).1, (valT L c).2 + (contB at_ b c).2) := h2
    rw [h2']
    simp only [contS, List.map_cons, List.sum_cons]
    refine Prod.ext ?_ ?_ <;> (dsimp only; omega)
theorem of_ne (at_ : PoseT) (s : List BeamT) : neT (ofL at_ s) := (beams_val at_ (0, 0) s (L := []) (by simp [neT])).1
theorem of_val (at_ : PoseT) (s : List BeamT) (c : CellT) : valT (ofL at_ s) c = contS at_ s c := by
  have := (beams_val at_ c s (L := []) (by simp [neT])).2
  unfold ofL
  rw [this, valT_none (L := []) (by simp)]
  simp
theorem of_rep {at_ : PoseT} {s : List BeamT} {ys : List EntT} (hk : ofOk at_ s = true) (h : IsOf at_ s ys) : Rep (contS at_ s) ys := by
  unfold IsOf at h
  rw [if_pos hk] at h
  have e : ys = lstF (ofL at_ s) := h.unique (lstF_list (of_ne at_ s))
  rw [e]
  exact (rep_lst (of_ne at_ s)).congr fun c => of_val at_ s c
theorem ofOk_bd {at_ : PoseT} {s : List BeamT} (h : ofOk at_ s = true) : szB at_.1 262144 = true ∧ szB at_.2.1 262144 = true ∧ scanB s = true := by
  simp only [ofOk, Bool.and_eq_true] at h
  exact ⟨h.1.1.1.1, h.1.1.1.2, h.2⟩
theorem contB_met {at_ : PoseT} {b : BeamT} {c : CellT} (h : contB at_ b c ≠ (0, 0)) : c ∈ metL (at_.1, at_.2.1) (beamF at_.2.2 b.1) b := by
  apply Classical.byContradiction
  intro hn
  apply h
  unfold contB contE
  rw [List.count_eq_zero_of_not_mem hn]
  split <;> rfl
theorem contS_met {at_ : PoseT} {c : CellT} : ∀ {s : List BeamT}, contS at_ s c ≠ (0, 0) → ∃ b ∈ s, contB at_ b c ≠ (0, 0)
  | [], h => (h rfl).elim
  | b :: s, h => by
    by_cases hb : contB at_ b c = (0, 0)
    · have e : contS at_ (b :: s) c = contS at_ s c := by
        simp only [contS, List.map_cons, List.sum_cons, hb, Int.zero_add]
      rw [e] at h
      obtain ⟨x, hx, hc⟩ := contS_met h
      exact ⟨x, List.mem_cons_of_mem _ hx, hc⟩
    · exact ⟨b, by simp, hb⟩
theorem scan_mem {s : List BeamT} (h : scanB s = true) {b : BeamT} (hb : b ∈ s) : 0 ≤ b.1 ∧ b.1 < 256 ∧ -1 ≤ b.2 ∧ b.2 ≤ 1024 := by
  obtain ⟨k, hk, rfl⟩ := List.getElem_of_mem hb
  have := scan_ok h hk
  simp only [List.getD_eq_getElem?_getD, List.getElem?_eq_getElem hk, Option.getD_some] at this
  omega
/-- what Of returns is valid -/
theorem of_vE {at_ : PoseT} {s : List BeamT} {ys : List EntT} (hk : ofOk at_ s = true) (h : IsOf at_ s ys) : vE ys = true ∧ ∀ e ∈ ys, 0 ≤ e.2.2.1 ∧ 0 ≤ e.2.2.2 := by
  have hr := of_rep hk h
  obtain ⟨b1, b2, b3⟩ := ofOk_bd hk
  have hok := of_okT b1 b2 b3 s.length (Nat.le_refl _)
  rw [List.take_length] at hok
  have hs : s.length ≤ 32 := by
    simp only [scanB, Bool.and_eq_true, decide_eq_true_eq] at b3
    exact b3.1
  have hk' : OkT 320000 (ofL at_ s) := hok.mono (by omega)
  have hL : IsList (ofL at_ s) ys := by
    unfold IsOf at h
    rwa [if_pos hk] at h
  have hmem : ∀ e ∈ ys, e ∈ ofL at_ s ∧ zeroE e = false := fun e he => by
    have := hL.1.mem_iff.1 he
    rw [List.mem_filter] at this
    exact ⟨this.1, by simpa using this.2⟩
  refine ⟨asc_vE hr.1 (fun e he => ?_) ?_, fun e he => ?_⟩
  · obtain ⟨hz, hv⟩ := (hr.2 e).1 he
    have hb := hk'.bd e (hmem e he).1
    have hne : contS at_ s e.cell ≠ (0, 0) := by
      rw [hv]
      intro h0
      have e1 := (Prod.ext_iff.1 h0).1
      have e2 := (Prod.ext_iff.1 h0).2
      dsimp only at e1 e2
      unfold zeroE at hz
      rw [e1, e2] at hz
      cases hz
    obtain ⟨b, hbs, hc⟩ := contS_met hne
    have hm := scan_mem b3 hbs
    have hn := met_near b1 b2 ⟨hm.2.2.1, hm.2.2.2⟩ (contB_met hc)
    have n1 : -5000 ≤ e.1 ∧ e.1 ≤ 5000 := hn.1
    have n2 : -5000 ≤ e.2.1 ∧ e.2.1 ≤ 5000 := hn.2
    simp only [goodB, Bool.and_eq_true]
    refine ⟨⟨⟨?_, ?_⟩, ?_⟩, ?_⟩
    · simp only [countB, szB, Bool.and_eq_true, decide_eq_true_eq]
      omega
    · rw [Bool.not_eq_true']
      exact hz
    · simp only [szB, decide_eq_true_eq]
      omega
    · simp only [szB, decide_eq_true_eq]
      omega
  · have h1 := hL.1.length_eq
    have h2 := List.length_filter_le (fun e => !zeroE e) (ofL at_ s)
    have h3 := hk'.len
    omega
  · have hb := hk'.bd e (hmem e he).1
    omega
end Go.Proofs.YtodaijlclbngbaaGreat.En

namespace Go.Proofs.YtodaijlclbngbaaGreat.En
open Go.RowKit
set_option maxRecDepth 100000

theorem CallM.map {P : Program} {f : FuncId} {args : List SV} {pre : World → (Nat → Prop) → Prop} {os0 : List OB} {ι κ : Type} {x : ι → SV} {os1 : ι → List OB} {x' : κ → SV} {os1' : κ → List OB} (g : ι → κ) (hx : ∀ i, x i = x' (g i)) (ho : ∀ i, os1 i = os1' (g i)) (h : CallM P f args pre os0 x os1) : CallM P f args pre os0 x' os1' := by
  refine ⟨h.1, h.2.1, fun σ fp w hM hp => (h.2.2 σ fp w hM hp).mono ?_⟩
  rintro e w' ⟨i, σ', fp', h1, h2, h3⟩
  refine ⟨g i, σ', fp', ?_, ?_, ?_⟩
  · rw [h1, hx]
  · rw [← hx, ← ho]
    exact h2
  · rw [← ho]
    exact h3
def ofE (at_ : PoseT) (s : List BeamT) : List EntT × Int := if ofOk at_ s then (lstF (ofL at_ s), 0) else ([], 1)
theorem ofE_of {at_ : PoseT} {s : List BeamT} {ys : List EntT} (h : IsOf at_ s ys) : ys = (ofE at_ s).1 := by
  unfold ofE
  cases hk : ofOk at_ s with
  | true =>
    unfold IsOf at h
    rw [if_pos hk] at h
    rw [if_pos rfl]
    exact h.unique (lstF_list (of_ne at_ s))
  | false =>
    unfold IsOf at h
    rw [hk, if_neg (by simp)] at h
    rw [if_neg (by simp)]
    exact h
theorem ofE_is (at_ : PoseT) (s : List BeamT) : IsOf at_ s (ofE at_ s).1 := by
  unfold ofE IsOf
  cases hk : ofOk at_ s with
  | true =>
    rw [if_pos rfl, if_pos rfl]
    exact lstF_list (of_ne at_ s)
  | false => rfl
theorem ofE_code (at_ : PoseT) (s : List BeamT) : (ofE at_ s).2 = if ofOk at_ s then 0 else 1 := by
  unfold ofE
  split <;> rfl
theorem ofE_bad {at_ : PoseT} {s : List BeamT} (h : (ofE at_ s).2 ≠ 0) : (ofE at_ s).1 = [] ∧ (ofE at_ s).2 = 1 := by
  unfold ofE at h ⊢
  split
  · rename_i hk
    rw [if_pos hk] at h
    exact (h rfl).elim
  · exact ⟨rfl, rfl⟩
theorem ofE_ok {at_ : PoseT} {s : List BeamT} : (ofE at_ s).2 = 0 ↔ ofOk at_ s = true := by
  unfold ofE
  split
  · rename_i hk
    exact ⟨fun _ => hk, fun _ => rfl⟩
  · rename_i hk
    constructor
    · intro h
      cases h
    · intro h
      exact (hk h).elim
theorem ofE_len (at_ : PoseT) (s : List BeamT) : (ofE at_ s).1.length ≤ 1048576 := by
  cases hk : ofOk at_ s with
  | true => exact vE_length (of_vE hk (ofE_is at_ s)).1
  | false =>
    unfold ofE
    rw [hk]
    simp
theorem ofE_m (at_ : PoseT) (A : Option Addr) (c : Nat) (s : List BeamT) (els : List (List Value)) (he : s.map encB = els) {n : Nat} (hl : s.length = n) (hn : n ≤ maxLen) :
    CallM Tryz.prog 43 [.a [I at_.1, I at_.2.1, I at_.2.2], .v (.slice A n c)] (fun w M => ArgN w M A n 2 els) []
      (fun q : Option Addr × Nat => .t [.v (.slice q.1 (ofE at_ s).1.length q.2), I (ofE at_ s).2]) (fun q => [.row 81 4 q.1 (ofE at_ s).1.length q.2 ((ofE at_ s).1.map encE)]) := by
  subst he
  refine CallM.map (fun q : OfT at_ s => (q.1.1, q.1.2.1)) ?_ ?_ (of_m at_ A c s hl hn)
  · rintro ⟨⟨A1, c1, ys⟩, hy⟩
    dsimp only at hy ⊢
    rw [ofE_code, ofE_of hy]
  · rintro ⟨⟨A1, c1, ys⟩, hy⟩
    dsimp only at hy ⊢
    rw [ofE_of hy]
def placeF (p : PoseT) (m : Int) : PoseT := (clipI p.1 (0 - m) m, clipI p.2.1 (0 - m) m, p.2.2 % 256)
theorem clip_szB (n m : Int) (h : 0 ≤ m) : szB (clipI n (0 - m) m) m = true := by
  unfold clipI szB
  simp only [decide_eq_true_eq]
  omega
theorem place_ok (p : PoseT) (m : Int) (h : 0 ≤ m) : szB (placeF p m).1 m = true ∧ szB (placeF p m).2.1 m = true ∧ 0 ≤ (placeF p m).2.2 ∧ (placeF p m).2.2 < 256 :=
  ⟨clip_szB _ _ h, clip_szB _ _ h, by unfold placeF; dsimp only; omega, by unfold placeF; dsimp only; omega⟩

/-! ### joins -/
theorem contS_append (at_ : PoseT) (s t : List BeamT) (c : CellT) : contS at_ (s ++ t) c = ((contS at_ s c).1 + (contS at_ t c).1, (contS at_ s c).2 + (contS at_ t c).2) := by
  unfold contS
  rw [List.map_append, List.map_append, List.sum_append, List.sum_append]
theorem scan_append {s t : List BeamT} (h : s.length + t.length ≤ 32) : scanB (s ++ t) = (scanB s && scanB t) := by
  unfold scanB
  rw [List.length_append, List.any_append, decide_eq_true h, decide_eq_true (show s.length ≤ 32 by omega), decide_eq_true (show t.length ≤ 32 by omega)]
  simp
theorem ofOk_append {at_ : PoseT} {s t : List BeamT} (h : s.length + t.length ≤ 32) : ofOk at_ (s ++ t) = (ofOk at_ s && ofOk at_ t) := by
  unfold ofOk
  rw [scan_append h]
  generalize (szB at_.1 262144 && szB at_.2.1 262144 && decide (0 ≤ at_.2.2) && decide (at_.2.2 < 256)) = x
  cases x <;> simp
theorem ofE_rep {at_ : PoseT} {s : List BeamT} (h : ofOk at_ s = true) : Rep (contS at_ s) (ofE at_ s).1 ∧ vE (ofE at_ s).1 = true := ⟨of_rep h (ofE_is at_ s), (of_vE h (ofE_is at_ s)).1⟩
theorem ofE_swap {at_ : PoseT} {s t : List BeamT} (h : s.length + t.length ≤ 32) : ofE at_ (t ++ s) = ofE at_ (s ++ t) := by
  have h1 : ofOk at_ (t ++ s) = ofOk at_ (s ++ t) := by rw [ofOk_append h, ofOk_append (by omega), Bool.and_comm]
  cases hk : ofOk at_ (s ++ t) with
  | false =>
    unfold ofE
    rw [h1, hk]
    rfl
  | true =>
    have e1 := (ofE_rep (h1.trans hk)).1
    have e2 := (ofE_rep hk).1
    have e3 := e1.unique e2 fun c => by
      rw [contS_append, contS_append]
      exact Prod.ext (by dsimp only; omega) (by dsimp only; omega)
    refine Prod.ext e3 ?_
    rw [ofE_code, ofE_code, h1]
theorem ofE_join {at_ : PoseT} {s t : List BeamT} (h : s.length + t.length ≤ 32) :
    ((ofE at_ s).2 = 0 ∧ (ofE at_ t).2 = 0 → (ofE at_ (s ++ t)).2 = 0 ∧ combE 1 (ofE at_ s).1 (ofE at_ t).1 = ((ofE at_ (s ++ t)).1, 0)) ∧ (¬ ((ofE at_ s).2 = 0 ∧ (ofE at_ t).2 = 0) → (ofE at_ (s ++ t)).2 = 1) := by
  constructor
  · rintro ⟨h1, h2⟩
    have k1 := ofE_ok.1 h1
    have k2 := ofE_ok.1 h2
    have k3 : ofOk at_ (s ++ t) = true := by rw [ofOk_append h, k1, k2]; rfl
    refine ⟨ofE_ok.2 k3, ?_⟩
    have r1 := ofE_rep k1
    have r2 := ofE_rep k2
    have r3 := ofE_rep k3
    refine comb_of_rep r1.2 r2.2 r3.2 fun c => ?_
    unfold sumV
    rw [r1.1.val, r2.1.val, r3.1.val, contS_append]
    simp
  · intro hn
    have : ofOk at_ (s ++ t) = false := by
      rw [ofOk_append h]
      cases k1 : ofOk at_ s with
      | false => rfl
      | true =>
        cases k2 : ofOk at_ t with
        | false => rfl
        | true => exact (hn ⟨ofE_ok.2 k1, ofE_ok.2 k2⟩).elim
    rw [ofE_code, this]
    rfl
end Go.Proofs.YtodaijlclbngbaaGreat.En

namespace Go.Proofs.YtodaijlclbngbaaGreat.En
open Go.RowKit

def movC (k : CellT) (c : CellT) : CellT := (c.1 + k.1, c.2 + k.2)
def movE (k : CellT) (e : EntT) : EntT := (e.1 + k.1, e.2.1 + k.2, e.2.2.1, e.2.2.2)
def movP (k : CellT) (p : PtT) : PtT := (p.1 + k.1 * 64, p.2 + k.2 * 64)
theorem sub_mov (k : CellT) (p : PtT) (c : CellT) : subR (sqR (movC k c)) (ptR (movP k p)) = subR (sqR c) (ptR p) := by
  unfold subR sqR ptR movC movP
  dsimp only
  refine Prod.ext ?_ (Prod.ext ?_ (Prod.ext ?_ ?_)) <;> (dsimp only; omega)
theorem hit_mov (k : CellT) (p : PtT) (v : VecT) (lo hi : Int) (c : CellT) : hitR (ptR (movP k p)) v lo hi (movC k c) = hitR (ptR p) v lo hi c := by
  unfold hitR
  rw [sub_mov]
theorem span_mov (a b k : Int) : spanF (a + k * 64, b + k * 64) = ((spanF (a, b)).1 + k, (spanF (a, b)).2 + k) := by
  unfold spanF
  refine Prod.ext ?_ ?_ <;> (dsimp only; omega)
theorem reach_mov (a b n d lo hi k : Int) : reachF (a + k * 64) (b + k * 64) n d lo hi = ((reachF a b n d lo hi).1 + k * 64, (reachF a b n d lo hi).2 + k * 64) := by
  unfold reachF
  refine Prod.ext ?_ ?_ <;> (dsimp only; omega)
theorem traced_mov (k : CellT) (p : PtT) (v : VecT) (lo hi : Int) (c : CellT) : movC k c ∈ tracedL (movP k p) v lo hi ↔ c ∈ tracedL p v lo hi := by
  unfold tracedL
  rw [mem_sweep, mem_sweep, hit_mov]
  have hx : swX (ptR (movP k p)) v lo hi = ((swX (ptR p) v lo hi).1 + k.1, (swX (ptR p) v lo hi).2 + k.1) := by
    unfold swX ptR movP
    dsimp only
    rw [reach_mov]
    exact span_mov _ _ _
  have hy : swY (ptR (movP k p)) v lo hi = ((swY (ptR p) v lo hi).1 + k.2, (swY (ptR p) v lo hi).2 + k.2) := by
    unfold swY ptR movP
    dsimp only
    rw [reach_mov]
    exact span_mov _ _ _
  rw [hx, hy]
  unfold movC
  dsimp only
  constructor
  · rintro ⟨h1, h2, h3⟩
    exact ⟨h1, by omega, by omega⟩
  · rintro ⟨h1, h2, h3⟩
    exact ⟨h1, by omega, by omega⟩
theorem traced_nodup (p : PtT) (v : VecT) (lo hi : Int) : (tracedL p v lo hi).Nodup := sweep_nodup _ _ _ _
theorem count_of {l : List CellT} (h : l.Nodup) (c : CellT) : l.count c = if c ∈ l then 1 else 0 := h.count
theorem met_nodup (p : PtT) (v : VecT) (b : BeamT) : (metL p v b).Nodup := traced_nodup _ _ _ _
def movA (k : CellT) (a : PoseT) : PoseT := (a.1 + k.1 * 64, a.2.1 + k.2 * 64, a.2.2)
theorem contB_mov (k : CellT) (at_ : PoseT) (b : BeamT) (c : CellT) : contB (movA k at_) b (movC k c) = contB at_ b c := by
  unfold contB contE
  have h1 : (movC k c ∈ endsL ((movA k at_).1, (movA k at_).2.1) (beamF (movA k at_).2.2 b.1) b) ↔ (c ∈ endsL (at_.1, at_.2.1) (beamF at_.2.2 b.1) b) := by
    unfold endsL
    split
    · simp
    · exact traced_mov k (at_.1, at_.2.1) _ _ _ c
  have h2 : (movC k c ∈ metL ((movA k at_).1, (movA k at_).2.1) (beamF (movA k at_).2.2 b.1) b) ↔ (c ∈ metL (at_.1, at_.2.1) (beamF at_.2.2 b.1) b) := traced_mov k (at_.1, at_.2.1) _ _ _ c
  rw [count_of (met_nodup _ _ _), count_of (met_nodup _ _ _)]
  simp only [h1, h2]
theorem contS_mov (k : CellT) (at_ : PoseT) (s : List BeamT) (c : CellT) : contS (movA k at_) s (movC k c) = contS at_ s c := by
  unfold contS
  simp only [contB_mov]
theorem asc_mov (k : CellT) {l : List EntT} (h : asc l) : asc (l.map (movE k)) := by
  unfold asc at *
  rw [List.pairwise_map]
  refine h.imp fun {a b} hab => ?_
  have hab' := (befB_iff _ _).1 hab
  unfold EntT.cell at hab'
  rw [befB_iff]
  unfold movE EntT.cell
  dsimp only at hab' ⊢
  omega
theorem ofE_mov (k : CellT) (at_ : PoseT) (s : List BeamT) (h1 : ofOk (movA k at_) s = ofOk at_ s) : ofE (movA k at_) s = ((ofE at_ s).1.map (movE k), (ofE at_ s).2) := by
  cases hk : ofOk at_ s with
  | false =>
    unfold ofE
    rw [h1, hk]
    rfl
  | true =>
    have e1 := (ofE_rep (h1.trans hk)).1
    have e2 := (ofE_rep hk).1
    have e3 : Rep (contS (movA k at_) s) ((ofE at_ s).1.map (movE k)) := by
      refine ⟨asc_mov k e2.1, fun e => ?_⟩
      rw [List.mem_map]
      have hc : e.cell = movC k (e.1 - k.1, e.2.1 - k.2) := by
        unfold movC EntT.cell
        exact Prod.ext (by dsimp only; omega) (by dsimp only; omega)
      constructor
      · rintro ⟨x, hx, rfl⟩
        obtain ⟨hz, hv⟩ := (e2.2 x).1 hx
        refine ⟨hz, ?_⟩
        have : (movE k x).cell = movC k x.cell := rfl
        rw [this, contS_mov, hv]
        rfl
      · rintro ⟨hz, hv⟩
        refine ⟨(e.1 - k.1, e.2.1 - k.2, e.2.2.1, e.2.2.2), (e2.2 _).2 ⟨hz, ?_⟩, ?_⟩
        · rw [hc, contS_mov] at hv
          exact hv
        · unfold movE
          exact Prod.ext (by dsimp only; omega) (Prod.ext (by dsimp only; omega) rfl)
    refine Prod.ext (e1.unique e3 fun _ => rfl) ?_
    rw [ofE_code, ofE_code, h1]
theorem ofE_near (at_ : PoseT) (s : List BeamT) : ∀ e ∈ (ofE at_ s).1, (-16384 ≤ e.1 ∧ e.1 ≤ 16384) ∧ (-16384 ≤ e.2.1 ∧ e.2.1 ≤ 16384) := by
  intro e he
  cases hk : ofOk at_ s with
  | false =>
    unfold ofE at he
    rw [hk] at he
    simp at he
  | true =>
    have := vE_good (ofE_rep hk).2 he
    simp only [goodB, szB, Bool.and_eq_true, decide_eq_true_eq] at this
    exact ⟨this.1.2, this.2⟩
end Go.Proofs.YtodaijlclbngbaaGreat.En
