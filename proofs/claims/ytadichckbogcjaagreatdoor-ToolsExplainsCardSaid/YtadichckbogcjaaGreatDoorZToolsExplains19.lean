import Derived.Test.YtadichckbogcjaaGreatDoorZToolsExplains18
import Derived.Test.YtadichckbogcjaaGreatDoorZToolsExplains01
import Derived.Test.YtadichckbogcjaaGreatDoorZToolsExplains08
import Derived.Test.YtadichckbogcjaaGreatDoorZToolsExplains10
set_option linter.all false
section
namespace Go.Proofs.YtadichckbogcjaaGreatDoor.En
open Go.RowKit
theorem mem_rowK {p : CellT → Bool} {x0 y : Int} {j : Nat} {c : CellT} : c ∈ rowK p x0 y j ↔ p c = true ∧ c.2 = y ∧ x0 ≤ c.1 ∧ c.1 < x0 + j := by
  unfold rowK
  rw [List.mem_filter, List.mem_map]
  constructor
  · rintro ⟨⟨i, hi, rfl⟩, h2⟩
    have := List.mem_range.1 hi
    exact ⟨h2, rfl, by dsimp only; omega, by dsimp only; omega⟩
  · rintro ⟨h1, h2, h3, h4⟩
    exact ⟨⟨(c.1 - x0).toNat, List.mem_range.2 (by omega), Prod.ext (by dsimp only; omega) h2.symm⟩, h1⟩
theorem mem_outK {p : CellT → Bool} {x0 y0 : Int} {w k : Nat} {c : CellT} : c ∈ outK p x0 y0 w k ↔ p c = true ∧ (x0 ≤ c.1 ∧ c.1 < x0 + w) ∧ y0 ≤ c.2 ∧ c.2 < y0 + k := by
  unfold outK
  rw [List.mem_flatMap]
  constructor
  · rintro ⟨i, hi, h⟩
    have := List.mem_range.1 hi
    obtain ⟨h1, h2, h3, h4⟩ := mem_rowK.1 h
    exact ⟨h1, ⟨h3, h4⟩, by omega, by omega⟩
  · rintro ⟨h1, ⟨h2, h3⟩, h4, h5⟩
    exact ⟨(c.2 - y0).toNat, List.mem_range.2 (by omega), mem_rowK.2 ⟨h1, by omega, h2, h3⟩⟩
theorem rowK_nodup (p : CellT → Bool) (x0 y : Int) : ∀ j : Nat, (rowK p x0 y j).Nodup
  | 0 => by simp [rowK]
  | j + 1 => by
    rw [rowK_succ, List.nodup_append]
    refine ⟨rowK_nodup p x0 y j, by split <;> simp, ?_⟩
    intro a ha b hb hab
    subst hab
    have h1 := mem_rowK.1 ha
    split at hb
    · rw [List.mem_singleton] at hb
      subst hb
      dsimp only at h1
      omega
    · cases hb
theorem outK_nodup (p : CellT → Bool) (x0 y0 : Int) (w : Nat) : ∀ k : Nat, (outK p x0 y0 w k).Nodup
  | 0 => by simp [outK]
  | k + 1 => by
    rw [outK_succ, List.nodup_append]
    refine ⟨outK_nodup p x0 y0 w k, rowK_nodup _ _ _ _, ?_⟩
    intro a ha b hb hab
    subst hab
    have h1 := mem_outK.1 ha
    have h2 := mem_rowK.1 hb
    omega
theorem mem_sweep {r : RectT} {v : VecT} {lo hi : Int} {c : CellT} : c ∈ sweepL r v lo hi ↔ hitR r v lo hi c = true ∧ ((swX r v lo hi).1 ≤ c.1 ∧ c.1 ≤ (swX r v lo hi).2) ∧ (swY r v lo hi).1 ≤ c.2 ∧ c.2 ≤ (swY r v lo hi).2 := by
  unfold sweepL
  rw [mem_outK]
  constructor
  · rintro ⟨h1, h2, h3⟩
    refine ⟨h1, ?_, ?_⟩ <;> omega
  · rintro ⟨h1, h2, h3⟩
    refine ⟨h1, ?_, ?_⟩ <;> omega
theorem sweep_nodup (r : RectT) (v : VecT) (lo hi : Int) : (sweepL r v lo hi).Nodup := outK_nodup _ _ _ _ _
theorem met_near {at_ : PoseT} {b : BeamT} (h1 : szB at_.1 262144 = true) (h2 : szB at_.2.1 262144 = true) (h3 : -1 ≤ b.2 ∧ b.2 ≤ 1024) {c : CellT} (hc : c ∈ metL (at_.1, at_.2.1) (beamF at_.2.2 b.1) b) : (-5000 ≤ c.1 ∧ c.1 ≤ 5000) ∧ (-5000 ≤ c.2 ∧ c.2 ≤ 5000) := by
  have g1 := szB_bd h1
  have g2 := szB_bd h2
  have hr : 0 ≤ reachB b ∧ reachB b ≤ 1024 := by
    unfold reachB
    split <;> omega
  obtain ⟨_, hx, hy⟩ := mem_sweep.1 hc
  have hb := sw_bd (r := ptR (at_.1, at_.2.1)) (v := beamF at_.2.2 b.1) (lo := 0) (hi := reachB b) ⟨by dsimp only [ptR]; omega, Int.le_refl _, by dsimp only [ptR]; omega, by dsimp only [ptR]; omega, Int.le_refl _, by dsimp only [ptR]; omega, by simp [ptR], by simp [ptR], beam_vec _ _, Int.le_refl _, hr.1, by omega⟩
  dsimp only [ptR] at hb hx hy
  dsimp only [ptR] at *
  omega
def contE (ends l : List CellT) (c : CellT) : Int × Int := if c ∈ ends then ((l.count c : Int), 0) else (0, (l.count c : Int))
theorem any_in {ends : List CellT} {c : CellT} : ends.any (inB c) = true ↔ c ∈ ends := by
  rw [List.any_eq_true]
  constructor
  · rintro ⟨x, hx, h⟩
    rw [inB, decide_eq_true_eq] at h
    exact h ▸ hx
  · intro h
    exact ⟨c, h, by simp [inB]⟩
theorem step_val {L : List EntT} (h : neT L) (ends : List CellT) (d c : CellT) : neT (stepT ends L d) ∧ valT (stepT ends L d) c = if d = c then (if d ∈ ends then ((valT L c).1 + 1, (valT L c).2) else ((valT L c).1, (valT L c).2 + 1)) else valT L c := by
  unfold stepT
  by_cases hd : d ∈ ends
  · rw [if_pos (any_in.2 hd)]
    refine ⟨addT_ne h _ _ _, ?_⟩
    rw [valT_add h]
    split
    · rename_i hc
      subst hc
      try rw [if_pos hd]
      simp
    · rfl
  · rw [if_neg (fun h => hd (any_in.1 h))]
    refine ⟨addT_ne h _ _ _, ?_⟩
    rw [valT_add h]
    split
    · rename_i hc
      subst hc
      try rw [if_neg hd]
      simp
    · rfl
theorem steps_val (ends : List CellT) (c : CellT) : ∀ (l : List CellT) {L : List EntT}, neT L → neT (l.foldl (stepT ends) L) ∧ valT (l.foldl (stepT ends) L) c = ((valT L c).1 + (contE ends l c).1, (valT L c).2 + (contE ends l c).2)
  | [], L, h => by
    refine ⟨h, ?_⟩
    unfold contE
    split <;> simp
  | d :: l, L, h => by
    obtain ⟨h1, h2⟩ := step_val h ends d c
    obtain ⟨h3, h4⟩ := steps_val ends c l h1
    rw [List.foldl_cons]
    refine ⟨h3, ?_⟩
    rw [h4, h2]
    unfold contE
    rw [List.count_cons]
    by_cases hdc : d = c
    · subst hdc
      by_cases hd : d ∈ ends
      · simp [hd]
        omega
      · simp [hd]
        omega
    · have : (d == c) = false := by simpa using hdc
      simp [hdc]
def contB (at_ : PoseT) (b : BeamT) (c : CellT) : Int × Int := contE (endsL (at_.1, at_.2.1) (beamF at_.2.2 b.1) b) (metL (at_.1, at_.2.1) (beamF at_.2.2 b.1) b) c
def contS (at_ : PoseT) (s : List BeamT) (c : CellT) : Int × Int := ((s.map fun b => (contB at_ b c).1).sum, (s.map fun b => (contB at_ b c).2).sum)
theorem beams_val (at_ : PoseT) (c : CellT) : ∀ (s : List BeamT) {L : List EntT}, neT L → neT (s.foldl (beamT at_) L) ∧ valT (s.foldl (beamT at_) L) c = ((valT L c).1 + (contS at_ s c).1, (valT L c).2 + (contS at_ s c).2)
  | [], L, h => by
    refine ⟨h, ?_⟩
    simp [contS]
  | b :: s, L, h => by
    obtain ⟨h1, h2⟩ := steps_val (endsL (at_.1, at_.2.1) (beamF at_.2.2 b.1) b) c (metL (at_.1, at_.2.1) (beamF at_.2.2 b.1) b) h
    obtain ⟨h3, h4⟩ := beams_val at_ c s (L := beamT at_ L b) h1
    rw [List.foldl_cons]
    refine ⟨h3, ?_⟩
    rw [h4]
    have h2' : valT (beamT at_ L b) c = ((valT L c).1 + (contB at_ b c).1, (valT L c).2 + (contB at_ b c).2) := h2
    rw [h2']
    simp only [contS, List.map_cons, List.sum_cons]
    refine Prod.ext ?_ ?_ <;> (dsimp only; omega)
theorem of_ne (at_ : PoseT) (s : List BeamT) : neT (ofL at_ s) := (beams_val at_ (0, 0) s (L := []) (by simp [neT])).1
theorem of_val (at_ : PoseT) (s : List BeamT) (c : CellT) : valT (ofL at_ s) c = contS at_ s c := by
  have := (beams_val at_ c s (L := []) (by simp [neT])).2
  unfold ofL
  rw [this, valT_none (L := []) (by simp)]
  simp
theorem of_rep {at_ : PoseT} {s : List BeamT} {ys : List EntT} (hk : ofOk at_ s = true) (h : IsOf at_ s ys) : Rep (contS at_ s) ys := by
  unfold IsOf at h
  rw [if_pos hk] at h
  have e : ys = lstF (ofL at_ s) := h.unique (lstF_list (of_ne at_ s))
  rw [e]
  exact (rep_lst (of_ne at_ s)).congr fun c => of_val at_ s c
theorem ofOk_bd {at_ : PoseT} {s : List BeamT} (h : ofOk at_ s = true) : szB at_.1 262144 = true ∧ szB at_.2.1 262144 = true ∧ scanB s = true := by
  simp only [ofOk, Bool.and_eq_true] at h
  exact ⟨h.1.1.1.1, h.1.1.1.2, h.2⟩
theorem contB_met {at_ : PoseT} {b : BeamT} {c : CellT} (h : contB at_ b c ≠ (0, 0)) : c ∈ metL (at_.1, at_.2.1) (beamF at_.2.2 b.1) b := by
  apply Classical.byContradiction
  intro hn
  apply h
  unfold contB contE
  rw [List.count_eq_zero_of_not_mem hn]
  split <;> rfl
theorem contS_met {at_ : PoseT} {c : CellT} : ∀ {s : List BeamT}, contS at_ s c ≠ (0, 0) → ∃ b ∈ s, contB at_ b c ≠ (0, 0)
  | [], h => (h rfl).elim
  | b :: s, h => by
    by_cases hb : contB at_ b c = (0, 0)
    · have e : contS at_ (b :: s) c = contS at_ s c := by
        simp only [contS, List.map_cons, List.sum_cons, hb, Int.zero_add]
      rw [e] at h
      obtain ⟨x, hx, hc⟩ := contS_met h
      exact ⟨x, List.mem_cons_of_mem _ hx, hc⟩
    · exact ⟨b, by simp, hb⟩
theorem scan_mem {s : List BeamT} (h : scanB s = true) {b : BeamT} (hb : b ∈ s) : 0 ≤ b.1 ∧ b.1 < 256 ∧ -1 ≤ b.2 ∧ b.2 ≤ 1024 := by
  obtain ⟨k, hk, rfl⟩ := List.getElem_of_mem hb
  have := scan_ok h hk
  simp only [List.getD_eq_getElem?_getD, List.getElem?_eq_getElem hk, Option.getD_some] at this
  omega
theorem of_vE {at_ : PoseT} {s : List BeamT} {ys : List EntT} (hk : ofOk at_ s = true) (h : IsOf at_ s ys) : vE ys = true ∧ ∀ e ∈ ys, 0 ≤ e.2.2.1 ∧ 0 ≤ e.2.2.2 := by
  have hr := of_rep hk h
  obtain ⟨b1, b2, b3⟩ := ofOk_bd hk
  have hok := of_okT b1 b2 b3 s.length (Nat.le_refl _)
  rw [List.take_length] at hok
  have hs : s.length ≤ 32 := by
    simp only [scanB, Bool.and_eq_true, decide_eq_true_eq] at b3
    exact b3.1
  have hk' : OkT 320000 (ofL at_ s) := hok.mono (by omega)
  have hL : IsList (ofL at_ s) ys := by
    unfold IsOf at h
    rwa [if_pos hk] at h
  have hmem : ∀ e ∈ ys, e ∈ ofL at_ s ∧ zeroE e = false := fun e he => by
    have := hL.1.mem_iff.1 he
    rw [List.mem_filter] at this
    exact ⟨this.1, by simpa using this.2⟩
  refine ⟨asc_vE hr.1 (fun e he => ?_) ?_, fun e he => ?_⟩
  · obtain ⟨hz, hv⟩ := (hr.2 e).1 he
    have hb := hk'.bd e (hmem e he).1
    have hne : contS at_ s e.cell ≠ (0, 0) := by
      rw [hv]
      intro h0
      have e1 := (Prod.ext_iff.1 h0).1
      have e2 := (Prod.ext_iff.1 h0).2
      dsimp only at e1 e2
      unfold zeroE at hz
      rw [e1, e2] at hz
      cases hz
    obtain ⟨b, hbs, hc⟩ := contS_met hne
    have hm := scan_mem b3 hbs
    have hn := met_near b1 b2 ⟨hm.2.2.1, hm.2.2.2⟩ (contB_met hc)
    have n1 : -5000 ≤ e.1 ∧ e.1 ≤ 5000 := hn.1
    have n2 : -5000 ≤ e.2.1 ∧ e.2.1 ≤ 5000 := hn.2
    simp only [goodB, Bool.and_eq_true]
    refine ⟨⟨⟨?_, ?_⟩, ?_⟩, ?_⟩
    · simp only [countB, szB, Bool.and_eq_true, decide_eq_true_eq]
      omega
    · rw [Bool.not_eq_true']
      exact hz
    · simp only [szB, decide_eq_true_eq]
      omega
    · simp only [szB, decide_eq_true_eq]
      omega
  · have h1 := hL.1.length_eq
    have h2 := List.length_filter_le (fun e => !zeroE e) (ofL at_ s)
    have h3 := hk'.len
    omega
  · have hb := hk'.bd e (hmem e he).1
    omega
end Go.Proofs.YtadichckbogcjaaGreatDoor.En
namespace Go.Proofs.YtadichckbogcjaaGreatDoor.En
open Go.RowKit
set_option maxRecDepth 100000
theorem CallM.map {P : Program} {f : FuncId} {args : List SV} {pre : World → (Nat → Prop) → Prop} {os0 : List OB} {ι κ : Type} {x : ι → SV} {os1 : ι → List OB} {x' : κ → SV} {os1' : κ → List OB} (g : ι → κ) (hx : ∀ i, x i = x' (g i)) (ho : ∀ i, os1 i = os1' (g i)) (h : CallM P f args pre os0 x os1) : CallM P f args pre os0 x' os1' := by
  refine ⟨h.1, h.2.1, fun σ fp w hM hp => (h.2.2 σ fp w hM hp).mono ?_⟩
  rintro e w' ⟨i, σ', fp', h1, h2, h3⟩
  refine ⟨g i, σ', fp', ?_, ?_, ?_⟩
  · rw [h1, hx]
  · rw [← hx, ← ho]
    exact h2
  · rw [← ho]
    exact h3
def ofE (at_ : PoseT) (s : List BeamT) : List EntT × Int := if ofOk at_ s then (lstF (ofL at_ s), 0) else ([], 1)
theorem ofE_of {at_ : PoseT} {s : List BeamT} {ys : List EntT} (h : IsOf at_ s ys) : ys = (ofE at_ s).1 := by
  unfold ofE
  cases hk : ofOk at_ s with
  | true =>
    unfold IsOf at h
    rw [if_pos hk] at h
    rw [if_pos rfl]
    exact h.unique (lstF_list (of_ne at_ s))
  | false =>
    unfold IsOf at h
    rw [hk, if_neg (by simp)] at h
    rw [if_neg (by simp)]
    exact h
theorem ofE_is (at_ : PoseT) (s : List BeamT) : IsOf at_ s (ofE at_ s).1 := by
  unfold ofE IsOf
  cases hk : ofOk at_ s with
  | true =>
    rw [if_pos rfl, if_pos rfl]
    exact lstF_list (of_ne at_ s)
  | false => rfl
theorem ofE_code (at_ : PoseT) (s : List BeamT) : (ofE at_ s).2 = if ofOk at_ s then 0 else 1 := by
  unfold ofE
  split <;> rfl
theorem ofE_bad {at_ : PoseT} {s : List BeamT} (h : (ofE at_ s).2 ≠ 0) : (ofE at_ s).1 = [] ∧ (ofE at_ s).2 = 1 := by
  unfold ofE at h ⊢
  split
  · rename_i hk
    rw [if_pos hk] at h
    exact (h rfl).elim
  · exact ⟨rfl, rfl⟩
theorem ofE_ok {at_ : PoseT} {s : List BeamT} : (ofE at_ s).2 = 0 ↔ ofOk at_ s = true := by
  unfold ofE
  split
  · rename_i hk
    exact ⟨fun _ => hk, fun _ => rfl⟩
  · rename_i hk
    constructor
    · intro h
      cases h
    · intro h
      exact (hk h).elim
theorem ofE_len (at_ : PoseT) (s : List BeamT) : (ofE at_ s).1.length ≤ 1048576 := by
  cases hk : ofOk at_ s with
  | true => exact vE_length (of_vE hk (ofE_is at_ s)).1
  | false =>
    unfold ofE
    rw [hk]
    simp
theorem ofE_m (at_ : PoseT) (A : Option Addr) (c : Nat) (s : List BeamT) (els : List (List Value)) (he : s.map encB = els) {n : Nat} (hl : s.length = n) (hn : n ≤ maxLen) :
    CallM Tryz.prog 24 [.a [I at_.1, I at_.2.1, I at_.2.2], .v (.slice A n c)] (fun w M => ArgN w M A n 2 els) []
      (fun q : Option Addr × Nat => .t [.v (.slice q.1 (ofE at_ s).1.length q.2), I (ofE at_ s).2]) (fun q => [.row 34 4 q.1 (ofE at_ s).1.length q.2 ((ofE at_ s).1.map encE)]) := by
  subst he
  refine CallM.map (fun q : OfT at_ s => (q.1.1, q.1.2.1)) ?_ ?_ (of_m at_ A c s hl hn)
  · rintro ⟨⟨A1, c1, ys⟩, hy⟩
    dsimp only at hy ⊢
    rw [ofE_code, ofE_of hy]
  · rintro ⟨⟨A1, c1, ys⟩, hy⟩
    dsimp only at hy ⊢
    rw [ofE_of hy]
theorem ofE_rep {at_ : PoseT} {s : List BeamT} (h : ofOk at_ s = true) : Rep (contS at_ s) (ofE at_ s).1 ∧ vE (ofE at_ s).1 = true := ⟨of_rep h (ofE_is at_ s), (of_vE h (ofE_is at_ s)).1⟩
end Go.Proofs.YtadichckbogcjaaGreatDoor.En
namespace Go.Proofs.YtadichckbogcjaaGreatDoor.En
open Go.RowKit
theorem traced_nodup (p : PtT) (v : VecT) (lo hi : Int) : (tracedL p v lo hi).Nodup := sweep_nodup _ _ _ _
theorem count_of {l : List CellT} (h : l.Nodup) (c : CellT) : l.count c = if c ∈ l then 1 else 0 := h.count
theorem met_nodup (p : PtT) (v : VecT) (b : BeamT) : (metL p v b).Nodup := traced_nodup _ _ _ _
end Go.Proofs.YtadichckbogcjaaGreatDoor.En
end
section
namespace Go.Proofs.YtadichckbogcjaaGreatDoor.En
open Go.RowKit
set_option maxRecDepth 100000
def lenF (o : AOp) : Int := min (o.2.2.1.2.2.length : Int) 1000
def fewB (l : List AOp) : Bool := decide (l.length ≤ 30) && decide (((l.take 100).map lenF).sum ≤ 150)
theorem few_next {l : List AOp} {k : Nat} (hk : k < l.length) : ((l.take (k + 1)).map lenF).sum = ((l.take k).map lenF).sum + lenF (l.getD k op0) := by
  have e : l.getD k op0 = l[k] := by simp [hk]
  rw [List.take_succ_eq_append_getElem hk, e, List.map_append, List.sum_append]
  simp only [List.map_cons, List.map_nil, List.sum_cons, List.sum_nil, Int.add_zero]
theorem few_bd (l : List AOp) : ∀ k : Nat, 0 ≤ ((l.take k).map lenF).sum ∧ ((l.take k).map lenF).sum ≤ 1000 * k := by
  intro k
  induction k with
  | zero => simp
  | succ k ih =>
    by_cases hk : k < l.length
    · rw [few_next hk]
      unfold lenF at *
      omega
    · rw [List.take_of_length_le (by omega)]
      rw [List.take_of_length_le (by omega)] at ih
      omega
end Go.Proofs.YtadichckbogcjaaGreatDoor.En
namespace Go.Proofs.YtadichckbogcjaaGreatDoor.En
open Go.RowKit
set_option maxRecDepth 100000
def partA (a : AtT) (k : Int) : List EntT := match a.1 k, a.2 k with
  | some s, some p => if p.2.1 then [] else (ofE p.2.2 s).1
  | _, _ => []
set_option maxHeartbeats 2000000 in
theorem Part_m (b1 b2 : Nat) (m : List (Int × SlT)) (q : List (Int × PlT)) (k : Int) (hok : okS m) :
    CallM Tryz.prog 36 [.p 0 0, I k] (fun _ _ => True) [atB b1 b2, scO b1 m, plO b2 q]
      (fun r : Option Addr × Nat => .v (.slice r.1 (partA (absM (m, q)) k).length r.2)) (fun r => [atB b1 b2, scO b1 m, plO b2 q, .row 34 4 r.1 (partA (absM (m, q)) k).length r.2 ((partA (absM (m, q)) k).map encE)]) := by
  have ks := Scan_m b1 b2 m q k hok
  have kw := Where_m b1 b2 m q k
  have ho := hok.of k
  have hp : partA (absM (m, q)) k = if (lkI m k).isSome && (lkI q k).isSome && !(plOf q k).2.1 then (ofE (plOf q k).2.2 (slOf m k).2.2).1 else [] := by
    unfold partA absM semS plOf slOf
    cases hi : lkI m k with
    | none => simp [hi]
    | some v =>
      cases hj : lkI q k with
      | none => simp [hi, hj]
      | some p =>
        simp only [hi, hj, Option.map_some, Option.getD_some, Option.isSome_some, Bool.and_self, Bool.true_and]
        cases p.2.1 <;> rfl
  have hl := ofE_len (plOf q k).2.2 (slOf m k).2.2
  rw [hp]
  generalize hs : (lkI m k).isSome = has at *
  generalize hq : (lkI q k).isSome = had at *
  generalize hbs : (slOf m k).2.2 = bs at *
  generalize hpv : plOf q k = p at *
  obtain ⟨v, g, pose⟩ := p
  clear hs hq hp
  refine CallM.of (m := 3) Tryz.func36 rfl tabOk rfl rfl rfl rfl (by simp [SV.wfs, SV.wf]) fun w M π _ => ?_
  have hof := fun (A : Option Addr) (c : Nat) => ofE_m pose A c bs _ rfl rfl (by unfold maxLen; omega)
  dsimp only at hl ⊢
  generalize ofE pose bs = r at *
  cases has with
  | false =>
    (conv=>whnf);repeat' (first|((with_reducible refine isC ?_);first|((first|(with_reducible refine isF 73 ?_);((refine CallX_m ks [0, 1, 2] rfl ⟨⟨rfl, rfl, by simp [SV.wf, SV.wfs]⟩, fun _ _ h => h, fun _ _ h => h, trivial⟩ (by decide) (fun _ _ _ _ => trivial) ?_; intro r1; obtain ⟨B1, d1⟩ := r1))|(with_reducible refine isF 74 ?_);((refine CallX_m kw [0, 1, 2] rfl ⟨⟨rfl, rfl, by simp [SV.wf, SV.wfs]⟩, fun _ _ h => h, fun _ _ h => h, trivial⟩ (by decide) (fun _ _ _ _ => trivial) ?_; intro r3)));conv=>whnf))|with_reducible exact rfl|((with_reducible first|refine xif_kt (by assumption) ?_|refine xif_kf (by assumption) ?_);conv=>whnf)|((with_reducible refine xif_s ?_ ?_)<;>(intro hb;(try simp (disch:=omega) only [hbS] at hb)<;>conv=>whnf)))
    refine Fin_addNil 34 4 ?_
    exact Fin_m (none, 0) [0, 1, 2, 5] ⟨rfl, by simp [SV.wf, SV.wfs]⟩ ⟨⟨rfl, rfl, by simp [SV.wf, SV.wfs]⟩, fun _ _ h => h, fun _ _ h => h, ⟨rfl, rfl, rfl, rfl, rfl, rfl⟩, trivial⟩ (by decide) rfl
  | true =>
    cases had with
    | false =>
      (conv=>whnf);repeat' (first|((with_reducible refine isC ?_);first|((first|(with_reducible refine isF 73 ?_);((refine CallX_m ks [0, 1, 2] rfl ⟨⟨rfl, rfl, by simp [SV.wf, SV.wfs]⟩, fun _ _ h => h, fun _ _ h => h, trivial⟩ (by decide) (fun _ _ _ _ => trivial) ?_; intro r1; obtain ⟨B1, d1⟩ := r1))|(with_reducible refine isF 74 ?_);((refine CallX_m kw [0, 1, 2] rfl ⟨⟨rfl, rfl, by simp [SV.wf, SV.wfs]⟩, fun _ _ h => h, fun _ _ h => h, trivial⟩ (by decide) (fun _ _ _ _ => trivial) ?_; intro r3)));conv=>whnf))|with_reducible exact rfl|((with_reducible first|refine xif_kt (by assumption) ?_|refine xif_kf (by assumption) ?_);conv=>whnf)|((with_reducible refine xif_s ?_ ?_)<;>(intro hb;(try simp (disch:=omega) only [hbS] at hb)<;>conv=>whnf)))
      refine Fin_addNil 34 4 ?_
      exact Fin_m (none, 0) [0, 1, 2, 5] ⟨rfl, by simp [SV.wf, SV.wfs]⟩ ⟨⟨rfl, rfl, by simp [SV.wf, SV.wfs]⟩, fun _ _ h => h, fun _ _ h => h, ⟨rfl, rfl, rfl, rfl, rfl, rfl⟩, trivial⟩ (by decide) rfl
    | true =>
      cases g with
      | true =>
        (conv=>whnf);repeat' (first|((with_reducible refine isC ?_);first|((first|(with_reducible refine isF 73 ?_);((refine CallX_m ks [0, 1, 2] rfl ⟨⟨rfl, rfl, by simp [SV.wf, SV.wfs]⟩, fun _ _ h => h, fun _ _ h => h, trivial⟩ (by decide) (fun _ _ _ _ => trivial) ?_; intro r1; obtain ⟨B1, d1⟩ := r1))|(with_reducible refine isF 74 ?_);((refine CallX_m kw [0, 1, 2] rfl ⟨⟨rfl, rfl, by simp [SV.wf, SV.wfs]⟩, fun _ _ h => h, fun _ _ h => h, trivial⟩ (by decide) (fun _ _ _ _ => trivial) ?_; intro r3)));conv=>whnf))|with_reducible exact rfl|((with_reducible first|refine xif_kt (by assumption) ?_|refine xif_kf (by assumption) ?_);conv=>whnf)|((with_reducible refine xif_s ?_ ?_)<;>(intro hb;(try simp (disch:=omega) only [hbS] at hb)<;>conv=>whnf)))
        refine Fin_addNil 34 4 ?_
        exact Fin_m (none, 0) [0, 1, 2, 5] ⟨rfl, by simp [SV.wf, SV.wfs]⟩ ⟨⟨rfl, rfl, by simp [SV.wf, SV.wfs]⟩, fun _ _ h => h, fun _ _ h => h, ⟨rfl, rfl, rfl, rfl, rfl, rfl⟩, trivial⟩ (by decide) rfl
      | false =>
        (conv=>whnf);repeat' (first|((with_reducible refine isC ?_);first|((first|(with_reducible refine isF 73 ?_);((refine CallX_m ks [0, 1, 2] rfl ⟨⟨rfl, rfl, by simp [SV.wf, SV.wfs]⟩, fun _ _ h => h, fun _ _ h => h, trivial⟩ (by decide) (fun _ _ _ _ => trivial) ?_; intro r1; obtain ⟨B1, d1⟩ := r1))|(with_reducible refine isF 74 ?_);((refine CallX_m kw [0, 1, 2] rfl ⟨⟨rfl, rfl, by simp [SV.wf, SV.wfs]⟩, fun _ _ h => h, fun _ _ h => h, trivial⟩ (by decide) (fun _ _ _ _ => trivial) ?_; intro r3))|(with_reducible refine isF 24 ?_);((refine CallX_m (hof B1 d1) [] rfl trivial (by decide) (fun σ fp w hm => ArgN.of0 (ArgSl.bm (s := (B1, d1, bs)) 3 rfl σ fp w hm) _) ?_; intro r4; obtain ⟨B2, d2⟩ := r4)));conv=>whnf))|with_reducible exact rfl|((with_reducible first|refine xif_kt (by assumption) ?_|refine xif_kf (by assumption) ?_);conv=>whnf)|((with_reducible refine xif_s ?_ ?_)<;>(intro hb;(try simp (disch:=omega) only [hbS] at hb)<;>conv=>whnf)))
        exact Fin_m (B2, d2) [0, 1, 2, 5] ⟨rfl, by simp [SV.wf, SV.wfs]⟩ ⟨⟨rfl, rfl, by simp [SV.wf, SV.wfs]⟩, fun _ _ h => h, fun _ _ h => h, ⟨rfl, rfl, rfl, rfl, rfl, rfl⟩, trivial⟩ (by decide) rfl
end Go.Proofs.YtadichckbogcjaaGreatDoor.En
namespace Go.Proofs.YtadichckbogcjaaGreatDoor.En
open Go.RowKit
set_option maxRecDepth 100000
end Go.Proofs.YtadichckbogcjaaGreatDoor.En
end
section
namespace Go.Proofs.YtadichckbogcjaaGreatDoor.En
open Go.RowKit
theorem ArgSl.of_SlO {w : World} {A : Option Addr} {n C : Nat} {V : Nat → Nat → Int} {α : Type} (enc : α → List Value) (f : Nat → α) (h : SlO w A n C V) (hC : 0 < C) (he : ∀ i, enc (f i) = (List.range C).map fun j => Value.int .i64 (V i j)) : ArgSl w A n C (((List.range n).map f).map enc) := by
  refine ⟨by simp, fun e hm => ?_, fun e hm v hv => ?_, fun hn => ?_⟩
  · obtain ⟨x, hx, rfl⟩ := List.mem_map.1 hm
    obtain ⟨i, _, rfl⟩ := List.mem_map.1 hx
    simp [he]
  · obtain ⟨x, hx, rfl⟩ := List.mem_map.1 hm
    obtain ⟨i, _, rfl⟩ := List.mem_map.1 hx
    rw [he] at hv
    obtain ⟨j, _, rfl⟩ := List.mem_map.1 hv
    rfl
  · rcases h with h | ⟨a, rfl, h⟩
    · exact (hn h).elim
    · obtain ⟨b, o, s⟩ := a
      have h0 := (h 0 (by omega) 0 hC).1
      have hs : s = none := by
        simp only [Nat.zero_mul, Addr.add, if_true] at h0
        unfold World.cell? at h0
        cases s with
        | none => rfl
        | some s =>
          exfalso
          simp only [Option.isSome_some, if_true] at h0
          revert h0
          split <;> intro h0 <;> cases h0
      subst hs
      refine ⟨b, o, rfl, fun i e hi j v hj => ?_⟩
      rw [List.getElem?_map, List.getElem?_map] at hi
      by_cases hin : i < n
      · rw [List.getElem?_range hin] at hi
        simp only [Option.map_some, Option.some.injEq] at hi
        subst hi
        rw [he, List.getElem?_map] at hj
        by_cases hjn : j < C
        · rw [List.getElem?_range hjn] at hj
          simp only [Option.map_some, Option.some.injEq] at hj
          subst hj
          have := (h i hin j hjn).1
          rw [Addr.add_mid, Addr.add_mid] at this
          exact this
        · rw [List.getElem?_eq_none (by simpa using hjn)] at hj
          cases hj
      · rw [List.getElem?_eq_none (by simpa using hin)] at hi
        cases hi
end Go.Proofs.YtadichckbogcjaaGreatDoor.En
end
section
namespace Go.Proofs.YtadichckbogcjaaGreatDoor.En
open Go.RowKit
set_option maxRecDepth 100000
def opsW (w : World) (A : Option Addr) (n : Nat) (l : List AOp) : Prop := ArgSl w A n 8 (l.map encOp) ∧ ∀ o ∈ l, ArgSl w o.2.2.1.1 o.2.2.1.2.2.length 2 (o.2.2.1.2.2.map encBm) ∧ o.2.2.1.2.2.length ≤ maxLen
theorem opsW.of0 {C : Ctx} {ob : List OB} {A : Option Addr} {n : Nat} {l : List AOp} (h : opsW C.w0 A n l) (hM : C.M = fun _ => False) : ∀ σ fp w, Mem C σ fp ob w → opsN w (MOf 0 fun j => fp (([] : List Nat).getD j 0)) A n l :=
  fun σ fp w hm => ⟨ArgN.of0 (h.1.mem (by decide) hM σ fp w hm) _, fun o ho => ⟨ArgN.of0 ((h.2 o ho).1.mem (by decide) hM σ fp w hm) _, (h.2 o ho).2⟩⟩
theorem opsW.op {w : World} {A : Option Addr} {n : Nat} {l : List AOp} (h : opsW w A n l) {o : AOp} (ho : o ∈ l) : opN w (fun _ => False) o := ArgN.of (h.2 o ho).1 fun _ => id
theorem opsW.few {C : Ctx} {ob : List OB} {A : Option Addr} {n : Nat} {l : List AOp} (h : opsW C.w0 A n l) (hM : C.M = fun _ => False) : ∀ σ fp w, Mem C σ fp ob w → ArgSl w A n 8 (l.map encOp) ∧ ∀ o ∈ l, o.2.2.1.2.2.length ≤ maxLen :=
  fun σ fp w hm => ⟨h.1.mem (by decide) hM σ fp w hm, fun o ho => (h.2 o ho).2⟩
abbrev KnI (S : OpT → Prop) := {r : StT // okS r.1 ∧ ∃ L, TopA L (absM r) ∧ ∀ o, o ∈ L ↔ S o}
theorem KnI.step {S S' : OpT → Prop} {r : StT} (h : okS r.1 ∧ ∃ L, TopA L (absM r) ∧ ∀ o, o ∈ L ↔ S o) {o : OpT} (r' : StI (stepA (absM r) o)) (hS : ∀ x, S' x ↔ S x ∨ x = o) : okS r'.1.1 ∧ ∃ L, TopA L (absM r'.1) ∧ ∀ x, x ∈ L ↔ S' x := by
  obtain ⟨_, L, h1, h2⟩ := h
  refine ⟨r'.2.1, L ++ [o], ?_, fun x => ?_⟩
  · rw [r'.2.2]
    exact h1.step o
  · rw [List.mem_append, List.mem_singleton, h2, hS]
end Go.Proofs.YtadichckbogcjaaGreatDoor.En
end
section
namespace Go.Proofs.YtadichckbogcjaaGreatDoor
open Go.ChangeShapes Go.WideShapes Go.ChangeAt Go.RowKit Go.Joins Go.Deep
set_option maxRecDepth 100000
theorem op_cells {H : Type} {enc : TypeId × Value → H} {w : World} {base : Nat} {spare : Nat → Bool} {held : Bool} {fuel : Nat} {cs : List Value} {x : DataW H × List MemPlace} (hc : cs.length = 8) (h : DataW.trod enc Tryz.prog w base spare held fuel 72 cs = some x) :
    ∃ o : En.AOp, cs = En.encOp o ∧ En.ArgSl w o.2.2.1.1 o.2.2.1.2.2.length 2 (o.2.2.1.2.2.map En.encBm) ∧ o.2.2.1.2.2.length ≤ maxLen := by
  have hC : cs.length = Tryz.prog.cellsOf 72 := hc.trans (by kernel_rfl)
  have one : ∀ j, j < 8 → (cs.drop j).take 1 = [cs.getD j undef] := fun j hj => by
    have e : cs.getD j undef = cs[j]'(by omega) := by simp [show j < cs.length by omega]
    rw [e, List.drop_eq_getElem_cons (by omega)]
    rfl
  have hint : ∀ j, j < 8 → leafT Tryz.prog 4 72 j = some 3 → ∃ a : Int, cs.getD j undef = .int .i64 a := fun j hj hl => by
    obtain ⟨f', y, hy⟩ := leaf_cell 4 hl hC h
    obtain ⟨a, ha, _⟩ := DataW.trod_int Tryz.underlying3 hy
    rw [one j hj] at ha
    exact ⟨a, by simpa using ha⟩
  have hbool : ∀ j, j < 8 → leafT Tryz.prog 4 72 j = some 4 → ∃ a : Bool, cs.getD j undef = .bool a := fun j hj hl => by
    obtain ⟨f', y, hy⟩ := leaf_cell 4 hl hC h
    obtain ⟨a, ha, _⟩ := DataW.trod_bool Tryz.underlying4 hy
    rw [one j hj] at ha
    exact ⟨a, by simpa using ha⟩
  obtain ⟨mv, h0⟩ := hbool 0 (by decide) (by kernel_rfl)
  obtain ⟨id, h1⟩ := hint 1 (by decide) (by kernel_rfl)
  obtain ⟨v, h3⟩ := hint 3 (by decide) (by kernel_rfl)
  obtain ⟨g, h4⟩ := hbool 4 (by decide) (by kernel_rfl)
  obtain ⟨px, h5⟩ := hint 5 (by decide) (by kernel_rfl)
  obtain ⟨py, h6⟩ := hint 6 (by decide) (by kernel_rfl)
  obtain ⟨ph, h7⟩ := hint 7 (by decide) (by kernel_rfl)
  have hsl : leafT Tryz.prog 4 72 2 = some 59 := by kernel_rfl
  obtain ⟨f', y, hy⟩ := leaf_cell 4 hsl hC h
  rw [one 2 (by decide)] at hy
  have hcs : cs = [cs.getD 0 undef, cs.getD 1 undef, cs.getD 2 undef, cs.getD 3 undef, cs.getD 4 undef, cs.getD 5 undef, cs.getD 6 undef, cs.getD 7 undef] := by
    match cs, hc with
    | [_, _, _, _, _, _, _, _], _ => rfl
  rw [h0, h1, h3, h4, h5, h6, h7] at hcs
  have hflat : flatI Tryz.prog 4 98 = true := by kernel_rfl
  rcases open_sliceI Tryz.underlying59 hflat hy with h2 | ⟨a, len, cap, V, h2, hle, hcap, hat⟩
  · have h2' : cs.getD 2 undef = .slice none 0 0 := by simpa using h2
    rw [h2'] at hcs
    exact ⟨(mv, id, (none, 0, []), (v, g, px, py, ph)), hcs, ⟨rfl, by simp, by simp, fun h => (h rfl).elim⟩, by simp [maxLen]⟩
  · have h2' : cs.getD 2 undef = .slice (some a) len cap := by simpa using h2
    rw [h2'] at hcs
    have hC2 : Tryz.prog.cellsOf 98 = 2 := by kernel_rfl
    rw [hC2] at hat
    refine ⟨(mv, id, (some a, cap, (List.range len).map fun i => (V i 0, V i 1)), (v, g, px, py, ph)), ?_, ?_, ?_⟩
    · rw [hcs]
      simp [En.encOp]
    · have := En.ArgSl.of_SlO En.encBm (fun i => (V i 0, V i 1)) (.inr ⟨a, rfl, hat⟩) (by decide) (fun i => rfl)
      simpa using this
    · simp
      omega
theorem open_ops {H : Type} {enc : TypeId × Value → H} {w : World} {base : Nat} {spare : Nat → Bool} {held : Bool} {r : Reach} {b0 : Nat} {v : Value} {d : DataW H} {p : List MemPlace} (hv : Value.okWide Tryz.prog w r b0 38 v) (h : DataW.Trod enc Tryz.prog w base spare held 38 v d p) :
    ∃ (A : Option Addr) (n c : Nat) (l : List En.AOp), v = .slice A n c ∧ n ≤ c ∧ c ≤ maxLen ∧ l.length = n ∧ En.opsW w A n l := by
  obtain ⟨a, len, cap, rfl⟩ := okWide_slice Tryz.underlying38 hv
  obtain ⟨fuel, hf⟩ := h
  rcases open_slice Tryz.underlying38 hf with h0 | ⟨ad, len', cap', m, k, D, Pl, hcs, hb, hl, hm, hmm, hx, hi⟩
  · have : Value.slice a len cap = .slice none 0 0 := by simpa [Value.cells] using h0.1
    exact ⟨none, 0, 0, [], this, Nat.le_refl _, by simp [maxLen], rfl, ⟨rfl, by simp, by simp, fun h => (h rfl).elim⟩, by simp⟩
  · have hval : Value.slice a len cap = .slice (some ad) len' cap' := by simpa [Value.cells] using hcs
    have hC : Tryz.prog.cellsOf 72 = 8 := by kernel_rfl
    rw [hC] at hi
    have hlm : len' ≤ m := by rw [hmm]; split <;> omega
    have hex : ∀ i, ∃ o : En.AOp, i < len' → (∀ j, j < 8 → w.cell? ((ad.add (i * 8)).add j) = (En.encOp o)[j]?) ∧ En.ArgSl w o.2.2.1.1 o.2.2.1.2.2.length 2 (o.2.2.1.2.2.map En.encBm) ∧ o.2.2.1.2.2.length ≤ maxLen := by
      intro i
      by_cases h1 : i < len'
      · obtain ⟨cs', hc, ht'⟩ := hi i (by omega)
        obtain ⟨_, hcl, hat⟩ := World.cells?_some hc
        obtain ⟨o, ho, hs, hl2⟩ := op_cells hcl ht'
        refine ⟨o, fun _ => ⟨fun j hj => ?_, hs, hl2⟩⟩
        rw [← ho]
        exact hat j hj
      · exact ⟨En.op0, fun h => absurd h h1⟩
    obtain ⟨f, hfo⟩ := Classical.axiomOfChoice hex
    refine ⟨some ad, len', cap', (List.range len').map f, hval, hl, hm, by simp, ⟨by simp, ?_, ?_, ?_⟩, ?_⟩
    · intro e he
      obtain ⟨o, _, rfl⟩ := List.mem_map.1 he
      rfl
    · intro e he v hv'
      obtain ⟨o, _, rfl⟩ := List.mem_map.1 he
      simp [En.encOp] at hv'
      rcases hv' with rfl | rfl | rfl | rfl | rfl | rfl | rfl | rfl <;> rfl
    · intro hn
      obtain ⟨b, o, s⟩ := ad
      have h0 := (hfo 0 (by omega)).1 0 (by omega)
      have hs : s = none := by
        simp only [Nat.zero_mul, Addr.add] at h0
        unfold World.cell? at h0
        cases s with
        | none => rfl
        | some s =>
          exfalso
          simp [En.encOp] at h0
          revert h0
          split <;> intro h0 <;> cases h0
      subst hs
      refine ⟨b, o, rfl, fun i e hi' j v hj => ?_⟩
      rw [List.getElem?_map, List.getElem?_map] at hi'
      by_cases hin : i < len'
      · rw [List.getElem?_range hin] at hi'
        simp only [Option.map_some, Option.some.injEq] at hi'
        subst hi'
        have hj8 : j < 8 := (List.getElem?_eq_some_iff.1 hj).1
        have := (hfo i hin).1 j hj8
        rw [Addr.add_mid, Addr.add_mid] at this
        rw [this]
        exact hj
      · rw [List.getElem?_eq_none (by simpa using hin)] at hi'
        cases hi'
    · intro o ho
      obtain ⟨i, hi', rfl⟩ := List.mem_map.1 ho
      have := hfo i (by simpa using hi')
      exact this.2
end Go.Proofs.YtadichckbogcjaaGreatDoor
end
section
namespace Go.Proofs.YtadichckbogcjaaGreatDoor.En
open Go.RowKit
set_option maxRecDepth 100000
end Go.Proofs.YtadichckbogcjaaGreatDoor.En
end
