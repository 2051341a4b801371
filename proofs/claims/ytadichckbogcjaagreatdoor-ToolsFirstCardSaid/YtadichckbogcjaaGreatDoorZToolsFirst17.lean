import Derived.Test.YtadichckbogcjaaGreatDoorZToolsFirst16
import Derived.Test.YtadichckbogcjaaGreatDoorZToolsFirst10
import Derived.Test.YtadichckbogcjaaGreatDoorZToolsFirst01
import Derived.Test.YtadichckbogcjaaGreatDoorZToolsFirst08
import Derived.Test.YtadichckbogcjaaGreatDoorZToolsFirst09
set_option linter.all false
section
namespace Go.Proofs.YtadichckbogcjaaGreatDoor.En
open Go.RowKit
set_option maxRecDepth 100000
def valueF (e : EntT) : Int := if 0 < e.2.2.1 ∧ countB e = true then 255 * e.2.2.1 / (e.2.2.1 + max e.2.2.2 0) else 0
theorem countB_bd {e : EntT} (h : countB e = true) : -1099511627776 ≤ e.2.2.1 ∧ e.2.2.1 ≤ 1099511627776 ∧ -1099511627776 ≤ e.2.2.2 ∧ e.2.2.2 ≤ 1099511627776 := by
  simp only [countB, szB, Bool.and_eq_true, decide_eq_true_eq] at h
  omega
theorem value_bd (e : EntT) : 0 ≤ valueF e ∧ valueF e ≤ 255 := by
  unfold valueF
  split
  · rename_i h
    constructor
    · exact Int.ediv_nonneg (by omega) (by omega)
    · have : 255 * e.2.2.1 / (e.2.2.1 + max e.2.2.2 0) < 256 := Int.ediv_lt_of_lt_mul (by omega) (by omega)
      omega
  · omega
theorem Value_x (e : EntT) : PureX Tryz.prog 62 [.a [I e.1, I e.2.1, I e.2.2.1, I e.2.2.2]] (.v (.int .u8 (valueF e))) := by
  have hb1 := value_bd e
  unfold valueF at *
  by_cases h1 : 0 < e.2.2.1
  · cases h2 : countB e with
    | true =>
      have hc := countB_bd h2
      have hd := PureD.pure (counted_d e)
      rw [h2] at hd hb1
      simp only [h1, and_self, if_true] at hb1 ⊢
      refine PureX.of Tryz.func62 rfl tabOk rfl rfl rfl (by simp [SV.wfs, SV.wf]) (by simp [SV.wfs, SV.wf]) fun w => ?_
      (conv=>whnf);repeat' (first|((with_reducible refine isC ?_);first|((with_reducible refine CallX_pure (hd) ?_)<;>first|omega|with_reducible refine isP ?_|conv=>whnf))|((with_reducible refine isW ?_;first|refine xwr_ok (by omega) (by omega) ?_|refine xwr_raw ?_);conv=>whnf)|((with_reducible refine isQ ?_;first|refine xquo_nn (by omega) (by omega) (by omega) ?_|refine xquo_ok (by omega) (by omega) (by omega) ?_|refine xquo_raw (by omega) ?_);conv=>whnf)|((with_reducible refine isK ?_;first|refine xcv_i64 (by omega) (by omega) ?_|refine xcv_u64 (by omega) (by omega) ?_|refine xcv_u8 (by omega) (by omega) ?_|refine xcv_raw ?_);conv=>whnf)|((with_reducible refine need_i ?_ ?_)<;>first|omega|conv=>whnf)|with_reducible exact rfl|((with_reducible first|refine xif_kt (by assumption) ?_|refine xif_kf (by assumption) ?_);conv=>whnf)|((with_reducible refine xif_s ?_ ?_)<;>(intro hb;(try simp (disch:=omega) only [hbS] at hb)<;>conv=>whnf)))
      all_goals try (exfalso; omega)
      exact Fin_pure rfl rfl trivial
    | false =>
      have hd := PureD.pure (counted_d e)
      rw [h2] at hd
      simp only [Bool.false_eq_true, and_false, if_false]
      refine PureX.of Tryz.func62 rfl tabOk rfl rfl rfl (by simp [SV.wfs, SV.wf]) (by simp [SV.wfs, SV.wf]) fun w => ?_
      (conv=>whnf);repeat' (first|((with_reducible refine isC ?_);first|((with_reducible refine CallX_pure (hd) ?_)<;>first|omega|with_reducible refine isP ?_|conv=>whnf))|((with_reducible refine isW ?_;first|refine xwr_ok (by omega) (by omega) ?_|refine xwr_raw ?_);conv=>whnf)|((with_reducible refine isQ ?_;first|refine xquo_nn (by omega) (by omega) (by omega) ?_|refine xquo_ok (by omega) (by omega) (by omega) ?_|refine xquo_raw (by omega) ?_);conv=>whnf)|((with_reducible refine isK ?_;first|refine xcv_i64 (by omega) (by omega) ?_|refine xcv_u64 (by omega) (by omega) ?_|refine xcv_u8 (by omega) (by omega) ?_|refine xcv_raw ?_);conv=>whnf)|((with_reducible refine need_i ?_ ?_)<;>first|omega|conv=>whnf)|with_reducible exact rfl|((with_reducible first|refine xif_kt (by assumption) ?_|refine xif_kf (by assumption) ?_);conv=>whnf)|((with_reducible refine xif_s ?_ ?_)<;>(intro hb;(try simp (disch:=omega) only [hbS] at hb)<;>conv=>whnf)))
      all_goals try (exfalso; omega)
      exact Fin_pure rfl rfl trivial
  · simp only [h1, false_and, if_false]
    refine PureX.of Tryz.func62 rfl tabOk rfl rfl rfl (by simp [SV.wfs, SV.wf]) (by simp [SV.wfs, SV.wf]) fun w => ?_
    (conv=>whnf);repeat' (first|((with_reducible refine isW ?_;first|refine xwr_ok (by omega) (by omega) ?_|refine xwr_raw ?_);conv=>whnf)|((with_reducible refine isQ ?_;first|refine xquo_nn (by omega) (by omega) (by omega) ?_|refine xquo_ok (by omega) (by omega) (by omega) ?_|refine xquo_raw (by omega) ?_);conv=>whnf)|((with_reducible refine isK ?_;first|refine xcv_i64 (by omega) (by omega) ?_|refine xcv_u64 (by omega) (by omega) ?_|refine xcv_u8 (by omega) (by omega) ?_|refine xcv_raw ?_);conv=>whnf)|((with_reducible refine need_i ?_ ?_)<;>first|omega|conv=>whnf)|with_reducible exact rfl|((with_reducible first|refine xif_kt (by assumption) ?_|refine xif_kf (by assumption) ?_);conv=>whnf)|((with_reducible refine xif_s ?_ ?_)<;>(intro hb;(try simp (disch:=omega) only [hbS] at hb)<;>conv=>whnf)))
    all_goals try (exfalso; omega)
    exact Fin_pure rfl rfl trivial
end Go.Proofs.YtadichckbogcjaaGreatDoor.En
end
section
namespace Go.Proofs.YtadichckbogcjaaGreatDoor.En
open Go.RowKit
theorem mem_rowK {p : CellT → Bool} {x0 y : Int} {j : Nat} {c : CellT} : c ∈ rowK p x0 y j ↔ p c = true ∧ c.2 = y ∧ x0 ≤ c.1 ∧ c.1 < x0 + j := by
  unfold rowK
  rw [List.mem_filter, List.mem_map]
  constructor
  · rintro ⟨⟨i, hi, rfl⟩, h2⟩
    have := List.mem_range.1 hi
    exact ⟨h2, rfl, by dsimp only; omega, by dsimp only; omega⟩
  · rintro ⟨h1, h2, h3, h4⟩
    exact ⟨⟨(c.1 - x0).toNat, List.mem_range.2 (by omega), Prod.ext (by dsimp only; omega) h2.symm⟩, h1⟩
theorem mem_outK {p : CellT → Bool} {x0 y0 : Int} {w k : Nat} {c : CellT} : c ∈ outK p x0 y0 w k ↔ p c = true ∧ (x0 ≤ c.1 ∧ c.1 < x0 + w) ∧ y0 ≤ c.2 ∧ c.2 < y0 + k := by
  unfold outK
  rw [List.mem_flatMap]
  constructor
  · rintro ⟨i, hi, h⟩
    have := List.mem_range.1 hi
    obtain ⟨h1, h2, h3, h4⟩ := mem_rowK.1 h
    exact ⟨h1, ⟨h3, h4⟩, by omega, by omega⟩
  · rintro ⟨h1, ⟨h2, h3⟩, h4, h5⟩
    exact ⟨(c.2 - y0).toNat, List.mem_range.2 (by omega), mem_rowK.2 ⟨h1, by omega, h2, h3⟩⟩
theorem rowK_nodup (p : CellT → Bool) (x0 y : Int) : ∀ j : Nat, (rowK p x0 y j).Nodup
  | 0 => by simp [rowK]
  | j + 1 => by
    rw [rowK_succ, List.nodup_append]
    refine ⟨rowK_nodup p x0 y j, by split <;> simp, ?_⟩
    intro a ha b hb hab
    subst hab
    have h1 := mem_rowK.1 ha
    split at hb
    · rw [List.mem_singleton] at hb
      subst hb
      dsimp only at h1
      omega
    · cases hb
theorem outK_nodup (p : CellT → Bool) (x0 y0 : Int) (w : Nat) : ∀ k : Nat, (outK p x0 y0 w k).Nodup
  | 0 => by simp [outK]
  | k + 1 => by
    rw [outK_succ, List.nodup_append]
    refine ⟨outK_nodup p x0 y0 w k, rowK_nodup _ _ _ _, ?_⟩
    intro a ha b hb hab
    subst hab
    have h1 := mem_outK.1 ha
    have h2 := mem_rowK.1 hb
    omega
theorem mem_sweep {r : RectT} {v : VecT} {lo hi : Int} {c : CellT} : c ∈ sweepL r v lo hi ↔ hitR r v lo hi c = true ∧ ((swX r v lo hi).1 ≤ c.1 ∧ c.1 ≤ (swX r v lo hi).2) ∧ (swY r v lo hi).1 ≤ c.2 ∧ c.2 ≤ (swY r v lo hi).2 := by
  unfold sweepL
  rw [mem_outK]
  constructor
  · rintro ⟨h1, h2, h3⟩
    refine ⟨h1, ?_, ?_⟩ <;> omega
  · rintro ⟨h1, h2, h3⟩
    refine ⟨h1, ?_, ?_⟩ <;> omega
theorem sweep_nodup (r : RectT) (v : VecT) (lo hi : Int) : (sweepL r v lo hi).Nodup := outK_nodup _ _ _ _ _
theorem met_near {at_ : PoseT} {b : BeamT} (h1 : szB at_.1 262144 = true) (h2 : szB at_.2.1 262144 = true) (h3 : -1 ≤ b.2 ∧ b.2 ≤ 1024) {c : CellT} (hc : c ∈ metL (at_.1, at_.2.1) (beamF at_.2.2 b.1) b) : (-5000 ≤ c.1 ∧ c.1 ≤ 5000) ∧ (-5000 ≤ c.2 ∧ c.2 ≤ 5000) := by
  have g1 := szB_bd h1
  have g2 := szB_bd h2
  have hr : 0 ≤ reachB b ∧ reachB b ≤ 1024 := by
    unfold reachB
    split <;> omega
  obtain ⟨_, hx, hy⟩ := mem_sweep.1 hc
  have hb := sw_bd (r := ptR (at_.1, at_.2.1)) (v := beamF at_.2.2 b.1) (lo := 0) (hi := reachB b) ⟨by dsimp only [ptR]; omega, Int.le_refl _, by dsimp only [ptR]; omega, by dsimp only [ptR]; omega, Int.le_refl _, by dsimp only [ptR]; omega, by simp [ptR], by simp [ptR], beam_vec _ _, Int.le_refl _, hr.1, by omega⟩
  dsimp only [ptR] at hb hx hy
  dsimp only [ptR] at *
  omega
def contE (ends l : List CellT) (c : CellT) : Int × Int := if c ∈ ends then ((l.count c : Int), 0) else (0, (l.count c : Int))
theorem any_in {ends : List CellT} {c : CellT} : ends.any (inB c) = true ↔ c ∈ ends := by
  rw [List.any_eq_true]
  constructor
  · rintro ⟨x, hx, h⟩
    rw [inB, decide_eq_true_eq] at h
    exact h ▸ hx
  · intro h
    exact ⟨c, h, by simp [inB]⟩
theorem step_val {L : List EntT} (h : neT L) (ends : List CellT) (d c : CellT) : neT (stepT ends L d) ∧ valT (stepT ends L d) c = if d = c then (if d ∈ ends then ((valT L c).1 + 1, (valT L c).2) else ((valT L c).1, (valT L c).2 + 1)) else valT L c := by
  unfold stepT
  by_cases hd : d ∈ ends
  · rw [if_pos (any_in.2 hd)]
    refine ⟨addT_ne h _ _ _, ?_⟩
    rw [valT_add h]
    split
    · rename_i hc
      subst hc
      try rw [if_pos hd]
      simp
    · rfl
  · rw [if_neg (fun h => hd (any_in.1 h))]
    refine ⟨addT_ne h _ _ _, ?_⟩
    rw [valT_add h]
    split
    · rename_i hc
      subst hc
      try rw [if_neg hd]
      simp
    · rfl
theorem steps_val (ends : List CellT) (c : CellT) : ∀ (l : List CellT) {L : List EntT}, neT L → neT (l.foldl (stepT ends) L) ∧ valT (l.foldl (stepT ends) L) c = ((valT L c).1 + (contE ends l c).1, (valT L c).2 + (contE ends l c).2)
  | [], L, h => by
    refine ⟨h, ?_⟩
    unfold contE
    split <;> simp
  | d :: l, L, h => by
    obtain ⟨h1, h2⟩ := step_val h ends d c
    obtain ⟨h3, h4⟩ := steps_val ends c l h1
    rw [List.foldl_cons]
    refine ⟨h3, ?_⟩
    rw [h4, h2]
    unfold contE
    rw [List.count_cons]
    by_cases hdc : d = c
    · subst hdc
      by_cases hd : d ∈ ends
      · simp [hd]
        omega
      · simp [hd]
        omega
    · have : (d == c) = false := by simpa using hdc
      simp [hdc]
def contB (at_ : PoseT) (b : BeamT) (c : CellT) : Int × Int := contE (endsL (at_.1, at_.2.1) (beamF at_.2.2 b.1) b) (metL (at_.1, at_.2.1) (beamF at_.2.2 b.1) b) c
def contS (at_ : PoseT) (s : List BeamT) (c : CellT) : Int × Int := ((s.map fun b => (contB at_ b c).1).sum, (s.map fun b => (contB at_ b c).2).sum)
theorem beams_val (at_ : PoseT) (c : CellT) : ∀ (s : List BeamT) {L : List EntT}, neT L → neT (s.foldl (beamT at_) L) ∧ valT (s.foldl (beamT at_) L) c = ((valT L c).1 + (contS at_ s c).1, (valT L c).2 + (contS at_ s c).2)
  | [], L, h => by
    refine ⟨h, ?_⟩
    simp [contS]
  | b :: s, L, h => by
    obtain ⟨h1, h2⟩ := steps_val (endsL (at_.1, at_.2.1) (beamF at_.2.2 b.1) b) c (metL (at_.1, at_.2.1) (beamF at_.2.2 b.1) b) h
    obtain ⟨h3, h4⟩ := beams_val at_ c s (L := beamT at_ L b) h1
    rw [List.foldl_cons]
    refine ⟨h3, ?_⟩
    rw [h4]
    have h2' : valT (beamT at_ L b) c = ((valT L c).1 + (contB at_ b c).1, (valT L c).2 + (contB at_ b c).2) := h2
    rw [h2']
    simp only [contS, List.map_cons, List.sum_cons]
    refine Prod.ext ?_ ?_ <;> (dsimp only; omega)
theorem of_ne (at_ : PoseT) (s : List BeamT) : neT (ofL at_ s) := (beams_val at_ (0, 0) s (L := []) (by simp [neT])).1
theorem of_val (at_ : PoseT) (s : List BeamT) (c : CellT) : valT (ofL at_ s) c = contS at_ s c := by
  have := (beams_val at_ c s (L := []) (by simp [neT])).2
  unfold ofL
  rw [this, valT_none (L := []) (by simp)]
  simp
theorem of_rep {at_ : PoseT} {s : List BeamT} {ys : List EntT} (hk : ofOk at_ s = true) (h : IsOf at_ s ys) : Rep (contS at_ s) ys := by
  unfold IsOf at h
  rw [if_pos hk] at h
  have e : ys = lstF (ofL at_ s) := h.unique (lstF_list (of_ne at_ s))
  rw [e]
  exact (rep_lst (of_ne at_ s)).congr fun c => of_val at_ s c
theorem ofOk_bd {at_ : PoseT} {s : List BeamT} (h : ofOk at_ s = true) : szB at_.1 262144 = true ∧ szB at_.2.1 262144 = true ∧ scanB s = true := by
  simp only [ofOk, Bool.and_eq_true] at h
  exact ⟨h.1.1.1.1, h.1.1.1.2, h.2⟩
theorem contB_met {at_ : PoseT} {b : BeamT} {c : CellT} (h : contB at_ b c ≠ (0, 0)) : c ∈ metL (at_.1, at_.2.1) (beamF at_.2.2 b.1) b := by
  apply Classical.byContradiction
  intro hn
  apply h
  unfold contB contE
  rw [List.count_eq_zero_of_not_mem hn]
  split <;> rfl
theorem contS_met {at_ : PoseT} {c : CellT} : ∀ {s : List BeamT}, contS at_ s c ≠ (0, 0) → ∃ b ∈ s, contB at_ b c ≠ (0, 0)
  | [], h => (h rfl).elim
  | b :: s, h => by
    by_cases hb : contB at_ b c = (0, 0)
    · have e : contS at_ (b :: s) c = contS at_ s c := by
        simp only [contS, List.map_cons, List.sum_cons, hb, Int.zero_add]
      rw [e] at h
      obtain ⟨x, hx, hc⟩ := contS_met h
      exact ⟨x, List.mem_cons_of_mem _ hx, hc⟩
    · exact ⟨b, by simp, hb⟩
theorem scan_mem {s : List BeamT} (h : scanB s = true) {b : BeamT} (hb : b ∈ s) : 0 ≤ b.1 ∧ b.1 < 256 ∧ -1 ≤ b.2 ∧ b.2 ≤ 1024 := by
  obtain ⟨k, hk, rfl⟩ := List.getElem_of_mem hb
  have := scan_ok h hk
  simp only [List.getD_eq_getElem?_getD, List.getElem?_eq_getElem hk, Option.getD_some] at this
  omega
theorem of_vE {at_ : PoseT} {s : List BeamT} {ys : List EntT} (hk : ofOk at_ s = true) (h : IsOf at_ s ys) : vE ys = true ∧ ∀ e ∈ ys, 0 ≤ e.2.2.1 ∧ 0 ≤ e.2.2.2 := by
  have hr := of_rep hk h
  obtain ⟨b1, b2, b3⟩ := ofOk_bd hk
  have hok := of_okT b1 b2 b3 s.length (Nat.le_refl _)
  rw [List.take_length] at hok
  have hs : s.length ≤ 32 := by
    simp only [scanB, Bool.and_eq_true, decide_eq_true_eq] at b3
    exact b3.1
  have hk' : OkT 320000 (ofL at_ s) := hok.mono (by omega)
  have hL : IsList (ofL at_ s) ys := by
    unfold IsOf at h
    rwa [if_pos hk] at h
  have hmem : ∀ e ∈ ys, e ∈ ofL at_ s ∧ zeroE e = false := fun e he => by
    have := hL.1.mem_iff.1 he
    rw [List.mem_filter] at this
    exact ⟨this.1, by simpa using this.2⟩
  refine ⟨asc_vE hr.1 (fun e he => ?_) ?_, fun e he => ?_⟩
  · obtain ⟨hz, hv⟩ := (hr.2 e).1 he
    have hb := hk'.bd e (hmem e he).1
    have hne : contS at_ s e.cell ≠ (0, 0) := by
      rw [hv]
      intro h0
      have e1 := (Prod.ext_iff.1 h0).1
      have e2 := (Prod.ext_iff.1 h0).2
      dsimp only at e1 e2
      unfold zeroE at hz
      rw [e1, e2] at hz
      cases hz
    obtain ⟨b, hbs, hc⟩ := contS_met hne
    have hm := scan_mem b3 hbs
    have hn := met_near b1 b2 ⟨hm.2.2.1, hm.2.2.2⟩ (contB_met hc)
    have n1 : -5000 ≤ e.1 ∧ e.1 ≤ 5000 := hn.1
    have n2 : -5000 ≤ e.2.1 ∧ e.2.1 ≤ 5000 := hn.2
    simp only [goodB, Bool.and_eq_true]
    refine ⟨⟨⟨?_, ?_⟩, ?_⟩, ?_⟩
    · simp only [countB, szB, Bool.and_eq_true, decide_eq_true_eq]
      omega
    · rw [Bool.not_eq_true']
      exact hz
    · simp only [szB, decide_eq_true_eq]
      omega
    · simp only [szB, decide_eq_true_eq]
      omega
  · have h1 := hL.1.length_eq
    have h2 := List.length_filter_le (fun e => !zeroE e) (ofL at_ s)
    have h3 := hk'.len
    omega
  · have hb := hk'.bd e (hmem e he).1
    omega
end Go.Proofs.YtadichckbogcjaaGreatDoor.En
namespace Go.Proofs.YtadichckbogcjaaGreatDoor.En
open Go.RowKit
set_option maxRecDepth 100000
theorem CallM.map {P : Program} {f : FuncId} {args : List SV} {pre : World → (Nat → Prop) → Prop} {os0 : List OB} {ι κ : Type} {x : ι → SV} {os1 : ι → List OB} {x' : κ → SV} {os1' : κ → List OB} (g : ι → κ) (hx : ∀ i, x i = x' (g i)) (ho : ∀ i, os1 i = os1' (g i)) (h : CallM P f args pre os0 x os1) : CallM P f args pre os0 x' os1' := by
  refine ⟨h.1, h.2.1, fun σ fp w hM hp => (h.2.2 σ fp w hM hp).mono ?_⟩
  rintro e w' ⟨i, σ', fp', h1, h2, h3⟩
  refine ⟨g i, σ', fp', ?_, ?_, ?_⟩
  · rw [h1, hx]
  · rw [← hx, ← ho]
    exact h2
  · rw [← ho]
    exact h3
def ofE (at_ : PoseT) (s : List BeamT) : List EntT × Int := if ofOk at_ s then (lstF (ofL at_ s), 0) else ([], 1)
theorem ofE_of {at_ : PoseT} {s : List BeamT} {ys : List EntT} (h : IsOf at_ s ys) : ys = (ofE at_ s).1 := by
  unfold ofE
  cases hk : ofOk at_ s with
  | true =>
    unfold IsOf at h
    rw [if_pos hk] at h
    rw [if_pos rfl]
    exact h.unique (lstF_list (of_ne at_ s))
  | false =>
    unfold IsOf at h
    rw [hk, if_neg (by simp)] at h
    rw [if_neg (by simp)]
    exact h
theorem ofE_is (at_ : PoseT) (s : List BeamT) : IsOf at_ s (ofE at_ s).1 := by
  unfold ofE IsOf
  cases hk : ofOk at_ s with
  | true =>
    rw [if_pos rfl, if_pos rfl]
    exact lstF_list (of_ne at_ s)
  | false => rfl
theorem ofE_code (at_ : PoseT) (s : List BeamT) : (ofE at_ s).2 = if ofOk at_ s then 0 else 1 := by
  unfold ofE
  split <;> rfl
theorem ofE_bad {at_ : PoseT} {s : List BeamT} (h : (ofE at_ s).2 ≠ 0) : (ofE at_ s).1 = [] ∧ (ofE at_ s).2 = 1 := by
  unfold ofE at h ⊢
  split
  · rename_i hk
    rw [if_pos hk] at h
    exact (h rfl).elim
  · exact ⟨rfl, rfl⟩
theorem ofE_len (at_ : PoseT) (s : List BeamT) : (ofE at_ s).1.length ≤ 1048576 := by
  cases hk : ofOk at_ s with
  | true => exact vE_length (of_vE hk (ofE_is at_ s)).1
  | false =>
    unfold ofE
    rw [hk]
    simp
theorem ofE_m (at_ : PoseT) (A : Option Addr) (c : Nat) (s : List BeamT) (els : List (List Value)) (he : s.map encB = els) {n : Nat} (hl : s.length = n) (hn : n ≤ maxLen) :
    CallM Tryz.prog 24 [.a [I at_.1, I at_.2.1, I at_.2.2], .v (.slice A n c)] (fun w M => ArgN w M A n 2 els) []
      (fun q : Option Addr × Nat => .t [.v (.slice q.1 (ofE at_ s).1.length q.2), I (ofE at_ s).2]) (fun q => [.row 34 4 q.1 (ofE at_ s).1.length q.2 ((ofE at_ s).1.map encE)]) := by
  subst he
  refine CallM.map (fun q : OfT at_ s => (q.1.1, q.1.2.1)) ?_ ?_ (of_m at_ A c s hl hn)
  · rintro ⟨⟨A1, c1, ys⟩, hy⟩
    dsimp only at hy ⊢
    rw [ofE_code, ofE_of hy]
  · rintro ⟨⟨A1, c1, ys⟩, hy⟩
    dsimp only at hy ⊢
    rw [ofE_of hy]
theorem ofE_rep {at_ : PoseT} {s : List BeamT} (h : ofOk at_ s = true) : Rep (contS at_ s) (ofE at_ s).1 ∧ vE (ofE at_ s).1 = true := ⟨of_rep h (ofE_is at_ s), (of_vE h (ofE_is at_ s)).1⟩
end Go.Proofs.YtadichckbogcjaaGreatDoor.En
namespace Go.Proofs.YtadichckbogcjaaGreatDoor.En
open Go.RowKit
theorem traced_nodup (p : PtT) (v : VecT) (lo hi : Int) : (tracedL p v lo hi).Nodup := sweep_nodup _ _ _ _
theorem count_of {l : List CellT} (h : l.Nodup) (c : CellT) : l.count c = if c ∈ l then 1 else 0 := h.count
theorem met_nodup (p : PtT) (v : VecT) (b : BeamT) : (metL p v b).Nodup := traced_nodup _ _ _ _
end Go.Proofs.YtadichckbogcjaaGreatDoor.En
end
section
namespace Go.Proofs.YtadichckbogcjaaGreatDoor.En
open Go.RowKit
set_option maxRecDepth 100000
end Go.Proofs.YtadichckbogcjaaGreatDoor.En
namespace Go.Proofs.YtadichckbogcjaaGreatDoor.En
open Go.RowKit
set_option maxRecDepth 100000
end Go.Proofs.YtadichckbogcjaaGreatDoor.En
namespace Go.Proofs.YtadichckbogcjaaGreatDoor.En
open Go.RowKit
set_option maxRecDepth 100000
end Go.Proofs.YtadichckbogcjaaGreatDoor.En
end
section
namespace Go.Proofs.YtadichckbogcjaaGreatDoor.En
open Go.RowKit
theorem ArgSl.of_SlO {w : World} {A : Option Addr} {n C : Nat} {V : Nat → Nat → Int} {α : Type} (enc : α → List Value) (f : Nat → α) (h : SlO w A n C V) (hC : 0 < C) (he : ∀ i, enc (f i) = (List.range C).map fun j => Value.int .i64 (V i j)) : ArgSl w A n C (((List.range n).map f).map enc) := by
  refine ⟨by simp, fun e hm => ?_, fun e hm v hv => ?_, fun hn => ?_⟩
  · obtain ⟨x, hx, rfl⟩ := List.mem_map.1 hm
    obtain ⟨i, _, rfl⟩ := List.mem_map.1 hx
    simp [he]
  · obtain ⟨x, hx, rfl⟩ := List.mem_map.1 hm
    obtain ⟨i, _, rfl⟩ := List.mem_map.1 hx
    rw [he] at hv
    obtain ⟨j, _, rfl⟩ := List.mem_map.1 hv
    rfl
  · rcases h with h | ⟨a, rfl, h⟩
    · exact (hn h).elim
    · obtain ⟨b, o, s⟩ := a
      have h0 := (h 0 (by omega) 0 hC).1
      have hs : s = none := by
        simp only [Nat.zero_mul, Addr.add, if_true] at h0
        unfold World.cell? at h0
        cases s with
        | none => rfl
        | some s =>
          exfalso
          simp only [Option.isSome_some, if_true] at h0
          revert h0
          split <;> intro h0 <;> cases h0
      subst hs
      refine ⟨b, o, rfl, fun i e hi j v hj => ?_⟩
      rw [List.getElem?_map, List.getElem?_map] at hi
      by_cases hin : i < n
      · rw [List.getElem?_range hin] at hi
        simp only [Option.map_some, Option.some.injEq] at hi
        subst hi
        rw [he, List.getElem?_map] at hj
        by_cases hjn : j < C
        · rw [List.getElem?_range hjn] at hj
          simp only [Option.map_some, Option.some.injEq] at hj
          subst hj
          have := (h i hin j hjn).1
          rw [Addr.add_mid, Addr.add_mid] at this
          exact this
        · rw [List.getElem?_eq_none (by simpa using hjn)] at hj
          cases hj
      · rw [List.getElem?_eq_none (by simpa using hin)] at hi
        cases hi
end Go.Proofs.YtadichckbogcjaaGreatDoor.En
end
section
namespace Go.Proofs.YtadichckbogcjaaGreatDoor
open Go.ChangeShapes Go.WideShapes Go.ChangeAt Go.RowKit Go.Joins Go.Deep
set_option maxRecDepth 100000
def En.scsW (w : World) (A : Option Addr) (n : Nat) (ss : List En.SlT) : Prop := En.ArgSl w A n 1 (ss.map fun s => [En.encS s]) ∧ ∀ s ∈ ss, En.ArgSl w s.1 s.2.2.length 2 (s.2.2.map En.encBm) ∧ s.2.2.length ≤ maxLen
theorem scan_cell {H : Type} {enc : TypeId × Value → H} {w : World} {base : Nat} {spare : Nat → Bool} {held : Bool} {fuel : Nat} {cs : List Value} {x : DataW H × List MemPlace} (h : DataW.trod enc Tryz.prog w base spare held fuel 59 cs = some x) :
    ∃ s : En.SlT, cs = [En.encS s] ∧ En.ArgSl w s.1 s.2.2.length 2 (s.2.2.map En.encBm) ∧ s.2.2.length ≤ maxLen := by
  have hflat : flatI Tryz.prog 4 98 = true := by kernel_rfl
  rcases open_sliceI Tryz.underlying59 hflat h with h2 | ⟨a, len, cap, V, h2, hle, hcap, hat⟩
  · exact ⟨(none, 0, []), h2, ⟨rfl, by simp, by simp, fun h => (h rfl).elim⟩, by simp [maxLen]⟩
  · have hC2 : Tryz.prog.cellsOf 98 = 2 := by kernel_rfl
    rw [hC2] at hat
    refine ⟨(some a, cap, (List.range len).map fun i => (V i 0, V i 1)), ?_, ?_, ?_⟩
    · rw [h2]
      simp [En.encS]
    · have := En.ArgSl.of_SlO En.encBm (fun i => (V i 0, V i 1)) (.inr ⟨a, rfl, hat⟩) (by decide) (fun i => rfl)
      simpa using this
    · simp
      omega
theorem open_scans {H : Type} {enc : TypeId × Value → H} {w : World} {base : Nat} {spare : Nat → Bool} {held : Bool} {r : Reach} {b0 : Nat} {v : Value} {d : DataW H} {p : List MemPlace} (hv : Value.okWide Tryz.prog w r b0 23 v) (h : DataW.Trod enc Tryz.prog w base spare held 23 v d p) :
    ∃ (A : Option Addr) (n c : Nat) (l : List En.SlT), v = .slice A n c ∧ n ≤ c ∧ c ≤ maxLen ∧ l.length = n ∧ En.scsW w A n l := by
  obtain ⟨a, len, cap, rfl⟩ := okWide_slice Tryz.underlying23 hv
  obtain ⟨fuel, hf⟩ := h
  rcases open_slice Tryz.underlying23 hf with h0 | ⟨ad, len', cap', m, k, D, Pl, hcs, hb, hl, hm, hmm, hx, hi⟩
  · have : Value.slice a len cap = .slice none 0 0 := by simpa [Value.cells] using h0.1
    exact ⟨none, 0, 0, [], this, Nat.le_refl _, by simp [maxLen], rfl, ⟨rfl, by simp, by simp, fun h => (h rfl).elim⟩, by simp⟩
  · have hval : Value.slice a len cap = .slice (some ad) len' cap' := by simpa [Value.cells] using hcs
    have hC : Tryz.prog.cellsOf 59 = 1 := by kernel_rfl
    rw [hC] at hi
    have hlm : len' ≤ m := by rw [hmm]; split <;> omega
    have hex : ∀ i, ∃ s : En.SlT, i < len' → w.cell? (ad.add (i * 1)) = some (En.encS s) ∧ En.ArgSl w s.1 s.2.2.length 2 (s.2.2.map En.encBm) ∧ s.2.2.length ≤ maxLen := by
      intro i
      by_cases h1 : i < len'
      · obtain ⟨cs', hc, ht'⟩ := hi i (by omega)
        obtain ⟨_, hcl, hat⟩ := World.cells?_some hc
        obtain ⟨s, ho, hs, hl2⟩ := scan_cell ht'
        refine ⟨s, fun _ => ⟨?_, hs, hl2⟩⟩
        have := hat 0 (by omega)
        rw [ho] at this
        have e2 : (ad.add (i * 1)).add 0 = ad.add (i * 1) := by unfold Addr.add; split <;> simp_all
        rw [e2] at this
        simpa using this
      · exact ⟨(none, 0, []), fun h => absurd h h1⟩
    obtain ⟨f, hfo⟩ := Classical.axiomOfChoice hex
    refine ⟨some ad, len', cap', (List.range len').map f, hval, hl, hm, by simp, ⟨by simp, ?_, ?_, ?_⟩, ?_⟩
    · intro e he
      obtain ⟨o, _, rfl⟩ := List.mem_map.1 he
      rfl
    · intro e he v hv'
      obtain ⟨o, _, rfl⟩ := List.mem_map.1 he
      simp [En.encS] at hv'
      rw [hv']
      rfl
    · intro hn
      obtain ⟨b, o, s⟩ := ad
      have h0 := (hfo 0 (by omega)).1
      have hs : s = none := by
        simp only [Nat.zero_mul, Addr.add] at h0
        unfold World.cell? at h0
        cases s with
        | none => rfl
        | some s =>
          exfalso
          simp [En.encS] at h0
          revert h0
          split <;> intro h0 <;> cases h0
      subst hs
      refine ⟨b, o, rfl, fun i e hi' j v hj => ?_⟩
      rw [List.getElem?_map, List.getElem?_map] at hi'
      by_cases hin : i < len'
      · rw [List.getElem?_range hin] at hi'
        simp only [Option.map_some, Option.some.injEq] at hi'
        subst hi'
        have hj0 : j = 0 := by
          have := (List.getElem?_eq_some_iff.1 hj).1
          simpa using this
        subst hj0
        have hv0 : En.encS (f i) = v := by simpa using hj
        have := (hfo i hin).1
        rw [hv0] at this
        have e : (⟨b, o, none⟩ : Addr).add (i * 1) = ⟨b, o + i * 1 + 0, none⟩ := by simp [Addr.add]
        exact (congrArg w.cell? e).symm.trans this
      · rw [List.getElem?_eq_none (by simpa using hin)] at hi'
        cases hi'
    · intro o ho
      obtain ⟨i, hi', rfl⟩ := List.mem_map.1 ho
      exact (hfo i (by simpa using hi')).2
end Go.Proofs.YtadichckbogcjaaGreatDoor
end
section
namespace Go.Proofs.YtadichckbogcjaaGreatDoor.En
open Go.RowKit
set_option maxRecDepth 100000
end Go.Proofs.YtadichckbogcjaaGreatDoor.En
end
section
namespace Go.Proofs.YtadichckbogcjaaGreatDoor.En
open Go.RowKit
set_option maxRecDepth 100000
def bsI (p : Nat → Bool) : Nat → Nat → Nat → Nat
  | 0, i, _ => i
  | f + 1, i, j => if i < j then (if p ((i + j) / 2) then bsI p f ((i + j) / 2 + 1) j else bsI p f i ((i + j) / 2)) else i
theorem bsI_end (p : Nat → Bool) (f i : Nat) : bsI p f i i = i := by cases f <;> simp [bsI]
theorem bsI_at (p : Nat → Bool) (m : Nat) : ∀ f i j, j - i ≤ f → i ≤ m → m ≤ j → (∀ k, k < m → p k = true) → (∀ k, m ≤ k → k < j → p k = false) → bsI p f i j = m
  | 0, i, j, h, h1, h2, _, _ => by simp [bsI]; omega
  | f + 1, i, j, h, h1, h2, ht, hf => by
    unfold bsI
    by_cases hij : i < j
    · rw [if_pos hij]
      by_cases hm : (i + j) / 2 < m
      · rw [ht _ hm, if_pos rfl]
        exact bsI_at p m f _ j (by omega) (by omega) h2 ht hf
      · rw [hf _ (by omega) (by omega), if_neg (by simp)]
        exact bsI_at p m f i _ (by omega) h1 (by omega) ht fun k h3 h4 => hf k h3 (by omega)
    · rw [if_neg hij]
      omega
theorem At1_d (e : EntT) (c : CellT) : PureD Tryz.prog 60 [.a [I e.1, I e.2.1, I e.2.2.1, I e.2.2.2], .a [I c.1, I c.2]] (I (cellI e.cell c)) := by
  refine PureD.of Tryz.func60 rfl tabOk rfl rfl rfl (by simp [SV.wfs, SV.wf]) (by simp [SV.wfs, SV.wf]) fun w => ?_
  (conv=>whnf);repeat' (first|((with_reducible refine isC ?_);first|((with_reducible refine CallX_d (compare_d (_, _) (_, _)) ?_)<;>first|omega|with_reducible refine isP ?_|conv=>whnf))|with_reducible exact rfl|((with_reducible first|refine xif_kt (by assumption) ?_|refine xif_kf (by assumption) ?_);conv=>whnf)|((with_reducible refine xif_s ?_ ?_)<;>(intro hb;(try simp (disch:=omega) only [hbS] at hb)<;>conv=>whnf)))
  exact Fin_d rfl rfl rfl trivial
def befP (l : List EntT) (c : CellT) (k : Nat) : Bool := decide (cellI (l.getD k e0).cell c < 0)
def bsE (l : List EntT) (c : CellT) : Nat := bsI (befP l c) l.length 0 l.length
def bsF (l : List EntT) (c : CellT) : Bool := decide (bsE l c < l.length) && decide (cellI (l.getD (bsE l c) e0).cell c = 0)
set_option maxHeartbeats 1000000 in
theorem BSF_v (A : Option Addr) (c : Nat) (l : List EntT) (x : CellT) {n : Nat} (hl : l.length = n) (hn : n ≤ 1000000000) :
    CallV Tryz.prog 59 [.v (.slice A n c), .a [I x.1, I x.2], .v (.func (.func 60) #[] #[])] (fun w => ArgSl w A n 4 (l.map encE)) (.t [I (bsE l x), B (bsF l x)]) := by
  refine CallV.of Tryz.func59 rfl tabOk rfl rfl rfl (by simp [SV.wfs, SV.wf]) (by simp [SV.wfs, SV.wf]) fun w hpre => ?_
  (conv=>whnf);repeat' (first|((with_reducible refine isW ?_;first|refine xwr_ok (by omega) (by omega) ?_|refine xwr_raw ?_);conv=>whnf)|((with_reducible refine isS ?_;refine xshr_1 ?_);conv=>whnf)|((with_reducible refine isK ?_;first|refine xcv_i64 (by omega) (by omega) ?_|refine xcv_u64 (by omega) (by omega) ?_|refine xcv_u8 (by omega) (by omega) ?_|refine xcv_raw ?_);conv=>whnf)|((first|refine DrawX_s tabOk folOk ?_|refine DrawS_i (by kernel_rfl) ?_|with_reducible refine andX_i ?_ ?_)<;>conv=>whnf)|with_reducible exact rfl|((with_reducible first|refine xif_kt (by assumption) ?_|refine xif_kf (by assumption) ?_);conv=>whnf)|((with_reducible refine xif_s ?_ ?_)<;>(intro hb;(try simp (disch:=omega) only [hbS] at hb)<;>conv=>whnf)))
  refine LoopX_inv tabOk (α := Nat × Nat) (fun p => p.1 ≤ p.2 ∧ p.2 ≤ n ∧ ∃ f, p.2 - p.1 ≤ f ∧ bsI (befP l x) f p.1 p.2 = bsE l x) (fun p => [(0, .v (.slice A n c)), (2, .v (.func (.func 60) #[] #[])), (4, .p 0 0), (8, I n), (9, I p.1), (10, I p.2)]) (fun _ => [.box 25 [I x.1, I x.2]]) (fun p => p.2 - p.1) (0, n) [0] ⟨Nat.zero_le _, Nat.le_refl _, n, by simp, by simp [bsE, hl]⟩ ?_ ?_
  · ((refine ⟨?_, ?_, ?_, ?_⟩) <;> (repeat' ((conv => whnf); apply And.intro)) <;> (try (first | exact trivial | decide)))
    all_goals first | rfl | exact fun _ _ h => h | simp [SV.wf, SV.wfs]
  · rintro ⟨i, j⟩ hk
    try dsimp only at hk ⊢
    obtain ⟨hij, hjn, f, hf, hr⟩ := hk
    (conv=>whnf);repeat' (first|((with_reducible refine isC ?_);first|((first|with_reducible refine CallX_d (At1_d (l.getD (((i : Int) + j) / 2).toNat e0) x) ?_|with_reducible refine CallX_d (At1_d (l.getD i e0) x) ?_)<;>first|omega|with_reducible refine isP ?_|conv=>whnf))|((with_reducible refine isV ?_);first|((first|refine ValX_index tabOk rfl (hpre.mem (by decide) rfl) rfl ?_ ?_ ?_|(with_reducible refine nat_idx ?_);refine ValX_loadEn _ _ (e0) tabOk rfl rfl rfl rfl (hpre.mem (by decide) rfl) ?_ ?_ ?_|refine ValX_loadE _ _ (e0) tabOk rfl rfl rfl rfl (hpre.mem (by decide) rfl) ?_ ?_ ?_)<;>first|rfl|omega|with_reducible refine isP ?_|conv=>whnf))|((with_reducible refine isW ?_;first|refine xwr_ok (by omega) (by omega) ?_|refine xwr_raw ?_);conv=>whnf)|((with_reducible refine isS ?_;refine xshr_1 ?_);conv=>whnf)|((with_reducible refine isK ?_;first|refine xcv_i64 (by omega) (by omega) ?_|refine xcv_u64 (by omega) (by omega) ?_|refine xcv_u8 (by omega) (by omega) ?_|refine xcv_raw ?_);conv=>whnf)|((first|refine DrawX_s tabOk folOk ?_|refine DrawS_i (by kernel_rfl) ?_|with_reducible refine andX_i ?_ ?_)<;>conv=>whnf)|with_reducible exact rfl|((with_reducible first|refine xif_kt (by assumption) ?_|refine xif_kf (by assumption) ?_);conv=>whnf)|((with_reducible refine xif_s ?_ ?_)<;>(intro hb;(try simp (disch:=omega) only [hbS] at hb)<;>conv=>whnf)))
    all_goals try (rw [show ((((i : Int) + j) / 2).toNat) = (i + j) / 2 by omega] at hb)
    · have hlt : i < j := by omega
      obtain ⟨f, rfl⟩ : ∃ f', f = f' + 1 := ⟨f - 1, by omega⟩
      have hp : befP l x ((i + j) / 2) = true := by simpa [befP] using hb
      rw [bsI, if_pos hlt, hp, if_pos rfl] at hr
      refine ⟨((i + j) / 2 + 1, j), [0], ⟨by (try dsimp only); omega, hjn, f, by (try dsimp only); omega, hr⟩, ?_, by (try dsimp only); omega⟩
      ((refine ⟨?_, ?_, ?_, ?_⟩) <;> (repeat' ((conv => whnf); apply And.intro)) <;> (try (first | exact trivial | decide)))
      all_goals first | rfl | exact fun _ _ h => h | exact I_eq (by omega) | simp [SV.wf, SV.wfs]
    · have hlt : i < j := by omega
      obtain ⟨f, rfl⟩ : ∃ f', f = f' + 1 := ⟨f - 1, by omega⟩
      have hp : befP l x ((i + j) / 2) = false := by simpa [befP] using hb
      rw [bsI, if_pos hlt, hp, if_neg (by simp)] at hr
      refine ⟨(i, (i + j) / 2), [0], ⟨by (try dsimp only); omega, by (try dsimp only); omega, f, by (try dsimp only); omega, hr⟩, ?_, by (try dsimp only); omega⟩
      ((refine ⟨?_, ?_, ?_, ?_⟩) <;> (repeat' ((conv => whnf); apply And.intro)) <;> (try (first | exact trivial | decide)))
      all_goals first | rfl | exact fun _ _ h => h | exact I_eq (by omega) | simp [SV.wf, SV.wfs]
    · obtain rfl : i = j := by omega
      rw [bsI_end] at hr
      refine Fin_d rfl rfl ?_ (by simp [SV.wf, SV.wfs])
      have hlt : bsE l x < l.length := by omega
      simp only [bsF, ← hr]
      rw [hr, decide_eq_true hlt, ← hr, Bool.true_and]
      rfl
    · obtain rfl : i = j := by omega
      rw [bsI_end] at hr
      refine Fin_d rfl rfl ?_ (by simp [SV.wf, SV.wfs])
      have hlt : ¬ bsE l x < l.length := by omega
      simp only [bsF, ← hr]
      rw [hr, decide_eq_false hlt, ← hr, Bool.false_and]
theorem bsF_lt {l : List EntT} {x : CellT} (h : bsF l x = true) : bsE l x < l.length := by
  simp only [bsF, Bool.and_eq_true, decide_eq_true_eq] at h
  exact h.1
def atE (l : List EntT) (x : CellT) : EntT := if bsF l x && vE l then l.getD (bsE l x) e0 else (x.1, x.2, 0, 0)
theorem At_v (A : Option Addr) (c : Nat) (l : List EntT) (x : CellT) {n : Nat} (hl : l.length = n) (hn : n ≤ 1000000000) :
    CallV Tryz.prog 25 [.v (.slice A n c), .a [I x.1, I x.2]] (fun w => ArgSl w A n 4 (l.map encE)) (.a [I (atE l x).1, I (atE l x).2.1, I (atE l x).2.2.1, I (atE l x).2.2.2]) := by
  have hlen := bsF_lt (l := l) (x := x)
  refine CallV.of Tryz.func25 rfl tabOk rfl rfl rfl (by simp [SV.wfs, SV.wf]) (by simp [SV.wfs, SV.wf]) fun w hpre => ?_
  (conv=>whnf);repeat' (first|((with_reducible refine isC ?_);first|(refine CallX_v (BSF_v A c l x hl hn) (hpre.mem (by decide) rfl) ?_; conv => whnf)|(refine CallX_v (Valid_v A c l hl (by unfold maxLen; omega)) (hpre.mem (by decide) rfl) ?_; conv => whnf))|((with_reducible refine isV ?_);first|((first|refine ValX_index tabOk rfl (hpre.mem (by decide) rfl) rfl ?_ ?_ ?_|(with_reducible refine nat_idx ?_);refine ValX_loadEn _ _ (e0) tabOk rfl rfl rfl rfl (hpre.mem (by decide) rfl) ?_ ?_ ?_|refine ValX_loadE _ _ (e0) tabOk rfl rfl rfl rfl (hpre.mem (by decide) rfl) ?_ ?_ ?_)<;>first|rfl|omega|with_reducible refine isP ?_|conv=>whnf))|with_reducible exact rfl|((with_reducible first|refine xif_kt (by assumption) ?_|refine xif_kf (by assumption) ?_);conv=>whnf)|((with_reducible refine xif_s ?_ ?_)<;>(intro hb;(try simp (disch:=omega) only [hbS] at hb)<;>conv=>whnf)))
  all_goals try (have := hlen ‹_›; omega)
  · refine Fin_d rfl rfl ?_ (by simp [SV.wf, SV.wfs])
    simp only [atE, hb, Bool.false_and, Bool.false_eq_true, if_false]
  · refine Fin_d rfl rfl ?_ (by simp [SV.wf, SV.wfs])
    simp only [atE, hb, Bool.and_false, Bool.false_eq_true, if_false]
  · rename_i h1
    refine Fin_d rfl rfl ?_ (by simp [SV.wf, SV.wfs])
    simp only [atE, hb, h1, Bool.and_self, if_true]
theorem cellI_zero (a b : CellT) : cellI a b = 0 ↔ a = b := by
  constructor
  · intro h
    simp only [cellI, orI, cmpI] at h
    refine Prod.ext ?_ ?_
    all_goals
      repeat' split at h
      all_goals omega
  · rintro rfl
    simp [cellI, orI, cmpI]
theorem befP_iff (l : List EntT) (c : CellT) (k : Nat) : befP l c k = befB (l.getD k e0).cell c := by
  rw [Bool.eq_iff_iff, befP, decide_eq_true_eq, cellI_neg]
theorem bsE_at {l : List EntT} (h : vE l = true) {x : CellT} {m : Nat} (hm : m ≤ l.length) (h1 : ∀ k, k < m → befB (l.getD k e0).cell x = true) (h2 : m < l.length → befB (l.getD m e0).cell x = false) : bsE l x = m := by
  unfold bsE
  refine bsI_at _ m _ _ _ (by omega) (Nat.zero_le _) hm (fun k hk => by rw [befP_iff]; exact h1 k hk) fun k hk hk' => ?_
  rw [befP_iff]
  have h3 := h2 (by omega)
  by_cases e : k = m
  · rw [e]; exact h3
  · have h4 := vE_asc h (show m < k by omega) hk'
    cases h5 : befB (l.getD k e0).cell x with
    | false => rfl
    | true => rw [befB_trans h4 h5] at h3; cases h3
theorem at_mem {l : List EntT} (h : vE l = true) {e : EntT} (he : e ∈ l) : atE l e.cell = e := by
  obtain ⟨m, hm, rfl⟩ := List.getElem_of_mem he
  have hg : l.getD m e0 = l[m] := by simp [hm]
  have hb : bsE l l[m].cell = m := bsE_at h (by omega) (fun k hk => by rw [← hg]; exact vE_asc h hk hm) (fun _ => by rw [hg]; exact befB_irr _)
  have hf : bsF l l[m].cell = true := by
    simp only [bsF, hb, hg]
    simp [hm, cellI_zero]
  simp only [atE, hf, h, Bool.and_self, if_true, hb, hg]
theorem at_none {l : List EntT} {x : CellT} (hx : ∀ e ∈ l, e.cell ≠ x) : atE l x = (x.1, x.2, 0, 0) := by
  unfold atE
  cases hf : bsF l x with
  | false => simp
  | true =>
    have hlt := bsF_lt hf
    simp only [bsF, Bool.and_eq_true, decide_eq_true_eq, cellI_zero] at hf
    refine (hx (l.getD (bsE l x) e0) ?_ hf.2).elim
    simp [hlt]
theorem at_bad {l : List EntT} {x : CellT} (h : vE l = false) : atE l x = (x.1, x.2, 0, 0) := by
  simp [atE, h]
end Go.Proofs.YtadichckbogcjaaGreatDoor.En
end
