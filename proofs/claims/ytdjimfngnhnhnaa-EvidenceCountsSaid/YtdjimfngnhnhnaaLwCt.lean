/- The walk of EvidenceCounts, and the plain law: per echo one to four hits, per beam without an echo at least one passed cell. -/
import Derived.Test.YtdjimfngnhnhnaaLwSt
import Derived.Test.YtdjimfngnhnhnaaFn
set_option linter.all false
namespace Go.Proofs.Ytdjimfngnhnhnaa.En
open Go.RowKit
set_option maxRecDepth 100000

/-! ### counts -/
def echoB (b : BeamT) : Bool := !decide (b.2 = -1)
def echoN (s : List BeamT) : Nat := s.countP echoB
theorem sum_ind (q : CellT → Prop) [DecidablePred q] (K : List CellT) : (K.map fun c => if q c then (1 : Int) else 0).sum = ((K.filter fun c => decide (q c)).length : Int) := by
  induction K with
  | nil => rfl
  | cons x K ih =>
    rw [List.map_cons, List.sum_cons, ih, List.filter_cons]
    by_cases h : q x
    · simp only [h, if_true, decide_true, List.length_cons]; omega
    · simp only [h, if_false, decide_false, Bool.false_eq_true]; omega
section
variable {a : PoseT} {K : List CellT}
theorem contB_hit {b : BeamT} (hp : ptB (a.1, a.2.1)) (hb : -1 ≤ b.2 ∧ b.2 ≤ 1024) (c : CellT) : (contB a b c).1 = if c ∈ endsL (a.1, a.2.1) (beamF a.2.2 b.1) b then 1 else 0 := by
  unfold contB contE
  split
  · rename_i h
    have := count_of (met_nodup (a.1, a.2.1) (beamF a.2.2 b.1) b) c
    rw [if_pos (ends_met hp (beam_vec _ _) hb h)] at this
    rw [this]
    rfl
  · rfl
theorem contB_pass {b : BeamT} (hb : b.2 < 0) (c : CellT) : (contB a b c).2 = if c ∈ metL (a.1, a.2.1) (beamF a.2.2 b.1) b then 1 else 0 := by
  unfold contB contE
  rw [ends_nil hb, if_neg (by simp)]
  have := count_of (met_nodup (a.1, a.2.1) (beamF a.2.2 b.1) b) c
  rw [this]
  split <;> rfl
theorem contB_nn (b : BeamT) (c : CellT) : 0 ≤ (contB a b c).1 ∧ 0 ≤ (contB a b c).2 := by
  unfold contB contE
  split <;> simp
theorem sum_nn {f : CellT → Int} (h : ∀ c, 0 ≤ f c) : ∀ K : List CellT, 0 ≤ (K.map f).sum
  | [] => Int.le_refl _
  | c :: K => by
    have := sum_nn h K
    have := h c
    rw [List.map_cons, List.sum_cons]
    omega
theorem beam_hits {b : BeamT} (hp : ptB (a.1, a.2.1)) (hb : -1 ≤ b.2 ∧ b.2 ≤ 1024) (hk : K.Nodup) (hm : ∀ c ∈ metL (a.1, a.2.1) (beamF a.2.2 b.1) b, c ∈ K) :
    (if echoB b then 1 else 0 : Int) ≤ (K.map fun c => (contB a b c).1).sum ∧ (K.map fun c => (contB a b c).1).sum ≤ 4 * (if echoB b then 1 else 0 : Int) ∧ 1 - (if echoB b then 1 else 0 : Int) ≤ (K.map fun c => (contB a b c).2).sum := by
  have hpv := beam_vec a.2.2 b.1
  have e1 : (K.map fun c => (contB a b c).1).sum = ((K.filter fun c => decide (c ∈ endsL (a.1, a.2.1) (beamF a.2.2 b.1) b)).length : Int) := by
    rw [← sum_ind]
    refine congrArg List.sum (List.map_congr_left fun c _ => contB_hit hp hb c)
  by_cases he : b.2 = -1
  · have h0 : echoB b = false := by simp [echoB, he]
    have e2 : (K.map fun c => (contB a b c).2).sum = ((K.filter fun c => decide (c ∈ metL (a.1, a.2.1) (beamF a.2.2 b.1) b)).length : Int) := by
      rw [← sum_ind]
      refine congrArg List.sum (List.map_congr_left fun c _ => contB_pass (by omega) c)
    rw [h0, e1, e2, ends_nil (by omega)]
    have hpos : 0 < (K.filter fun c => decide (c ∈ metL (a.1, a.2.1) (beamF a.2.2 b.1) b)).length := by
      have hq := met_ne hp hpv hb
      exact List.length_pos_of_mem (List.mem_filter.2 ⟨hm _ hq, by simp [hq]⟩)
    have hz : (K.filter fun c => decide (c ∈ ([] : List CellT))).length = 0 := by simp
    rw [hz]
    simp
    omega
  · have h1 : echoB b = true := by simp [echoB, he]
    have hnn := sum_nn (f := fun c => (contB a b c).2) (fun c => (contB_nn b c).2) K
    have g1 : (K.filter fun c => decide (c ∈ endsL (a.1, a.2.1) (beamF a.2.2 b.1) b)).length ≤ 4 := by
      refine Nat.le_trans (nodup_sub_len (hk.filter _) (m := endsL (a.1, a.2.1) (beamF a.2.2 b.1) b) fun c hc => ?_) (ends_le hp hpv hb)
      simpa using (List.mem_filter.1 hc).2
    have g2 : 1 ≤ (K.filter fun c => decide (c ∈ endsL (a.1, a.2.1) (beamF a.2.2 b.1) b)).length := by
      obtain ⟨c, hc⟩ := List.exists_mem_of_length_pos (ends_ne hp hpv hb (by omega))
      exact List.length_pos_of_mem (List.mem_filter.2 ⟨hm _ (ends_met hp hpv hb hc), by simp [hc]⟩)
    rw [h1, e1]
    simp only [if_true]
    omega
theorem contS_cons {b : BeamT} {s : List BeamT} {c : CellT} : (contS a (b :: s) c).1 = (contB a b c).1 + (contS a s c).1 ∧ (contS a (b :: s) c).2 = (contB a b c).2 + (contS a s c).2 := by
  constructor <;> simp only [contS, List.map_cons, List.sum_cons]
theorem sum_add {f g : CellT → Int} : ∀ K : List CellT, (K.map fun c => f c + g c).sum = (K.map f).sum + (K.map g).sum
  | [] => rfl
  | c :: K => by
    rw [List.map_cons, List.sum_cons, sum_add K, List.map_cons, List.sum_cons, List.map_cons, List.sum_cons]
    omega
theorem scan_hits (hp : ptB (a.1, a.2.1)) (hk : K.Nodup) : ∀ {s : List BeamT}, (∀ b ∈ s, -1 ≤ b.2 ∧ b.2 ≤ 1024) → (∀ b ∈ s, ∀ c ∈ metL (a.1, a.2.1) (beamF a.2.2 b.1) b, c ∈ K) →
    (echoN s : Int) ≤ (K.map fun c => (contS a s c).1).sum ∧ (K.map fun c => (contS a s c).1).sum ≤ 4 * (echoN s : Int) ∧ (s.length : Int) - echoN s ≤ (K.map fun c => (contS a s c).2).sum
  | [], _, _ => by
    have : ∀ K : List CellT, (K.map fun _ => (0 : Int)).sum = 0 := by
      intro K
      induction K with
      | nil => rfl
      | cons x K ih => rw [List.map_cons, List.sum_cons, ih]; rfl
    have e1 : (K.map fun c => (contS a [] c).1).sum = 0 := this K
    have e2 : (K.map fun c => (contS a [] c).2).sum = 0 := this K
    rw [e1, e2]
    simp [echoN]
  | b :: s, h1, h2 => by
    obtain ⟨g1, g2, g3⟩ := beam_hits hp (h1 b (List.mem_cons_self ..)) hk (h2 b (List.mem_cons_self ..))
    obtain ⟨i1, i2, i3⟩ := scan_hits hp hk (s := s) (fun x hx => h1 x (List.mem_cons_of_mem _ hx)) fun x hx => h2 x (List.mem_cons_of_mem _ hx)
    have e1 : (K.map fun c => (contS a (b :: s) c).1).sum = (K.map fun c => (contB a b c).1).sum + (K.map fun c => (contS a s c).1).sum := by
      rw [← sum_add]
      exact congrArg List.sum (List.map_congr_left fun c _ => contS_cons.1)
    have e2 : (K.map fun c => (contS a (b :: s) c).2).sum = (K.map fun c => (contB a b c).2).sum + (K.map fun c => (contS a s c).2).sum := by
      rw [← sum_add]
      exact congrArg List.sum (List.map_congr_left fun c _ => contS_cons.2)
    rw [e1, e2]
    unfold echoN at *
    rw [List.countP_cons, List.length_cons]
    cases he : echoB b <;> simp only [he, if_true, if_false, Bool.false_eq_true] at g1 g2 g3 ⊢ <;> omega
end
theorem asc_cells {l : List EntT} (h : asc l) : (l.map fun e => e.cell).Nodup := by
  unfold List.Nodup
  rw [List.pairwise_map]
  refine List.Pairwise.imp (fun {x y} hxy => ?_) h
  intro he
  rw [he, befB_irr] at hxy
  cases hxy
theorem of_counts {a : PoseT} {s : List BeamT} (h : ofOk a s = true) :
    vE (ofE a s).1 = true ∧ (echoN s : Int) ≤ (totE (ofE a s).1).1 ∧ (totE (ofE a s).1).1 ≤ 4 * (echoN s : Int) ∧ (s.length : Int) - echoN s ≤ (totE (ofE a s).1).2 ∧ decide ((0 : Int) < ((ofE a s).1.length : Int)) = decide ((0 : Int) < (s.length : Int)) ∧
      ∀ e ∈ (ofE a s).1, 0 ≤ e.2.2.1 ∧ 0 ≤ e.2.2.2 := by
  have hp := ofOk_pt h
  obtain ⟨hr, hv⟩ := ofE_rep h
  have hnn := (of_vE h (ofE_is a s)).2
  have hcell : ∀ e ∈ (ofE a s).1, contS a s e.cell = (e.2.2.1, e.2.2.2) := fun e he => ((hr.2 e).1 he).2
  have hin : ∀ b ∈ s, ∀ c ∈ metL (a.1, a.2.1) (beamF a.2.2 b.1) b, c ∈ (ofE a s).1.map fun e => e.cell := by
    intro b hb c hc
    refine List.mem_map.2 ⟨(c.1, c.2, (contS a s c).1, (contS a s c).2), (hr.2 _).2 ⟨?_, rfl⟩, rfl⟩
    rw [Bool.eq_false_iff]
    intro hz
    simp only [zeroE, Bool.and_eq_true, decide_eq_true_eq] at hz
    have hge : ∀ {s : List BeamT}, b ∈ s → 1 ≤ (contS a s c).1 + (contS a s c).2 := by
      intro s
      induction s with
      | nil => intro hb; cases hb
      | cons x s ih =>
        intro hb
        have n1 := contB_nn (a := a) x c
        have n2 := contS_nn a c s
        have e1 : (contS a (x :: s) c).1 = (contB a x c).1 + (contS a s c).1 := contS_cons.1
        have e2 : (contS a (x :: s) c).2 = (contB a x c).2 + (contS a s c).2 := contS_cons.2
        rw [e1, e2]
        rcases List.mem_cons.1 hb with rfl | hb
        · have := contB_sum hc
          omega
        · have := ih hb
          omega
    have := hge hb
    omega
  obtain ⟨g1, g2, g3⟩ := scan_hits (K := (ofE a s).1.map fun e => e.cell) hp (asc_cells hr.1) (fun b hb => ofOk_beam h hb) hin
  have e1 : sumB hitE (ofE a s).1 = (((ofE a s).1.map fun e => e.cell).map fun c => (contS a s c).1).sum := by
    unfold sumB
    rw [List.map_map]
    refine congrArg List.sum (List.map_congr_left fun e he => ?_)
    simp only [Function.comp, hcell e he, hitE]
  have e2 : sumB passE (ofE a s).1 = (((ofE a s).1.map fun e => e.cell).map fun c => (contS a s c).2).sum := by
    unfold sumB
    rw [List.map_map]
    refine congrArg List.sum (List.map_congr_left fun e he => ?_)
    simp only [Function.comp, hcell e he, passE]
  have et : totE (ofE a s).1 = (sumB hitE (ofE a s).1, sumB passE (ofE a s).1) := by unfold totE; rw [if_pos hv]
  rw [et, e1, e2]
  refine ⟨hv, g1, g2, g3, ?_, hnn⟩
  cases s with
  | nil =>
    have : (ofE a []).1 = [] := by
      refine List.eq_nil_iff_forall_not_mem.2 fun e he => ?_
      have h1 := (hr.2 e).1 he
      have h2 : contS a [] e.cell = (0, 0) := rfl
      rw [h2] at h1
      obtain ⟨h3, h4⟩ := h1
      obtain ⟨h5, h6⟩ := Prod.mk.inj h4
      rw [Bool.eq_false_iff] at h3
      refine h3 ?_
      simp only [zeroE, ← h5, ← h6]
      rfl
    rw [this]
    rfl
  | cons b s =>
    have := List.length_pos_of_mem (hin b (List.mem_cons_self ..) _ (met_ne hp (beam_vec _ _) (ofOk_beam h (List.mem_cons_self ..))))
    rw [List.length_map] at this
    have l1 : decide ((0 : Int) < ((ofE a (b :: s)).1.length : Int)) = true := by rw [decide_eq_true_eq]; omega
    have l2 : decide ((0 : Int) < ((b :: s).length : Int)) = true := by rw [decide_eq_true_eq, List.length_cons]; omega
    rw [l1, l2]

/-! ### the walk -/
theorem rBeam_x (b : BeamT) : PureX Try.prog 82 [.a [I b.1, I b.2]] (B (!wrongB b)) := by
  refine PureX.of Try.func82 rfl tabOk rfl rfl rfl (by simp [SV.wfs, SV.wf]) (by simp [SV.wfs, SV.wf]) fun w => ?_
  (conv => whnf); repeat' (first | ((with_reducible refine isO ?_); first | ((refine OpX_build0 tabOk rfl rfl rfl ?_); intro bN; conv => whnf) | ((refine OpX_build tabOk rfl rfl rfl rfl rfl ?_); intro bN; conv => whnf)) | ((with_reducible refine isW ?_); first | ((with_reducible refine xwr_ok (by omega) (by omega) ?_); conv => whnf) | ((with_reducible refine xwr_raw ?_); conv => whnf)) | ((with_reducible refine isQ ?_); first | ((with_reducible refine xquo_nn (by omega) (by omega) (by omega) ?_); conv => whnf) | ((with_reducible refine xquo_ok (by omega) (by omega) (by omega) ?_); conv => whnf) | ((with_reducible refine xquo_raw (by omega) ?_); conv => whnf)) | ((with_reducible refine isR ?_); first | ((with_reducible refine xrem_nn (by omega) (by omega) ?_); conv => whnf) | ((with_reducible refine xrem_raw (by omega) ?_); conv => whnf)) | ((with_reducible refine isS ?_); first | ((with_reducible refine xshr_1 ?_); conv => whnf)) | ((with_reducible refine isK ?_); first | ((with_reducible refine xcv_i64 (by omega) (by omega) ?_); conv => whnf) | ((with_reducible refine xcv_u64 (by omega) (by omega) ?_); conv => whnf) | ((with_reducible refine xcv_u8 (by omega) (by omega) ?_); conv => whnf) | ((with_reducible refine xcv_raw ?_); conv => whnf)) | ((with_reducible refine need_i ?_ ?_) <;> first | omega | (conv => whnf)) | ((refine DrawX_s tabOk folOk ?_); conv => whnf) | ((refine DrawS_i (by kernel_rfl) ?_); conv => whnf) | ((with_reducible refine andX_i ?_ ?_) <;> (conv => whnf)) | (with_reducible exact rfl) | ((with_reducible refine xif_kt (by with_reducible assumption) ?_); conv => whnf) | ((with_reducible refine xif_kf (by with_reducible assumption) ?_); conv => whnf) | (((with_reducible refine xif_s ?_ ?_) <;> (intro hb; (try simp (disch := omega) only [wr, ge_dec, gt_dec, decide_eq_true_eq, decide_eq_false_iff_not, beq_iff_eq, bne_iff_ne, beq_eq_false_iff_ne, bne_eq_false_iff_eq, Bool.not_eq_true', Bool.not_eq_false', Bool.and_eq_true, Bool.or_eq_true, Bool.not_not, ne_eq, Decidable.not_not, Int.not_le, Int.not_lt, Int.toNat_natCast, not_true_eq_false, eq_self, Bool.not_true, Bool.not_false, Bool.true_eq_false, Bool.false_eq_true] at hb))) <;> (conv => whnf)))
  all_goals refine Fin_pure rfl (B_eq ?_) trivial
  all_goals first
    | (simp [wrongB, hb]; done)
    | (rw [Bool.eq_iff_iff]; simp [wrongB]; omega)
theorem rScan_w (A : Option Addr) (c : Nat) (l : List BeamT) {n : Nat} (hl : l.length = n) (hn : n ≤ maxLen) :
    CallW Try.prog 30 [.v (.slice A n c)] (fun w => ArgSl w A n 2 (l.map encB)) (B (scanB l)) := by
  unfold maxLen at hn
  refine CallW.of Try.func30 rfl tabOk rfl rfl rfl (by simp [SV.wfs, SV.wf]) (by simp [SV.wfs, SV.wf]) fun w hpre => ?_
  (conv => whnf); repeat' (first | ((with_reducible refine isO ?_); first | ((refine OpX_build0 tabOk rfl rfl rfl ?_); intro bN; conv => whnf) | ((refine OpX_build tabOk rfl rfl rfl rfl rfl ?_); intro bN; conv => whnf)) | ((with_reducible refine isW ?_); first | ((with_reducible refine xwr_ok (by omega) (by omega) ?_); conv => whnf) | ((with_reducible refine xwr_raw ?_); conv => whnf)) | ((with_reducible refine isQ ?_); first | ((with_reducible refine xquo_nn (by omega) (by omega) (by omega) ?_); conv => whnf) | ((with_reducible refine xquo_ok (by omega) (by omega) (by omega) ?_); conv => whnf) | ((with_reducible refine xquo_raw (by omega) ?_); conv => whnf)) | ((with_reducible refine isR ?_); first | ((with_reducible refine xrem_nn (by omega) (by omega) ?_); conv => whnf) | ((with_reducible refine xrem_raw (by omega) ?_); conv => whnf)) | ((with_reducible refine isS ?_); first | ((with_reducible refine xshr_1 ?_); conv => whnf)) | ((with_reducible refine isK ?_); first | ((with_reducible refine xcv_i64 (by omega) (by omega) ?_); conv => whnf) | ((with_reducible refine xcv_u64 (by omega) (by omega) ?_); conv => whnf) | ((with_reducible refine xcv_u8 (by omega) (by omega) ?_); conv => whnf) | ((with_reducible refine xcv_raw ?_); conv => whnf)) | ((with_reducible refine need_i ?_ ?_) <;> first | omega | (conv => whnf)) | ((refine DrawX_s tabOk folOk ?_); conv => whnf) | ((refine DrawS_i (by kernel_rfl) ?_); conv => whnf) | ((with_reducible refine andX_i ?_ ?_) <;> (conv => whnf)) | (with_reducible exact rfl) | ((with_reducible refine xif_kt (by with_reducible assumption) ?_); conv => whnf) | ((with_reducible refine xif_kf (by with_reducible assumption) ?_); conv => whnf) | (((with_reducible refine xif_s ?_ ?_) <;> (intro hb; (try simp (disch := omega) only [wr, ge_dec, gt_dec, decide_eq_true_eq, decide_eq_false_iff_not, beq_iff_eq, bne_iff_ne, beq_eq_false_iff_ne, bne_eq_false_iff_eq, Bool.not_eq_true', Bool.not_eq_false', Bool.and_eq_true, Bool.or_eq_true, Bool.not_not, ne_eq, Decidable.not_not, Int.not_le, Int.not_lt, Int.toNat_natCast, not_true_eq_false, eq_self, Bool.not_true, Bool.not_false, Bool.true_eq_false, Bool.false_eq_true] at hb))) <;> (conv => whnf)))
  · refine Fin_pure rfl (B_eq ?_) trivial
    unfold scanB
    rw [decide_eq_false (by omega)]
    rfl
  · refine LoopX_inv tabOk (α := Nat) (fun k => k ≤ n ∧ ∀ j, j < k → wrongB (l.getD j b0) = false) (fun k => [(0, .v (.slice A n c)), (3, I k)]) (fun _ => []) (fun k => n - k) 0 [] ⟨Nat.zero_le _, fun i hi => by omega⟩ ?_ ?_
    · ((refine ⟨?_, ?_, ?_, ?_⟩) <;> (repeat' ((conv => whnf); apply And.intro)) <;> (try (first | exact trivial | decide)))
      all_goals first | rfl | exact fun _ _ h => h | simp [SV.wf, SV.wfs]
    · rintro k ⟨hk, hall⟩
      by_cases hlt : k < n
      · have hx := rBeam_x (l.getD k b0)
        cases hw : wrongB (l.getD k b0) with
        | true =>
          rw [hw] at hx
          (conv => whnf); repeat' (first | ((with_reducible refine isC ?_); first | ((with_reducible refine CallX_pure (hx) ?_) <;> first | omega | (with_reducible show (_ : Int) ≤ _) | (with_reducible show (_ : Int) < _) | (with_reducible show (_ : Nat) ≤ _) | (with_reducible show (_ : Nat) < _) | (conv => whnf))) | ((with_reducible refine isV ?_); first | ((refine ValX_index tabOk rfl (hpre.mem (by decide) rfl) rfl ?_ ?_ ?_) <;> first | omega | (with_reducible show (_ : Int) ≤ _) | (with_reducible show (_ : Int) < _) | (with_reducible show (_ : Nat) ≤ _) | (with_reducible show (_ : Nat) < _) | (conv => whnf)) | ((with_reducible refine nat_idx ?_); (refine ValX_loadEn _ _ (b0) tabOk rfl rfl rfl rfl (hpre.mem (by decide) rfl) ?_ ?_ ?_) <;> first | rfl | omega | (with_reducible show (_ : Int) ≤ _) | (with_reducible show (_ : Int) < _) | (with_reducible show (_ : Nat) ≤ _) | (with_reducible show (_ : Nat) < _) | (conv => whnf)) | ((refine ValX_loadE _ _ (b0) tabOk rfl rfl rfl rfl (hpre.mem (by decide) rfl) ?_ ?_ ?_) <;> first | rfl | omega | (with_reducible show (_ : Int) ≤ _) | (with_reducible show (_ : Int) < _) | (with_reducible show (_ : Nat) ≤ _) | (with_reducible show (_ : Nat) < _) | (conv => whnf))) | ((with_reducible refine isO ?_); first | ((refine OpX_build0 tabOk rfl rfl rfl ?_); intro bN; conv => whnf) | ((refine OpX_build tabOk rfl rfl rfl rfl rfl ?_); intro bN; conv => whnf)) | ((with_reducible refine isW ?_); first | ((with_reducible refine xwr_ok (by omega) (by omega) ?_); conv => whnf) | ((with_reducible refine xwr_raw ?_); conv => whnf)) | ((with_reducible refine isQ ?_); first | ((with_reducible refine xquo_nn (by omega) (by omega) (by omega) ?_); conv => whnf) | ((with_reducible refine xquo_ok (by omega) (by omega) (by omega) ?_); conv => whnf) | ((with_reducible refine xquo_raw (by omega) ?_); conv => whnf)) | ((with_reducible refine isR ?_); first | ((with_reducible refine xrem_nn (by omega) (by omega) ?_); conv => whnf) | ((with_reducible refine xrem_raw (by omega) ?_); conv => whnf)) | ((with_reducible refine isS ?_); first | ((with_reducible refine xshr_1 ?_); conv => whnf)) | ((with_reducible refine isK ?_); first | ((with_reducible refine xcv_i64 (by omega) (by omega) ?_); conv => whnf) | ((with_reducible refine xcv_u64 (by omega) (by omega) ?_); conv => whnf) | ((with_reducible refine xcv_u8 (by omega) (by omega) ?_); conv => whnf) | ((with_reducible refine xcv_raw ?_); conv => whnf)) | ((with_reducible refine need_i ?_ ?_) <;> first | omega | (conv => whnf)) | ((refine DrawX_s tabOk folOk ?_); conv => whnf) | ((refine DrawS_i (by kernel_rfl) ?_); conv => whnf) | ((with_reducible refine andX_i ?_ ?_) <;> (conv => whnf)) | (with_reducible exact rfl) | ((with_reducible refine xif_kt (by with_reducible assumption) ?_); conv => whnf) | ((with_reducible refine xif_kf (by with_reducible assumption) ?_); conv => whnf) | (((with_reducible refine xif_s ?_ ?_) <;> (intro hb; (try simp (disch := omega) only [wr, ge_dec, gt_dec, decide_eq_true_eq, decide_eq_false_iff_not, beq_iff_eq, bne_iff_ne, beq_eq_false_iff_ne, bne_eq_false_iff_eq, Bool.not_eq_true', Bool.not_eq_false', Bool.and_eq_true, Bool.or_eq_true, Bool.not_not, ne_eq, Decidable.not_not, Int.not_le, Int.not_lt, Int.toNat_natCast, not_true_eq_false, eq_self, Bool.not_true, Bool.not_false, Bool.true_eq_false, Bool.false_eq_true] at hb))) <;> (conv => whnf)))
          all_goals try (exfalso; omega)
          refine Fin_pure rfl (B_eq ?_) trivial
          have hany : l.any wrongB = true := List.any_eq_true.2 ⟨l.getD k b0, by simp [hl, hlt], hw⟩
          unfold scanB
          rw [hany]
          simp
        | false =>
          rw [hw] at hx
          (conv => whnf); repeat' (first | ((with_reducible refine isC ?_); first | ((with_reducible refine CallX_pure (hx) ?_) <;> first | omega | (with_reducible show (_ : Int) ≤ _) | (with_reducible show (_ : Int) < _) | (with_reducible show (_ : Nat) ≤ _) | (with_reducible show (_ : Nat) < _) | (conv => whnf))) | ((with_reducible refine isV ?_); first | ((refine ValX_index tabOk rfl (hpre.mem (by decide) rfl) rfl ?_ ?_ ?_) <;> first | omega | (with_reducible show (_ : Int) ≤ _) | (with_reducible show (_ : Int) < _) | (with_reducible show (_ : Nat) ≤ _) | (with_reducible show (_ : Nat) < _) | (conv => whnf)) | ((with_reducible refine nat_idx ?_); (refine ValX_loadEn _ _ (b0) tabOk rfl rfl rfl rfl (hpre.mem (by decide) rfl) ?_ ?_ ?_) <;> first | rfl | omega | (with_reducible show (_ : Int) ≤ _) | (with_reducible show (_ : Int) < _) | (with_reducible show (_ : Nat) ≤ _) | (with_reducible show (_ : Nat) < _) | (conv => whnf)) | ((refine ValX_loadE _ _ (b0) tabOk rfl rfl rfl rfl (hpre.mem (by decide) rfl) ?_ ?_ ?_) <;> first | rfl | omega | (with_reducible show (_ : Int) ≤ _) | (with_reducible show (_ : Int) < _) | (with_reducible show (_ : Nat) ≤ _) | (with_reducible show (_ : Nat) < _) | (conv => whnf))) | ((with_reducible refine isO ?_); first | ((refine OpX_build0 tabOk rfl rfl rfl ?_); intro bN; conv => whnf) | ((refine OpX_build tabOk rfl rfl rfl rfl rfl ?_); intro bN; conv => whnf)) | ((with_reducible refine isW ?_); first | ((with_reducible refine xwr_ok (by omega) (by omega) ?_); conv => whnf) | ((with_reducible refine xwr_raw ?_); conv => whnf)) | ((with_reducible refine isQ ?_); first | ((with_reducible refine xquo_nn (by omega) (by omega) (by omega) ?_); conv => whnf) | ((with_reducible refine xquo_ok (by omega) (by omega) (by omega) ?_); conv => whnf) | ((with_reducible refine xquo_raw (by omega) ?_); conv => whnf)) | ((with_reducible refine isR ?_); first | ((with_reducible refine xrem_nn (by omega) (by omega) ?_); conv => whnf) | ((with_reducible refine xrem_raw (by omega) ?_); conv => whnf)) | ((with_reducible refine isS ?_); first | ((with_reducible refine xshr_1 ?_); conv => whnf)) | ((with_reducible refine isK ?_); first | ((with_reducible refine xcv_i64 (by omega) (by omega) ?_); conv => whnf) | ((with_reducible refine xcv_u64 (by omega) (by omega) ?_); conv => whnf) | ((with_reducible refine xcv_u8 (by omega) (by omega) ?_); conv => whnf) | ((with_reducible refine xcv_raw ?_); conv => whnf)) | ((with_reducible refine need_i ?_ ?_) <;> first | omega | (conv => whnf)) | ((refine DrawX_s tabOk folOk ?_); conv => whnf) | ((refine DrawS_i (by kernel_rfl) ?_); conv => whnf) | ((with_reducible refine andX_i ?_ ?_) <;> (conv => whnf)) | (with_reducible exact rfl) | ((with_reducible refine xif_kt (by with_reducible assumption) ?_); conv => whnf) | ((with_reducible refine xif_kf (by with_reducible assumption) ?_); conv => whnf) | (((with_reducible refine xif_s ?_ ?_) <;> (intro hb; (try simp (disch := omega) only [wr, ge_dec, gt_dec, decide_eq_true_eq, decide_eq_false_iff_not, beq_iff_eq, bne_iff_ne, beq_eq_false_iff_ne, bne_eq_false_iff_eq, Bool.not_eq_true', Bool.not_eq_false', Bool.and_eq_true, Bool.or_eq_true, Bool.not_not, ne_eq, Decidable.not_not, Int.not_le, Int.not_lt, Int.toNat_natCast, not_true_eq_false, eq_self, Bool.not_true, Bool.not_false, Bool.true_eq_false, Bool.false_eq_true] at hb))) <;> (conv => whnf)))
          all_goals try (exfalso; omega)
          refine ⟨k + 1, [], ⟨by omega, fun j hj => ?_⟩, ?_, by (try dsimp only); omega⟩
          · by_cases hjk : j = k
            · rw [hjk]; exact hw
            · exact hall j (by omega)
          · ((refine ⟨?_, ?_, ?_, ?_⟩) <;> (repeat' ((conv => whnf); apply And.intro)) <;> (try (first | exact trivial | decide)))
            all_goals first | rfl | exact fun _ _ h => h | (simp [SV.wf, SV.wfs]; done) | trace_state
      · obtain rfl : k = n := by omega
        (conv => whnf); repeat' (first | ((with_reducible refine isO ?_); first | ((refine OpX_build0 tabOk rfl rfl rfl ?_); intro bN; conv => whnf) | ((refine OpX_build tabOk rfl rfl rfl rfl rfl ?_); intro bN; conv => whnf)) | ((with_reducible refine isW ?_); first | ((with_reducible refine xwr_ok (by omega) (by omega) ?_); conv => whnf) | ((with_reducible refine xwr_raw ?_); conv => whnf)) | ((with_reducible refine isQ ?_); first | ((with_reducible refine xquo_nn (by omega) (by omega) (by omega) ?_); conv => whnf) | ((with_reducible refine xquo_ok (by omega) (by omega) (by omega) ?_); conv => whnf) | ((with_reducible refine xquo_raw (by omega) ?_); conv => whnf)) | ((with_reducible refine isR ?_); first | ((with_reducible refine xrem_nn (by omega) (by omega) ?_); conv => whnf) | ((with_reducible refine xrem_raw (by omega) ?_); conv => whnf)) | ((with_reducible refine isS ?_); first | ((with_reducible refine xshr_1 ?_); conv => whnf)) | ((with_reducible refine isK ?_); first | ((with_reducible refine xcv_i64 (by omega) (by omega) ?_); conv => whnf) | ((with_reducible refine xcv_u64 (by omega) (by omega) ?_); conv => whnf) | ((with_reducible refine xcv_u8 (by omega) (by omega) ?_); conv => whnf) | ((with_reducible refine xcv_raw ?_); conv => whnf)) | ((with_reducible refine need_i ?_ ?_) <;> first | omega | (conv => whnf)) | ((refine DrawX_s tabOk folOk ?_); conv => whnf) | ((refine DrawS_i (by kernel_rfl) ?_); conv => whnf) | ((with_reducible refine andX_i ?_ ?_) <;> (conv => whnf)) | (with_reducible exact rfl) | ((with_reducible refine xif_kt (by with_reducible assumption) ?_); conv => whnf) | ((with_reducible refine xif_kf (by with_reducible assumption) ?_); conv => whnf) | (((with_reducible refine xif_s ?_ ?_) <;> (intro hb; (try simp (disch := omega) only [wr, ge_dec, gt_dec, decide_eq_true_eq, decide_eq_false_iff_not, beq_iff_eq, bne_iff_ne, beq_eq_false_iff_ne, bne_eq_false_iff_eq, Bool.not_eq_true', Bool.not_eq_false', Bool.and_eq_true, Bool.or_eq_true, Bool.not_not, ne_eq, Decidable.not_not, Int.not_le, Int.not_lt, Int.toNat_natCast, not_true_eq_false, eq_self, Bool.not_true, Bool.not_false, Bool.true_eq_false, Bool.false_eq_true] at hb))) <;> (conv => whnf)))
        all_goals try (exfalso; omega)
        refine Fin_pure rfl (B_eq ?_) trivial
        have hany : l.any wrongB = false := by
          rw [List.any_eq_false]
          intro b hbm
          obtain ⟨i, hi, rfl⟩ := List.getElem_of_mem hbm
          have := hall i (by omega)
          simp only [List.getD_eq_getElem?_getD, List.getElem?_eq_getElem hi, Option.getD_some] at this
          rw [this]
          simp
        unfold scanB
        rw [hany, decide_eq_true (by omega)]
        rfl
theorem echo_next {s : List BeamT} {k : Nat} (hk : k < s.length) : echoN (s.take (k + 1)) = echoN (s.take k) + if echoB (s.getD k b0) then 1 else 0 := by
  have e : s.getD k b0 = s[k] := by simp [hk]
  rw [List.take_succ_eq_append_getElem hk, e]
  unfold echoN
  rw [List.countP_append, List.countP_cons, List.countP_nil, Nat.zero_add]
theorem echo_le (s : List BeamT) : echoN s ≤ s.length := List.countP_le_length
set_option maxHeartbeats 4000000 in
theorem counts_x (p : PoseT) (A1 : Option Addr) (c1 : Nat) (s : List BeamT) {n : Nat} (hs : s.length = n) (hn : n ≤ maxLen) :
    CallW Try.prog 6 [.a [I p.1, I p.2.1, I p.2.2], .v (.slice A1 n c1)] (fun w => ArgSl w A1 n 2 (s.map encB)) (B true) := by
  have hn' := hn
  unfold maxLen at hn'
  by_cases hg : n ≤ 6
  · have kp := place_x p 262144 (by decide)
    obtain ⟨p1, p2, p3, p4⟩ := place_ok p 262144 (by decide)
    generalize placeF p 262144 = q at *
    have k1 := ofE_m q A1 c1 s _ rfl hs hn
    have ksc := rScan_w A1 c1 s hs hn
    have hsc : (ofE q s).2 ≠ 0 → scanB s = false := by
      intro h
      cases hq : scanB s with
      | false => rfl
      | true =>
        refine (h (ofE_ok.2 ?_)).elim
        unfold ofOk
        rw [p1, p2, hq, decide_eq_true p3, decide_eq_true p4]
        rfl
    have hct : (ofE q s).2 = 0 → _ := fun h => of_counts (ofE_ok.1 h)
    have hbad := ofE_bad (at_ := q) (s := s)
    have l1 := ofE_len q s
    generalize ofE q s = r at *
    refine CallW.of Try.func6 rfl tabOk rfl rfl rfl (by simp [SV.wfs, SV.wf]) (by simp [SV.wfs, SV.wf]) fun w hpre => ?_
    (conv => whnf); repeat' (first | ((with_reducible refine isC ?_); first | ((with_reducible refine CallX_pure (awake15_x) ?_) <;> first | omega | (with_reducible show (_ : Int) ≤ _) | (with_reducible show (_ : Int) < _) | (with_reducible show (_ : Nat) ≤ _) | (with_reducible show (_ : Nat) < _) | (conv => whnf)) | ((with_reducible refine CallX_pure (kp) ?_) <;> first | omega | (with_reducible show (_ : Int) ≤ _) | (with_reducible show (_ : Int) < _) | (with_reducible show (_ : Nat) ≤ _) | (with_reducible show (_ : Nat) < _) | (conv => whnf)) | ((with_reducible refine isF 26 ?_); (with_reducible refine CallX_m (k1) [] ?_ ?_ ?_ ?_ ?_); (focus (exact rfl)); (focus (exact trivial)); (focus (decide)); (focus (exact fun σ fp w hm => ArgN.of0 (hpre.mem (by decide) rfl σ fp w hm) _)); intro q; obtain ⟨A_1, c_1⟩ := q; dsimp only; conv => whnf)) | ((with_reducible refine isO ?_); first | ((refine OpX_build0 tabOk rfl rfl rfl ?_); intro bN; conv => whnf) | ((refine OpX_build tabOk rfl rfl rfl rfl rfl ?_); intro bN; conv => whnf)) | ((with_reducible refine isW ?_); first | ((with_reducible refine xwr_ok (by omega) (by omega) ?_); conv => whnf) | ((with_reducible refine xwr_raw ?_); conv => whnf)) | ((with_reducible refine isQ ?_); first | ((with_reducible refine xquo_nn (by omega) (by omega) (by omega) ?_); conv => whnf) | ((with_reducible refine xquo_ok (by omega) (by omega) (by omega) ?_); conv => whnf) | ((with_reducible refine xquo_raw (by omega) ?_); conv => whnf)) | ((with_reducible refine isR ?_); first | ((with_reducible refine xrem_nn (by omega) (by omega) ?_); conv => whnf) | ((with_reducible refine xrem_raw (by omega) ?_); conv => whnf)) | ((with_reducible refine isS ?_); first | ((with_reducible refine xshr_1 ?_); conv => whnf)) | ((with_reducible refine isK ?_); first | ((with_reducible refine xcv_i64 (by omega) (by omega) ?_); conv => whnf) | ((with_reducible refine xcv_u64 (by omega) (by omega) ?_); conv => whnf) | ((with_reducible refine xcv_u8 (by omega) (by omega) ?_); conv => whnf) | ((with_reducible refine xcv_raw ?_); conv => whnf)) | ((with_reducible refine need_i ?_ ?_) <;> first | omega | (conv => whnf)) | ((refine DrawX_s tabOk folOk ?_); conv => whnf) | ((refine DrawS_i (by kernel_rfl) ?_); conv => whnf) | ((with_reducible refine andX_i ?_ ?_) <;> (conv => whnf)) | (with_reducible exact rfl) | ((with_reducible refine xif_kt (by with_reducible assumption) ?_); conv => whnf) | ((with_reducible refine xif_kf (by with_reducible assumption) ?_); conv => whnf) | (((with_reducible refine xif_s ?_ ?_) <;> (intro hb; (try simp (disch := omega) only [wr, ge_dec, gt_dec, decide_eq_true_eq, decide_eq_false_iff_not, beq_iff_eq, bne_iff_ne, beq_eq_false_iff_ne, bne_eq_false_iff_eq, Bool.not_eq_true', Bool.not_eq_false', Bool.and_eq_true, Bool.or_eq_true, Bool.not_not, ne_eq, Decidable.not_not, Int.not_le, Int.not_lt, Int.toNat_natCast, not_true_eq_false, eq_self, Bool.not_true, Bool.not_false, Bool.true_eq_false, Bool.false_eq_true] at hb))) <;> (conv => whnf)))
    all_goals try (exfalso; omega)
    · have hne : r.2 ≠ 0 := by assumption
      rw [hsc hne] at ksc
      (conv => whnf); repeat' (first | ((with_reducible refine isC ?_); first | ((with_reducible refine isF 30 ?_); (with_reducible refine CallX_w (ksc) ?_ ?_); (focus (exact hpre.mem (by decide) rfl)); conv => whnf)) | ((with_reducible refine isO ?_); first | ((refine OpX_build0 tabOk rfl rfl rfl ?_); intro bN; conv => whnf) | ((refine OpX_build tabOk rfl rfl rfl rfl rfl ?_); intro bN; conv => whnf)) | ((with_reducible refine isW ?_); first | ((with_reducible refine xwr_ok (by omega) (by omega) ?_); conv => whnf) | ((with_reducible refine xwr_raw ?_); conv => whnf)) | ((with_reducible refine isQ ?_); first | ((with_reducible refine xquo_nn (by omega) (by omega) (by omega) ?_); conv => whnf) | ((with_reducible refine xquo_ok (by omega) (by omega) (by omega) ?_); conv => whnf) | ((with_reducible refine xquo_raw (by omega) ?_); conv => whnf)) | ((with_reducible refine isR ?_); first | ((with_reducible refine xrem_nn (by omega) (by omega) ?_); conv => whnf) | ((with_reducible refine xrem_raw (by omega) ?_); conv => whnf)) | ((with_reducible refine isS ?_); first | ((with_reducible refine xshr_1 ?_); conv => whnf)) | ((with_reducible refine isK ?_); first | ((with_reducible refine xcv_i64 (by omega) (by omega) ?_); conv => whnf) | ((with_reducible refine xcv_u64 (by omega) (by omega) ?_); conv => whnf) | ((with_reducible refine xcv_u8 (by omega) (by omega) ?_); conv => whnf) | ((with_reducible refine xcv_raw ?_); conv => whnf)) | ((with_reducible refine need_i ?_ ?_) <;> first | omega | (conv => whnf)) | ((refine DrawX_s tabOk folOk ?_); conv => whnf) | ((refine DrawS_i (by kernel_rfl) ?_); conv => whnf) | ((with_reducible refine andX_i ?_ ?_) <;> (conv => whnf)) | (with_reducible exact rfl) | ((with_reducible refine xif_kt (by with_reducible assumption) ?_); conv => whnf) | ((with_reducible refine xif_kf (by with_reducible assumption) ?_); conv => whnf) | (((with_reducible refine xif_s ?_ ?_) <;> (intro hb; (try simp (disch := omega) only [wr, ge_dec, gt_dec, decide_eq_true_eq, decide_eq_false_iff_not, beq_iff_eq, bne_iff_ne, beq_eq_false_iff_ne, bne_eq_false_iff_eq, Bool.not_eq_true', Bool.not_eq_false', Bool.and_eq_true, Bool.or_eq_true, Bool.not_not, ne_eq, Decidable.not_not, Int.not_le, Int.not_lt, Int.toNat_natCast, not_true_eq_false, eq_self, Bool.not_true, Bool.not_false, Bool.true_eq_false, Bool.false_eq_true] at hb))) <;> (conv => whnf)))
      all_goals exact Fin_pure rfl rfl trivial
    · have hne : r.2 ≠ 0 := by assumption
      have e1 := (hbad hne).1
      rw [e1] at hb
      exact (hb rfl).elim
    · obtain ⟨hv, g1, g2, g3, g4, g5⟩ := hct hb
      have kt := Total_w A_1 c_1 r.1 rfl (by unfold maxLen; omega)
      have kv := Valid_v A_1 c_1 r.1 rfl (by unfold maxLen; omega)
      rw [hv] at kv
      have hle := echo_le s
      generalize totE r.1 = T at *
      generalize hl : r.1.length = m at *
      clear k1 kp hct hbad hsc ksc
      refine LoopX_inv tabOk (α := Nat) (fun k => k ≤ n) (fun k => [(1, .v (.slice A1 n c1)), (5, .v (.slice A_1 m c_1)), (7, I (echoN (s.take k))), (8, I k)]) (fun _ => [.row 36 4 A_1 m c_1 (r.1.map encE)]) (fun k => n - k) 0 [1] (Nat.zero_le _) ?_ ?_
      · ((refine ⟨?_, ?_, ?_, ?_⟩) <;> (repeat' ((conv => whnf); apply And.intro)) <;> (try (first | exact trivial | decide)))
        all_goals first | rfl | exact fun _ _ h => h | (simp [SV.wf, SV.wfs]; done) | trace_state
      · intro k hk
        by_cases hlt : k < n
        · have hnx := echo_next (s := s) (k := k) (by omega)
          have hle2 := echo_le (s.take k)
          rw [List.length_take] at hle2
          generalize echoN (s.take k) = E0 at *
          (conv => whnf); repeat' (first | ((with_reducible refine isV ?_); first | ((with_reducible refine nat_idxF ?_); (refine ValX_loadFn _ _ (b0) _ tabOk rfl rfl rfl (hpre.mem (by decide) rfl) ?_ ?_ rfl ?_) <;> first | omega | (simp; omega) | (with_reducible show (_ : Int) ≤ _) | (with_reducible show (_ : Int) < _) | (with_reducible show (_ : Nat) ≤ _) | (with_reducible show (_ : Nat) < _) | (conv => whnf)) | ((refine ValX_loadF _ _ (b0) _ tabOk rfl rfl rfl (hpre.mem (by decide) rfl) ?_ ?_ rfl ?_) <;> first | omega | (simp; omega) | (with_reducible show (_ : Int) ≤ _) | (with_reducible show (_ : Int) < _) | (with_reducible show (_ : Nat) ≤ _) | (with_reducible show (_ : Nat) < _) | (conv => whnf)) | ((refine ValX_index tabOk rfl (hpre.mem (by decide) rfl) rfl ?_ ?_ ?_) <;> first | omega | (with_reducible show (_ : Int) ≤ _) | (with_reducible show (_ : Int) < _) | (with_reducible show (_ : Nat) ≤ _) | (with_reducible show (_ : Nat) < _) | (conv => whnf))) | ((with_reducible refine isO ?_); first | ((refine OpX_build0 tabOk rfl rfl rfl ?_); intro bN; conv => whnf) | ((refine OpX_build tabOk rfl rfl rfl rfl rfl ?_); intro bN; conv => whnf)) | ((with_reducible refine isW ?_); first | ((with_reducible refine xwr_ok (by omega) (by omega) ?_); conv => whnf) | ((with_reducible refine xwr_raw ?_); conv => whnf)) | ((with_reducible refine isQ ?_); first | ((with_reducible refine xquo_nn (by omega) (by omega) (by omega) ?_); conv => whnf) | ((with_reducible refine xquo_ok (by omega) (by omega) (by omega) ?_); conv => whnf) | ((with_reducible refine xquo_raw (by omega) ?_); conv => whnf)) | ((with_reducible refine isR ?_); first | ((with_reducible refine xrem_nn (by omega) (by omega) ?_); conv => whnf) | ((with_reducible refine xrem_raw (by omega) ?_); conv => whnf)) | ((with_reducible refine isS ?_); first | ((with_reducible refine xshr_1 ?_); conv => whnf)) | ((with_reducible refine isK ?_); first | ((with_reducible refine xcv_i64 (by omega) (by omega) ?_); conv => whnf) | ((with_reducible refine xcv_u64 (by omega) (by omega) ?_); conv => whnf) | ((with_reducible refine xcv_u8 (by omega) (by omega) ?_); conv => whnf) | ((with_reducible refine xcv_raw ?_); conv => whnf)) | ((with_reducible refine need_i ?_ ?_) <;> first | omega | (conv => whnf)) | ((refine DrawX_s tabOk folOk ?_); conv => whnf) | ((refine DrawS_i (by kernel_rfl) ?_); conv => whnf) | ((with_reducible refine andX_i ?_ ?_) <;> (conv => whnf)) | (with_reducible exact rfl) | ((with_reducible refine xif_kt (by with_reducible assumption) ?_); conv => whnf) | ((with_reducible refine xif_kf (by with_reducible assumption) ?_); conv => whnf) | (((with_reducible refine xif_s ?_ ?_) <;> (intro hb; (try simp (disch := omega) only [wr, ge_dec, gt_dec, decide_eq_true_eq, decide_eq_false_iff_not, beq_iff_eq, bne_iff_ne, beq_eq_false_iff_ne, bne_eq_false_iff_eq, Bool.not_eq_true', Bool.not_eq_false', Bool.and_eq_true, Bool.or_eq_true, Bool.not_not, ne_eq, Decidable.not_not, Int.not_le, Int.not_lt, Int.toNat_natCast, not_true_eq_false, eq_self, Bool.not_true, Bool.not_false, Bool.true_eq_false, Bool.false_eq_true] at hb))) <;> (conv => whnf)))
          all_goals try (exfalso; omega)
          · refine ⟨k + 1, [0], by (try dsimp only); omega, ?_, by (try dsimp only); omega⟩
            rw [show echoB (s.getD k b0) = true by unfold echoB; rw [decide_eq_false hb]; rfl] at hnx
            dsimp only
            rw [hnx]
            ((refine ⟨?_, ?_, ?_, ?_⟩) <;> (repeat' ((conv => whnf); apply And.intro)) <;> (try (first | exact trivial | decide)))
            all_goals first | rfl | exact I_eq (by simp) | exact fun _ _ h => h | (simp [SV.wf, SV.wfs]; done) | trace_state
          · refine ⟨k + 1, [0], by (try dsimp only); omega, ?_, by (try dsimp only); omega⟩
            rw [show echoB (s.getD k b0) = false by unfold echoB; rw [decide_eq_true hb]; rfl] at hnx
            dsimp only
            rw [hnx]
            ((refine ⟨?_, ?_, ?_, ?_⟩) <;> (repeat' ((conv => whnf); apply And.intro)) <;> (try (first | exact trivial | decide)))
            all_goals first | rfl | exact I_eq (by simp) | exact fun _ _ h => h | (simp [SV.wf, SV.wfs]; done) | trace_state
        · obtain rfl : k = n := by omega
          have htk : s.take k = s := by rw [← hs]; exact List.take_length
          rw [htk]
          generalize echoN s = E at *
          (conv => whnf); repeat' (first | ((with_reducible refine isO ?_); first | ((refine OpX_build0 tabOk rfl rfl rfl ?_); intro bN; conv => whnf) | ((refine OpX_build tabOk rfl rfl rfl rfl rfl ?_); intro bN; conv => whnf)) | ((with_reducible refine isW ?_); first | ((with_reducible refine xwr_ok (by omega) (by omega) ?_); conv => whnf) | ((with_reducible refine xwr_raw ?_); conv => whnf)) | ((with_reducible refine isQ ?_); first | ((with_reducible refine xquo_nn (by omega) (by omega) (by omega) ?_); conv => whnf) | ((with_reducible refine xquo_ok (by omega) (by omega) (by omega) ?_); conv => whnf) | ((with_reducible refine xquo_raw (by omega) ?_); conv => whnf)) | ((with_reducible refine isR ?_); first | ((with_reducible refine xrem_nn (by omega) (by omega) ?_); conv => whnf) | ((with_reducible refine xrem_raw (by omega) ?_); conv => whnf)) | ((with_reducible refine isS ?_); first | ((with_reducible refine xshr_1 ?_); conv => whnf)) | ((with_reducible refine isK ?_); first | ((with_reducible refine xcv_i64 (by omega) (by omega) ?_); conv => whnf) | ((with_reducible refine xcv_u64 (by omega) (by omega) ?_); conv => whnf) | ((with_reducible refine xcv_u8 (by omega) (by omega) ?_); conv => whnf) | ((with_reducible refine xcv_raw ?_); conv => whnf)) | ((with_reducible refine need_i ?_ ?_) <;> first | omega | (conv => whnf)) | ((refine DrawX_s tabOk folOk ?_); conv => whnf) | ((refine DrawS_i (by kernel_rfl) ?_); conv => whnf) | ((with_reducible refine andX_i ?_ ?_) <;> (conv => whnf)) | (with_reducible exact rfl) | ((with_reducible refine xif_kt (by with_reducible assumption) ?_); conv => whnf) | ((with_reducible refine xif_kf (by with_reducible assumption) ?_); conv => whnf) | (((with_reducible refine xif_s ?_ ?_) <;> (intro hb; (try simp (disch := omega) only [wr, ge_dec, gt_dec, decide_eq_true_eq, decide_eq_false_iff_not, beq_iff_eq, bne_iff_ne, beq_eq_false_iff_ne, bne_eq_false_iff_eq, Bool.not_eq_true', Bool.not_eq_false', Bool.and_eq_true, Bool.or_eq_true, Bool.not_not, ne_eq, Decidable.not_not, Int.not_le, Int.not_lt, Int.toNat_natCast, not_true_eq_false, eq_self, Bool.not_true, Bool.not_false, Bool.true_eq_false, Bool.false_eq_true] at hb))) <;> (conv => whnf)))
          all_goals try (exfalso; omega)
          refine LoopX_inv tabOk (α := Nat) (fun j => j ≤ m) (fun j => [(1, .v (.slice A1 k c1)), (5, .v (.slice A_1 m c_1)), (7, I E), (9, I j)]) (fun _ => [.row 36 4 A_1 m c_1 (r.1.map encE)]) (fun j => m - j) 0 [0] (Nat.zero_le _) ?_ ?_
          · ((refine ⟨?_, ?_, ?_, ?_⟩) <;> (repeat' ((conv => whnf); apply And.intro)) <;> (try (first | exact trivial | decide)))
            all_goals first | rfl | exact fun _ _ h => h | (simp [SV.wf, SV.wfs]; done) | trace_state
          · intro j hj
            by_cases hlt2 : j < m
            · have hnn := g5 (r.1.getD j e0) (by simp [hl, hlt2])
              (conv => whnf); repeat' (first | ((with_reducible refine isV ?_); first | ((with_reducible refine nat_idxF ?_); (refine ValX_loadFn _ _ (e0) _ tabOk rfl rfl rfl (ArgSl.row 0 rfl) ?_ ?_ rfl ?_) <;> first | omega | (simp; omega) | (with_reducible show (_ : Int) ≤ _) | (with_reducible show (_ : Int) < _) | (with_reducible show (_ : Nat) ≤ _) | (with_reducible show (_ : Nat) < _) | (conv => whnf)) | ((refine ValX_loadF _ _ (e0) _ tabOk rfl rfl rfl (ArgSl.row 0 rfl) ?_ ?_ rfl ?_) <;> first | omega | (simp; omega) | (with_reducible show (_ : Int) ≤ _) | (with_reducible show (_ : Int) < _) | (with_reducible show (_ : Nat) ≤ _) | (with_reducible show (_ : Nat) < _) | (conv => whnf)) | ((refine ValX_index tabOk rfl (ArgSl.row 0 rfl) rfl ?_ ?_ ?_) <;> first | omega | (with_reducible show (_ : Int) ≤ _) | (with_reducible show (_ : Int) < _) | (with_reducible show (_ : Nat) ≤ _) | (with_reducible show (_ : Nat) < _) | (conv => whnf))) | ((with_reducible refine isO ?_); first | ((refine OpX_build0 tabOk rfl rfl rfl ?_); intro bN; conv => whnf) | ((refine OpX_build tabOk rfl rfl rfl rfl rfl ?_); intro bN; conv => whnf)) | ((with_reducible refine isW ?_); first | ((with_reducible refine xwr_ok (by omega) (by omega) ?_); conv => whnf) | ((with_reducible refine xwr_raw ?_); conv => whnf)) | ((with_reducible refine isQ ?_); first | ((with_reducible refine xquo_nn (by omega) (by omega) (by omega) ?_); conv => whnf) | ((with_reducible refine xquo_ok (by omega) (by omega) (by omega) ?_); conv => whnf) | ((with_reducible refine xquo_raw (by omega) ?_); conv => whnf)) | ((with_reducible refine isR ?_); first | ((with_reducible refine xrem_nn (by omega) (by omega) ?_); conv => whnf) | ((with_reducible refine xrem_raw (by omega) ?_); conv => whnf)) | ((with_reducible refine isS ?_); first | ((with_reducible refine xshr_1 ?_); conv => whnf)) | ((with_reducible refine isK ?_); first | ((with_reducible refine xcv_i64 (by omega) (by omega) ?_); conv => whnf) | ((with_reducible refine xcv_u64 (by omega) (by omega) ?_); conv => whnf) | ((with_reducible refine xcv_u8 (by omega) (by omega) ?_); conv => whnf) | ((with_reducible refine xcv_raw ?_); conv => whnf)) | ((with_reducible refine need_i ?_ ?_) <;> first | omega | (conv => whnf)) | ((refine DrawX_s tabOk folOk ?_); conv => whnf) | ((refine DrawS_i (by kernel_rfl) ?_); conv => whnf) | ((with_reducible refine andX_i ?_ ?_) <;> (conv => whnf)) | (with_reducible exact rfl) | ((with_reducible refine xif_kt (by with_reducible assumption) ?_); conv => whnf) | ((with_reducible refine xif_kf (by with_reducible assumption) ?_); conv => whnf) | (((with_reducible refine xif_s ?_ ?_) <;> (intro hb; (try simp (disch := omega) only [wr, ge_dec, gt_dec, decide_eq_true_eq, decide_eq_false_iff_not, beq_iff_eq, bne_iff_ne, beq_eq_false_iff_ne, bne_eq_false_iff_eq, Bool.not_eq_true', Bool.not_eq_false', Bool.and_eq_true, Bool.or_eq_true, Bool.not_not, ne_eq, Decidable.not_not, Int.not_le, Int.not_lt, Int.toNat_natCast, not_true_eq_false, eq_self, Bool.not_true, Bool.not_false, Bool.true_eq_false, Bool.false_eq_true] at hb))) <;> (conv => whnf)))
              all_goals try (exfalso; omega)
              refine ⟨j + 1, [0], by (try dsimp only); omega, ?_, by (try dsimp only); omega⟩
              ((refine ⟨?_, ?_, ?_, ?_⟩) <;> (repeat' ((conv => whnf); apply And.intro)) <;> (try (first | exact trivial | decide)))
              all_goals first | rfl | exact fun _ _ h => h | (simp [SV.wf, SV.wfs]; done) | trace_state
            · obtain rfl : j = m := by omega
              (conv => whnf); repeat' (first | ((with_reducible refine isC ?_); first | ((with_reducible refine isF 23 ?_); (refine CallX_w kt (ArgSl.row 0 rfl) ?_); conv => whnf) | ((with_reducible refine isF 19 ?_); (refine CallX_v kv (ArgSl.row 0 rfl) ?_); conv => whnf)) | ((with_reducible refine isO ?_); first | ((refine OpX_build0 tabOk rfl rfl rfl ?_); intro bN; conv => whnf) | ((refine OpX_build tabOk rfl rfl rfl rfl rfl ?_); intro bN; conv => whnf)) | ((with_reducible refine isW ?_); first | ((with_reducible refine xwr_ok (by omega) (by omega) ?_); conv => whnf) | ((with_reducible refine xwr_raw ?_); conv => whnf)) | ((with_reducible refine isQ ?_); first | ((with_reducible refine xquo_nn (by omega) (by omega) (by omega) ?_); conv => whnf) | ((with_reducible refine xquo_ok (by omega) (by omega) (by omega) ?_); conv => whnf) | ((with_reducible refine xquo_raw (by omega) ?_); conv => whnf)) | ((with_reducible refine isR ?_); first | ((with_reducible refine xrem_nn (by omega) (by omega) ?_); conv => whnf) | ((with_reducible refine xrem_raw (by omega) ?_); conv => whnf)) | ((with_reducible refine isS ?_); first | ((with_reducible refine xshr_1 ?_); conv => whnf)) | ((with_reducible refine isK ?_); first | ((with_reducible refine xcv_i64 (by omega) (by omega) ?_); conv => whnf) | ((with_reducible refine xcv_u64 (by omega) (by omega) ?_); conv => whnf) | ((with_reducible refine xcv_u8 (by omega) (by omega) ?_); conv => whnf) | ((with_reducible refine xcv_raw ?_); conv => whnf)) | ((with_reducible refine need_i ?_ ?_) <;> first | omega | (conv => whnf)) | ((refine DrawX_s tabOk folOk ?_); conv => whnf) | ((refine DrawS_i (by kernel_rfl) ?_); conv => whnf) | ((with_reducible refine andX_i ?_ ?_) <;> (conv => whnf)) | (with_reducible exact rfl) | ((with_reducible refine xif_kt (by with_reducible assumption) ?_); conv => whnf) | ((with_reducible refine xif_kf (by with_reducible assumption) ?_); conv => whnf) | (((with_reducible refine xif_s ?_ ?_) <;> (intro hb; (try simp (disch := omega) only [wr, ge_dec, gt_dec, decide_eq_true_eq, decide_eq_false_iff_not, beq_iff_eq, bne_iff_ne, beq_eq_false_iff_ne, bne_eq_false_iff_eq, Bool.not_eq_true', Bool.not_eq_false', Bool.and_eq_true, Bool.or_eq_true, Bool.not_not, ne_eq, Decidable.not_not, Int.not_le, Int.not_lt, Int.toNat_natCast, not_true_eq_false, eq_self, Bool.not_true, Bool.not_false, Bool.true_eq_false, Bool.false_eq_true] at hb))) <;> (conv => whnf)))
              all_goals try (exfalso; omega)
              all_goals rw [hs] at g4
              all_goals exact Fin_pure rfl (B_eq (by first | (simp; omega) | (rw [g4]; simp) | (simp [g4]; done) | (simp at g4 ⊢; omega))) trivial
  · refine CallW.of Try.func6 rfl tabOk rfl rfl rfl (by simp [SV.wfs, SV.wf]) (by simp [SV.wfs, SV.wf]) fun w hpre => ?_
    (conv => whnf); repeat' (first | ((with_reducible refine isC ?_); first | ((with_reducible refine CallX_pure (awake15_x) ?_) <;> first | omega | (with_reducible show (_ : Int) ≤ _) | (with_reducible show (_ : Int) < _) | (with_reducible show (_ : Nat) ≤ _) | (with_reducible show (_ : Nat) < _) | (conv => whnf))) | ((with_reducible refine isO ?_); first | ((refine OpX_build0 tabOk rfl rfl rfl ?_); intro bN; conv => whnf) | ((refine OpX_build tabOk rfl rfl rfl rfl rfl ?_); intro bN; conv => whnf)) | ((with_reducible refine isW ?_); first | ((with_reducible refine xwr_ok (by omega) (by omega) ?_); conv => whnf) | ((with_reducible refine xwr_raw ?_); conv => whnf)) | ((with_reducible refine isQ ?_); first | ((with_reducible refine xquo_nn (by omega) (by omega) (by omega) ?_); conv => whnf) | ((with_reducible refine xquo_ok (by omega) (by omega) (by omega) ?_); conv => whnf) | ((with_reducible refine xquo_raw (by omega) ?_); conv => whnf)) | ((with_reducible refine isR ?_); first | ((with_reducible refine xrem_nn (by omega) (by omega) ?_); conv => whnf) | ((with_reducible refine xrem_raw (by omega) ?_); conv => whnf)) | ((with_reducible refine isS ?_); first | ((with_reducible refine xshr_1 ?_); conv => whnf)) | ((with_reducible refine isK ?_); first | ((with_reducible refine xcv_i64 (by omega) (by omega) ?_); conv => whnf) | ((with_reducible refine xcv_u64 (by omega) (by omega) ?_); conv => whnf) | ((with_reducible refine xcv_u8 (by omega) (by omega) ?_); conv => whnf) | ((with_reducible refine xcv_raw ?_); conv => whnf)) | ((with_reducible refine need_i ?_ ?_) <;> first | omega | (conv => whnf)) | ((refine DrawX_s tabOk folOk ?_); conv => whnf) | ((refine DrawS_i (by kernel_rfl) ?_); conv => whnf) | ((with_reducible refine andX_i ?_ ?_) <;> (conv => whnf)) | (with_reducible exact rfl) | ((with_reducible refine xif_kt (by with_reducible assumption) ?_); conv => whnf) | ((with_reducible refine xif_kf (by with_reducible assumption) ?_); conv => whnf) | (((with_reducible refine xif_s ?_ ?_) <;> (intro hb; (try simp (disch := omega) only [wr, ge_dec, gt_dec, decide_eq_true_eq, decide_eq_false_iff_not, beq_iff_eq, bne_iff_ne, beq_eq_false_iff_ne, bne_eq_false_iff_eq, Bool.not_eq_true', Bool.not_eq_false', Bool.and_eq_true, Bool.or_eq_true, Bool.not_not, ne_eq, Decidable.not_not, Int.not_le, Int.not_lt, Int.toNat_natCast, not_true_eq_false, eq_self, Bool.not_true, Bool.not_false, Bool.true_eq_false, Bool.false_eq_true] at hb))) <;> (conv => whnf)))
    all_goals first
      | exact Fin_pure rfl rfl trivial
      | (exfalso; omega)
/-- the same, over a slice as it is opened -/
theorem counts_walk (X Y H : Int) (A0 : Option Addr) (n0 c0 : Nat) (V0 : Nat → Nat → Int) (w : World) (h0 : SlO w A0 n0 2 V0) (g0 : n0 ≤ c0) (k0 : c0 ≤ maxLen) :
    Calls Try.prog 6 #[.agg #[.int .i64 X, .int .i64 Y, .int .i64 H], .slice A0 n0 c0] w fun e w' => e = .returned (.bool true) ∧ Below w.heap.size w w' := by
  have a0 := ArgSl.of_SlO encB (fun i => (V0 i 0, V0 i 1)) h0 (by decide) (fun i => rfl)
  generalize e0 : (List.range n0).map (fun i => (V0 i 0, V0 i 1)) = xs at a0
  obtain rfl : xs.length = n0 := by rw [← e0]; simp
  exact (counts_x (X, Y, H) A0 c0 xs rfl (by omega)).2.2 (fun _ => 0) w a0
end Go.Proofs.Ytdjimfngnhnhnaa.En
