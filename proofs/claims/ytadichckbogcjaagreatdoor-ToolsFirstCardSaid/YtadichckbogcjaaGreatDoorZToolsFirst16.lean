import Derived.Test.YtadichckbogcjaaGreatDoorZToolsFirst14
import Derived.Test.YtadichckbogcjaaGreatDoorZToolsFirst15
set_option linter.all false
section
namespace Go.Proofs.YtadichckbogcjaaGreatDoor.En
open Go.RowKit
set_option maxRecDepth 100000
abbrev PoseT := Int × Int × Int
def stepT (ends : List CellT) (L : List EntT) (c : CellT) : List EntT := if ends.any (inB c) then addT L c 1 0 else addT L c 0 1
def reachB (b : BeamT) : Int := if b.2 < 0 then 1024 else b.2
def endsL (p : PtT) (v : VecT) (b : BeamT) : List CellT := if b.2 < 0 then [] else tracedL p v b.2 b.2
def metL (p : PtT) (v : VecT) (b : BeamT) : List CellT := tracedL p v 0 (reachB b)
def beamT (at_ : PoseT) (L : List EntT) (b : BeamT) : List EntT := (metL (at_.1, at_.2.1) (beamF at_.2.2 b.1) b).foldl (stepT (endsL (at_.1, at_.2.1) (beamF at_.2.2 b.1) b)) L
def ofL (at_ : PoseT) (s : List BeamT) : List EntT := s.foldl (beamT at_) []
def ofOk (at_ : PoseT) (s : List BeamT) : Bool := szB at_.1 262144 && szB at_.2.1 262144 && decide (0 ≤ at_.2.2) && decide (at_.2.2 < 256) && scanB s
def IsOf (at_ : PoseT) (s : List BeamT) (ys : List EntT) : Prop := if ofOk at_ s then IsList (ofL at_ s) ys else ys = []
abbrev OfT (at_ : PoseT) (s : List BeamT) := {q : Option Addr × Nat × List EntT // IsOf at_ s q.2.2}
structure OkT (K : Nat) (L : List EntT) : Prop where
  ne : neT L
  bd : bdT K L
  len : L.length ≤ K
theorem OkT.nil : OkT 0 [] := ⟨by simp [neT], by simp [bdT], by simp⟩
theorem OkT.mono {K K' : Nat} {L : List EntT} (h : OkT K L) (hk : K ≤ K') : OkT K' L :=
  ⟨h.ne, fun e he => by have := h.bd e he; omega, by have := h.len; omega⟩
theorem OkT.add {K : Nat} {L : List EntT} (h : OkT K L) (c : CellT) (a p : Int) (ha : 0 ≤ a ∧ a ≤ 1) (hp : 0 ≤ p ∧ p ≤ 1) : OkT (K + 1) (addT L c a p) :=
  ⟨addT_ne h.ne c a p, by have := bd_add (by omega) h.bd c a p ha hp; simpa using this, Nat.le_trans (setT_len _ _) (by have := h.len; omega)⟩
theorem OkT.step {K : Nat} {L : List EntT} (h : OkT K L) (ends : List CellT) (c : CellT) : OkT (K + 1) (stepT ends L c) := by
  unfold stepT
  split
  · exact h.add c 1 0 (by decide) (by decide)
  · exact h.add c 0 1 (by decide) (by decide)
theorem OkT.steps (ends : List CellT) : ∀ (l : List CellT) {K : Nat} {L : List EntT}, OkT K L → OkT (K + l.length) (l.foldl (stepT ends) L)
  | [], K, L, h => h
  | c :: l, K, L, h => by
    have := OkT.steps ends l (h.step ends c)
    rw [List.foldl_cons, List.length_cons, show K + (l.length + 1) = K + 1 + l.length by omega]
    exact this
theorem OkT.room {K : Nat} {L : List EntT} (h : OkT K L) (hK : K ≤ 1000000) (c : CellT) (a p : Int) (ha : 0 ≤ a ∧ a ≤ 1) (hp : 0 ≤ p ∧ p ≤ 1) :
    (-4611686018427387904 ≤ (getT L c).2.2.1 + a ∧ (getT L c).2.2.1 + a ≤ 4611686018427387904) ∧ (-4611686018427387904 ≤ (getT L c).2.2.2 + p ∧ (getT L c).2.2.2 + p ≤ 4611686018427387904) := by
  have := bd_get (K := K) (by omega) h.bd c
  omega
theorem fold_take {α β : Type} (f : β → α → β) (b : β) {l : List α} {j : Nat} {d : α} (hj : j < l.length) : (l.take (j + 1)).foldl f b = f ((l.take j).foldl f b) (l.getD j d) := by
  rw [List.take_succ_eq_append_getElem hj, List.foldl_append]
  simp [hj]
theorem traced_len {p : PtT} {v : VecT} {lo hi : Int} (h1 : -1048576 ≤ p.1 ∧ p.1 ≤ 1048576 ∧ -1048576 ≤ p.2 ∧ p.2 ≤ 1048576) (hv : vecB v = true) (h2 : 0 ≤ lo ∧ lo ≤ hi ∧ hi ≤ 2048) : (tracedL p v lo hi).length ≤ 10000 := by
  obtain ⟨p1, p2, p3, p4⟩ := h1
  obtain ⟨l1, l2, l3⟩ := h2
  have hb := sw_bd (r := ptR p) (v := v) (lo := lo) (hi := hi) ⟨p1, Int.le_refl _, p2, p3, Int.le_refl _, p4, by simp [ptR], by simp [ptR], hv, l1, l2, l3⟩
  unfold tracedL sweepL
  have := outK_len (hitR (ptR p) v lo hi) (swX (ptR p) v lo hi).1 (swY (ptR p) v lo hi).1 ((swX (ptR p) v lo hi).2 - (swX (ptR p) v lo hi).1 + 1).toNat (by omega) ((swY (ptR p) v lo hi).2 - (swY (ptR p) v lo hi).1 + 1).toNat
  omega
theorem scan_ok {s : List BeamT} (h : scanB s = true) {k : Nat} (hk : k < s.length) : s.length ≤ 32 ∧ 0 ≤ (s.getD k b0).1 ∧ (s.getD k b0).1 < 256 ∧ -1 ≤ (s.getD k b0).2 ∧ (s.getD k b0).2 ≤ 1024 := by
  simp only [scanB, Bool.and_eq_true, decide_eq_true_eq, Bool.not_eq_true', List.any_eq_false] at h
  have h2 := h.2 (s.getD k b0) (by simp [hk])
  simp only [wrongB, Bool.or_eq_true, decide_eq_true_eq] at h2
  omega
theorem met_len {at_ : PoseT} {b : BeamT} (h1 : szB at_.1 262144 = true) (h2 : szB at_.2.1 262144 = true) (h3 : -1 ≤ b.2 ∧ b.2 ≤ 1024) : (metL (at_.1, at_.2.1) (beamF at_.2.2 b.1) b).length ≤ 10000 := by
  have g1 := szB_bd h1
  have g2 := szB_bd h2
  refine traced_len (by dsimp only; omega) (beam_vec _ _) ?_
  unfold reachB
  split <;> omega
theorem of_okT {at_ : PoseT} {s : List BeamT} (h1 : szB at_.1 262144 = true) (h2 : szB at_.2.1 262144 = true) (hs : scanB s = true) : ∀ k, k ≤ s.length → OkT (k * 10000) ((s.take k).foldl (beamT at_) [])
  | 0, _ => by simpa using OkT.nil
  | k + 1, hk => by
    have ih := of_okT h1 h2 hs k (by omega)
    rw [fold_take (d := b0) _ _ (by omega)]
    obtain ⟨_, _, _, q1, q2⟩ := scan_ok hs (k := k) (by omega)
    have hl := met_len (b := s.getD k b0) h1 h2 ⟨q1, q2⟩
    exact (ih.steps _ _).mono (by omega)
end Go.Proofs.YtadichckbogcjaaGreatDoor.En
namespace Go.Proofs.YtadichckbogcjaaGreatDoor.En
open Go.RowKit
set_option maxRecDepth 100000
theorem IsOf_bad {at_ : PoseT} {s : List BeamT} (h : ofOk at_ s = false) : IsOf at_ s [] := by
  unfold IsOf
  rw [if_neg (by rw [h]; simp)]
set_option maxHeartbeats 4000000 in
theorem of_m (at_ : PoseT) (A : Option Addr) (c : Nat) (s : List BeamT) {n : Nat} (hl : s.length = n) (hn : n ≤ maxLen) :
    CallM Tryz.prog 24 [.a [I at_.1, I at_.2.1, I at_.2.2], .v (.slice A n c)] (fun w M => ArgN w M A n 2 (s.map encB)) []
      (fun q : OfT at_ s => .t [.v (.slice q.1.1 q.1.2.2.length q.1.2.1), I (if ofOk at_ s then 0 else 1)]) (fun q => [.row 34 4 q.1.1 q.1.2.2.length q.1.2.1 (q.1.2.2.map encE)]) := by
  have hn' := hn
  unfold maxLen at hn'
  refine CallM.of (m := 0) Tryz.func24 rfl tabOk rfl rfl rfl rfl (by simp [SV.wfs, SV.wf]) fun w M π hpre => ?_
  cases hok : ofOk at_ s with
  | false =>
    (conv=>whnf);repeat' (first|((with_reducible refine isC ?_);first|((with_reducible refine CallX_pure (PureD.pure (within_d _ _ ?_ ?_)) ?_)<;>first|omega|with_reducible refine isP ?_|conv=>whnf)|(((with_reducible refine isF 53 ?_);(refine CallX_w (scanned_w A c s hl hn) (ArgN.mem hpre (by decide)) ?_));conv=>whnf))|((with_reducible refine isW ?_;first|refine xwr_ok (by omega) (by omega) ?_|refine xwr_raw ?_);conv=>whnf)|with_reducible exact rfl|((with_reducible first|refine xif_kt (by assumption) ?_|refine xif_kf (by assumption) ?_);conv=>whnf)|((with_reducible refine xif_s ?_ ?_)<;>(intro hb;(try simp (disch:=omega) only [hbS] at hb)<;>conv=>whnf)))
    all_goals first
      | (refine Fin_addNil 34 4 ?_; exact Fin_m ⟨(none, 0, []), IsOf_bad hok⟩ [1] ⟨rfl, by simp [SV.wf, SV.wfs]⟩ ⟨⟨rfl, rfl, rfl, rfl, rfl, rfl⟩, trivial⟩ (by decide) rfl)
      | (exfalso; rename_i h1 h2 h3 h4; simp [ofOk, *] at hok; done)
      | trace_state
  | true =>
    have hok' := hok
    simp only [ofOk, Bool.and_eq_true, decide_eq_true_eq] at hok
    obtain ⟨⟨⟨⟨g1, g2⟩, g3⟩, g4⟩, g5⟩ := hok
    have sc := fun k hk => scan_ok g5 (k := k) hk
    have hT := of_okT g1 g2 g5
    have z1 := szB_bd g1
    have z2 := szB_bd g2
    (conv=>whnf);repeat' (first|((with_reducible refine isC ?_);first|((with_reducible refine CallX_pure (PureD.pure (within_d _ _ ?_ ?_)) ?_)<;>first|omega|with_reducible refine isP ?_|conv=>whnf)|(((with_reducible refine isF 53 ?_);(refine CallX_w (scanned_w A c s hl hn) (ArgN.mem hpre (by decide)) ?_));conv=>whnf))|((with_reducible refine isO ?_);first|(refine OpX_makeT rfl ?_; intro bm; conv => whnf))|((with_reducible refine isW ?_;first|refine xwr_ok (by omega) (by omega) ?_|refine xwr_raw ?_);conv=>whnf)|with_reducible exact rfl|((with_reducible first|refine xif_kt (by assumption) ?_|refine xif_kf (by assumption) ?_);conv=>whnf)|((with_reducible refine xif_s ?_ ?_)<;>(intro hb;(try simp (disch:=omega) only [hbS] at hb)<;>conv=>whnf)))
    all_goals try exact (Bool.false_ne_true (hb.symm.trans g1)).elim
    all_goals try exact (Bool.false_ne_true (hb.symm.trans g2)).elim
    all_goals try exact (Bool.false_ne_true (hb.symm.trans g5)).elim
    all_goals try (exfalso; omega)
    refine LoopX_inv tabOk (α := Nat) (fun k => k ≤ n) (fun k => [(1, .v (.slice A n c)), (2, .p 0 0), (6, .v (.map (some bm))), (7, .p 2 0), (48, .v (.slice A n c)), (49, I n), (50, I k)])
      (fun k => [.box 63 [I at_.1, I at_.2.1, I at_.2.2], talO bm ((s.take k).foldl (beamT at_) []), .box 96 [I at_.1, I at_.2.1]]) (fun k => n - k) 0 [0, 1, 2] (Nat.zero_le _) ?_ ?_
    · ((refine ⟨?_, ?_, ?_, ?_⟩) <;> (repeat' ((conv => whnf); apply And.intro)) <;> (try (first | exact trivial | decide)))
      all_goals first | rfl | exact fun _ _ h => h | (simp [SV.wf, SV.wfs]; done) | trace_state
    · intro k hk
      by_cases hlt : k < n
      · obtain ⟨s1, s2, s3, s4, s5⟩ := sc k (by omega)
        have hTk := hT k (by omega)
        have hbeam := Beam_x at_.2.2 (s.getD k b0).1
        have hv := beam_vec at_.2.2 (s.getD k b0).1
        have hstep := fold_take (beamT at_) [] (d := b0) (l := s) (j := k) (by omega)
        generalize hL : (s.take k).foldl (beamT at_) [] = L at *
        generalize hL2 : (s.take (k + 1)).foldl (beamT at_) [] = L2 at *
        unfold beamT at hstep
        generalize beamF at_.2.2 (s.getD k b0).1 = v at *
        (conv=>whnf);repeat' (first|((with_reducible refine isC ?_);first|((with_reducible refine CallX_pure (hbeam) ?_)<;>first|omega|with_reducible refine isP ?_|conv=>whnf))|((with_reducible refine isV ?_);first|((first|refine ValX_index tabOk rfl (ArgN.mem hpre (by decide)) rfl ?_ ?_ ?_|(with_reducible refine nat_idx ?_);refine ValX_loadEn _ _ (b0) tabOk rfl rfl rfl rfl (ArgN.mem hpre (by decide)) ?_ ?_ ?_|refine ValX_loadE _ _ (b0) tabOk rfl rfl rfl rfl (ArgN.mem hpre (by decide)) ?_ ?_ ?_)<;>first|rfl|omega|with_reducible refine isP ?_|conv=>whnf))|((with_reducible refine isW ?_;first|refine xwr_ok (by omega) (by omega) ?_|refine xwr_raw ?_);conv=>whnf)|with_reducible exact rfl|((with_reducible first|refine xif_kt (by assumption) ?_|refine xif_kf (by assumption) ?_);conv=>whnf)|((with_reducible refine xif_s ?_ ?_)<;>(intro hb;(try simp (disch:=omega) only [hbS] at hb)<;>conv=>whnf)))
        all_goals try (exfalso; omega)
        all_goals generalize hrr : (s.getD k b0).2 = r at *
        · have hre : reachB (s.getD k b0) = 1024 := by unfold reachB; rw [hrr, if_pos hb]
          have hen : endsL (at_.1, at_.2.1) v (s.getD k b0) = [] := by unfold endsL; rw [hrr, if_pos hb]
          have ht := Traced_r (at_.1, at_.2.1) v 0 1024 (by dsimp only; omega) hv (by decide)
          have hml := traced_len (p := (at_.1, at_.2.1)) (lo := 0) (hi := 1024) (by dsimp only; omega) hv (by decide)
          unfold metL at hstep
          rw [hre, hen] at hstep
          clear hre hen
          generalize tracedL (at_.1, at_.2.1) v 0 1024 = met at *
          refine CallX_r ht (fun _ _ _ _ => trivial) ?_
          intro A2 c2
          clear ht
          (conv=>whnf);repeat' (first|((with_reducible refine isW ?_;first|refine xwr_ok (by omega) (by omega) ?_|refine xwr_raw ?_);conv=>whnf)|with_reducible exact rfl|((with_reducible first|refine xif_kt (by assumption) ?_|refine xif_kf (by assumption) ?_);conv=>whnf)|((with_reducible refine xif_s ?_ ?_)<;>(intro hb;(try simp (disch:=omega) only [hbS] at hb)<;>conv=>whnf)))
          all_goals try (exfalso; omega)
          refine LoopX_inv tabOk (α := Nat) (fun j => j ≤ met.length) (fun j => [(1, .v (.slice A n c)), (2, .p 0 0), (6, .v (.map (some bm))), (7, .p 2 0), (12, .v (.slice none 0 0)), (48, .v (.slice A n c)), (49, I n), (50, I k), (78, .v (.slice A2 (met.map encC).length c2)), (79, I (met.map encC).length), (80, I j)])
            (fun j => [.box 63 [I at_.1, I at_.2.1, I at_.2.2], talO bm ((met.take j).foldl (stepT ([] : List CellT)) L), .box 96 [I at_.1, I at_.2.1], .row 25 2 A2 (met.map encC).length c2 (met.map encC)]) (fun j => met.length - j) 0 [0, 1, 2, 5] (Nat.zero_le _) ?_ ?_
          · ((refine ⟨?_, ?_, ?_, ?_⟩) <;> (repeat' ((conv => whnf); apply And.intro)) <;> (try (first | exact trivial | decide)))
            all_goals first | rfl | exact fun _ _ h => h | (simp [SV.wf, SV.wfs]; done) | trace_state
          · intro j hj
            have hmm : (met.map encC).length = met.length := by simp
            by_cases hjl : j < met.length
            · have hOj : OkT (k * 10000 + j) ((met.take j).foldl (stepT ([] : List CellT)) L) := by
                have := OkT.steps ([] : List CellT) (met.take j) hTk
                rw [List.length_take, Nat.min_eq_left hj] at this
                exact this
              have hsj := fold_take (stepT ([] : List CellT)) L (d := c0) hjl
              have hcc := Contains_w none 0 ([] : List CellT) (met.getD j c0) (n := 0) rfl (by decide)
              dsimp only
              generalize (met.take j).foldl (stepT ([] : List CellT)) L = Lj at *
              generalize hLn : (met.take (j + 1)).foldl (stepT ([] : List CellT)) L = Ln at hsj
              unfold stepT at hsj
              have hr1 := hOj.room (by omega) (met.getD j c0) 1 0 (by decide) (by decide)
              have hr2 := hOj.room (by omega) (met.getD j c0) 0 1 (by decide) (by decide)
              (conv=>whnf);repeat' (first|((with_reducible refine isC ?_);first|(((with_reducible refine isF 56 ?_);(refine CallX_w hcc (fun _ _ _ _ => ⟨rfl, by simp, by simp, fun h => absurd rfl h⟩) ?_));conv=>whnf))|((with_reducible refine isV ?_);first|((first|refine ValX_index tabOk rfl (ArgSl.row 3 rfl) rfl ?_ ?_ ?_|(with_reducible refine nat_idx ?_);refine ValX_loadEn _ _ (c0) tabOk rfl rfl rfl rfl (ArgSl.row 3 rfl) ?_ ?_ ?_|refine ValX_loadE _ _ (c0) tabOk rfl rfl rfl rfl (ArgSl.row 3 rfl) ?_ ?_ ?_)<;>first|rfl|omega|with_reducible refine isP ?_|conv=>whnf))|((with_reducible refine isW ?_;first|refine xwr_ok (by omega) (by omega) ?_|refine xwr_raw ?_);conv=>whnf)|with_reducible exact rfl|((with_reducible first|refine xif_kt (by assumption) ?_|refine xif_kf (by assumption) ?_);conv=>whnf)|((with_reducible refine xif_s ?_ ?_)<;>(intro hb;(try simp (disch:=omega) only [hbS] at hb)<;>conv=>whnf)))
              all_goals try (exfalso; omega)
              · refine CallX_m (add_m bm Lj (met.getD j c0) 0 1 hr2.1 hr2.2) [1] rfl ⟨fun _ _ h => h, trivial⟩ (by decide) (fun _ _ _ _ => trivial) ?_
                intro u
                (conv=>whnf);repeat' (first|((with_reducible refine isW ?_;first|refine xwr_ok (by omega) (by omega) ?_|refine xwr_raw ?_);conv=>whnf)|with_reducible exact rfl|((with_reducible first|refine xif_kt (by assumption) ?_|refine xif_kf (by assumption) ?_);conv=>whnf)|((with_reducible refine xif_s ?_ ?_)<;>(intro hb;(try simp (disch:=omega) only [hbS] at hb)<;>conv=>whnf)))
                refine ⟨j + 1, [0, 1, 2, 3], by omega, ?_, by (try dsimp only); omega⟩
                dsimp only
                rw [hLn, hsj, if_neg (by simp)]
                ((refine ⟨?_, ?_, ?_, ?_⟩) <;> (repeat' ((conv => whnf); apply And.intro)) <;> (try (first | exact trivial | decide)))
                all_goals first | rfl | exact fun _ _ h => h | (simp [SV.wf, SV.wfs]; done) | trace_state
            · obtain rfl : j = met.length := by omega
              rw [List.take_length]
              (conv=>whnf);repeat' (first|((with_reducible refine isW ?_;first|refine xwr_ok (by omega) (by omega) ?_|refine xwr_raw ?_);conv=>whnf)|with_reducible exact rfl|((with_reducible first|refine xif_kt (by assumption) ?_|refine xif_kf (by assumption) ?_);conv=>whnf)|((with_reducible refine xif_s ?_ ?_)<;>(intro hb;(try simp (disch:=omega) only [hbS] at hb)<;>conv=>whnf)))
              all_goals try (exfalso; omega)
              refine ⟨k + 1, [0, 1, 2], by omega, ?_, by (try dsimp only); omega⟩
              dsimp only
              rw [hL2, hstep]
              ((refine ⟨?_, ?_, ?_, ?_⟩) <;> (repeat' ((conv => whnf); apply And.intro)) <;> (try (first | exact trivial | decide)))
              all_goals first | rfl | exact fun _ _ h => h | (simp [SV.wf, SV.wfs]; done) | trace_state
        · have hre : reachB (s.getD k b0) = r := by unfold reachB; rw [hrr, if_neg (by omega)]
          have hen : endsL (at_.1, at_.2.1) v (s.getD k b0) = tracedL (at_.1, at_.2.1) v r r := by unfold endsL; rw [hrr, if_neg (by omega)]
          have ht := Traced_r (at_.1, at_.2.1) v 0 r (by dsimp only; omega) hv (by omega)
          have ht0 := Traced_r (at_.1, at_.2.1) v r r (by dsimp only; omega) hv (by omega)
          have hml := traced_len (p := (at_.1, at_.2.1)) (lo := 0) (hi := r) (by dsimp only; omega) hv (by omega)
          have hel := traced_len (p := (at_.1, at_.2.1)) (lo := r) (hi := r) (by dsimp only; omega) hv (by omega)
          unfold metL at hstep
          rw [hre, hen] at hstep
          clear hre hen
          generalize tracedL (at_.1, at_.2.1) v r r = E at *
          generalize tracedL (at_.1, at_.2.1) v 0 r = met at *
          refine CallX_r ht0 (fun _ _ _ _ => trivial) ?_
          intro A1 c1
          clear ht0
          (conv=>whnf);repeat' (first|((with_reducible refine isW ?_;first|refine xwr_ok (by omega) (by omega) ?_|refine xwr_raw ?_);conv=>whnf)|with_reducible exact rfl|((with_reducible first|refine xif_kt (by assumption) ?_|refine xif_kf (by assumption) ?_);conv=>whnf)|((with_reducible refine xif_s ?_ ?_)<;>(intro hb;(try simp (disch:=omega) only [hbS] at hb)<;>conv=>whnf)))
          all_goals try (exfalso; omega)
          refine CallX_r ht (fun _ _ _ _ => trivial) ?_
          intro A2 c2
          clear ht
          (conv=>whnf);repeat' (first|((with_reducible refine isW ?_;first|refine xwr_ok (by omega) (by omega) ?_|refine xwr_raw ?_);conv=>whnf)|with_reducible exact rfl|((with_reducible first|refine xif_kt (by assumption) ?_|refine xif_kf (by assumption) ?_);conv=>whnf)|((with_reducible refine xif_s ?_ ?_)<;>(intro hb;(try simp (disch:=omega) only [hbS] at hb)<;>conv=>whnf)))
          all_goals try (exfalso; omega)
          refine LoopX_inv tabOk (α := Nat) (fun j => j ≤ met.length) (fun j => [(1, .v (.slice A n c)), (2, .p 0 0), (6, .v (.map (some bm))), (7, .p 2 0), (12, .v (.slice A1 (E.map encC).length c1)), (48, .v (.slice A n c)), (49, I n), (50, I k), (78, .v (.slice A2 (met.map encC).length c2)), (79, I (met.map encC).length), (80, I j)])
            (fun j => [.box 63 [I at_.1, I at_.2.1, I at_.2.2], talO bm ((met.take j).foldl (stepT E) L), .box 96 [I at_.1, I at_.2.1], .row 25 2 A1 (E.map encC).length c1 (E.map encC), .row 25 2 A2 (met.map encC).length c2 (met.map encC)]) (fun j => met.length - j) 0 [0, 1, 2, 5, 6] (Nat.zero_le _) ?_ ?_
          · ((refine ⟨?_, ?_, ?_, ?_⟩) <;> (repeat' ((conv => whnf); apply And.intro)) <;> (try (first | exact trivial | decide)))
            all_goals first | rfl | exact fun _ _ h => h | (simp [SV.wf, SV.wfs]; done) | trace_state
          · intro j hj
            have hmm : (met.map encC).length = met.length := by simp
            by_cases hjl : j < met.length
            · have hOj : OkT (k * 10000 + j) ((met.take j).foldl (stepT E) L) := by
                have := OkT.steps E (met.take j) hTk
                rw [List.length_take, Nat.min_eq_left hj] at this
                exact this
              have hsj := fold_take (stepT E) L (d := c0) hjl
              have hcc := Contains_w A1 c1 E (met.getD j c0) (n := (E.map encC).length) (by simp) (by simp; omega)
              dsimp only
              generalize (met.take j).foldl (stepT E) L = Lj at *
              generalize hLn : (met.take (j + 1)).foldl (stepT E) L = Ln at hsj
              unfold stepT at hsj
              have hr1 := hOj.room (by omega) (met.getD j c0) 1 0 (by decide) (by decide)
              have hr2 := hOj.room (by omega) (met.getD j c0) 0 1 (by decide) (by decide)
              (conv=>whnf);repeat' (first|((with_reducible refine isC ?_);first|(((with_reducible refine isF 56 ?_);(refine CallX_w hcc (ArgSl.row 3 rfl) ?_));conv=>whnf))|((with_reducible refine isV ?_);first|((first|refine ValX_index tabOk rfl (ArgSl.row 4 rfl) rfl ?_ ?_ ?_|(with_reducible refine nat_idx ?_);refine ValX_loadEn _ _ (c0) tabOk rfl rfl rfl rfl (ArgSl.row 4 rfl) ?_ ?_ ?_|refine ValX_loadE _ _ (c0) tabOk rfl rfl rfl rfl (ArgSl.row 4 rfl) ?_ ?_ ?_)<;>first|rfl|omega|with_reducible refine isP ?_|conv=>whnf))|((with_reducible refine isW ?_;first|refine xwr_ok (by omega) (by omega) ?_|refine xwr_raw ?_);conv=>whnf)|with_reducible exact rfl|((with_reducible first|refine xif_kt (by assumption) ?_|refine xif_kf (by assumption) ?_);conv=>whnf)|((with_reducible refine xif_s ?_ ?_)<;>(intro hb;(try simp (disch:=omega) only [hbS] at hb)<;>conv=>whnf)))
              all_goals try (exfalso; omega)
              · refine CallX_m (add_m bm Lj (met.getD j c0) 1 0 hr1.1 hr1.2) [1] rfl ⟨fun _ _ h => h, trivial⟩ (by decide) (fun _ _ _ _ => trivial) ?_
                intro u
                (conv=>whnf);repeat' (first|((with_reducible refine isW ?_;first|refine xwr_ok (by omega) (by omega) ?_|refine xwr_raw ?_);conv=>whnf)|with_reducible exact rfl|((with_reducible first|refine xif_kt (by assumption) ?_|refine xif_kf (by assumption) ?_);conv=>whnf)|((with_reducible refine xif_s ?_ ?_)<;>(intro hb;(try simp (disch:=omega) only [hbS] at hb)<;>conv=>whnf)))
                refine ⟨j + 1, [0, 1, 2, 3, 4], by omega, ?_, by (try dsimp only); omega⟩
                dsimp only
                rw [hLn, hsj, if_pos hb]
                ((refine ⟨?_, ?_, ?_, ?_⟩) <;> (repeat' ((conv => whnf); apply And.intro)) <;> (try (first | exact trivial | decide)))
                all_goals first | rfl | exact fun _ _ h => h | (simp [SV.wf, SV.wfs]; done) | trace_state
              · refine CallX_m (add_m bm Lj (met.getD j c0) 0 1 hr2.1 hr2.2) [1] rfl ⟨fun _ _ h => h, trivial⟩ (by decide) (fun _ _ _ _ => trivial) ?_
                intro u
                (conv=>whnf);repeat' (first|((with_reducible refine isW ?_;first|refine xwr_ok (by omega) (by omega) ?_|refine xwr_raw ?_);conv=>whnf)|with_reducible exact rfl|((with_reducible first|refine xif_kt (by assumption) ?_|refine xif_kf (by assumption) ?_);conv=>whnf)|((with_reducible refine xif_s ?_ ?_)<;>(intro hb;(try simp (disch:=omega) only [hbS] at hb)<;>conv=>whnf)))
                refine ⟨j + 1, [0, 1, 2, 3, 4], by omega, ?_, by (try dsimp only); omega⟩
                dsimp only
                rw [hLn, hsj, if_neg (by rw [hb]; simp)]
                ((refine ⟨?_, ?_, ?_, ?_⟩) <;> (repeat' ((conv => whnf); apply And.intro)) <;> (try (first | exact trivial | decide)))
                all_goals first | rfl | exact fun _ _ h => h | (simp [SV.wf, SV.wfs]; done) | trace_state
            · obtain rfl : j = met.length := by omega
              rw [List.take_length]
              (conv=>whnf);repeat' (first|((with_reducible refine isW ?_;first|refine xwr_ok (by omega) (by omega) ?_|refine xwr_raw ?_);conv=>whnf)|with_reducible exact rfl|((with_reducible first|refine xif_kt (by assumption) ?_|refine xif_kf (by assumption) ?_);conv=>whnf)|((with_reducible refine xif_s ?_ ?_)<;>(intro hb;(try simp (disch:=omega) only [hbS] at hb)<;>conv=>whnf)))
              all_goals try (exfalso; omega)
              refine ⟨k + 1, [0, 1, 2], by omega, ?_, by (try dsimp only); omega⟩
              dsimp only
              rw [hL2, hstep]
              ((refine ⟨?_, ?_, ?_, ?_⟩) <;> (repeat' ((conv => whnf); apply And.intro)) <;> (try (first | exact trivial | decide)))
              all_goals first | rfl | exact fun _ _ h => h | (simp [SV.wf, SV.wfs]; done) | trace_state
      · obtain rfl : k = n := by omega
        have hok2 := hT k (by omega)
        have hs : s.take k = s := List.take_of_length_le (by omega)
        rw [hs] at hok2 ⊢
        have hIs : ∀ ys, IsList (s.foldl (beamT at_) []) ys → IsOf at_ s ys := fun ys h => by
          unfold IsOf
          rw [if_pos hok']
          exact h
        generalize s.foldl (beamT at_) [] = L at *
        (conv=>whnf);repeat' (first|((with_reducible refine isC ?_);first|(((with_reducible refine isF 58 ?_);(refine CallX_m (list_m bm L hok2.ne (by have := hok2.len; have := (sc (k - 1)); omega)) [1] rfl ⟨fun _ _ h => h, trivial⟩ (by decide) (fun _ _ _ _ => trivial) ?_; intro q));conv=>whnf))|((with_reducible refine isW ?_;first|refine xwr_ok (by omega) (by omega) ?_|refine xwr_raw ?_);conv=>whnf)|with_reducible exact rfl|((with_reducible first|refine xif_kt (by assumption) ?_|refine xif_kf (by assumption) ?_);conv=>whnf)|((with_reducible refine xif_s ?_ ?_)<;>(intro hb;(try simp (disch:=omega) only [hbS] at hb)<;>conv=>whnf)))
        all_goals try (exfalso; omega)
        obtain ⟨⟨A2, c2, ys⟩, hy⟩ := q
        dsimp only at hy ⊢
        exact Fin_m ⟨(A2, c2, ys), hIs ys hy⟩ [3] ⟨rfl, by simp [SV.wf, SV.wfs]⟩ ⟨⟨rfl, rfl, rfl, rfl, rfl, rfl⟩, trivial⟩ (by decide) rfl
end Go.Proofs.YtadichckbogcjaaGreatDoor.En
namespace Go.Proofs.YtadichckbogcjaaGreatDoor.En
open Go.RowKit
def leE (a b : EntT) : Bool := !befB b.cell a.cell
def lstF (L : List EntT) : List EntT := (L.filter fun e => !zeroE e).mergeSort leE
theorem leE_trans (a b c : EntT) (h1 : leE a b = true) (h2 : leE b c = true) : leE a c = true := by
  simp only [leE, Bool.not_eq_true', befB_false] at *
  omega
theorem leE_total (a b : EntT) : (leE a b || leE b a) = true := by
  rw [Bool.or_eq_true]
  simp only [leE, Bool.not_eq_true', befB_false]
  omega
theorem lstF_list {L : List EntT} (h : neT L) : IsList L (lstF L) := by
  have hp : (lstF L).Perm (L.filter fun e => !zeroE e) := List.mergeSort_perm _ _
  refine ⟨hp, ?_⟩
  have hs : (lstF L).Pairwise fun a b => leE a b = true := List.pairwise_mergeSort leE_trans leE_total _
  have hn : (lstF L).Pairwise fun a b => a.cell ≠ b.cell := (hp.pairwise_iff (fun {a b} h => h.symm)).2 (h.sublist List.filter_sublist)
  have := hs.and hn
  refine this.imp fun {a b} ⟨h1, h2⟩ => ?_
  cases h3 : befB a.cell b.cell with
  | true => rfl
  | false =>
    simp only [leE, Bool.not_eq_true'] at h1
    exact (h2 (befB_total h3 h1)).elim
def Rep (f : CellT → Int × Int) (ys : List EntT) : Prop := asc ys ∧ ∀ e, e ∈ ys ↔ zeroE e = false ∧ f e.cell = (e.2.2.1, e.2.2.2)
theorem asc_nodup {l : List EntT} (h : asc l) : l.Nodup := by
  refine List.Pairwise.imp (fun {a b} hab => ?_) h
  rintro rfl
  rw [befB_irr] at hab
  cases hab
theorem asc_ne {l : List EntT} (h : asc l) : neT l := by
  refine List.Pairwise.imp (fun {a b} hab => ?_) h
  intro e
  rw [e, befB_irr] at hab
  cases hab
theorem asc_same {l m : List EntT} (h1 : asc l) (h2 : asc m) (h : ∀ e, e ∈ l ↔ e ∈ m) : l = m := by
  refine asc_unique h1 h2 ?_
  rw [List.perm_ext_iff_of_nodup (asc_nodup h1) (asc_nodup h2)]
  exact h
theorem Rep.unique {f g : CellT → Int × Int} {l m : List EntT} (h1 : Rep f l) (h2 : Rep g m) (h : ∀ c, f c = g c) : l = m := by
  refine asc_same h1.1 h2.1 fun e => ?_
  rw [h1.2, h2.2, h]
theorem Rep.congr {f g : CellT → Int × Int} {l : List EntT} (h1 : Rep f l) (h : ∀ c, f c = g c) : Rep g l := ⟨h1.1, fun e => by rw [h1.2, h]⟩
theorem Rep.nil : Rep (fun _ => (0, 0)) [] := by
  refine ⟨by simp [asc], fun e => ?_⟩
  simp [zeroE]
  intro h1 h2
  intro h3
  exact h1 h2.symm h3.symm
theorem mem_val {L : List EntT} (h : neT L) {e : EntT} (he : e ∈ L) : valT L e.cell = (e.2.2.1, e.2.2.2) := by
  unfold valT
  rw [getT_of h he]
theorem val_mem {L : List EntT} {e : EntT} (hz : zeroE e = false) (hv : valT L e.cell = (e.2.2.1, e.2.2.2)) : e ∈ L := by
  rcases getT_mem (L := L) (c := e.cell) with ⟨h1, h2⟩ | ⟨h1, _⟩
  · have : getT L e.cell = e := by
      unfold valT at hv
      obtain ⟨e1, e2⟩ := Prod.ext_iff.1 hv
      obtain ⟨c1, c2⟩ := Prod.ext_iff.1 h2
      exact Prod.ext c1 (Prod.ext c2 (Prod.ext e1 e2))
    rwa [this] at h1
  · unfold valT at hv
    rw [h1] at hv
    simp only [e0, Prod.mk.injEq] at hv
    simp [zeroE, ← hv.1, ← hv.2] at hz
theorem rep_lst {L : List EntT} (h : neT L) : Rep (valT L) (lstF L) := by
  obtain ⟨hp, ha⟩ := lstF_list h
  refine ⟨ha, fun e => ?_⟩
  rw [hp.mem_iff, List.mem_filter]
  constructor
  · rintro ⟨h1, h2⟩
    exact ⟨by simpa using h2, mem_val h h1⟩
  · rintro ⟨h1, h2⟩
    exact ⟨val_mem h1 h2, by simp [h1]⟩
theorem Rep.val {f : CellT → Int × Int} {l : List EntT} (h : Rep f l) (c : CellT) : valT l c = f c := by
  rcases getT_mem (L := l) (c := c) with ⟨h1, h2⟩ | ⟨h1, h2⟩
  · have := ((h.2 _).1 h1).2
    rw [h2] at this
    rw [this]
    rfl
  · unfold valT
    rw [h1]
    generalize hf : f c = p
    by_cases hz : p.1 = 0 ∧ p.2 = 0
    · exact Prod.ext hz.1.symm hz.2.symm
    · have : ((c.1, c.2, p.1, p.2) : EntT) ∈ l := (h.2 _).2 ⟨by simp [zeroE]; intro h3; intro h4; exact hz ⟨h3, h4⟩, by
        show f (c.1, c.2) = _
        rw [show ((c.1, c.2) : CellT) = c from rfl, hf]⟩
      exact (h2 _ this rfl).elim
end Go.Proofs.YtadichckbogcjaaGreatDoor.En
end
section
namespace Go.Proofs.YtadichckbogcjaaGreatDoor.En
open Go.RowKit
set_option maxRecDepth 100000
def okS (m : List (Int × SlT)) : Prop := ∀ e ∈ m, e.2.2.2.length ≤ 32
theorem okS.st {m : List (Int × SlT)} (h : okS m) {k : Int} {v : SlT} (hv : v.2.2.length ≤ 32) : okS (stI m k v) := fun e he => by
  rcases stI_mem he with he | rfl
  · exact h e he
  · exact hv
theorem okS.of {m : List (Int × SlT)} (h : okS m) (k : Int) : (slOf m k).2.2.length ≤ 32 := by
  unfold slOf
  cases hi : lkI m k with
  | none => simp
  | some v => exact h _ (lkI_mem hi)
end Go.Proofs.YtadichckbogcjaaGreatDoor.En
namespace Go.Proofs.YtadichckbogcjaaGreatDoor.En
open Go.RowKit
set_option maxRecDepth 100000
end Go.Proofs.YtadichckbogcjaaGreatDoor.En
namespace Go.Proofs.YtadichckbogcjaaGreatDoor.En
open Go.RowKit
set_option maxRecDepth 100000
abbrev AOp := Bool × Int × SlT × PlT
def encOp (o : AOp) : List Value := [.bool o.1, .int .i64 o.2.1, .slice o.2.2.1.1 o.2.2.1.2.2.length o.2.2.1.2.1, .int .i64 o.2.2.2.1, .bool o.2.2.2.2.1, .int .i64 o.2.2.2.2.2.1, .int .i64 o.2.2.2.2.2.2.1, .int .i64 o.2.2.2.2.2.2.2]
def opN (w : World) (M : Nat → Prop) (o : AOp) : Prop := ArgN w M o.2.2.1.1 o.2.2.1.2.2.length 2 (o.2.2.1.2.2.map encBm)
def opsN (w : World) (M : Nat → Prop) (A : Option Addr) (n : Nat) (l : List AOp) : Prop := ArgN w M A n 8 (l.map encOp) ∧ ∀ o ∈ l, opN w M o ∧ o.2.2.1.2.2.length ≤ maxLen
theorem opN.on {C : Ctx} {ob : List OB} {o : AOp} (h : opN C.w0 C.M o) {m : Nat} {r : List Nat} (hr : ∀ j, j < m → r.getD j 0 < ob.length) : ∀ σ fp w, Mem C σ fp ob w → opN w (MOf m fun j => fp (r.getD j 0)) o :=
  ArgN.on h (by decide) hr
theorem opsN.on {C : Ctx} {ob : List OB} {A : Option Addr} {n : Nat} {l : List AOp} (h : opsN C.w0 C.M A n l) {m : Nat} {r : List Nat} (hr : ∀ j, j < m → r.getD j 0 < ob.length) : ∀ σ fp w, Mem C σ fp ob w → opsN w (MOf m fun j => fp (r.getD j 0)) A n l :=
  fun σ fp w hm => ⟨ArgN.on h.1 (by decide) hr σ fp w hm, fun o ho => ⟨opN.on (h.2 o ho).1 hr σ fp w hm, (h.2 o ho).2⟩⟩
end Go.Proofs.YtadichckbogcjaaGreatDoor.En
end
section
namespace Go.Proofs.YtadichckbogcjaaGreatDoor.En
open Go.RowKit
set_option maxRecDepth 100000
def addE (L : List EntT) (e : EntT) : List EntT := addT L e.cell e.2.2.1 e.2.2.2
def adF (f : Int) (L : List EntT) (e : EntT) : List EntT := addT L e.cell (f * e.2.2.1) (f * e.2.2.2)
def combL (f : Int) (a b : List EntT) : List EntT := b.foldl (adF f) (a.foldl addE [])
def combE (f : Int) (a b : List EntT) : List EntT × Int :=
  if vE a && vE b then
    if (lstF (combL f a b)).any fun e => !countB e then ([], 2)
    else if (lstF (combL f a b)).length > 1048576 then ([], 6) else (lstF (combL f a b), 0)
  else ([], 1)
structure OkC (k : Nat) (L : List EntT) : Prop where
  ne : neT L
  bd : ∀ e ∈ L, -(k * 1099511627776 : Int) ≤ e.2.2.1 ∧ e.2.2.1 ≤ k * 1099511627776 ∧ -(k * 1099511627776 : Int) ≤ e.2.2.2 ∧ e.2.2.2 ≤ k * 1099511627776
  len : L.length ≤ k
theorem OkC.nil : OkC 0 [] := ⟨by simp [neT], by simp, by simp⟩
theorem OkC.get {k : Nat} {L : List EntT} (h : OkC k L) (c : CellT) : -(k * 1099511627776 : Int) ≤ (getT L c).2.2.1 ∧ (getT L c).2.2.1 ≤ k * 1099511627776 ∧ -(k * 1099511627776 : Int) ≤ (getT L c).2.2.2 ∧ (getT L c).2.2.2 ≤ k * 1099511627776 := by
  rcases getT_mem (L := L) (c := c) with ⟨h1, _⟩ | ⟨h1, _⟩
  · exact h.bd _ h1
  · rw [h1]
    simp only [e0]
    omega
theorem OkC.add {k : Nat} {L : List EntT} (h : OkC k L) (c : CellT) (a p : Int) (ha : -1099511627776 ≤ a ∧ a ≤ 1099511627776) (hp : -1099511627776 ≤ p ∧ p ≤ 1099511627776) : OkC (k + 1) (addT L c a p) := by
  refine ⟨addT_ne h.ne c a p, fun e he => ?_, Nat.le_trans (setT_len _ _) (by have := h.len; omega)⟩
  have h1 := h.get c
  rcases mem_setT he with h2 | rfl
  · have := h.bd e h2
    omega
  · dsimp only
    omega
theorem ent_bd {l : List EntT} (h : vE l = true) {i : Nat} (hi : i < l.length) : (-1099511627776 ≤ (l.getD i e0).2.2.1 ∧ (l.getD i e0).2.2.1 ≤ 1099511627776) ∧ (-1099511627776 ≤ (l.getD i e0).2.2.2 ∧ (l.getD i e0).2.2.2 ≤ 1099511627776) := by
  have h1 := vE_at h hi
  simp only [okAt, goodB, countB, szB, Bool.and_eq_true, decide_eq_true_eq] at h1
  omega
theorem vE_length {l : List EntT} (h : vE l = true) : l.length ≤ 1048576 := by
  by_cases h' : l.length ≤ 1048576
  · exact h'
  · rw [vE_long h'] at h
    cases h
theorem mul_f {f x : Int} (hf : f = 1 ∨ f = -1) (hx : -1099511627776 ≤ x ∧ x ≤ 1099511627776) : -1099511627776 ≤ f * x ∧ f * x ≤ 1099511627776 := by
  rcases hf with rfl | rfl <;> omega
theorem OkC.room {k : Nat} {L : List EntT} (h : OkC k L) (hk : k ≤ 2097152) (c : CellT) {a p : Int} (ha : -1099511627776 ≤ a ∧ a ≤ 1099511627776) (hp : -1099511627776 ≤ p ∧ p ≤ 1099511627776) :
    (-4611686018427387904 ≤ (getT L c).2.2.1 + a ∧ (getT L c).2.2.1 + a ≤ 4611686018427387904) ∧ (-4611686018427387904 ≤ (getT L c).2.2.2 + p ∧ (getT L c).2.2.2 + p ≤ 4611686018427387904) := by
  have := h.get c
  omega
theorem valT_none {L : List EntT} {c : CellT} (h : ∀ e ∈ L, e.cell ≠ c) : valT L c = (0, 0) := by
  rcases getT_mem (L := L) (c := c) with ⟨h1, h2⟩ | ⟨h1, _⟩
  · exact (h _ h1 h2).elim
  · unfold valT
    rw [h1]
    rfl
theorem valT_cons {e : EntT} {l : List EntT} (h : neT (e :: l)) (c : CellT) : valT (e :: l) c = if e.cell = c then (e.2.2.1, e.2.2.2) else valT l c := by
  split
  · rename_i hc
    subst hc
    exact mem_val h (by simp)
  · rename_i hc
    unfold neT at h
    rw [List.pairwise_cons] at h
    rcases getT_mem (L := l) (c := c) with ⟨h1, h2⟩ | ⟨h1, h2⟩
    · have h3 := mem_val (L := e :: l) (by unfold neT; rw [List.pairwise_cons]; exact h) (List.mem_cons_of_mem e h1)
      rw [h2] at h3
      rw [h3]
      rfl
    · rw [valT_none (L := e :: l) (fun x hx => by
        rcases List.mem_cons.1 hx with rfl | hx
        · exact hc
        · exact h2 x hx)]
      unfold valT
      rw [h1]
      rfl
theorem neT_tail {e : EntT} {l : List EntT} (h : neT (e :: l)) : neT l ∧ ∀ x ∈ l, x.cell ≠ e.cell := by
  unfold neT at *
  rw [List.pairwise_cons] at h
  exact ⟨h.2, fun x hx e' => h.1 x hx e'.symm⟩
theorem val_addF (f : Int) (c : CellT) : ∀ (b : List EntT) (L : List EntT), neT b → neT L → neT (b.foldl (adF f) L) ∧ valT (b.foldl (adF f) L) c = ((valT L c).1 + f * (valT b c).1, (valT L c).2 + f * (valT b c).2)
  | [], L, _, hL => by
    refine ⟨hL, ?_⟩
    rw [valT_none (L := []) (by simp)]
    simp
  | e :: b, L, hb, hL => by
    obtain ⟨h1, h2⟩ := neT_tail hb
    have hL' : neT (adF f L e) := addT_ne hL _ _ _
    obtain ⟨h3, h4⟩ := val_addF f c b (adF f L e) h1 hL'
    refine ⟨h3, ?_⟩
    rw [List.foldl_cons, h4, valT_cons hb]
    unfold adF
    rw [valT_add hL]
    split
    · rename_i hc
      rw [valT_none (L := b) (fun x hx => by rw [← hc]; exact h2 x hx)]
      rw [hc]
      simp
    · rfl
theorem val_addE (c : CellT) (b : List EntT) (L : List EntT) (hb : neT b) (hL : neT L) : neT (b.foldl addE L) ∧ valT (b.foldl addE L) c = ((valT L c).1 + (valT b c).1, (valT L c).2 + (valT b c).2) := by
  have e : b.foldl addE L = b.foldl (adF 1) L := by
    congr 1
    funext L e
    simp [addE, adF]
  rw [e]
  obtain ⟨h1, h2⟩ := val_addF 1 c b L hb hL
  refine ⟨h1, h2.trans ?_⟩
  simp
def sumV (f : Int) (a b : List EntT) (c : CellT) : Int × Int := ((valT a c).1 + f * (valT b c).1, (valT a c).2 + f * (valT b c).2)
theorem val_comb (f : Int) {a b : List EntT} (ha : vE a = true) (hb : vE b = true) (c : CellT) : neT (combL f a b) ∧ valT (combL f a b) c = sumV f a b c := by
  have na := asc_ne (vE_pairwise ha)
  have nb := asc_ne (vE_pairwise hb)
  obtain ⟨h1, h2⟩ := val_addE c a [] na (by simp [neT])
  obtain ⟨h3, h4⟩ := val_addF f c b (a.foldl addE []) nb h1
  refine ⟨h3, ?_⟩
  unfold combL sumV
  rw [h4, h2, valT_none (L := []) (by simp)]
  simp
theorem rep_comb (f : Int) {a b : List EntT} (ha : vE a = true) (hb : vE b = true) : Rep (sumV f a b) (lstF (combL f a b)) :=
  (rep_lst (val_comb f ha hb (0, 0)).1).congr fun c => (val_comb f ha hb c).2
end Go.Proofs.YtadichckbogcjaaGreatDoor.En
namespace Go.Proofs.YtadichckbogcjaaGreatDoor.En
open Go.RowKit
theorem comb_def {f : Int} {a b : List EntT} (ha : vE a = true) (hb : vE b = true) :
    combE f a b = if (lstF (combL f a b)).any fun e => !countB e then ([], 2) else if (lstF (combL f a b)).length > 1048576 then ([], 6) else (lstF (combL f a b), 0) := by
  unfold combE
  rw [ha, hb]
  rfl
theorem comb_len (f : Int) (a b : List EntT) : (combE f a b).1.length ≤ 1048576 := by
  unfold combE
  split
  · split
    · simp
    · split
      · simp
      · dsimp only
        omega
  · simp
theorem comb_code {f : Int} {a b : List EntT} (h : (combE f a b).2 = 0) : vE a = true ∧ vE b = true ∧ (combE f a b).1 = lstF (combL f a b) ∧ (∀ e ∈ lstF (combL f a b), countB e = true) ∧ (lstF (combL f a b)).length ≤ 1048576 := by
  unfold combE at h ⊢
  split at h
  · rename_i h1
    rw [Bool.and_eq_true] at h1
    rw [if_pos (by rw [h1.1, h1.2]; rfl)]
    split at h
    · cases h
    · rename_i h2
      split at h
      · cases h
      · rename_i h3
        rw [if_neg h2, if_neg h3]
        refine ⟨h1.1, h1.2, rfl, fun e he => ?_, by omega⟩
        cases hc : countB e with
        | true => rfl
        | false => exact (h2 (List.any_eq_true.2 ⟨e, he, by simp [hc]⟩)).elim
  · cases h
theorem comb_rep {f : Int} {a b : List EntT} (h : (combE f a b).2 = 0) : Rep (sumV f a b) (combE f a b).1 := by
  obtain ⟨h1, h2, h3, _⟩ := comb_code h
  rw [h3]
  exact rep_comb f h1 h2
theorem cell_lim {l : List EntT} (h : vE l = true) {c : CellT} (hc : valT l c ≠ (0, 0)) : szB c.1 16384 = true ∧ szB c.2 16384 = true := by
  rcases getT_mem (L := l) (c := c) with ⟨h1, h2⟩ | ⟨h1, _⟩
  · have := vE_good h h1
    simp only [goodB, Bool.and_eq_true] at this
    rw [← h2]
    exact ⟨this.1.2, this.2⟩
  · exact (hc (by unfold valT; rw [h1]; rfl)).elim
theorem comb_vE {f : Int} {a b : List EntT} (h : (combE f a b).2 = 0) : vE (combE f a b).1 = true := by
  have hr := comb_rep h
  obtain ⟨h1, h2, h3, h4, h5⟩ := comb_code h
  refine asc_vE hr.1 (fun e he => ?_) (by rw [h3]; exact h5)
  have hcnt := h4 e (by rw [← h3]; exact he)
  obtain ⟨hz, hv⟩ := (hr.2 e).1 he
  have hlim : szB e.cell.1 16384 = true ∧ szB e.cell.2 16384 = true := by
    by_cases ha : valT a e.cell = (0, 0)
    · by_cases hb : valT b e.cell = (0, 0)
      · unfold sumV at hv
        rw [ha, hb] at hv
        simp at hv
        simp [zeroE, ← hv.1, ← hv.2] at hz
      · exact cell_lim h2 hb
    · exact cell_lim h1 ha
  have e1 : szB e.1 16384 = true := hlim.1
  have e2 : szB e.2.1 16384 = true := hlim.2
  simp only [zeroE] at hz
  simp only [goodB, hcnt, hz, e1, e2]
  rfl
theorem comb_val {f : Int} {a b : List EntT} (h : (combE f a b).2 = 0) (c : CellT) : valT (combE f a b).1 c = sumV f a b c := (comb_rep h).val c
theorem vE_nil : vE [] = true := by decide
theorem comb_inv {f : Int} {a b : List EntT} (h : vE a = false) : combE f a b = ([], 1) := by
  unfold combE
  rw [h]
  rfl
end Go.Proofs.YtadichckbogcjaaGreatDoor.En
end
