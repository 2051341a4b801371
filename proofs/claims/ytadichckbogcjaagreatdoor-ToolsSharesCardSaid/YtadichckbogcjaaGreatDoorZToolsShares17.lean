import Derived.Test.YtadichckbogcjaaGreatDoorZToolsShares14
import Derived.Test.YtadichckbogcjaaGreatDoorZToolsShares16
set_option linter.all false
section
namespace Go.Proofs.YtadichckbogcjaaGreatDoor.En
open Go.RowKit
set_option maxRecDepth 100000
abbrev PoseT := Int × Int × Int
def stepT (ends : List CellT) (L : List EntT) (c : CellT) : List EntT := if ends.any (inB c) then addT L c 1 0 else addT L c 0 1
def reachB (b : BeamT) : Int := if b.2 < 0 then 1024 else b.2
def endsL (p : PtT) (v : VecT) (b : BeamT) : List CellT := if b.2 < 0 then [] else tracedL p v b.2 b.2
def metL (p : PtT) (v : VecT) (b : BeamT) : List CellT := tracedL p v 0 (reachB b)
def beamT (at_ : PoseT) (L : List EntT) (b : BeamT) : List EntT := (metL (at_.1, at_.2.1) (beamF at_.2.2 b.1) b).foldl (stepT (endsL (at_.1, at_.2.1) (beamF at_.2.2 b.1) b)) L
def ofL (at_ : PoseT) (s : List BeamT) : List EntT := s.foldl (beamT at_) []
def ofOk (at_ : PoseT) (s : List BeamT) : Bool := szB at_.1 262144 && szB at_.2.1 262144 && decide (0 ≤ at_.2.2) && decide (at_.2.2 < 256) && scanB s
def IsOf (at_ : PoseT) (s : List BeamT) (ys : List EntT) : Prop := if ofOk at_ s then IsList (ofL at_ s) ys else ys = []
abbrev OfT (at_ : PoseT) (s : List BeamT) := {q : Option Addr × Nat × List EntT // IsOf at_ s q.2.2}
structure OkT (K : Nat) (L : List EntT) : Prop where
  ne : neT L
  bd : bdT K L
  len : L.length ≤ K
theorem OkT.nil : OkT 0 [] := ⟨by simp [neT], by simp [bdT], by simp⟩
theorem OkT.mono {K K' : Nat} {L : List EntT} (h : OkT K L) (hk : K ≤ K') : OkT K' L :=
  ⟨h.ne, fun e he => by have := h.bd e he; omega, by have := h.len; omega⟩
theorem OkT.add {K : Nat} {L : List EntT} (h : OkT K L) (c : CellT) (a p : Int) (ha : 0 ≤ a ∧ a ≤ 1) (hp : 0 ≤ p ∧ p ≤ 1) : OkT (K + 1) (addT L c a p) :=
  ⟨addT_ne h.ne c a p, by have := bd_add (by omega) h.bd c a p ha hp; simpa using this, Nat.le_trans (setT_len _ _) (by have := h.len; omega)⟩
theorem OkT.step {K : Nat} {L : List EntT} (h : OkT K L) (ends : List CellT) (c : CellT) : OkT (K + 1) (stepT ends L c) := by
  unfold stepT
  split
  · exact h.add c 1 0 (by decide) (by decide)
  · exact h.add c 0 1 (by decide) (by decide)
theorem OkT.steps (ends : List CellT) : ∀ (l : List CellT) {K : Nat} {L : List EntT}, OkT K L → OkT (K + l.length) (l.foldl (stepT ends) L)
  | [], K, L, h => h
  | c :: l, K, L, h => by
    have := OkT.steps ends l (h.step ends c)
    rw [List.foldl_cons, List.length_cons, show K + (l.length + 1) = K + 1 + l.length by omega]
    exact this
theorem OkT.room {K : Nat} {L : List EntT} (h : OkT K L) (hK : K ≤ 1000000) (c : CellT) (a p : Int) (ha : 0 ≤ a ∧ a ≤ 1) (hp : 0 ≤ p ∧ p ≤ 1) :
    (-4611686018427387904 ≤ (getT L c).2.2.1 + a ∧ (getT L c).2.2.1 + a ≤ 4611686018427387904) ∧ (-4611686018427387904 ≤ (getT L c).2.2.2 + p ∧ (getT L c).2.2.2 + p ≤ 4611686018427387904) := by
  have := bd_get (K := K) (by omega) h.bd c
  omega
theorem fold_take {α β : Type} (f : β → α → β) (b : β) {l : List α} {j : Nat} {d : α} (hj : j < l.length) : (l.take (j + 1)).foldl f b = f ((l.take j).foldl f b) (l.getD j d) := by
  rw [List.take_succ_eq_append_getElem hj, List.foldl_append]
  simp [hj]
theorem traced_len {p : PtT} {v : VecT} {lo hi : Int} (h1 : -1048576 ≤ p.1 ∧ p.1 ≤ 1048576 ∧ -1048576 ≤ p.2 ∧ p.2 ≤ 1048576) (hv : vecB v = true) (h2 : 0 ≤ lo ∧ lo ≤ hi ∧ hi ≤ 2048) : (tracedL p v lo hi).length ≤ 10000 := by
  obtain ⟨p1, p2, p3, p4⟩ := h1
  obtain ⟨l1, l2, l3⟩ := h2
  have hb := sw_bd (r := ptR p) (v := v) (lo := lo) (hi := hi) ⟨p1, Int.le_refl _, p2, p3, Int.le_refl _, p4, by simp [ptR], by simp [ptR], hv, l1, l2, l3⟩
  unfold tracedL sweepL
  have := outK_len (hitR (ptR p) v lo hi) (swX (ptR p) v lo hi).1 (swY (ptR p) v lo hi).1 ((swX (ptR p) v lo hi).2 - (swX (ptR p) v lo hi).1 + 1).toNat (by omega) ((swY (ptR p) v lo hi).2 - (swY (ptR p) v lo hi).1 + 1).toNat
  omega
theorem scan_ok {s : List BeamT} (h : scanB s = true) {k : Nat} (hk : k < s.length) : s.length ≤ 32 ∧ 0 ≤ (s.getD k b0).1 ∧ (s.getD k b0).1 < 256 ∧ -1 ≤ (s.getD k b0).2 ∧ (s.getD k b0).2 ≤ 1024 := by
  simp only [scanB, Bool.and_eq_true, decide_eq_true_eq, Bool.not_eq_true', List.any_eq_false] at h
  have h2 := h.2 (s.getD k b0) (by simp [hk])
  simp only [wrongB, Bool.or_eq_true, decide_eq_true_eq] at h2
  omega
theorem met_len {at_ : PoseT} {b : BeamT} (h1 : szB at_.1 262144 = true) (h2 : szB at_.2.1 262144 = true) (h3 : -1 ≤ b.2 ∧ b.2 ≤ 1024) : (metL (at_.1, at_.2.1) (beamF at_.2.2 b.1) b).length ≤ 10000 := by
  have g1 := szB_bd h1
  have g2 := szB_bd h2
  refine traced_len (by dsimp only; omega) (beam_vec _ _) ?_
  unfold reachB
  split <;> omega
theorem of_okT {at_ : PoseT} {s : List BeamT} (h1 : szB at_.1 262144 = true) (h2 : szB at_.2.1 262144 = true) (hs : scanB s = true) : ∀ k, k ≤ s.length → OkT (k * 10000) ((s.take k).foldl (beamT at_) [])
  | 0, _ => by simpa using OkT.nil
  | k + 1, hk => by
    have ih := of_okT h1 h2 hs k (by omega)
    rw [fold_take (d := b0) _ _ (by omega)]
    obtain ⟨_, _, _, q1, q2⟩ := scan_ok hs (k := k) (by omega)
    have hl := met_len (b := s.getD k b0) h1 h2 ⟨q1, q2⟩
    exact (ih.steps _ _).mono (by omega)
end Go.Proofs.YtadichckbogcjaaGreatDoor.En
namespace Go.Proofs.YtadichckbogcjaaGreatDoor.En
open Go.RowKit
set_option maxRecDepth 100000
theorem IsOf_bad {at_ : PoseT} {s : List BeamT} (h : ofOk at_ s = false) : IsOf at_ s [] := by
  unfold IsOf
  rw [if_neg (by rw [h]; simp)]
set_option maxHeartbeats 4000000 in
theorem of_m (at_ : PoseT) (A : Option Addr) (c : Nat) (s : List BeamT) {n : Nat} (hl : s.length = n) (hn : n ≤ maxLen) :
    CallM Tryz.prog 24 [.a [I at_.1, I at_.2.1, I at_.2.2], .v (.slice A n c)] (fun w M => ArgN w M A n 2 (s.map encB)) []
      (fun q : OfT at_ s => .t [.v (.slice q.1.1 q.1.2.2.length q.1.2.1), I (if ofOk at_ s then 0 else 1)]) (fun q => [.row 34 4 q.1.1 q.1.2.2.length q.1.2.1 (q.1.2.2.map encE)]) := by
  have hn' := hn
  unfold maxLen at hn'
  refine CallM.of (m := 0) Tryz.func24 rfl tabOk rfl rfl rfl rfl (by simp [SV.wfs, SV.wf]) fun w M π hpre => ?_
  cases hok : ofOk at_ s with
  | false =>
    (conv=>whnf);repeat' (first|((with_reducible refine isC ?_);first|((with_reducible refine CallX_pure (PureD.pure (within_d _ _ ?_ ?_)) ?_)<;>first|omega|with_reducible refine isP ?_|conv=>whnf)|(((with_reducible refine isF 53 ?_);(refine CallX_w (scanned_w A c s hl hn) (ArgN.mem hpre (by decide)) ?_));conv=>whnf))|((with_reducible refine isW ?_;first|refine xwr_ok (by omega) (by omega) ?_|refine xwr_raw ?_);conv=>whnf)|with_reducible exact rfl|((with_reducible first|refine xif_kt (by assumption) ?_|refine xif_kf (by assumption) ?_);conv=>whnf)|((with_reducible refine xif_s ?_ ?_)<;>(intro hb;(try simp (disch:=omega) only [hbS] at hb)<;>conv=>whnf)))
    all_goals first
      | (refine Fin_addNil 34 4 ?_; exact Fin_m ⟨(none, 0, []), IsOf_bad hok⟩ [1] ⟨rfl, by simp [SV.wf, SV.wfs]⟩ ⟨⟨rfl, rfl, rfl, rfl, rfl, rfl⟩, trivial⟩ (by decide) rfl)
      | (exfalso; rename_i h1 h2 h3 h4; simp [ofOk, *] at hok; done)
      | trace_state
  | true =>
    have hok' := hok
    simp only [ofOk, Bool.and_eq_true, decide_eq_true_eq] at hok
    obtain ⟨⟨⟨⟨g1, g2⟩, g3⟩, g4⟩, g5⟩ := hok
    have sc := fun k hk => scan_ok g5 (k := k) hk
    have hT := of_okT g1 g2 g5
    have z1 := szB_bd g1
    have z2 := szB_bd g2
    (conv=>whnf);repeat' (first|((with_reducible refine isC ?_);first|((with_reducible refine CallX_pure (PureD.pure (within_d _ _ ?_ ?_)) ?_)<;>first|omega|with_reducible refine isP ?_|conv=>whnf)|(((with_reducible refine isF 53 ?_);(refine CallX_w (scanned_w A c s hl hn) (ArgN.mem hpre (by decide)) ?_));conv=>whnf))|((with_reducible refine isO ?_);first|(refine OpX_makeT rfl ?_; intro bm; conv => whnf))|((with_reducible refine isW ?_;first|refine xwr_ok (by omega) (by omega) ?_|refine xwr_raw ?_);conv=>whnf)|with_reducible exact rfl|((with_reducible first|refine xif_kt (by assumption) ?_|refine xif_kf (by assumption) ?_);conv=>whnf)|((with_reducible refine xif_s ?_ ?_)<;>(intro hb;(try simp (disch:=omega) only [hbS] at hb)<;>conv=>whnf)))
    all_goals try exact (Bool.false_ne_true (hb.symm.trans g1)).elim
    all_goals try exact (Bool.false_ne_true (hb.symm.trans g2)).elim
    all_goals try exact (Bool.false_ne_true (hb.symm.trans g5)).elim
    all_goals try (exfalso; omega)
    refine LoopX_inv tabOk (α := Nat) (fun k => k ≤ n) (fun k => [(1, .v (.slice A n c)), (2, .p 0 0), (6, .v (.map (some bm))), (7, .p 2 0), (48, .v (.slice A n c)), (49, I n), (50, I k)])
      (fun k => [.box 63 [I at_.1, I at_.2.1, I at_.2.2], talO bm ((s.take k).foldl (beamT at_) []), .box 96 [I at_.1, I at_.2.1]]) (fun k => n - k) 0 [0, 1, 2] (Nat.zero_le _) ?_ ?_
    · ((refine ⟨?_, ?_, ?_, ?_⟩) <;> (repeat' ((conv => whnf); apply And.intro)) <;> (try (first | exact trivial | decide)))
      all_goals first | rfl | exact fun _ _ h => h | (simp [SV.wf, SV.wfs]; done) | trace_state
    · intro k hk
      by_cases hlt : k < n
      · obtain ⟨s1, s2, s3, s4, s5⟩ := sc k (by omega)
        have hTk := hT k (by omega)
        have hbeam := Beam_x at_.2.2 (s.getD k b0).1
        have hv := beam_vec at_.2.2 (s.getD k b0).1
        have hstep := fold_take (beamT at_) [] (d := b0) (l := s) (j := k) (by omega)
        generalize hL : (s.take k).foldl (beamT at_) [] = L at *
        generalize hL2 : (s.take (k + 1)).foldl (beamT at_) [] = L2 at *
        unfold beamT at hstep
        generalize beamF at_.2.2 (s.getD k b0).1 = v at *
        (conv=>whnf);repeat' (first|((with_reducible refine isC ?_);first|((with_reducible refine CallX_pure (hbeam) ?_)<;>first|omega|with_reducible refine isP ?_|conv=>whnf))|((with_reducible refine isV ?_);first|((first|refine ValX_index tabOk rfl (ArgN.mem hpre (by decide)) rfl ?_ ?_ ?_|(with_reducible refine nat_idx ?_);refine ValX_loadEn _ _ (b0) tabOk rfl rfl rfl rfl (ArgN.mem hpre (by decide)) ?_ ?_ ?_|refine ValX_loadE _ _ (b0) tabOk rfl rfl rfl rfl (ArgN.mem hpre (by decide)) ?_ ?_ ?_)<;>first|rfl|omega|with_reducible refine isP ?_|conv=>whnf))|((with_reducible refine isW ?_;first|refine xwr_ok (by omega) (by omega) ?_|refine xwr_raw ?_);conv=>whnf)|with_reducible exact rfl|((with_reducible first|refine xif_kt (by assumption) ?_|refine xif_kf (by assumption) ?_);conv=>whnf)|((with_reducible refine xif_s ?_ ?_)<;>(intro hb;(try simp (disch:=omega) only [hbS] at hb)<;>conv=>whnf)))
        all_goals try (exfalso; omega)
        all_goals generalize hrr : (s.getD k b0).2 = r at *
        · have hre : reachB (s.getD k b0) = 1024 := by unfold reachB; rw [hrr, if_pos hb]
          have hen : endsL (at_.1, at_.2.1) v (s.getD k b0) = [] := by unfold endsL; rw [hrr, if_pos hb]
          have ht := Traced_r (at_.1, at_.2.1) v 0 1024 (by dsimp only; omega) hv (by decide)
          have hml := traced_len (p := (at_.1, at_.2.1)) (lo := 0) (hi := 1024) (by dsimp only; omega) hv (by decide)
          unfold metL at hstep
          rw [hre, hen] at hstep
          clear hre hen
          generalize tracedL (at_.1, at_.2.1) v 0 1024 = met at *
          refine CallX_r ht (fun _ _ _ _ => trivial) ?_
          intro A2 c2
          clear ht
          (conv=>whnf);repeat' (first|((with_reducible refine isW ?_;first|refine xwr_ok (by omega) (by omega) ?_|refine xwr_raw ?_);conv=>whnf)|with_reducible exact rfl|((with_reducible first|refine xif_kt (by assumption) ?_|refine xif_kf (by assumption) ?_);conv=>whnf)|((with_reducible refine xif_s ?_ ?_)<;>(intro hb;(try simp (disch:=omega) only [hbS] at hb)<;>conv=>whnf)))
          all_goals try (exfalso; omega)
          refine LoopX_inv tabOk (α := Nat) (fun j => j ≤ met.length) (fun j => [(1, .v (.slice A n c)), (2, .p 0 0), (6, .v (.map (some bm))), (7, .p 2 0), (12, .v (.slice none 0 0)), (48, .v (.slice A n c)), (49, I n), (50, I k), (78, .v (.slice A2 (met.map encC).length c2)), (79, I (met.map encC).length), (80, I j)])
            (fun j => [.box 63 [I at_.1, I at_.2.1, I at_.2.2], talO bm ((met.take j).foldl (stepT ([] : List CellT)) L), .box 96 [I at_.1, I at_.2.1], .row 25 2 A2 (met.map encC).length c2 (met.map encC)]) (fun j => met.length - j) 0 [0, 1, 2, 5] (Nat.zero_le _) ?_ ?_
          · ((refine ⟨?_, ?_, ?_, ?_⟩) <;> (repeat' ((conv => whnf); apply And.intro)) <;> (try (first | exact trivial | decide)))
            all_goals first | rfl | exact fun _ _ h => h | (simp [SV.wf, SV.wfs]; done) | trace_state
          · intro j hj
            have hmm : (met.map encC).length = met.length := by simp
            by_cases hjl : j < met.length
            · have hOj : OkT (k * 10000 + j) ((met.take j).foldl (stepT ([] : List CellT)) L) := by
                have := OkT.steps ([] : List CellT) (met.take j) hTk
                rw [List.length_take, Nat.min_eq_left hj] at this
                exact this
              have hsj := fold_take (stepT ([] : List CellT)) L (d := c0) hjl
              have hcc := Contains_w none 0 ([] : List CellT) (met.getD j c0) (n := 0) rfl (by decide)
              dsimp only
              generalize (met.take j).foldl (stepT ([] : List CellT)) L = Lj at *
              generalize hLn : (met.take (j + 1)).foldl (stepT ([] : List CellT)) L = Ln at hsj
              unfold stepT at hsj
              have hr1 := hOj.room (by omega) (met.getD j c0) 1 0 (by decide) (by decide)
              have hr2 := hOj.room (by omega) (met.getD j c0) 0 1 (by decide) (by decide)
              (conv=>whnf);repeat' (first|((with_reducible refine isC ?_);first|(((with_reducible refine isF 56 ?_);(refine CallX_w hcc (fun _ _ _ _ => ⟨rfl, by simp, by simp, fun h => absurd rfl h⟩) ?_));conv=>whnf))|((with_reducible refine isV ?_);first|((first|refine ValX_index tabOk rfl (ArgSl.row 3 rfl) rfl ?_ ?_ ?_|(with_reducible refine nat_idx ?_);refine ValX_loadEn _ _ (c0) tabOk rfl rfl rfl rfl (ArgSl.row 3 rfl) ?_ ?_ ?_|refine ValX_loadE _ _ (c0) tabOk rfl rfl rfl rfl (ArgSl.row 3 rfl) ?_ ?_ ?_)<;>first|rfl|omega|with_reducible refine isP ?_|conv=>whnf))|((with_reducible refine isW ?_;first|refine xwr_ok (by omega) (by omega) ?_|refine xwr_raw ?_);conv=>whnf)|with_reducible exact rfl|((with_reducible first|refine xif_kt (by assumption) ?_|refine xif_kf (by assumption) ?_);conv=>whnf)|((with_reducible refine xif_s ?_ ?_)<;>(intro hb;(try simp (disch:=omega) only [hbS] at hb)<;>conv=>whnf)))
              all_goals try (exfalso; omega)
              · refine CallX_m (add_m bm Lj (met.getD j c0) 0 1 hr2.1 hr2.2) [1] rfl ⟨fun _ _ h => h, trivial⟩ (by decide) (fun _ _ _ _ => trivial) ?_
                intro u
                (conv=>whnf);repeat' (first|((with_reducible refine isW ?_;first|refine xwr_ok (by omega) (by omega) ?_|refine xwr_raw ?_);conv=>whnf)|with_reducible exact rfl|((with_reducible first|refine xif_kt (by assumption) ?_|refine xif_kf (by assumption) ?_);conv=>whnf)|((with_reducible refine xif_s ?_ ?_)<;>(intro hb;(try simp (disch:=omega) only [hbS] at hb)<;>conv=>whnf)))
                refine ⟨j + 1, [0, 1, 2, 3], by omega, ?_, by (try dsimp only); omega⟩
                dsimp only
                rw [hLn, hsj, if_neg (by simp)]
                ((refine ⟨?_, ?_, ?_, ?_⟩) <;> (repeat' ((conv => whnf); apply And.intro)) <;> (try (first | exact trivial | decide)))
                all_goals first | rfl | exact fun _ _ h => h | (simp [SV.wf, SV.wfs]; done) | trace_state
            · obtain rfl : j = met.length := by omega
              rw [List.take_length]
              (conv=>whnf);repeat' (first|((with_reducible refine isW ?_;first|refine xwr_ok (by omega) (by omega) ?_|refine xwr_raw ?_);conv=>whnf)|with_reducible exact rfl|((with_reducible first|refine xif_kt (by assumption) ?_|refine xif_kf (by assumption) ?_);conv=>whnf)|((with_reducible refine xif_s ?_ ?_)<;>(intro hb;(try simp (disch:=omega) only [hbS] at hb)<;>conv=>whnf)))
              all_goals try (exfalso; omega)
              refine ⟨k + 1, [0, 1, 2], by omega, ?_, by (try dsimp only); omega⟩
              dsimp only
              rw [hL2, hstep]
              ((refine ⟨?_, ?_, ?_, ?_⟩) <;> (repeat' ((conv => whnf); apply And.intro)) <;> (try (first | exact trivial | decide)))
              all_goals first | rfl | exact fun _ _ h => h | (simp [SV.wf, SV.wfs]; done) | trace_state
        · have hre : reachB (s.getD k b0) = r := by unfold reachB; rw [hrr, if_neg (by omega)]
          have hen : endsL (at_.1, at_.2.1) v (s.getD k b0) = tracedL (at_.1, at_.2.1) v r r := by unfold endsL; rw [hrr, if_neg (by omega)]
          have ht := Traced_r (at_.1, at_.2.1) v 0 r (by dsimp only; omega) hv (by omega)
          have ht0 := Traced_r (at_.1, at_.2.1) v r r (by dsimp only; omega) hv (by omega)
          have hml := traced_len (p := (at_.1, at_.2.1)) (lo := 0) (hi := r) (by dsimp only; omega) hv (by omega)
          have hel := traced_len (p := (at_.1, at_.2.1)) (lo := r) (hi := r) (by dsimp only; omega) hv (by omega)
          unfold metL at hstep
          rw [hre, hen] at hstep
          clear hre hen
          generalize tracedL (at_.1, at_.2.1) v r r = E at *
          generalize tracedL (at_.1, at_.2.1) v 0 r = met at *
          refine CallX_r ht0 (fun _ _ _ _ => trivial) ?_
          intro A1 c1
          clear ht0
          (conv=>whnf);repeat' (first|((with_reducible refine isW ?_;first|refine xwr_ok (by omega) (by omega) ?_|refine xwr_raw ?_);conv=>whnf)|with_reducible exact rfl|((with_reducible first|refine xif_kt (by assumption) ?_|refine xif_kf (by assumption) ?_);conv=>whnf)|((with_reducible refine xif_s ?_ ?_)<;>(intro hb;(try simp (disch:=omega) only [hbS] at hb)<;>conv=>whnf)))
          all_goals try (exfalso; omega)
          refine CallX_r ht (fun _ _ _ _ => trivial) ?_
          intro A2 c2
          clear ht
          (conv=>whnf);repeat' (first|((with_reducible refine isW ?_;first|refine xwr_ok (by omega) (by omega) ?_|refine xwr_raw ?_);conv=>whnf)|with_reducible exact rfl|((with_reducible first|refine xif_kt (by assumption) ?_|refine xif_kf (by assumption) ?_);conv=>whnf)|((with_reducible refine xif_s ?_ ?_)<;>(intro hb;(try simp (disch:=omega) only [hbS] at hb)<;>conv=>whnf)))
          all_goals try (exfalso; omega)
          refine LoopX_inv tabOk (α := Nat) (fun j => j ≤ met.length) (fun j => [(1, .v (.slice A n c)), (2, .p 0 0), (6, .v (.map (some bm))), (7, .p 2 0), (12, .v (.slice A1 (E.map encC).length c1)), (48, .v (.slice A n c)), (49, I n), (50, I k), (78, .v (.slice A2 (met.map encC).length c2)), (79, I (met.map encC).length), (80, I j)])
            (fun j => [.box 63 [I at_.1, I at_.2.1, I at_.2.2], talO bm ((met.take j).foldl (stepT E) L), .box 96 [I at_.1, I at_.2.1], .row 25 2 A1 (E.map encC).length c1 (E.map encC), .row 25 2 A2 (met.map encC).length c2 (met.map encC)]) (fun j => met.length - j) 0 [0, 1, 2, 5, 6] (Nat.zero_le _) ?_ ?_
          · ((refine ⟨?_, ?_, ?_, ?_⟩) <;> (repeat' ((conv => whnf); apply And.intro)) <;> (try (first | exact trivial | decide)))
            all_goals first | rfl | exact fun _ _ h => h | (simp [SV.wf, SV.wfs]; done) | trace_state
          · intro j hj
            have hmm : (met.map encC).length = met.length := by simp
            by_cases hjl : j < met.length
            · have hOj : OkT (k * 10000 + j) ((met.take j).foldl (stepT E) L) := by
                have := OkT.steps E (met.take j) hTk
                rw [List.length_take, Nat.min_eq_left hj] at this
                exact this
              have hsj := fold_take (stepT E) L (d := c0) hjl
              have hcc := Contains_w A1 c1 E (met.getD j c0) (n := (E.map encC).length) (by simp) (by simp; omega)
              dsimp only
              generalize (met.take j).foldl (stepT E) L = Lj at *
              generalize hLn : (met.take (j + 1)).foldl (stepT E) L = Ln at hsj
              unfold stepT at hsj
              have hr1 := hOj.room (by omega) (met.getD j c0) 1 0 (by decide) (by decide)
              have hr2 := hOj.room (by omega) (met.getD j c0) 0 1 (by decide) (by decide)
              (conv=>whnf);repeat' (first|((with_reducible refine isC ?_);first|(((with_reducible refine isF 56 ?_);(refine CallX_w hcc (ArgSl.row 3 rfl) ?_));conv=>whnf))|((with_reducible refine isV ?_);first|((first|refine ValX_index tabOk rfl (ArgSl.row 4 rfl) rfl ?_ ?_ ?_|(with_reducible refine nat_idx ?_);refine ValX_loadEn _ _ (c0) tabOk rfl rfl rfl rfl (ArgSl.row 4 rfl) ?_ ?_ ?_|refine ValX_loadE _ _ (c0) tabOk rfl rfl rfl rfl (ArgSl.row 4 rfl) ?_ ?_ ?_)<;>first|rfl|omega|with_reducible refine isP ?_|conv=>whnf))|((with_reducible refine isW ?_;first|refine xwr_ok (by omega) (by omega) ?_|refine xwr_raw ?_);conv=>whnf)|with_reducible exact rfl|((with_reducible first|refine xif_kt (by assumption) ?_|refine xif_kf (by assumption) ?_);conv=>whnf)|((with_reducible refine xif_s ?_ ?_)<;>(intro hb;(try simp (disch:=omega) only [hbS] at hb)<;>conv=>whnf)))
              all_goals try (exfalso; omega)
              · refine CallX_m (add_m bm Lj (met.getD j c0) 1 0 hr1.1 hr1.2) [1] rfl ⟨fun _ _ h => h, trivial⟩ (by decide) (fun _ _ _ _ => trivial) ?_
                intro u
                (conv=>whnf);repeat' (first|((with_reducible refine isW ?_;first|refine xwr_ok (by omega) (by omega) ?_|refine xwr_raw ?_);conv=>whnf)|with_reducible exact rfl|((with_reducible first|refine xif_kt (by assumption) ?_|refine xif_kf (by assumption) ?_);conv=>whnf)|((with_reducible refine xif_s ?_ ?_)<;>(intro hb;(try simp (disch:=omega) only [hbS] at hb)<;>conv=>whnf)))
                refine ⟨j + 1, [0, 1, 2, 3, 4], by omega, ?_, by (try dsimp only); omega⟩
                dsimp only
                rw [hLn, hsj, if_pos hb]
                ((refine ⟨?_, ?_, ?_, ?_⟩) <;> (repeat' ((conv => whnf); apply And.intro)) <;> (try (first | exact trivial | decide)))
                all_goals first | rfl | exact fun _ _ h => h | (simp [SV.wf, SV.wfs]; done) | trace_state
              · refine CallX_m (add_m bm Lj (met.getD j c0) 0 1 hr2.1 hr2.2) [1] rfl ⟨fun _ _ h => h, trivial⟩ (by decide) (fun _ _ _ _ => trivial) ?_
                intro u
                (conv=>whnf);repeat' (first|((with_reducible refine isW ?_;first|refine xwr_ok (by omega) (by omega) ?_|refine xwr_raw ?_);conv=>whnf)|with_reducible exact rfl|((with_reducible first|refine xif_kt (by assumption) ?_|refine xif_kf (by assumption) ?_);conv=>whnf)|((with_reducible refine xif_s ?_ ?_)<;>(intro hb;(try simp (disch:=omega) only [hbS] at hb)<;>conv=>whnf)))
                refine ⟨j + 1, [0, 1, 2, 3, 4], by omega, ?_, by (try dsimp only); omega⟩
                dsimp only
                rw [hLn, hsj, if_neg (by rw [hb]; simp)]
                ((refine ⟨?_, ?_, ?_, ?_⟩) <;> (repeat' ((conv => whnf); apply And.intro)) <;> (try (first | exact trivial | decide)))
                all_goals first | rfl | exact fun _ _ h => h | (simp [SV.wf, SV.wfs]; done) | trace_state
            · obtain rfl : j = met.length := by omega
              rw [List.take_length]
              (conv=>whnf);repeat' (first|((with_reducible refine isW ?_;first|refine xwr_ok (by omega) (by omega) ?_|refine xwr_raw ?_);conv=>whnf)|with_reducible exact rfl|((with_reducible first|refine xif_kt (by assumption) ?_|refine xif_kf (by assumption) ?_);conv=>whnf)|((with_reducible refine xif_s ?_ ?_)<;>(intro hb;(try simp (disch:=omega) only [hbS] at hb)<;>conv=>whnf)))
              all_goals try (exfalso; omega)
              refine ⟨k + 1, [0, 1, 2], by omega, ?_, by (try dsimp only); omega⟩
              dsimp only
              rw [hL2, hstep]
              ((refine ⟨?_, ?_, ?_, ?_⟩) <;> (repeat' ((conv => whnf); apply And.intro)) <;> (try (first | exact trivial | decide)))
              all_goals first | rfl | exact fun _ _ h => h | (simp [SV.wf, SV.wfs]; done) | trace_state
      · obtain rfl : k = n := by omega
        have hok2 := hT k (by omega)
        have hs : s.take k = s := List.take_of_length_le (by omega)
        rw [hs] at hok2 ⊢
        have hIs : ∀ ys, IsList (s.foldl (beamT at_) []) ys → IsOf at_ s ys := fun ys h => by
          unfold IsOf
          rw [if_pos hok']
          exact h
        generalize s.foldl (beamT at_) [] = L at *
        (conv=>whnf);repeat' (first|((with_reducible refine isC ?_);first|(((with_reducible refine isF 58 ?_);(refine CallX_m (list_m bm L hok2.ne (by have := hok2.len; have := (sc (k - 1)); omega)) [1] rfl ⟨fun _ _ h => h, trivial⟩ (by decide) (fun _ _ _ _ => trivial) ?_; intro q));conv=>whnf))|((with_reducible refine isW ?_;first|refine xwr_ok (by omega) (by omega) ?_|refine xwr_raw ?_);conv=>whnf)|with_reducible exact rfl|((with_reducible first|refine xif_kt (by assumption) ?_|refine xif_kf (by assumption) ?_);conv=>whnf)|((with_reducible refine xif_s ?_ ?_)<;>(intro hb;(try simp (disch:=omega) only [hbS] at hb)<;>conv=>whnf)))
        all_goals try (exfalso; omega)
        obtain ⟨⟨A2, c2, ys⟩, hy⟩ := q
        dsimp only at hy ⊢
        exact Fin_m ⟨(A2, c2, ys), hIs ys hy⟩ [3] ⟨rfl, by simp [SV.wf, SV.wfs]⟩ ⟨⟨rfl, rfl, rfl, rfl, rfl, rfl⟩, trivial⟩ (by decide) rfl
end Go.Proofs.YtadichckbogcjaaGreatDoor.En
namespace Go.Proofs.YtadichckbogcjaaGreatDoor.En
open Go.RowKit
def leE (a b : EntT) : Bool := !befB b.cell a.cell
def lstF (L : List EntT) : List EntT := (L.filter fun e => !zeroE e).mergeSort leE
theorem leE_trans (a b c : EntT) (h1 : leE a b = true) (h2 : leE b c = true) : leE a c = true := by
  simp only [leE, Bool.not_eq_true', befB_false] at *
  omega
theorem leE_total (a b : EntT) : (leE a b || leE b a) = true := by
  rw [Bool.or_eq_true]
  simp only [leE, Bool.not_eq_true', befB_false]
  omega
theorem lstF_list {L : List EntT} (h : neT L) : IsList L (lstF L) := by
  have hp : (lstF L).Perm (L.filter fun e => !zeroE e) := List.mergeSort_perm _ _
  refine ⟨hp, ?_⟩
  have hs : (lstF L).Pairwise fun a b => leE a b = true := List.pairwise_mergeSort leE_trans leE_total _
  have hn : (lstF L).Pairwise fun a b => a.cell ≠ b.cell := (hp.pairwise_iff (fun {a b} h => h.symm)).2 (h.sublist List.filter_sublist)
  have := hs.and hn
  refine this.imp fun {a b} ⟨h1, h2⟩ => ?_
  cases h3 : befB a.cell b.cell with
  | true => rfl
  | false =>
    simp only [leE, Bool.not_eq_true'] at h1
    exact (h2 (befB_total h3 h1)).elim
def Rep (f : CellT → Int × Int) (ys : List EntT) : Prop := asc ys ∧ ∀ e, e ∈ ys ↔ zeroE e = false ∧ f e.cell = (e.2.2.1, e.2.2.2)
theorem asc_nodup {l : List EntT} (h : asc l) : l.Nodup := by
  refine List.Pairwise.imp (fun {a b} hab => ?_) h
  rintro rfl
  rw [befB_irr] at hab
  cases hab
theorem asc_ne {l : List EntT} (h : asc l) : neT l := by
  refine List.Pairwise.imp (fun {a b} hab => ?_) h
  intro e
  rw [e, befB_irr] at hab
  cases hab
theorem asc_same {l m : List EntT} (h1 : asc l) (h2 : asc m) (h : ∀ e, e ∈ l ↔ e ∈ m) : l = m := by
  refine asc_unique h1 h2 ?_
  rw [List.perm_ext_iff_of_nodup (asc_nodup h1) (asc_nodup h2)]
  exact h
theorem Rep.unique {f g : CellT → Int × Int} {l m : List EntT} (h1 : Rep f l) (h2 : Rep g m) (h : ∀ c, f c = g c) : l = m := by
  refine asc_same h1.1 h2.1 fun e => ?_
  rw [h1.2, h2.2, h]
theorem Rep.congr {f g : CellT → Int × Int} {l : List EntT} (h1 : Rep f l) (h : ∀ c, f c = g c) : Rep g l := ⟨h1.1, fun e => by rw [h1.2, h]⟩
theorem Rep.nil : Rep (fun _ => (0, 0)) [] := by
  refine ⟨by simp [asc], fun e => ?_⟩
  simp [zeroE]
  intro h1 h2
  intro h3
  exact h1 h2.symm h3.symm
theorem mem_val {L : List EntT} (h : neT L) {e : EntT} (he : e ∈ L) : valT L e.cell = (e.2.2.1, e.2.2.2) := by
  unfold valT
  rw [getT_of h he]
theorem val_mem {L : List EntT} {e : EntT} (hz : zeroE e = false) (hv : valT L e.cell = (e.2.2.1, e.2.2.2)) : e ∈ L := by
  rcases getT_mem (L := L) (c := e.cell) with ⟨h1, h2⟩ | ⟨h1, _⟩
  · have : getT L e.cell = e := by
      unfold valT at hv
      obtain ⟨e1, e2⟩ := Prod.ext_iff.1 hv
      obtain ⟨c1, c2⟩ := Prod.ext_iff.1 h2
      exact Prod.ext c1 (Prod.ext c2 (Prod.ext e1 e2))
    rwa [this] at h1
  · unfold valT at hv
    rw [h1] at hv
    simp only [e0, Prod.mk.injEq] at hv
    simp [zeroE, ← hv.1, ← hv.2] at hz
theorem rep_lst {L : List EntT} (h : neT L) : Rep (valT L) (lstF L) := by
  obtain ⟨hp, ha⟩ := lstF_list h
  refine ⟨ha, fun e => ?_⟩
  rw [hp.mem_iff, List.mem_filter]
  constructor
  · rintro ⟨h1, h2⟩
    exact ⟨by simpa using h2, mem_val h h1⟩
  · rintro ⟨h1, h2⟩
    exact ⟨val_mem h1 h2, by simp [h1]⟩
theorem Rep.val {f : CellT → Int × Int} {l : List EntT} (h : Rep f l) (c : CellT) : valT l c = f c := by
  rcases getT_mem (L := l) (c := c) with ⟨h1, h2⟩ | ⟨h1, h2⟩
  · have := ((h.2 _).1 h1).2
    rw [h2] at this
    rw [this]
    rfl
  · unfold valT
    rw [h1]
    generalize hf : f c = p
    by_cases hz : p.1 = 0 ∧ p.2 = 0
    · exact Prod.ext hz.1.symm hz.2.symm
    · have : ((c.1, c.2, p.1, p.2) : EntT) ∈ l := (h.2 _).2 ⟨by simp [zeroE]; intro h3; intro h4; exact hz ⟨h3, h4⟩, by
        show f (c.1, c.2) = _
        rw [show ((c.1, c.2) : CellT) = c from rfl, hf]⟩
      exact (h2 _ this rfl).elim
end Go.Proofs.YtadichckbogcjaaGreatDoor.En
end
