/- The walk of AtlasSame. -/
import Derived.Test.YtodaijlclbngbaaGreatQg
import Derived.Test.YtodaijlclbngbaaGreatLwAo
set_option linter.all false
namespace Go.Proofs.YtodaijlclbngbaaGreat.En
open Go.RowKit
set_option maxRecDepth 100000

def runM (a : AtT) (l : List AOp) : AtT := (l.map absO).foldl stepA a
theorem runM_take {a : AtT} {l : List AOp} {k : Nat} (hk : k < l.length) : runM a (l.take (k + 1)) = stepA (runM a (l.take k)) (absO (l.getD k op0)) := by
  unfold runM
  rw [List.map_take, List.map_take, fold_take stepA a (d := absO op0) (by simpa using hk)]
  congr 1
  simp [hk]
theorem runM_made (l m : List AOp) : runM (madeM l) m = madeM (l ++ m) := by
  unfold runM madeM madeA
  rw [List.map_append, List.foldl_append]
theorem good_made (l : List AOp) : goodA (madeM l) := (top_made (l.map absO)).good
set_option maxHeartbeats 16000000 in
theorem same_x (A : Option Addr) (c : Nat) (l : List AOp) {n : Nat} (hl : l.length = n) (hn : n ≤ maxLen) (A2 : Option Addr) (c2 : Nat) (m : List AOp) {n2 : Nat} (hl2 : m.length = n2) (hn2 : n2 ≤ maxLen) :
    CallW Tryz.prog 7 [.v (.slice A n c), .v (.slice A2 n2 c2)] (fun w => opsW w A n l ∧ opsW w A2 n2 m) (B true) := by
  have kf := few_w A c l hl hn
  have kf2 := few_w A2 c2 m hl2 hn2
  have km := made_m A c l hl hn
  have km2 := made_m A2 c2 m hl2 hn2
  have kr := model_m A c l hl hn
  have kr2 := model_m A2 c2 m hl2 hn2
  have hn2' := hn2
  unfold maxLen at hn2'
  have hn' := hn
  unfold maxLen at hn'
  rcases Bool.eq_false_or_eq_true (fewB l) with hf | hf
  rotate_left
  · rw [hf] at kf
    refine CallW.of Tryz.func7 rfl tabOk rfl rfl rfl (by simp [SV.wfs, SV.wf]) (by simp [SV.wfs, SV.wf]) fun w hpre => ?_
    (conv => whnf); repeat' (first | ((with_reducible refine isC ?_); first | ((with_reducible refine CallX_pure (awake17_x) ?_) <;> first | omega | (with_reducible show (_ : Int) ≤ _) | (with_reducible show (_ : Int) < _) | (with_reducible show (_ : Nat) ≤ _) | (with_reducible show (_ : Nat) < _) | (conv => whnf)) | ((with_reducible refine isF 9 ?_); (with_reducible refine CallX_w (kf) ?_ ?_); (focus (exact hpre.1.few rfl)); conv => whnf)) | ((with_reducible refine isO ?_); first | ((refine OpX_build0 tabOk rfl rfl rfl ?_); intro bN; conv => whnf) | ((refine OpX_build tabOk rfl rfl rfl rfl rfl ?_); intro bN; conv => whnf)) | ((with_reducible refine isW ?_); first | ((with_reducible refine xwr_ok (by omega) (by omega) ?_); conv => whnf) | ((with_reducible refine xwr_raw ?_); conv => whnf)) | (with_reducible exact rfl) | ((with_reducible refine xif_kt (by with_reducible assumption) ?_); conv => whnf) | ((with_reducible refine xif_kf (by with_reducible assumption) ?_); conv => whnf) | (((with_reducible refine xif_s ?_ ?_) <;> (intro hb; (try simp (disch := omega) only [hbS] at hb))) <;> (conv => whnf)))
    exact Fin_pure rfl rfl trivial
  · have hfl : l.length ≤ 30 := by
      unfold fewB at hf
      simp only [Bool.and_eq_true, decide_eq_true_eq] at hf
      exact hf.1
    rw [hf] at kf
    rcases Bool.eq_false_or_eq_true (fewB m) with hf2 | hf2
    rotate_left
    · rw [hf2] at kf2
      refine CallW.of Tryz.func7 rfl tabOk rfl rfl rfl (by simp [SV.wfs, SV.wf]) (by simp [SV.wfs, SV.wf]) fun w hpre => ?_
      (conv => whnf); repeat' (first | ((with_reducible refine isC ?_); first | ((with_reducible refine CallX_pure (awake17_x) ?_) <;> first | omega | (with_reducible show (_ : Int) ≤ _) | (with_reducible show (_ : Int) < _) | (with_reducible show (_ : Nat) ≤ _) | (with_reducible show (_ : Nat) < _) | (conv => whnf)) | ((with_reducible refine isF 9 ?_); (with_reducible refine CallX_w (kf) ?_ ?_); (focus (exact hpre.1.few rfl)); conv => whnf) | ((with_reducible refine isF 9 ?_); (with_reducible refine CallX_w (kf2) ?_ ?_); (focus (exact hpre.2.few rfl)); conv => whnf)) | ((with_reducible refine isO ?_); first | ((refine OpX_build0 tabOk rfl rfl rfl ?_); intro bN; conv => whnf) | ((refine OpX_build tabOk rfl rfl rfl rfl rfl ?_); intro bN; conv => whnf)) | ((with_reducible refine isW ?_); first | ((with_reducible refine xwr_ok (by omega) (by omega) ?_); conv => whnf) | ((with_reducible refine xwr_raw ?_); conv => whnf)) | (with_reducible exact rfl) | ((with_reducible refine xif_kt (by with_reducible assumption) ?_); conv => whnf) | ((with_reducible refine xif_kf (by with_reducible assumption) ?_); conv => whnf) | (((with_reducible refine xif_s ?_ ?_) <;> (intro hb; (try simp (disch := omega) only [hbS] at hb))) <;> (conv => whnf)))
      exact Fin_pure rfl rfl trivial
    · have hfm : m.length ≤ 30 := by
        unfold fewB at hf2
        simp only [Bool.and_eq_true, decide_eq_true_eq] at hf2
        exact hf2.1
      rw [hf2] at kf2
      have hgl := good_made l
      have hgm := good_made m
      have hrm := runM_made l m
      refine CallW.of Tryz.func7 rfl tabOk rfl rfl rfl (by simp [SV.wfs, SV.wf]) (by simp [SV.wfs, SV.wf]) fun w hpre => ?_
      obtain ⟨hp1, hp2⟩ := hpre
      (conv => whnf); repeat' (first | ((with_reducible refine isC ?_); first | ((with_reducible refine CallX_pure (awake17_x) ?_) <;> first | omega | (with_reducible show (_ : Int) ≤ _) | (with_reducible show (_ : Int) < _) | (with_reducible show (_ : Nat) ≤ _) | (with_reducible show (_ : Nat) < _) | (conv => whnf)) | ((with_reducible refine isF 9 ?_); (with_reducible refine CallX_w (kf) ?_ ?_); (focus (exact hp1.few rfl)); conv => whnf) | ((with_reducible refine isF 9 ?_); (with_reducible refine CallX_w (kf2) ?_ ?_); (focus (exact hp2.few rfl)); conv => whnf)) | ((with_reducible refine isO ?_); first | ((refine OpX_build0 tabOk rfl rfl rfl ?_); intro bN; conv => whnf) | ((refine OpX_build tabOk rfl rfl rfl rfl rfl ?_); intro bN; conv => whnf)) | ((with_reducible refine isW ?_); first | ((with_reducible refine xwr_ok (by omega) (by omega) ?_); conv => whnf) | ((with_reducible refine xwr_raw ?_); conv => whnf)) | (with_reducible exact rfl) | ((with_reducible refine xif_kt (by with_reducible assumption) ?_); conv => whnf) | ((with_reducible refine xif_kf (by with_reducible assumption) ?_); conv => whnf) | (((with_reducible refine xif_s ?_ ?_) <;> (intro hb; (try simp (disch := omega) only [hbS] at hb))) <;> (conv => whnf)))
      have kr3 := fun (A3 : Option Addr) (c3 : Nat) => model_m A3 c3 (l ++ m) (n := n + n2) (by simp [hl, hl2]) (by unfold maxLen; omega)
      generalize madeM (l ++ m) = BA at *
      generalize madeM l = LA at *
      generalize madeM m = MA at *
      refine CallX_m km [] rfl trivial (by decide) (hp1.of0 rfl) ?_
      rintro ⟨⟨a1, a2⟩, ⟨ma, qa⟩, oka, aba⟩
      dsimp only at oka
      (conv => whnf); repeat' (first | ((with_reducible refine isO ?_); first | ((refine OpX_build0 tabOk rfl rfl rfl ?_); intro bN; conv => whnf) | ((refine OpX_build tabOk rfl rfl rfl rfl rfl ?_); intro bN; conv => whnf)) | ((with_reducible refine isW ?_); first | ((with_reducible refine xwr_ok (by omega) (by omega) ?_); conv => whnf) | ((with_reducible refine xwr_raw ?_); conv => whnf)) | (with_reducible exact rfl) | ((with_reducible refine xif_kt (by with_reducible assumption) ?_); conv => whnf) | ((with_reducible refine xif_kf (by with_reducible assumption) ?_); conv => whnf) | (((with_reducible refine xif_s ?_ ?_) <;> (intro hb; (try simp (disch := omega) only [hbS] at hb))) <;> (conv => whnf)))
      refine CallX_m km2 [] rfl trivial (by decide) (hp2.of0 rfl) ?_
      rintro ⟨⟨b1, b2⟩, ⟨mb, qb⟩, okb, abb⟩
      dsimp only at okb
      (conv => whnf); repeat' (first | ((with_reducible refine isO ?_); first | ((refine OpX_build0 tabOk rfl rfl rfl ?_); intro bN; conv => whnf) | ((refine OpX_build tabOk rfl rfl rfl rfl rfl ?_); intro bN; conv => whnf)) | ((with_reducible refine isW ?_); first | ((with_reducible refine xwr_ok (by omega) (by omega) ?_); conv => whnf) | ((with_reducible refine xwr_raw ?_); conv => whnf)) | (with_reducible exact rfl) | ((with_reducible refine xif_kt (by with_reducible assumption) ?_); conv => whnf) | ((with_reducible refine xif_kf (by with_reducible assumption) ?_); conv => whnf) | (((with_reducible refine xif_s ?_ ?_) <;> (intro hb; (try simp (disch := omega) only [hbS] at hb))) <;> (conv => whnf)))
      refine CallX_m (AClone_m a1 a2 ma qa oka (by rw [aba]; exact hgl)) [0, 1, 2] rfl ⟨⟨rfl, rfl, by simp [SV.wf, SV.wfs]⟩, fun _ _ h => h, fun _ _ h => h, trivial⟩ (by decide) (fun _ _ _ _ => trivial) ?_
      rintro ⟨⟨d1, d2⟩, ⟨mc, qc⟩, okc, abc⟩
      dsimp only at okc
      have abc : absM (mc, qc) = LA := abc.trans aba
      (conv => whnf); repeat' (first | ((with_reducible refine isO ?_); first | ((refine OpX_build0 tabOk rfl rfl rfl ?_); intro bN; conv => whnf) | ((refine OpX_build tabOk rfl rfl rfl rfl rfl ?_); intro bN; conv => whnf)) | ((with_reducible refine isW ?_); first | ((with_reducible refine xwr_ok (by omega) (by omega) ?_); conv => whnf) | ((with_reducible refine xwr_raw ?_); conv => whnf)) | (with_reducible exact rfl) | ((with_reducible refine xif_kt (by with_reducible assumption) ?_); conv => whnf) | ((with_reducible refine xif_kf (by with_reducible assumption) ?_); conv => whnf) | (((with_reducible refine xif_s ?_ ?_) <;> (intro hb; (try simp (disch := omega) only [hbS] at hb))) <;> (conv => whnf)))
      refine CallX_m (Same_m d1 d2 a1 a2 mc ma qc qa okc oka (by rw [abc, aba])) [6, 7, 8, 0, 1, 2] rfl ⟨⟨rfl, rfl, by simp [SV.wf, SV.wfs]⟩, fun _ _ h => h, fun _ _ h => h, ⟨rfl, rfl, by simp [SV.wf, SV.wfs]⟩, fun _ _ h => h, fun _ _ h => h, trivial⟩ (by decide) (fun _ _ _ _ => trivial) ?_
      intro u1
      (conv => whnf); repeat' (first | ((with_reducible refine isO ?_); first | ((refine OpX_build0 tabOk rfl rfl rfl ?_); intro bN; conv => whnf) | ((refine OpX_build tabOk rfl rfl rfl rfl rfl ?_); intro bN; conv => whnf)) | ((with_reducible refine isW ?_); first | ((with_reducible refine xwr_ok (by omega) (by omega) ?_); conv => whnf) | ((with_reducible refine xwr_raw ?_); conv => whnf)) | (with_reducible exact rfl) | ((with_reducible refine xif_kt (by with_reducible assumption) ?_); conv => whnf) | ((with_reducible refine xif_kf (by with_reducible assumption) ?_); conv => whnf) | (((with_reducible refine xif_s ?_ ?_) <;> (intro hb; (try simp (disch := omega) only [hbS] at hb))) <;> (conv => whnf)))
      obtain ⟨rr, hrr⟩ : ∃ rr : Bool, rr = true ↔ LA = MA := ⟨@decide (LA = MA) (Classical.propDecidable _), by simp⟩
      refine CallX_m (SameG_m a1 a2 b1 b2 ma mb qa qb oka okb (by rw [aba]; exact hgl) (by rw [abb]; exact hgm) rr (by rw [hrr, aba, abb])) [0, 1, 2, 3, 4, 5] rfl ⟨⟨rfl, rfl, by simp [SV.wf, SV.wfs]⟩, fun _ _ h => h, fun _ _ h => h, ⟨rfl, rfl, by simp [SV.wf, SV.wfs]⟩, fun _ _ h => h, fun _ _ h => h, trivial⟩ (by decide) (fun _ _ _ _ => trivial) ?_
      intro u6
      (conv => whnf); repeat' (first | ((with_reducible refine isO ?_); first | ((refine OpX_build0 tabOk rfl rfl rfl ?_); intro bN; conv => whnf) | ((refine OpX_build tabOk rfl rfl rfl rfl rfl ?_); intro bN; conv => whnf)) | ((with_reducible refine isW ?_); first | ((with_reducible refine xwr_ok (by omega) (by omega) ?_); conv => whnf) | ((with_reducible refine xwr_raw ?_); conv => whnf)) | (with_reducible exact rfl) | ((with_reducible refine xif_kt (by with_reducible assumption) ?_); conv => whnf) | ((with_reducible refine xif_kf (by with_reducible assumption) ?_); conv => whnf) | (((with_reducible refine xif_s ?_ ?_) <;> (intro hb; (try simp (disch := omega) only [hbS] at hb))) <;> (conv => whnf)))
      refine CallX_m kr [] rfl trivial (by decide) (hp1.of0 rfl) ?_
      rintro ⟨x1, r1, hr1, hb1⟩
      (conv => whnf); repeat' (first | ((with_reducible refine isO ?_); first | ((refine OpX_build0 tabOk rfl rfl rfl ?_); intro bN; conv => whnf) | ((refine OpX_build tabOk rfl rfl rfl rfl rfl ?_); intro bN; conv => whnf)) | ((with_reducible refine isW ?_); first | ((with_reducible refine xwr_ok (by omega) (by omega) ?_); conv => whnf) | ((with_reducible refine xwr_raw ?_); conv => whnf)) | (with_reducible exact rfl) | ((with_reducible refine xif_kt (by with_reducible assumption) ?_); conv => whnf) | ((with_reducible refine xif_kf (by with_reducible assumption) ?_); conv => whnf) | (((with_reducible refine xif_s ?_ ?_) <;> (intro hb; (try simp (disch := omega) only [hbS] at hb))) <;> (conv => whnf)))
      refine CallX_m kr2 [] rfl trivial (by decide) (hp2.of0 rfl) ?_
      rintro ⟨x2, r2, hr2, hb2⟩
      (conv => whnf); repeat' (first | ((with_reducible refine isO ?_); first | ((refine OpX_build0 tabOk rfl rfl rfl ?_); intro bN; conv => whnf) | ((refine OpX_build tabOk rfl rfl rfl rfl rfl ?_); intro bN; conv => whnf)) | ((with_reducible refine isW ?_); first | ((with_reducible refine xwr_ok (by omega) (by omega) ?_); conv => whnf) | ((with_reducible refine xwr_raw ?_); conv => whnf)) | (with_reducible exact rfl) | ((with_reducible refine xif_kt (by with_reducible assumption) ?_); conv => whnf) | ((with_reducible refine xif_kf (by with_reducible assumption) ?_); conv => whnf) | (((with_reducible refine xif_s ?_ ?_) <;> (intro hb; (try simp (disch := omega) only [hbS] at hb))) <;> (conv => whnf)))
      refine CallX_m (rSame_m x1 x2 r1 r2 hr1 hr2 rr (by rw [hrr, hb1, hb2])) [9, 10] rfl ⟨fun _ _ h => h, fun _ _ h => h, trivial⟩ (by decide) (fun _ _ _ _ => trivial) ?_
      intro u7
      have kid := Ids_m a1 a2 ma qa
      have kn1 := nSame_m a1 a2 ma qa
      have kn2 := Samen_m a1 a2 ma qa
      generalize idsF (hasM ma qa) 64 = L at *
      have hdz : decide (([] : List Int) = L) = ((L.length : Int) == 0) := by
        rw [Bool.eq_iff_iff]
        simp only [decide_eq_true_eq, beq_iff_eq]
        constructor
        · rintro rfl; rfl
        · intro h; exact (List.length_eq_zero_iff.1 (by omega)).symm
      rw [hdz] at kn1 kn2
      have hbb : ∀ b : Bool, (!(b == b)) = false := fun b => by cases b <;> rfl
      (conv => whnf); repeat' (first | ((with_reducible refine isC ?_); first | ((with_reducible refine isF 23 ?_); (first | (refine CallX_m kn1 [0, 1, 2] rfl ⟨⟨rfl, rfl, by simp [SV.wf, SV.wfs]⟩, fun _ _ h => h, fun _ _ h => h, trivial⟩ (by decide) (fun _ _ _ _ => trivial) ?_; intro v1) | (refine CallX_m kn2 [0, 1, 2] rfl ⟨⟨rfl, rfl, by simp [SV.wf, SV.wfs]⟩, fun _ _ h => h, fun _ _ h => h, trivial⟩ (by decide) (fun _ _ _ _ => trivial) ?_; intro v1)); conv => whnf) | ((with_reducible refine isF 33 ?_); ((refine CallX_m kid [0, 1, 2] rfl ⟨⟨rfl, rfl, by simp [SV.wf, SV.wfs]⟩, fun _ _ h => h, fun _ _ h => h, trivial⟩ (by decide) (fun _ _ _ _ => trivial) ?_; intro v2; obtain ⟨A9, c9⟩ := v2)); conv => whnf)) | ((with_reducible refine isO ?_); first | ((refine OpX_build0 tabOk rfl rfl rfl ?_); intro bN; conv => whnf) | ((refine OpX_build tabOk rfl rfl rfl rfl rfl ?_); intro bN; conv => whnf)) | ((with_reducible refine isW ?_); first | ((with_reducible refine xwr_ok (by omega) (by omega) ?_); conv => whnf) | ((with_reducible refine xwr_raw ?_); conv => whnf)) | (with_reducible exact rfl) | ((with_reducible refine xif_kt (by with_reducible assumption) ?_); conv => whnf) | ((with_reducible refine xif_kf (by with_reducible assumption) ?_); conv => whnf) | (((with_reducible refine xif_s ?_ ?_) <;> (intro hb; (try simp (disch := omega) only [hbS] at hb))) <;> (conv => whnf)))
      all_goals try (exfalso; rw [hbb] at hb; cases hb; done)
      all_goals try (exfalso; simp at hb; done)
      clear kid kn1 kn2 hdz km km2 kr2 kf kf2 u1 u6 u7
      refine LoopX_inv tabOk (α := (k : Nat) × StI (runM LA (m.take k))) (fun s => s.1 ≤ n2) (fun s => [(0, .v (.slice A n c)), (1, .v (.slice A2 n2 c2)), (5, nilP), (6, .p 0 0), (8, .p 6 0), (9, I s.1)])
        (fun s => [atB a1 a2, scO a1 ma, plO a2 qa, atB b1 b2, scO b1 mb, plO b2 qb, atB d1 d2, scO d1 s.2.1.1, plO d2 s.2.1.2]) (fun s => n2 - s.1) ⟨0, ⟨(mc, qc), okc, abc⟩⟩ [0, 1, 2, 3, 4, 5, 6, 7, 8] (Nat.zero_le _) ?_ ?_
      · ((refine ⟨?_, ?_, ?_, ?_⟩) <;> (repeat' ((conv => whnf); apply And.intro)) <;> (try (first | exact trivial | decide)))
        all_goals first | rfl | exact fun _ _ h => h | (simp [SV.wf, SV.wfs]; done) | trace_state
      · rintro ⟨k, ⟨mk, qk⟩, hok, hab⟩ hk
        dsimp only at hk hok ⊢
        by_cases hlt : k < n2
        · have hmem : m.getD k op0 ∈ m := by simp [show k < m.length by omega]
          have hop := hp2.op hmem
          have hol := (hp2.2 _ hmem).2
          have hd := do_m d1 d2 mk qk (m.getD k op0) hok hol
          have hsk := runM_take (a := LA) (l := m) (k := k) (by omega)
          have hab' : (semS mk, lkI qk) = runM LA (m.take k) := hab
          rw [hab', ← hsk] at hd
          (conv => whnf); repeat' (first | ((with_reducible refine isC ?_); first | ((with_reducible refine isF 12 ?_); (refine CallX_m hd [6, 7, 8] rfl ⟨⟨rfl, rfl, by simp [SV.wf, SV.wfs]⟩, fun _ _ h => h, fun _ _ h => h, trivial⟩ (by decide) (opN.on hop (m := 3) (r := [6, 7, 8]) (fun j hj => by rcases (by omega : j = 0 ∨ j = 1 ∨ j = 2) with rfl | rfl | rfl <;> simp)) ?_; intro q); conv => whnf)) | ((with_reducible refine isV ?_); first | ((refine ValX_index tabOk rfl (hp2.1.mem (by decide) rfl) rfl ?_ ?_ ?_) <;> first | omega | (with_reducible show (_ : Int) ≤ _) | (with_reducible show (_ : Int) < _) | (with_reducible show (_ : Nat) ≤ _) | (with_reducible show (_ : Nat) < _) | (conv => whnf)) | ((with_reducible refine nat_idx ?_); (refine ValX_loadEn _ _ (op0) tabOk rfl rfl rfl rfl (hp2.1.mem (by decide) rfl) ?_ ?_ ?_) <;> first | rfl | omega | (with_reducible show (_ : Int) ≤ _) | (with_reducible show (_ : Int) < _) | (with_reducible show (_ : Nat) ≤ _) | (with_reducible show (_ : Nat) < _) | (conv => whnf)) | ((refine ValX_loadE _ _ (op0) tabOk rfl rfl rfl rfl (hp2.1.mem (by decide) rfl) ?_ ?_ ?_) <;> first | rfl | omega | (with_reducible show (_ : Int) ≤ _) | (with_reducible show (_ : Int) < _) | (with_reducible show (_ : Nat) ≤ _) | (with_reducible show (_ : Nat) < _) | (conv => whnf))) | ((with_reducible refine isO ?_); first | ((refine OpX_build0 tabOk rfl rfl rfl ?_); intro bN; conv => whnf) | ((refine OpX_build tabOk rfl rfl rfl rfl rfl ?_); intro bN; conv => whnf)) | ((with_reducible refine isW ?_); first | ((with_reducible refine xwr_ok (by omega) (by omega) ?_); conv => whnf) | ((with_reducible refine xwr_raw ?_); conv => whnf)) | (with_reducible exact rfl) | ((with_reducible refine xif_kt (by with_reducible assumption) ?_); conv => whnf) | ((with_reducible refine xif_kf (by with_reducible assumption) ?_); conv => whnf) | (((with_reducible refine xif_s ?_ ?_) <;> (intro hb; (try simp (disch := omega) only [hbS] at hb))) <;> (conv => whnf)))
          all_goals try (exfalso; omega)
          refine ⟨⟨k + 1, q⟩, [0, 1, 2, 3, 4, 5, 6, 7, 8], by (try dsimp only); omega, ?_, by (try dsimp only); omega⟩
          ((refine ⟨?_, ?_, ?_, ?_⟩) <;> (repeat' ((conv => whnf); apply And.intro)) <;> (try (first | exact trivial | decide)))
          all_goals first | rfl | exact fun _ _ h => h | (simp [SV.wf, SV.wfs]; done) | trace_state
        · obtain rfl : k = n2 := by omega
          have hab2 : absM (mk, qk) = BA := by rw [hab, ← hl2, List.take_length]; exact hrm
          (conv => whnf); repeat' (first | ((with_reducible refine isC ?_); first | ((with_reducible refine CallX_pure (nScan_x _) ?_) <;> first | omega | (with_reducible show (_ : Int) ≤ _) | (with_reducible show (_ : Int) < _) | (with_reducible show (_ : Nat) ≤ _) | (with_reducible show (_ : Nat) < _) | (conv => whnf)) | ((with_reducible refine CallX_pure (nWhere_x _) ?_) <;> first | omega | (with_reducible show (_ : Int) ≤ _) | (with_reducible show (_ : Int) < _) | (with_reducible show (_ : Nat) ≤ _) | (with_reducible show (_ : Nat) < _) | (conv => whnf))) | ((with_reducible refine isO ?_); first | ((refine OpX_build0 tabOk rfl rfl rfl ?_); intro bN; conv => whnf) | ((refine OpX_build tabOk rfl rfl rfl rfl rfl ?_); intro bN; conv => whnf)) | ((with_reducible refine isW ?_); first | ((with_reducible refine xwr_ok (by omega) (by omega) ?_); conv => whnf) | ((with_reducible refine xwr_raw ?_); conv => whnf)) | (with_reducible exact rfl) | ((with_reducible refine xif_kt (by with_reducible assumption) ?_); conv => whnf) | ((with_reducible refine xif_kf (by with_reducible assumption) ?_); conv => whnf) | (((with_reducible refine xif_s ?_ ?_) <;> (intro hb; (try simp (disch := omega) only [hbS] at hb))) <;> (conv => whnf)))
          all_goals try (exfalso; omega)
          refine CallX_m kr [] rfl trivial (by decide) (hp1.of0 rfl) ?_
          rintro ⟨x3, r3, hr3, hb3⟩
          (conv => whnf); repeat' (first | ((with_reducible refine isO ?_); first | ((refine OpX_build0 tabOk rfl rfl rfl ?_); intro bN; conv => whnf) | ((refine OpX_build tabOk rfl rfl rfl rfl rfl ?_); intro bN; conv => whnf)) | ((with_reducible refine isW ?_); first | ((with_reducible refine xwr_ok (by omega) (by omega) ?_); conv => whnf) | ((with_reducible refine xwr_raw ?_); conv => whnf)) | (with_reducible exact rfl) | ((with_reducible refine xif_kt (by with_reducible assumption) ?_); conv => whnf) | ((with_reducible refine xif_kf (by with_reducible assumption) ?_); conv => whnf) | (((with_reducible refine xif_s ?_ ?_) <;> (intro hb; (try simp (disch := omega) only [hbS] at hb))) <;> (conv => whnf)))
          refine CallX_m (same17_m a1 a2 x3 ma qa r3 oka hr3 (by rw [aba, hb3])) [0, 1, 2, 10] rfl ⟨⟨rfl, rfl, by simp [SV.wf, SV.wfs]⟩, fun _ _ h => h, fun _ _ h => h, fun _ _ h => h, trivial⟩ (by decide) (fun _ _ _ _ => trivial) ?_
          intro u2
          (conv => whnf); repeat' (first | ((with_reducible refine isO ?_); first | ((refine OpX_append 11 tabOk rfl rfl rfl rfl (hp1.1.mem (by decide) rfl) (by decide) ?_ ?_ ?_) <;> first | omega | (dsimp only; omega) | (intro A' c'; conv => whnf)) | ((refine OpX_append 11 tabOk rfl rfl rfl rfl (hp2.1.mem (by decide) rfl) (by decide) ?_ ?_ ?_) <;> first | omega | (dsimp only; omega) | (intro A' c'; conv => whnf)) | ((refine OpX_build0 tabOk rfl rfl rfl ?_); intro bN; conv => whnf) | ((refine OpX_build tabOk rfl rfl rfl rfl rfl ?_); intro bN; conv => whnf)) | ((with_reducible refine isW ?_); first | ((with_reducible refine xwr_ok (by omega) (by omega) ?_); conv => whnf) | ((with_reducible refine xwr_raw ?_); conv => whnf)) | (with_reducible exact rfl) | ((with_reducible refine xif_kt (by with_reducible assumption) ?_); conv => whnf) | ((with_reducible refine xif_kf (by with_reducible assumption) ?_); conv => whnf) | (((with_reducible refine xif_s ?_ ?_) <;> (intro hb; (try simp (disch := omega) only [hbS] at hb))) <;> (conv => whnf)))
          all_goals try (exfalso; omega)
          rw [List.nil_append, Nat.zero_add, ← List.map_append]
          have kr4 := kr3 A' c'
          refine CallX_m kr4 [] rfl trivial (by decide) ?_ ?_
          · intro σ fp w1 hm
            refine ⟨ArgN.row 11 rfl (m := 0) (r := []) (fun j hj => by omega) σ fp w1 hm, fun o ho => ?_⟩
            rcases List.mem_append.1 ho with ho | ho
            · exact ⟨(hp1.of0 rfl σ fp w1 hm).2 o ho |>.1, (hp1.2 o ho).2⟩
            · exact ⟨(hp2.of0 rfl σ fp w1 hm).2 o ho |>.1, (hp2.2 o ho).2⟩
          rintro ⟨x4, r4, hr4, hb4⟩
          (conv => whnf); repeat' (first | ((with_reducible refine isO ?_); first | ((refine OpX_build0 tabOk rfl rfl rfl ?_); intro bN; conv => whnf) | ((refine OpX_build tabOk rfl rfl rfl rfl rfl ?_); intro bN; conv => whnf)) | ((with_reducible refine isW ?_); first | ((with_reducible refine xwr_ok (by omega) (by omega) ?_); conv => whnf) | ((with_reducible refine xwr_raw ?_); conv => whnf)) | (with_reducible exact rfl) | ((with_reducible refine xif_kt (by with_reducible assumption) ?_); conv => whnf) | ((with_reducible refine xif_kf (by with_reducible assumption) ?_); conv => whnf) | (((with_reducible refine xif_s ?_ ?_) <;> (intro hb; (try simp (disch := omega) only [hbS] at hb))) <;> (conv => whnf)))
          refine CallX_m (same17_m d1 d2 x4 mk qk r4 hok hr4 (by rw [hab2, hb4])) [6, 7, 8, 12] rfl ⟨⟨rfl, rfl, by simp [SV.wf, SV.wfs]⟩, fun _ _ h => h, fun _ _ h => h, fun _ _ h => h, trivial⟩ (by decide) (fun _ _ _ _ => trivial) ?_
          intro u3
          (conv => whnf); repeat' (first | ((with_reducible refine isC ?_); first | ((with_reducible refine CallX_pure (nPut_x _ _) ?_) <;> first | omega | (with_reducible show (_ : Int) ≤ _) | (with_reducible show (_ : Int) < _) | (with_reducible show (_ : Nat) ≤ _) | (with_reducible show (_ : Nat) < _) | (conv => whnf)) | ((with_reducible refine CallX_pure (nPlace_x _ (1, false, 0, 0, 0)) ?_) <;> first | omega | (with_reducible show (_ : Int) ≤ _) | (with_reducible show (_ : Int) < _) | (with_reducible show (_ : Nat) ≤ _) | (with_reducible show (_ : Nat) < _) | (conv => whnf)) | ((with_reducible refine CallX_pure (nIds_x) ?_) <;> first | omega | (with_reducible show (_ : Int) ≤ _) | (with_reducible show (_ : Int) < _) | (with_reducible show (_ : Nat) ≤ _) | (with_reducible show (_ : Nat) < _) | (conv => whnf)) | ((with_reducible refine CallX_pure (nMap_x) ?_) <;> first | omega | (with_reducible show (_ : Int) ≤ _) | (with_reducible show (_ : Int) < _) | (with_reducible show (_ : Nat) ≤ _) | (with_reducible show (_ : Nat) < _) | (conv => whnf)) | ((with_reducible refine CallX_pure (nPart_x _) ?_) <;> first | omega | (with_reducible show (_ : Int) ≤ _) | (with_reducible show (_ : Int) < _) | (with_reducible show (_ : Nat) ≤ _) | (with_reducible show (_ : Nat) < _) | (conv => whnf)) | ((with_reducible refine CallX_pure (nClone_x) ?_) <;> first | omega | (with_reducible show (_ : Int) ≤ _) | (with_reducible show (_ : Int) < _) | (with_reducible show (_ : Nat) ≤ _) | (with_reducible show (_ : Nat) < _) | (conv => whnf)) | ((with_reducible refine isF 22 ?_); (first | (refine CallX_m (nJoin_m a1 a2) [0] rfl ⟨⟨rfl, rfl, by simp [SV.wf, SV.wfs]⟩, trivial⟩ (by decide) (fun _ _ _ _ => trivial) ?_; intro v1) | (refine CallX_m (Joinn_m a1 a2) [0] rfl ⟨⟨rfl, rfl, by simp [SV.wf, SV.wfs]⟩, trivial⟩ (by decide) (fun _ _ _ _ => trivial) ?_; intro v1)); conv => whnf)) | ((with_reducible refine isO ?_); first | ((refine OpX_build0 tabOk rfl rfl rfl ?_); intro bN; conv => whnf) | ((refine OpX_build tabOk rfl rfl rfl rfl rfl ?_); intro bN; conv => whnf)) | ((with_reducible refine isW ?_); first | ((with_reducible refine xwr_ok (by omega) (by omega) ?_); conv => whnf) | ((with_reducible refine xwr_raw ?_); conv => whnf)) | (with_reducible exact rfl) | ((with_reducible refine xif_kt (by with_reducible assumption) ?_); conv => whnf) | ((with_reducible refine xif_kf (by with_reducible assumption) ?_); conv => whnf) | (((with_reducible refine xif_s ?_ ?_) <;> (intro hb; (try simp (disch := omega) only [hbS] at hb))) <;> (conv => whnf)))
          all_goals try (exfalso; omega)
          exact Fin_pure rfl rfl trivial
/-- the same, over arguments as they are opened -/
theorem same_walk (A0 : Option Addr) (n0 c0 : Nat) (l0 : List AOp) (A1 : Option Addr) (n1 c1 : Nat) (l1 : List AOp) (w : World) (h0 : l0.length = n0) (o0 : opsW w A0 n0 l0) (g0 : n0 ≤ c0) (k0 : c0 ≤ maxLen) (h1 : l1.length = n1) (o1 : opsW w A1 n1 l1) (g1 : n1 ≤ c1) (k1 : c1 ≤ maxLen) :
    Calls Tryz.prog 7 #[.slice A0 n0 c0, .slice A1 n1 c1] w fun e w' => e = .returned (.bool true) ∧ Below w.heap.size w w' :=
  (same_x A0 c0 l0 h0 (by omega) A1 c1 l1 h1 (by omega)).2.2 (fun _ => 0) w ⟨o0, o1⟩
end Go.Proofs.YtodaijlclbngbaaGreat.En
