/- The reference's Part and Map by the executor -/
import Derived.Test.YtodaijlclbngbaaGreatRz
import Derived.Test.YtodaijlclbngbaaGreatRw0
set_option linter.all false
namespace Go.Proofs.YtodaijlclbngbaaGreat.En
open Go.RowKit
set_option maxRecDepth 100000

theorem rs_read {r : RfT} (hr : okR r) {b : Nat} {C : Ctx} {ob : List OB} (j : Nat) (k : Int) (h3 : nth ob j = some (rfO b r)) : ∀ σ fp w, Mem C σ fp ob w → ArgSl w (rsOf r k).1 (rsOf r k).2.2.length 2 ((rsOf r k).2.2.map encBm) := by
  intro σ fp w hm
  unfold rsOf
  rcases Bool.eq_false_or_eq_true (r.h k) with hh | hh
  · have hv : vId k = true := by
      rcases Bool.eq_false_or_eq_true (vId k) with hv | hv
      · exact hv
      · rw [((hr k).2.2.2.2 hv).1] at hh
        cases hh
    simp only [vId, Bool.and_eq_true, decide_eq_true_eq] at hv
    obtain ⟨i, rfl⟩ := Int.eq_ofNat_of_zero_le hv.1
    rw [hh]
    exact ArgSl.rf j i (by omega) h3 σ fp w hm
  · rw [hh]
    exact ⟨rfl, by simp, by simp, fun h => (h rfl).elim⟩
set_option maxHeartbeats 2000000 in
theorem rPart_m (b : Nat) (r : RfT) (k : Int) (hok : okR r) :
    CallM Tryz.prog 19 [pR b, I k] (fun _ _ => True) [rfO b r]
      (fun q : Option Addr × Nat => .v (.slice q.1 (partA (absR r) k).length q.2)) (fun q => [rfO b r, .row 81 4 q.1 (partA (absR r) k).length q.2 ((partA (absR r) k).map encE)]) := by
  have ks := rScan_m b r k hok
  have kw := rWhere_m b r k hok
  have hread := fun {C : Ctx} {ob : List OB} (h : nth ob 0 = some (rfO b r)) => rs_read hok (C := C) (ob := ob) 0 k h
  have h32 : (rsOf r k).2.2.length ≤ 32 := by
    unfold rsOf
    split
    · have := (hok k).1
      unfold scanB at this
      simp only [Bool.and_eq_true, decide_eq_true_eq] at this
      omega
    · simp
  have hp : partA (absR r) k = if r.h k && rpB r k && !(r.p k).2.1 then (ofE (r.p k).2.2 (rsOf r k).2.2).1 else [] := by
    unfold partA absR rpB rsOf
    dsimp only
    cases hh : r.h k with
    | false => rfl
    | true =>
      by_cases h0 : (r.p k).1 = 0
      · rw [if_pos h0, decide_eq_true h0]
        rfl
      · rw [if_neg h0, decide_eq_false h0]
        show (if (r.p k).2.1 = true then [] else (ofE (r.p k).2.2 (r.s k).2.2).1) = if (true && !false && !(r.p k).2.1) = true then (ofE (r.p k).2.2 (r.s k).2.2).1 else []
        rcases Bool.eq_false_or_eq_true (r.p k).2.1 with hg | hg <;> rw [hg] <;> rfl
  have hl := ofE_len (r.p k).2.2 (rsOf r k).2.2
  rw [hp]
  have hof := fun (A : Option Addr) (c : Nat) => rOf_m (r.p k).2.2 A c (rsOf r k).2.2 rfl (by unfold maxLen; omega)
  clear hp
  generalize rpB r k = had at *
  generalize r.h k = has at *
  generalize hsv : rsOf r k = s at *
  obtain ⟨A0, c0, bs⟩ := s
  generalize r.p k = p at *
  obtain ⟨v, g, pose⟩ := p
  dsimp only at *
  refine CallM.of (m := 1) Tryz.func19 rfl tabOk rfl rfl rfl rfl (by simp [SV.wfs, SV.wf]) fun w M π _ => ?_
  generalize ofE pose bs = e at *
  rcases Bool.eq_false_or_eq_true has with h1 | h1
  rotate_left
  · subst h1
    (conv => whnf); repeat' (first | ((with_reducible refine isC ?_); first | ((with_reducible refine isF 40 ?_); ((refine CallX_m ks [0] rfl ⟨fun _ _ h => h, trivial⟩ (by decide) (fun _ _ _ _ => trivial) ?_; intro r1)); conv => whnf) | ((with_reducible refine isF 41 ?_); ((refine CallX_m kw [0] rfl ⟨fun _ _ h => h, trivial⟩ (by decide) (fun _ _ _ _ => trivial) ?_; intro r3)); conv => whnf)) | (with_reducible exact rfl) | ((with_reducible refine xif_kt (by with_reducible assumption) ?_); conv => whnf) | ((with_reducible refine xif_kf (by with_reducible assumption) ?_); conv => whnf) | (((with_reducible refine xif_s ?_ ?_) <;> (intro hb; (try simp (disch := omega) only [hbS] at hb))) <;> (conv => whnf)))
    refine Fin_addNil 81 4 ?_
    exact Fin_m (none, 0) [0, 2] ⟨rfl, by simp [SV.wf, SV.wfs]⟩ ⟨fun _ _ h => h, ⟨rfl, rfl, rfl, rfl, rfl, rfl⟩, trivial⟩ (by decide) rfl
  · subst h1
    rcases Bool.eq_false_or_eq_true had with h2 | h2
    rotate_left
    · subst h2
      (conv => whnf); repeat' (first | ((with_reducible refine isC ?_); first | ((with_reducible refine isF 40 ?_); ((refine CallX_m ks [0] rfl ⟨fun _ _ h => h, trivial⟩ (by decide) (fun _ _ _ _ => trivial) ?_; intro r1)); conv => whnf) | ((with_reducible refine isF 41 ?_); ((refine CallX_m kw [0] rfl ⟨fun _ _ h => h, trivial⟩ (by decide) (fun _ _ _ _ => trivial) ?_; intro r3)); conv => whnf)) | (with_reducible exact rfl) | ((with_reducible refine xif_kt (by with_reducible assumption) ?_); conv => whnf) | ((with_reducible refine xif_kf (by with_reducible assumption) ?_); conv => whnf) | (((with_reducible refine xif_s ?_ ?_) <;> (intro hb; (try simp (disch := omega) only [hbS] at hb))) <;> (conv => whnf)))
      refine Fin_addNil 81 4 ?_
      exact Fin_m (none, 0) [0, 2] ⟨rfl, by simp [SV.wf, SV.wfs]⟩ ⟨fun _ _ h => h, ⟨rfl, rfl, rfl, rfl, rfl, rfl⟩, trivial⟩ (by decide) rfl
    · subst h2
      rcases Bool.eq_false_or_eq_true g with h3 | h3
      · subst h3
        (conv => whnf); repeat' (first | ((with_reducible refine isC ?_); first | ((with_reducible refine isF 40 ?_); ((refine CallX_m ks [0] rfl ⟨fun _ _ h => h, trivial⟩ (by decide) (fun _ _ _ _ => trivial) ?_; intro r1)); conv => whnf) | ((with_reducible refine isF 41 ?_); ((refine CallX_m kw [0] rfl ⟨fun _ _ h => h, trivial⟩ (by decide) (fun _ _ _ _ => trivial) ?_; intro r3)); conv => whnf)) | (with_reducible exact rfl) | ((with_reducible refine xif_kt (by with_reducible assumption) ?_); conv => whnf) | ((with_reducible refine xif_kf (by with_reducible assumption) ?_); conv => whnf) | (((with_reducible refine xif_s ?_ ?_) <;> (intro hb; (try simp (disch := omega) only [hbS] at hb))) <;> (conv => whnf)))
        refine Fin_addNil 81 4 ?_
        exact Fin_m (none, 0) [0, 2] ⟨rfl, by simp [SV.wf, SV.wfs]⟩ ⟨fun _ _ h => h, ⟨rfl, rfl, rfl, rfl, rfl, rfl⟩, trivial⟩ (by decide) rfl
      · subst h3
        (conv => whnf); repeat' (first | ((with_reducible refine isC ?_); first | ((with_reducible refine isF 40 ?_); ((refine CallX_m ks [0] rfl ⟨fun _ _ h => h, trivial⟩ (by decide) (fun _ _ _ _ => trivial) ?_; intro r1)); conv => whnf) | ((with_reducible refine isF 41 ?_); ((refine CallX_m kw [0] rfl ⟨fun _ _ h => h, trivial⟩ (by decide) (fun _ _ _ _ => trivial) ?_; intro r3)); conv => whnf) | ((with_reducible refine isF 44 ?_); ((refine CallX_m (hof A0 c0) [] rfl trivial (by decide) (fun σ fp w hm => ArgN.of0 (hread rfl σ fp w hm) _) ?_; intro r4; obtain ⟨B2, d2⟩ := r4)); conv => whnf)) | (with_reducible exact rfl) | ((with_reducible refine xif_kt (by with_reducible assumption) ?_); conv => whnf) | ((with_reducible refine xif_kf (by with_reducible assumption) ?_); conv => whnf) | (((with_reducible refine xif_s ?_ ?_) <;> (intro hb; (try simp (disch := omega) only [hbS] at hb))) <;> (conv => whnf)))
        exact Fin_m (B2, d2) [0, 2] ⟨rfl, by simp [SV.wf, SV.wfs]⟩ ⟨fun _ _ h => h, ⟨rfl, rfl, rfl, rfl, rfl, rfl⟩, trivial⟩ (by decide) rfl
/-- the sum over the ids below t -/
def mapT (a : AtT) (t : Nat) : List EntT := mapF a ((List.range t).map fun i : Nat => (i : Int))
theorem mapT_succ (a : AtT) (t : Nat) : mapT a (t + 1) = (combE 1 (mapT a t) (partA a t)).1 := by
  unfold mapT mapF
  rw [List.range_succ, List.map_append, List.foldl_append]
  rfl
theorem comb_vE1 (o p : List EntT) : vE (combE 1 o p).1 = true := by
  by_cases h : (combE 1 o p).2 = 0
  · exact comb_vE h
  · rw [comb_bad h]
    exact vE_nil
theorem partA_none {a : AtT} {k : Int} (h : hasA a k = false) : partA a k = [] := by
  unfold hasA at h
  simp only [Bool.or_eq_false_iff, Option.isSome_eq_false_iff, Option.isNone_iff_eq_none] at h
  unfold partA
  rw [h.1]
/-- ids without anything change nothing -/
theorem mapT_all (a : AtT) : mapT a 64 = mapF a (idsF (hasA a) 64) := by
  have key : ∀ (l : List Nat) (o : List EntT), vE o = true → (l.map fun i : Nat => (i : Int)).foldl (fun o k => (combE 1 o (partA a k)).1) o = ((l.filter fun i : Nat => hasA a i).map fun i : Nat => (i : Int)).foldl (fun o k => (combE 1 o (partA a k)).1) o := by
    intro l
    induction l with
    | nil => exact fun o _ => rfl
    | cons k l ih =>
      intro o ho
      rw [List.filter_cons]
      rcases Bool.eq_false_or_eq_true (hasA a k) with h | h
      · rw [h, if_pos rfl]
        simp only [List.map_cons, List.foldl_cons]
        exact ih _ (comb_vE1 _ _)
      · rw [h, if_neg (by simp)]
        simp only [List.map_cons, List.foldl_cons]
        rw [partA_none h, comb_nil ho]
        exact ih o ho
  exact key (List.range 64) [] vE_nil
set_option maxHeartbeats 2000000 in
theorem rMap_m (b : Nat) (r : RfT) (hok : okR r) :
    CallM Tryz.prog 21 [pR b] (fun _ _ => True) [rfO b r]
      (fun q : Option Addr × Nat => .v (.slice q.1 (mapT (absR r) 64).length q.2)) (fun q => [rfO b r, .row 81 4 q.1 (mapT (absR r) 64).length q.2 ((mapT (absR r) 64).map encE)]) := by
  have kp := fun k => rPart_m b r k hok
  have hpl := fun k => part_len (absR r) k
  have hml : ∀ t, (mapT (absR r) t).length ≤ 1048576 := fun t => map_len _ _
  have hnx := mapT_succ (absR r)
  have h0 : mapT (absR r) 0 = [] := rfl
  generalize partA (absR r) = pt at *
  generalize mapT (absR r) = mp at *
  refine CallM.of (m := 1) Tryz.func21 rfl tabOk rfl rfl rfl rfl (by simp [SV.wfs, SV.wf]) fun w M π _ => ?_
  (conv => whnf); repeat' (first | ((with_reducible refine isW ?_); first | ((with_reducible refine xwr_ok (by omega) (by omega) ?_); conv => whnf) | ((with_reducible refine xwr_raw ?_); conv => whnf)) | (with_reducible exact rfl) | ((with_reducible refine xif_kt (by with_reducible assumption) ?_); conv => whnf) | ((with_reducible refine xif_kf (by with_reducible assumption) ?_); conv => whnf) | (((with_reducible refine xif_s ?_ ?_) <;> (intro hb; (try simp (disch := omega) only [hbS] at hb))) <;> (conv => whnf)))
  refine LoopX_addNil 81 4 ?_
  conv => whnf
  refine LoopX_inv tabOk (α := Nat × Option Addr × Nat) (fun s => s.1 ≤ 64) (fun s => [(0, pR b), (3, .v (.slice s.2.1 (mp s.1).length s.2.2)), (4, I s.1)])
    (fun s => [rfO b r, .row 81 4 s.2.1 (mp s.1).length s.2.2 ((mp s.1).map encE)]) (fun s => 64 - s.1) (0, none, 0) [0, 1] (by decide) ?_ ?_
  · dsimp only
    rw [h0]
    ((refine ⟨?_, ?_, ?_, ?_⟩) <;> (repeat' ((conv => whnf); apply And.intro)) <;> (try (first | exact trivial | decide)))
    all_goals first | rfl | exact fun _ _ h => h | (simp [SV.wf, SV.wfs]; done) | trace_state
  · rintro ⟨t, A, c⟩ ht
    dsimp only at ht ⊢
    by_cases hlt : t < 64
    · have kpt := kp t
      have hpt := hpl t
      have hnt := hnx t
      have hmt := hml t
      clear kp hpl hnx hml h0
      generalize hq : pt t = p at *
      generalize mp t = o at *
      (conv => whnf); repeat' (first | ((with_reducible refine isC ?_); first | ((with_reducible refine isF 19 ?_); ((refine CallX_m kpt [0] rfl ⟨fun _ _ h => h, trivial⟩ (by decide) (fun _ _ _ _ => trivial) ?_; intro r3; obtain ⟨A3, c3⟩ := r3)); conv => whnf) | ((with_reducible refine isF 31 ?_); ((refine CallX_m (rAdd_m A A3 c c3 o p rfl rfl (by unfold maxLen; omega) (by unfold maxLen; omega)) [] rfl trivial (by decide) (fun σ fp w hm => ⟨ArgN.row 1 rfl (m := 0) (fun j hj => by omega) σ fp w hm, ArgN.row 2 rfl (m := 0) (fun j hj => by omega) σ fp w hm⟩) ?_; intro r4; obtain ⟨A4, c4⟩ := r4)); conv => whnf)) | ((with_reducible refine isW ?_); first | ((with_reducible refine xwr_ok (by omega) (by omega) ?_); conv => whnf) | ((with_reducible refine xwr_raw ?_); conv => whnf)) | (with_reducible exact rfl) | ((with_reducible refine xif_kt (by with_reducible assumption) ?_); conv => whnf) | ((with_reducible refine xif_kf (by with_reducible assumption) ?_); conv => whnf) | (((with_reducible refine xif_s ?_ ?_) <;> (intro hb; (try simp (disch := omega) only [hbS] at hb))) <;> (conv => whnf)))
      all_goals try (exfalso; omega)
      refine ⟨(t + 1, A4, c4), [0, 3], by (try dsimp only); omega, ?_, by (try dsimp only); omega⟩
      dsimp only
      rw [hnt]
      ((refine ⟨?_, ?_, ?_, ?_⟩) <;> (repeat' ((conv => whnf); apply And.intro)) <;> (try (first | exact trivial | decide)))
      all_goals first | rfl | exact fun _ _ h => h | (simp [SV.wf, SV.wfs]; done) | trace_state
    · obtain rfl : t = 64 := by omega
      (conv => whnf); repeat' (first | ((with_reducible refine isW ?_); first | ((with_reducible refine xwr_ok (by omega) (by omega) ?_); conv => whnf) | ((with_reducible refine xwr_raw ?_); conv => whnf)) | (with_reducible exact rfl) | ((with_reducible refine xif_kt (by with_reducible assumption) ?_); conv => whnf) | ((with_reducible refine xif_kf (by with_reducible assumption) ?_); conv => whnf) | (((with_reducible refine xif_s ?_ ?_) <;> (intro hb; (try simp (disch := omega) only [hbS] at hb))) <;> (conv => whnf)))
      all_goals try (exfalso; omega)
      exact Fin_m (A, c) [0, 1] ⟨rfl, by simp [SV.wf, SV.wfs]⟩ ⟨fun _ _ h => h, ⟨rfl, rfl, rfl, rfl, rfl, rfl⟩, trivial⟩ (by decide) rfl
end Go.Proofs.YtodaijlclbngbaaGreat.En
