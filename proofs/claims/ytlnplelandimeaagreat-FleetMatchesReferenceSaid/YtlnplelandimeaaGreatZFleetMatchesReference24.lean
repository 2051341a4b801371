import Derived.Test.YtlnplelandimeaaGreatZFleetMatchesReference23
set_option linter.all false
section
namespace Go.Proofs.YtlnplelandimeaaGreat.En
open Go.RowKit
set_option maxRecDepth 100000
theorem Beams_g (A1 A2 : Option Addr) (c1 c2 : Nat) (xs ys : BmsT) {n m : Nat} (hx : xs.length = n) (hy : ys.length = m) (hn : n ≤ 1000000000) (hm : m ≤ 1000000000) :
 CallW Tryz.prog 72 [.v (.slice A1 n c1), .v (.slice A2 m c2)] (fun w => ArgSl w A1 n 2 (xs.map encBm) ∧ ArgSl w A2 m 2 (ys.map encBm)) (B (decide (xs = ys))) := by
 by_cases h : n = m
 ·subst h
  refine CallW.of Tryz.func72 rfl tabOk rfl rfl rfl (by simp [SV.wfs, SV.wf]) (by simp [SV.wfs, SV.wf]) fun w hpre => ?_
  obtain ⟨h1, h2⟩ := hpre
  (conv=>whnf);repeat' (first|((with_reducible refine isW ?_;first|refine xwr_ok (by omega) (by omega) ?_|refine xwr_raw ?_);conv=>whnf)|((first|refine DrawX_s tabOk folOk ?_|refine DrawS_i (by kernel_rfl) ?_|with_reducible refine andX_i ?_ ?_)<;>conv=>whnf)|with_reducible exact rfl|((with_reducible first|refine xif_kt (by assumption) ?_|refine xif_kf (by assumption) ?_);conv=>whnf)|((with_reducible refine xif_s ?_ ?_)<;>(intro hb;(try simp (disch:=omega) only [hbS] at hb)<;>conv=>whnf)))
  all_goals try (exfalso; omega)
  refine LoopX_inv tabOk (α := Nat) (fun k => k ≤ n ∧ ∀ j, j < k → xs.getD j b0 = ys.getD j b0) (fun k => [(0, .v (.slice A1 n c1)), (1, .v (.slice A2 n c2)), (5, I k)]) (fun _ => []) (fun k => n - k) 0 [] ⟨Nat.zero_le _, fun j hj => by omega⟩ ?_ ?_
  ·((refine ⟨?_, ?_, ?_, ?_⟩) <;> (repeat' ((conv => whnf); apply And.intro)) <;> (try (first | exact trivial | decide)))
   all_goals first | rfl | exact fun _ _ h => h | simp [SV.wf, SV.wfs]
  ·rintro k ⟨hk, hall⟩
   by_cases hlt : k < n
   ·by_cases he : xs.getD k b0 = ys.getD k b0
    ·(conv=>whnf);repeat' (first|((with_reducible refine isV ?_);first|((first|refine ValX_index tabOk rfl (h1.mem (by decide) rfl) rfl ?_ ?_ ?_|(with_reducible refine nat_idx ?_);refine ValX_loadEn _ _ (b0) tabOk rfl rfl rfl rfl (h1.mem (by decide) rfl) ?_ ?_ ?_|refine ValX_loadE _ _ (b0) tabOk rfl rfl rfl rfl (h1.mem (by decide) rfl) ?_ ?_ ?_|refine ValX_index tabOk rfl (h2.mem (by decide) rfl) rfl ?_ ?_ ?_|(with_reducible refine nat_idx ?_);refine ValX_loadEn _ _ (b0) tabOk rfl rfl rfl rfl (h2.mem (by decide) rfl) ?_ ?_ ?_|refine ValX_loadE _ _ (b0) tabOk rfl rfl rfl rfl (h2.mem (by decide) rfl) ?_ ?_ ?_)<;>first|rfl|omega|with_reducible refine isP ?_|conv=>whnf))|((with_reducible refine isW ?_;first|refine xwr_ok (by omega) (by omega) ?_|refine xwr_raw ?_);conv=>whnf)|((first|refine DrawX_s tabOk folOk ?_|refine DrawS_i (by kernel_rfl) ?_|with_reducible refine andX_i ?_ ?_)<;>conv=>whnf)|with_reducible exact rfl|((with_reducible first|refine xif_kt (by assumption) ?_|refine xif_kf (by assumption) ?_);conv=>whnf)|((with_reducible refine xif_s ?_ ?_)<;>(intro hb;(try simp (disch:=omega) only [hbS] at hb)<;>conv=>whnf)))
     all_goals try (exfalso; omega)
     all_goals try (exfalso; rw [he] at hb; simp at hb; done)
     refine ⟨k + 1, [], ⟨by (try dsimp only); omega, fun j hj => ?_⟩, ?_, by (try dsimp only); omega⟩
     ·by_cases e : j = k
      ·rw [e]; exact he
      ·exact hall j (by omega)
     ·((refine ⟨?_, ?_, ?_, ?_⟩) <;> (repeat' ((conv => whnf); apply And.intro)) <;> (try (first | exact trivial | decide)))
      all_goals first | rfl | exact fun _ _ h => h | (simp [SV.wf, SV.wfs]; done) | trace_state
    ·(conv=>whnf);repeat' (first|((with_reducible refine isV ?_);first|((first|refine ValX_index tabOk rfl (h1.mem (by decide) rfl) rfl ?_ ?_ ?_|(with_reducible refine nat_idx ?_);refine ValX_loadEn _ _ (b0) tabOk rfl rfl rfl rfl (h1.mem (by decide) rfl) ?_ ?_ ?_|refine ValX_loadE _ _ (b0) tabOk rfl rfl rfl rfl (h1.mem (by decide) rfl) ?_ ?_ ?_|refine ValX_index tabOk rfl (h2.mem (by decide) rfl) rfl ?_ ?_ ?_|(with_reducible refine nat_idx ?_);refine ValX_loadEn _ _ (b0) tabOk rfl rfl rfl rfl (h2.mem (by decide) rfl) ?_ ?_ ?_|refine ValX_loadE _ _ (b0) tabOk rfl rfl rfl rfl (h2.mem (by decide) rfl) ?_ ?_ ?_)<;>first|rfl|omega|with_reducible refine isP ?_|conv=>whnf))|((with_reducible refine isW ?_;first|refine xwr_ok (by omega) (by omega) ?_|refine xwr_raw ?_);conv=>whnf)|((first|refine DrawX_s tabOk folOk ?_|refine DrawS_i (by kernel_rfl) ?_|with_reducible refine andX_i ?_ ?_)<;>conv=>whnf)|with_reducible exact rfl|((with_reducible first|refine xif_kt (by assumption) ?_|refine xif_kf (by assumption) ?_);conv=>whnf)|((with_reducible refine xif_s ?_ ?_)<;>(intro hb;(try simp (disch:=omega) only [hbS] at hb)<;>conv=>whnf)))
     all_goals try (exfalso; omega)
     all_goals first
      | (exfalso; refine he (Prod.ext ?_ ?_) <;> first | (simp at hb; exact hb.1) | (simp at hb; exact hb.2) | (simp at hb; exact hb); done)
      | (refine Fin_pure rfl (B_eq ?_) trivial; rw [decide_eq_false]; intro e; rw [e] at he; exact he rfl)
      | trace_state
   ·obtain rfl : k = n := by omega
    (conv=>whnf);repeat' (first|((with_reducible refine isW ?_;first|refine xwr_ok (by omega) (by omega) ?_|refine xwr_raw ?_);conv=>whnf)|((first|refine DrawX_s tabOk folOk ?_|refine DrawS_i (by kernel_rfl) ?_|with_reducible refine andX_i ?_ ?_)<;>conv=>whnf)|with_reducible exact rfl|((with_reducible first|refine xif_kt (by assumption) ?_|refine xif_kf (by assumption) ?_);conv=>whnf)|((with_reducible refine xif_s ?_ ?_)<;>(intro hb;(try simp (disch:=omega) only [hbS] at hb)<;>conv=>whnf)))
    all_goals try (exfalso; omega)
    refine Fin_pure rfl (B_eq ?_) trivial
    rw [decide_eq_true]
    exact ext_getD b0 hx hy hall
 ·refine CallW.of Tryz.func72 rfl tabOk rfl rfl rfl (by simp [SV.wfs, SV.wf]) (by simp [SV.wfs, SV.wf]) fun w hpre => ?_
  (conv=>whnf);repeat' (first|((with_reducible refine isW ?_;first|refine xwr_ok (by omega) (by omega) ?_|refine xwr_raw ?_);conv=>whnf)|((first|refine DrawX_s tabOk folOk ?_|refine DrawS_i (by kernel_rfl) ?_|with_reducible refine andX_i ?_ ?_)<;>conv=>whnf)|with_reducible exact rfl|((with_reducible first|refine xif_kt (by assumption) ?_|refine xif_kf (by assumption) ?_);conv=>whnf)|((with_reducible refine xif_s ?_ ?_)<;>(intro hb;(try simp (disch:=omega) only [hbS] at hb)<;>conv=>whnf)))
  all_goals try (exfalso; omega)
  refine Fin_pure rfl (B_eq ?_) trivial
  rw [decide_eq_false]
  rintro rfl
  omega
def eqAtR (r1 r2 : RfT) (k : Int) : Prop := (rsOf r1 k).2.2 = (rsOf r2 k).2.2 ∧ r1.h k = r2.h k ∧ r1.p k = r2.p k ∧ rpB r1 k = rpB r2 k
theorem eqAtR_iff (r1 r2 : RfT) (k : Int) : eqAtR r1 r2 k ↔ ((rsOf r1 k).2.2 = (rsOf r2 k).2.2 ∧ r1.h k = r2.h k ∧ r1.p k = r2.p k ∧ rpB r1 k = rpB r2 k) := Iff.rfl
theorem eqAtR_of {r1 r2 : RfT} (h1 : okR r1) (h2 : okR r2) (h : absR r1 = absR r2) (k : Int) : eqAtR r1 r2 k := by
 have e1 : (if r1.h k then some (r1.s k).2.2 else none) = if r2.h k then some (r2.s k).2.2 else none := congrFun (congrArg Prod.fst h) k
 have e2 : (if (r1.p k).1 = 0 then none else some (r1.p k)) = if (r2.p k).1 = 0 then none else some (r2.p k) := congrFun (congrArg Prod.snd h) k
 have z1 := (h1 k).2.2.2.1
 have z2 := (h2 k).2.2.2.1
 have ep : r1.p k = r2.p k := by
  by_cases a : (r1.p k).1 = 0 <;> by_cases b : (r2.p k).1 = 0
  ·rw [z1 a, z2 b]
  ·rw [if_pos a, if_neg b] at e2; cases e2
  ·rw [if_neg a, if_pos b] at e2; cases e2
  ·rw [if_neg a, if_neg b] at e2; exact Option.some.inj e2
 refine ⟨?_, ?_, ep, by unfold rpB; rw [ep]⟩
 ·unfold rsOf
  cases a : r1.h k <;> cases b : r2.h k <;> rw [a, b] at e1 <;> simp at e1 <;> simp [e1]
 ·cases a : r1.h k <;> cases b : r2.h k <;> rw [a, b] at e1 <;> simp at e1 <;> rfl
theorem eqAtR_all {r1 r2 : RfT} (h1 : okR r1) (h2 : okR r2) (h : ∀ k : Nat, k < 64 → eqAtR r1 r2 k) : absR r1 = absR r2 := by
 have key : ∀ k : Int, (absR r1).1 k = (absR r2).1 k ∧ (absR r1).2 k = (absR r2).2 k := by
  intro k
  show (if r1.h k then some (r1.s k).2.2 else none) = (if r2.h k then some (r2.s k).2.2 else none) ∧ (if (r1.p k).1 = 0 then none else some (r1.p k)) = if (r2.p k).1 = 0 then none else some (r2.p k)
  rcases Bool.eq_false_or_eq_true (vId k) with hv | hv
  ·simp only [vId, Bool.and_eq_true, decide_eq_true_eq] at hv
   obtain ⟨i, rfl⟩ := Int.eq_ofNat_of_zero_le hv.1
   obtain ⟨a, b, c, _⟩ := h i (by omega)
   unfold rsOf at a
   rw [c, b]
   rw [b] at a
   refine ⟨?_, rfl⟩
   cases e : r2.h (i : Int) with
   | false => rfl
   | true =>
    rw [e] at a
    simp at a
    simp [a]
  ·obtain ⟨a1, a2⟩ := (h1 k).2.2.2.2 hv
   obtain ⟨b1, b2⟩ := (h2 k).2.2.2.2 hv
   rw [a1, a2, b1, b2]
   exact ⟨rfl, rfl⟩
 exact Prod.ext (funext fun k => (key k).1) (funext fun k => (key k).2)
theorem okR_32 {r : RfT} (h : okR r) (k : Int) : (rsOf r k).2.2.length ≤ 32 := by
 unfold rsOf
 split
 ·have := (h k).1
  unfold scanB at this
  simp only [Bool.and_eq_true, decide_eq_true_eq] at this
  exact this.1
 ·simp
set_option maxHeartbeats 4000000 in
theorem rSame_m (b1 b2 : Nat) (r1 r2 : RfT) (h1 : okR r1) (h2 : okR r2) (r : Bool) (hr : r = true ↔ absR r1 = absR r2) :
 CallM Tryz.prog 74 [pR b1, pR b2] (fun _ _ => True) [rfO b1 r1, rfO b2 r2] (fun _ : Unit => B r) (fun _ => [rfO b1 r1, rfO b2 r2]) := by
 have hP : ∀ k, r = true → eqAtR r1 r2 k := fun k h => eqAtR_of h1 h2 (hr.1 h) k
 have hfin : (∀ k : Nat, k < 64 → eqAtR r1 r2 k) → r = true := fun h => hr.2 (eqAtR_all h1 h2 h)
 clear hr
 have ks1 := fun k => rScan_m b1 r1 k h1
 have ks2 := fun k => rScan_m b2 r2 k h2
 have kw1 := fun k => rWhere_m b1 r1 k h1
 have kw2 := fun k => rWhere_m b2 r2 k h2
 refine CallM.of (m := 2) Tryz.func74 rfl tabOk rfl rfl rfl rfl (by simp [SV.wfs, SV.wf]) fun w M π _ => ?_
 (conv=>whnf);repeat' (first|((with_reducible refine isW ?_;first|refine xwr_ok (by omega) (by omega) ?_|refine xwr_raw ?_);conv=>whnf)|with_reducible exact rfl|((with_reducible first|refine xif_kt (by assumption) ?_|refine xif_kf (by assumption) ?_);conv=>whnf)|((with_reducible refine xif_s ?_ ?_)<;>(intro hb;(try simp (disch:=omega) only [hbS] at hb)<;>conv=>whnf)))
 refine LoopX_inv tabOk (α := Nat) (fun k => k ≤ 64 ∧ ∀ j : Nat, j < k → eqAtR r1 r2 j) (fun k => [(0, pR b1), (1, pR b2), (5, I k)]) (fun _ => [rfO b1 r1, rfO b2 r2]) (fun k => 64 - k) 0 [0, 1] ⟨Nat.zero_le _, fun j hj => by omega⟩ ?_ ?_
 ·((refine ⟨?_, ?_, ?_, ?_⟩) <;> (repeat' ((conv => whnf); apply And.intro)) <;> (try (first | exact trivial | decide)))
  all_goals first | rfl | exact fun _ _ h => h | (simp [SV.wf, SV.wfs]; done) | trace_state
 ·rintro k ⟨hk, hall⟩
  by_cases hlt : k < 64
  ·have k1 := ks1 k
   have k2 := ks2 k
   have k3 := kw1 k
   have k4 := kw2 k
   have hE := eqAtR_iff r1 r2 k
   have hPk := hP k
   have hnext : eqAtR r1 r2 k → ∀ j : Nat, j < k + 1 → eqAtR r1 r2 j := fun h j hj => by
    by_cases e : j = k
    ·rw [e]; exact h
    ·exact hall j (by omega)
   have l1 := okR_32 h1 k
   have l2 := okR_32 h2 k
   have rd1 := fun {C : Ctx} {ob : List OB} (h : nth ob 0 = some (rfO b1 r1)) => rs_read h1 (C := C) (ob := ob) 0 k h
   have rd2 := fun {C : Ctx} {ob : List OB} (h : nth ob 1 = some (rfO b2 r2)) => rs_read h2 (C := C) (ob := ob) 1 k h
   clear ks1 ks2 kw1 kw2 hP
   generalize eqAtR r1 r2 k = E at *
   generalize r1.h k = f1 at *
   generalize r2.h k = f2 at *
   generalize r1.p k = p1 at *
   generalize r2.p k = p2 at *
   generalize rpB r1 k = g1v at *
   generalize rpB r2 k = g2v at *
   generalize rsOf r1 k = s1 at *
   generalize rsOf r2 k = s2 at *
   obtain ⟨A1, c1, s1v⟩ := s1
   obtain ⟨A2, c2, s2v⟩ := s2
   dsimp only at *
   have hrf : ¬ (s1v = s2v ∧ f1 = f2 ∧ p1 = p2 ∧ g1v = g2v) → r = false := fun h => by
    rcases Bool.eq_false_or_eq_true r with e | e
    ·exact (h (hE.1 (hPk e))).elim
    ·exact e
   by_cases hs : s1v = s2v
   ·have kb := Beams_g A1 A2 c1 c2 s1v s2v rfl rfl (by omega) (by omega)
    rw [decide_eq_true hs] at kb
    by_cases hq : f1 = f2 ∧ p1 = p2 ∧ g1v = g2v
    ·have hE2 := hE.2 ⟨hs, hq⟩
     obtain ⟨rfl, rfl, rfl⟩ := hq
     (conv=>whnf);repeat' (first|((with_reducible refine isC ?_);first|((first|(with_reducible refine isF 69 ?_);(first | (refine CallX_m k1 [0] rfl ⟨fun _ _ h => h, trivial⟩ (by decide) (fun _ _ _ _ => trivial) ?_; intro r6) | (refine CallX_m k2 [1] rfl ⟨fun _ _ h => h, trivial⟩ (by decide) (fun _ _ _ _ => trivial) ?_; intro r6))|(with_reducible refine isF 71 ?_);(first | (refine CallX_m k3 [0] rfl ⟨fun _ _ h => h, trivial⟩ (by decide) (fun _ _ _ _ => trivial) ?_; intro r6) | (refine CallX_m k4 [1] rfl ⟨fun _ _ h => h, trivial⟩ (by decide) (fun _ _ _ _ => trivial) ?_; intro r6))|(with_reducible refine isF 72 ?_);((refine CallX_w kb (fun σ fp w hm => ⟨rd1 rfl σ fp w hm, rd2 rfl σ fp w hm⟩) ?_)));conv=>whnf))|((with_reducible refine isW ?_;first|refine xwr_ok (by omega) (by omega) ?_|refine xwr_raw ?_);conv=>whnf)|with_reducible exact rfl|((with_reducible first|refine xif_kt (by assumption) ?_|refine xif_kf (by assumption) ?_);conv=>whnf)|((with_reducible refine xif_s ?_ ?_)<;>(intro hb;(try simp (disch:=omega) only [hbS] at hb)<;>conv=>whnf)))
     all_goals try (exfalso; omega)
     all_goals try (exfalso; simp at hb; done)
     refine ⟨k + 1, [0, 1], ⟨by (try dsimp only); omega, hnext hE2⟩, ?_, by (try dsimp only); omega⟩
     ((refine ⟨?_, ?_, ?_, ?_⟩) <;> (repeat' ((conv => whnf); apply And.intro)) <;> (try (first | exact trivial | decide)))
     all_goals first | rfl | exact fun _ _ h => h | (simp [SV.wf, SV.wfs]; done) | trace_state
    ·have hrf := hrf (fun h => hq h.2)
     (conv=>whnf);repeat' (first|((with_reducible refine isC ?_);first|((first|(with_reducible refine isF 69 ?_);(first | (refine CallX_m k1 [0] rfl ⟨fun _ _ h => h, trivial⟩ (by decide) (fun _ _ _ _ => trivial) ?_; intro r6) | (refine CallX_m k2 [1] rfl ⟨fun _ _ h => h, trivial⟩ (by decide) (fun _ _ _ _ => trivial) ?_; intro r6))|(with_reducible refine isF 71 ?_);(first | (refine CallX_m k3 [0] rfl ⟨fun _ _ h => h, trivial⟩ (by decide) (fun _ _ _ _ => trivial) ?_; intro r6) | (refine CallX_m k4 [1] rfl ⟨fun _ _ h => h, trivial⟩ (by decide) (fun _ _ _ _ => trivial) ?_; intro r6))|(with_reducible refine isF 72 ?_);((refine CallX_w kb (fun σ fp w hm => ⟨rd1 rfl σ fp w hm, rd2 rfl σ fp w hm⟩) ?_)));conv=>whnf))|((with_reducible refine isW ?_;first|refine xwr_ok (by omega) (by omega) ?_|refine xwr_raw ?_);conv=>whnf)|with_reducible exact rfl|((with_reducible first|refine xif_kt (by assumption) ?_|refine xif_kf (by assumption) ?_);conv=>whnf)|((with_reducible refine xif_s ?_ ?_)<;>(intro hb;(try simp (disch:=omega) only [hbS] at hb)<;>conv=>whnf)))
     all_goals try (exfalso; omega)
     all_goals first
      | exact Fin_m () [0, 1] ⟨by rw [hrf]; rfl, by simp [SV.wf, SV.wfs]⟩ ⟨fun _ _ h => h, fun _ _ h => h, trivial⟩ (by decide) rfl
      | (exfalso; refine hq ⟨?_, ?_, ?_⟩ <;> simp_all [Prod.ext_iff]; done)
      | trace_state
   ·have kb := Beams_g A1 A2 c1 c2 s1v s2v rfl rfl (by omega) (by omega)
    rw [decide_eq_false hs] at kb
    have hrf := hrf (fun h => hs h.1)
    (conv=>whnf);repeat' (first|((with_reducible refine isC ?_);first|((first|(with_reducible refine isF 69 ?_);(first | (refine CallX_m k1 [0] rfl ⟨fun _ _ h => h, trivial⟩ (by decide) (fun _ _ _ _ => trivial) ?_; intro r6) | (refine CallX_m k2 [1] rfl ⟨fun _ _ h => h, trivial⟩ (by decide) (fun _ _ _ _ => trivial) ?_; intro r6))|(with_reducible refine isF 71 ?_);(first | (refine CallX_m k3 [0] rfl ⟨fun _ _ h => h, trivial⟩ (by decide) (fun _ _ _ _ => trivial) ?_; intro r6) | (refine CallX_m k4 [1] rfl ⟨fun _ _ h => h, trivial⟩ (by decide) (fun _ _ _ _ => trivial) ?_; intro r6))|(with_reducible refine isF 72 ?_);((refine CallX_w kb (fun σ fp w hm => ⟨rd1 rfl σ fp w hm, rd2 rfl σ fp w hm⟩) ?_)));conv=>whnf))|((with_reducible refine isW ?_;first|refine xwr_ok (by omega) (by omega) ?_|refine xwr_raw ?_);conv=>whnf)|with_reducible exact rfl|((with_reducible first|refine xif_kt (by assumption) ?_|refine xif_kf (by assumption) ?_);conv=>whnf)|((with_reducible refine xif_s ?_ ?_)<;>(intro hb;(try simp (disch:=omega) only [hbS] at hb)<;>conv=>whnf)))
    all_goals try (exfalso; omega)
    all_goals first
     | exact Fin_m () [0, 1] ⟨by rw [hrf]; rfl, by simp [SV.wf, SV.wfs]⟩ ⟨fun _ _ h => h, fun _ _ h => h, trivial⟩ (by decide) rfl
     | trace_state
  ·obtain rfl : k = 64 := by omega
   have hrt := hfin hall
   (conv=>whnf);repeat' (first|((with_reducible refine isW ?_;first|refine xwr_ok (by omega) (by omega) ?_|refine xwr_raw ?_);conv=>whnf)|with_reducible exact rfl|((with_reducible first|refine xif_kt (by assumption) ?_|refine xif_kf (by assumption) ?_);conv=>whnf)|((with_reducible refine xif_s ?_ ?_)<;>(intro hb;(try simp (disch:=omega) only [hbS] at hb)<;>conv=>whnf)))
   all_goals try (exfalso; omega)
   exact Fin_m () [0, 1] ⟨by rw [hrt]; rfl, by simp [SV.wf, SV.wfs]⟩ ⟨fun _ _ h => h, fun _ _ h => h, trivial⟩ (by decide) rfl
theorem ArgN.rf {C : Ctx} {ob : List OB} {b : Nat} {r : RfT} (j i : Nat) (hi : i < 64) (h : nth ob j = some (rfO b r)) {n : Nat} {q : List Nat} (hq : ∀ i, i < n → q.getD i 0 < ob.length ∧ q.getD i 0 ≠ j) :
 ∀ σ fp w, Mem C σ fp ob w → ArgN w (MOf n fun i => fp (q.getD i 0)) (r.s i).1 (r.s i).2.2.length 2 ((r.s i).2.2.map encBm) := by
 intro σ fp w hm
 refine ⟨ArgSl.rf j i hi h σ fp w hm, ?_⟩
 rintro hn c o hA ⟨t, ht, hb⟩
 obtain ⟨_, hs, hjl⟩ := nth_rf hm h
 obtain ⟨h6, h7⟩ := hq t ht
 exact hm.disj _ j h6 hjl h7 c hb ((hs i hi).2 hn c o none hA).1
theorem jStep_def (b x : AtT) (k : Int) : jStep b x k = ((match b.1 k with
 | some s => updF x.1 k (mxO keyS (x.1 k) s)
 | none => x.1), match b.2 k with
 | some p => updF x.2 k (mxO keyP (x.2 k) p)
 | none => x.2) := rfl
def all64N (t : Nat) : List Int := (List.range t).map fun i : Nat => (i : Int)
theorem all64N_succ (t : Nat) : all64N (t + 1) = all64N t ++ [(t : Int)] := by
 unfold all64N
 rw [List.range_succ, List.map_append]
 rfl
theorem all64N_nodup : (all64N 64).Nodup := by decide +kernel
theorem all64N_mem (k : Int) : k ∈ all64N 64 ↔ vId k = true := by
 unfold all64N vId
 simp only [List.mem_map, List.mem_range, Bool.and_eq_true, decide_eq_true_eq]
 constructor
 ·rintro ⟨i, h1, rfl⟩
  omega
 ·rintro ⟨h1, h2⟩
  exact ⟨k.toNat, by omega, Int.toNat_of_nonneg h1⟩
theorem join_all64 {a b : AtT} (h : goodA b) : (all64N 64).foldl (jStep b) a = joinA a b := by
 have key : ∀ i, ¬ i ∈ all64N 64 → b.1 i = none ∧ b.2 i = none := by
  intro i hi
  rw [all64N_mem] at hi
  constructor
  ·cases hb : b.1 i with
   | none => rfl
   | some s => exact (hi ((h i).1 s hb).2).elim
  ·cases hb : b.2 i with
   | none => rfl
   | some s => exact (hi ((h i).2 s hb).2).elim
 refine Prod.ext (funext fun i => ?_) (funext fun i => ?_)
 ·rw [(jfold_at b i _ a all64N_nodup).1]
  split
  ·rfl
  ·rename_i hi
   show a.1 i = joinO keyS (a.1 i) (b.1 i)
   rw [(key i hi).1]
   rfl
 ·rw [(jfold_at b i _ a all64N_nodup).2]
  split
  ·rfl
  ·rename_i hi
   show a.2 i = joinO keyP (a.2 i) (b.2 i)
   rw [(key i hi).2]
   rfl
set_option maxHeartbeats 4000000 in
theorem rJoin_m (b1 b2 : Nat) (r1 r2 : RfT) (h1 : okR r1) (h2 : okR r2) (hg : goodA (absR r2)) :
 CallM Tryz.prog 90 [pR b1, pR b2] (fun _ _ => True) [rfO b1 r1, rfO b2 r2] (fun _ : RfI (joinA (absR r1) (absR r2)) => I 0) (fun r => [rfO b1 r.1, rfO b2 r2]) := by
 have hall := join_all64 (a := absR r1) hg
 rw [← hall]
 clear hall
 refine CallM.of (m := 2) Tryz.func90 rfl tabOk rfl rfl rfl rfl (by simp [SV.wfs, SV.wf]) fun w M π _ => ?_
 (conv=>whnf);repeat' (first|((with_reducible refine isW ?_;first|refine xwr_ok (by omega) (by omega) ?_|refine xwr_raw ?_);conv=>whnf)|with_reducible exact rfl|((with_reducible first|refine xif_kt (by assumption) ?_|refine xif_kf (by assumption) ?_);conv=>whnf)|((with_reducible refine xif_s ?_ ?_)<;>(intro hb;(try simp (disch:=omega) only [hbS] at hb)<;>conv=>whnf)))
 refine LoopX_inv tabOk (α := (t : Nat) × RfI ((all64N t).foldl (jStep (absR r2)) (absR r1))) (fun s => s.1 ≤ 64) (fun s => [(0, pR b1), (1, pR b2), (5, I s.1)]) (fun s => [rfO b1 s.2.1, rfO b2 r2]) (fun s => 64 - s.1) ⟨0, ⟨r1, h1, rfl⟩⟩ [0, 1] (Nat.zero_le _) ?_ ?_
 ·((refine ⟨?_, ?_, ?_, ?_⟩) <;> (repeat' ((conv => whnf); apply And.intro)) <;> (try (first | exact trivial | decide)))
  all_goals first | rfl | exact fun _ _ h => h | (simp [SV.wf, SV.wfs]; done) | trace_state
 ·rintro ⟨t, ⟨r, hok, hab⟩⟩ ht
  dsimp only at ht hok ⊢
  by_cases hlt : t < 64
  ·have hst : (all64N (t + 1)).foldl (jStep (absR r2)) (absR r1) = jStep (absR r2) (absR r) t := by
    rw [all64N_succ, List.foldl_append, hab]
    rfl
   have hgk := hg t
   have hv : vId (t : Int) = true := by simp only [vId, Bool.and_eq_true, decide_eq_true_eq]; omega
   have hl := okR_32 h2 t
   have hz := (h2 t).2.2.2.1
   have hnn := (h2 t).2.2.1
   have es : (absR r2).1 (t : Int) = if r2.h t then some (r2.s t).2.2 else none := rfl
   have ep : (absR r2).2 (t : Int) = if (r2.p t).1 = 0 then none else some (r2.p t) := rfl
   have hj := jStep_def (absR r2) (absR r) t
   rcases Bool.eq_false_or_eq_true (r2.h t) with hh | hh
   ·rw [hh, if_pos rfl] at es
    have hsc := (hgk.1 _ es).1
    have hl : (r2.s t).2.2.length ≤ 32 := by unfold rsOf at hl; rw [hh] at hl; exact hl
    have kput := rPut_m b1 r t (r2.s t).1 (r2.s t).2.1 (r2.s t).2.2 rfl (by unfold maxLen; omega) hok
    by_cases hp : (r2.p t).1 = 0
    ·rw [if_pos hp] at ep
     rw [es, ep] at hj
     dsimp only at hj
     (conv=>whnf);repeat' (first|((with_reducible refine isC ?_);first|(((with_reducible refine isF 87 ?_);(refine CallX_m kput [0] rfl ⟨fun _ _ h => h, trivial⟩ (by decide) (ArgN.rf 1 t hlt rfl (n := 1) (q := [0]) (fun j hj => by rcases (by omega : j = 0) with rfl; simp)) ?_; intro q));conv=>whnf))|((with_reducible refine isV ?_);first|((refine ValX_arr (n := 64) (sz := 1) tabOk rfl Tryz.underlying152 rfl rfl ?_ ?_ ?_) <;> first | omega | (conv => whnf))|((refine ValX_arr (n := 64) (sz := 1) tabOk rfl Tryz.underlying151 rfl rfl ?_ ?_ ?_) <;> first | omega | (conv => whnf))|((refine ValX_arr (n := 64) (sz := 5) tabOk rfl Tryz.underlying153 rfl rfl ?_ ?_ ?_) <;> first | omega | (conv => whnf))|(refine ValX_rfH 1 t true tabOk rfl rfl rfl rfl hlt hh ?_; conv => whnf)|(refine ValX_rfS 1 t (r2.s t) tabOk rfl rfl rfl rfl hlt rfl ?_; conv => whnf)|(refine ValX_rfV 1 t (r2.p t).1 tabOk rfl rfl rfl rfl hlt rfl ?_; conv => whnf))|((with_reducible refine isW ?_;first|refine xwr_ok (by omega) (by omega) ?_|refine xwr_raw ?_);conv=>whnf)|with_reducible exact rfl|((with_reducible first|refine xif_kt (by assumption) ?_|refine xif_kf (by assumption) ?_);conv=>whnf)|((with_reducible refine xif_s ?_ ?_)<;>(intro hb;(try simp (disch:=omega) only [hbS] at hb)<;>conv=>whnf)))
     all_goals try (exfalso; omega)
     refine ⟨⟨t + 1, q.1, q.2.1, ?_⟩, [0, 1], by (try dsimp only); omega, ?_, by (try dsimp only); omega⟩
     ·rw [hst, hj, q.2.2]
      unfold putA
      rw [hsc, hv]
      rfl
     ·((refine ⟨?_, ?_, ?_, ?_⟩) <;> (repeat' ((conv => whnf); apply And.intro)) <;> (try (first | exact trivial | decide)))
      all_goals first | rfl | exact fun _ _ h => h | (simp [SV.wf, SV.wfs]; done) | trace_state
    ·rw [if_neg hp] at ep
     rw [es, ep] at hj
     dsimp only at hj
     have hvp := (hgk.2 _ ep).1
     (conv=>whnf);repeat' (first|((with_reducible refine isC ?_);first|((first|(with_reducible refine isF 87 ?_);(refine CallX_m kput [0] rfl ⟨fun _ _ h => h, trivial⟩ (by decide) (ArgN.rf 1 t hlt rfl (n := 1) (q := [0]) (fun j hj => by rcases (by omega : j = 0) with rfl; simp)) ?_; intro q)|(with_reducible refine isF 88 ?_);(refine CallX_m (rPlace_m b1 q.1 t (r2.p t) q.2.1) [0] rfl ⟨fun _ _ h => h, trivial⟩ (by decide) (fun _ _ _ _ => trivial) ?_; intro q2));conv=>whnf))|((with_reducible refine isV ?_);first|((refine ValX_arr (n := 64) (sz := 1) tabOk rfl Tryz.underlying152 rfl rfl ?_ ?_ ?_) <;> first | omega | (conv => whnf))|((refine ValX_arr (n := 64) (sz := 1) tabOk rfl Tryz.underlying151 rfl rfl ?_ ?_ ?_) <;> first | omega | (conv => whnf))|((refine ValX_arr (n := 64) (sz := 5) tabOk rfl Tryz.underlying153 rfl rfl ?_ ?_ ?_) <;> first | omega | (conv => whnf))|(refine ValX_rfH 1 t true tabOk rfl rfl rfl rfl hlt hh ?_; conv => whnf)|(refine ValX_rfS 1 t (r2.s t) tabOk rfl rfl rfl rfl hlt rfl ?_; conv => whnf)|(refine ValX_rfV 1 t (r2.p t).1 tabOk rfl rfl rfl rfl hlt rfl ?_; conv => whnf)|(refine ValX_rfQ 1 t (r2.p t) tabOk rfl rfl rfl rfl rfl hlt rfl ?_; conv => whnf))|((with_reducible refine isW ?_;first|refine xwr_ok (by omega) (by omega) ?_|refine xwr_raw ?_);conv=>whnf)|with_reducible exact rfl|((with_reducible first|refine xif_kt (by assumption) ?_|refine xif_kf (by assumption) ?_);conv=>whnf)|((with_reducible refine xif_s ?_ ?_)<;>(intro hb;(try simp (disch:=omega) only [hbS] at hb)<;>conv=>whnf)))
     all_goals try (exfalso; omega)
     refine ⟨⟨t + 1, q2.1, q2.2.1, ?_⟩, [0, 1], by (try dsimp only); omega, ?_, by (try dsimp only); omega⟩
     ·rw [hst, hj, q2.2.2, q.2.2]
      unfold plcA putA
      rw [hsc, hv, hvp]
      rfl
     ·((refine ⟨?_, ?_, ?_, ?_⟩) <;> (repeat' ((conv => whnf); apply And.intro)) <;> (try (first | exact trivial | decide)))
      all_goals first | rfl | exact fun _ _ h => h | (simp [SV.wf, SV.wfs]; done) | trace_state
   ·rw [hh, if_neg (by simp)] at es
    by_cases hp : (r2.p t).1 = 0
    ·rw [if_pos hp] at ep
     rw [es, ep] at hj
     dsimp only at hj
     (conv=>whnf);repeat' (first|((with_reducible refine isV ?_);first|((refine ValX_arr (n := 64) (sz := 1) tabOk rfl Tryz.underlying152 rfl rfl ?_ ?_ ?_) <;> first | omega | (conv => whnf))|((refine ValX_arr (n := 64) (sz := 1) tabOk rfl Tryz.underlying151 rfl rfl ?_ ?_ ?_) <;> first | omega | (conv => whnf))|((refine ValX_arr (n := 64) (sz := 5) tabOk rfl Tryz.underlying153 rfl rfl ?_ ?_ ?_) <;> first | omega | (conv => whnf))|(refine ValX_rfH 1 t false tabOk rfl rfl rfl rfl hlt hh ?_; conv => whnf)|(refine ValX_rfV 1 t (r2.p t).1 tabOk rfl rfl rfl rfl hlt rfl ?_; conv => whnf))|((with_reducible refine isW ?_;first|refine xwr_ok (by omega) (by omega) ?_|refine xwr_raw ?_);conv=>whnf)|with_reducible exact rfl|((with_reducible first|refine xif_kt (by assumption) ?_|refine xif_kf (by assumption) ?_);conv=>whnf)|((with_reducible refine xif_s ?_ ?_)<;>(intro hb;(try simp (disch:=omega) only [hbS] at hb)<;>conv=>whnf)))
     all_goals try (exfalso; omega)
     refine ⟨⟨t + 1, r, hok, ?_⟩, [0, 1], by (try dsimp only); omega, ?_, by (try dsimp only); omega⟩
     ·rw [hst, hj]
     ·((refine ⟨?_, ?_, ?_, ?_⟩) <;> (repeat' ((conv => whnf); apply And.intro)) <;> (try (first | exact trivial | decide)))
      all_goals first | rfl | exact fun _ _ h => h | (simp [SV.wf, SV.wfs]; done) | trace_state
    ·rw [if_neg hp] at ep
     rw [es, ep] at hj
     dsimp only at hj
     have hvp := (hgk.2 _ ep).1
     (conv=>whnf);repeat' (first|((with_reducible refine isC ?_);first|(((with_reducible refine isF 88 ?_);(refine CallX_m (rPlace_m b1 r t (r2.p t) hok) [0] rfl ⟨fun _ _ h => h, trivial⟩ (by decide) (fun _ _ _ _ => trivial) ?_; intro q2));conv=>whnf))|((with_reducible refine isV ?_);first|((refine ValX_arr (n := 64) (sz := 1) tabOk rfl Tryz.underlying152 rfl rfl ?_ ?_ ?_) <;> first | omega | (conv => whnf))|((refine ValX_arr (n := 64) (sz := 1) tabOk rfl Tryz.underlying151 rfl rfl ?_ ?_ ?_) <;> first | omega | (conv => whnf))|((refine ValX_arr (n := 64) (sz := 5) tabOk rfl Tryz.underlying153 rfl rfl ?_ ?_ ?_) <;> first | omega | (conv => whnf))|(refine ValX_rfH 1 t false tabOk rfl rfl rfl rfl hlt hh ?_; conv => whnf)|(refine ValX_rfV 1 t (r2.p t).1 tabOk rfl rfl rfl rfl hlt rfl ?_; conv => whnf)|(refine ValX_rfQ 1 t (r2.p t) tabOk rfl rfl rfl rfl rfl hlt rfl ?_; conv => whnf))|((with_reducible refine isW ?_;first|refine xwr_ok (by omega) (by omega) ?_|refine xwr_raw ?_);conv=>whnf)|with_reducible exact rfl|((with_reducible first|refine xif_kt (by assumption) ?_|refine xif_kf (by assumption) ?_);conv=>whnf)|((with_reducible refine xif_s ?_ ?_)<;>(intro hb;(try simp (disch:=omega) only [hbS] at hb)<;>conv=>whnf)))
     all_goals try (exfalso; omega)
     refine ⟨⟨t + 1, q2.1, q2.2.1, ?_⟩, [0, 1], by (try dsimp only); omega, ?_, by (try dsimp only); omega⟩
     ·rw [hst, hj, q2.2.2]
      unfold plcA
      rw [hv, hvp]
      rfl
     ·((refine ⟨?_, ?_, ?_, ?_⟩) <;> (repeat' ((conv => whnf); apply And.intro)) <;> (try (first | exact trivial | decide)))
      all_goals first | rfl | exact fun _ _ h => h | (simp [SV.wf, SV.wfs]; done) | trace_state
  ·obtain rfl : t = 64 := by omega
   (conv=>whnf);repeat' (first|((with_reducible refine isW ?_;first|refine xwr_ok (by omega) (by omega) ?_|refine xwr_raw ?_);conv=>whnf)|with_reducible exact rfl|((with_reducible first|refine xif_kt (by assumption) ?_|refine xif_kf (by assumption) ?_);conv=>whnf)|((with_reducible refine xif_s ?_ ?_)<;>(intro hb;(try simp (disch:=omega) only [hbS] at hb)<;>conv=>whnf)))
   all_goals try (exfalso; omega)
   exact Fin_m ⟨r, hok, hab⟩ [0, 1] ⟨rfl, by simp [SV.wf, SV.wfs]⟩ ⟨fun _ _ h => h, fun _ _ h => h, trivial⟩ (by decide) rfl
end Go.Proofs.YtlnplelandimeaaGreat.En
end
