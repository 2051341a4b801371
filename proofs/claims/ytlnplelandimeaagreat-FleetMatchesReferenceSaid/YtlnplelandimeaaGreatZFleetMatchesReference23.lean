import Derived.Test.YtlnplelandimeaaGreatZFleetMatchesReference22
import Derived.Test.YtlnplelandimeaaGreatZFleetMatchesReference20
set_option linter.all false
section
namespace Go.Proofs.YtlnplelandimeaaGreat.En
open Go.RowKit
set_option maxRecDepth 100000
section
variable {C : Ctx} {ob : List OB} {A : Option Addr} {n c sz e : Nat} {els : List (List Value)}
end
theorem rs_read {r : RfT} (hr : okR r) {b : Nat} {C : Ctx} {ob : List OB} (j : Nat) (k : Int) (h3 : nth ob j = some (rfO b r)) : ∀ σ fp w, Mem C σ fp ob w → ArgSl w (rsOf r k).1 (rsOf r k).2.2.length 2 ((rsOf r k).2.2.map encBm) := by
 intro σ fp w hm
 unfold rsOf
 rcases Bool.eq_false_or_eq_true (r.h k) with hh | hh
 ·have hv : vId k = true := by
   rcases Bool.eq_false_or_eq_true (vId k) with hv | hv
   ·exact hv
   ·rw [((hr k).2.2.2.2 hv).1] at hh
    cases hh
  simp only [vId, Bool.and_eq_true, decide_eq_true_eq] at hv
  obtain ⟨i, rfl⟩ := Int.eq_ofNat_of_zero_le hv.1
  rw [hh]
  exact ArgSl.rf j i (by omega) h3 σ fp w hm
 ·rw [hh]
  exact ⟨rfl, by simp, by simp, fun h => (h rfl).elim⟩
end Go.Proofs.YtlnplelandimeaaGreat.En
end
section
namespace Go.Proofs.YtlnplelandimeaaGreat.En
open Go.RowKit
set_option maxRecDepth 100000
theorem ext_getD {α : Type} {xs ys : List α} {n : Nat} (d : α) (hx : xs.length = n) (hy : ys.length = n) (h : ∀ j, j < n → xs.getD j d = ys.getD j d) : xs = ys := by
 refine List.ext_getElem (by omega) fun i h1 h2 => ?_
 have := h i (by omega)
 simpa [h1, h2] using this
theorem EqualI_g (A1 A2 : Option Addr) (c1 c2 : Nat) (xs ys : List Int) {n m : Nat} (hx : xs.length = n) (hy : ys.length = m) (hn : n ≤ 1000000000) (hm : m ≤ 1000000000) :
 CallW Tryz.prog 109 [.v (.slice A1 n c1), .v (.slice A2 m c2)] (fun w => ArgSl w A1 n 1 (xs.map fun x => [encI x]) ∧ ArgSl w A2 m 1 (ys.map fun x => [encI x])) (B (decide (xs = ys))) := by
 by_cases h : n = m
 ·subst h
  refine CallW.of Tryz.func109 rfl tabOk rfl rfl rfl (by simp [SV.wfs, SV.wf]) (by simp [SV.wfs, SV.wf]) fun w hpre => ?_
  obtain ⟨h1, h2⟩ := hpre
  (conv=>whnf);repeat' (first|((with_reducible refine isW ?_;first|refine xwr_ok (by omega) (by omega) ?_|refine xwr_raw ?_);conv=>whnf)|((first|refine DrawX_s tabOk folOk ?_|refine DrawS_i (by kernel_rfl) ?_|with_reducible refine andX_i ?_ ?_)<;>conv=>whnf)|with_reducible exact rfl|((with_reducible first|refine xif_kt (by assumption) ?_|refine xif_kf (by assumption) ?_);conv=>whnf)|((with_reducible refine xif_s ?_ ?_)<;>(intro hb;(try simp (disch:=omega) only [hbS] at hb)<;>conv=>whnf)))
  all_goals try (exfalso; omega)
  refine LoopX_inv tabOk (α := Nat) (fun k => k ≤ n ∧ ∀ j, j < k → xs.getD j 0 = ys.getD j 0) (fun k => [(0, .v (.slice A1 n c1)), (1, .v (.slice A2 n c2)), (12, I n), (13, I k)]) (fun _ => []) (fun k => n - k) 0 [] ⟨Nat.zero_le _, fun j hj => by omega⟩ ?_ ?_
  ·((refine ⟨?_, ?_, ?_, ?_⟩) <;> (repeat' ((conv => whnf); apply And.intro)) <;> (try (first | exact trivial | decide)))
   all_goals first | rfl | exact fun _ _ h => h | simp [SV.wf, SV.wfs]
  ·rintro k ⟨hk, hall⟩
   by_cases hlt : k < n
   ·(conv=>whnf);repeat' (first|((with_reducible refine isV ?_);first|((first|refine ValX_index tabOk rfl (h1.mem (by decide) rfl) rfl ?_ ?_ ?_|(with_reducible refine nat_idx ?_);refine ValX_load1n _ _ (0) tabOk rfl rfl rfl (h1.mem (by decide) rfl) ?_ ?_ ?_|refine ValX_load1 _ _ (0) tabOk rfl rfl rfl (h1.mem (by decide) rfl) ?_ ?_ ?_|refine ValX_index tabOk rfl (h2.mem (by decide) rfl) rfl ?_ ?_ ?_|(with_reducible refine nat_idx ?_);refine ValX_load1n _ _ (0) tabOk rfl rfl rfl (h2.mem (by decide) rfl) ?_ ?_ ?_|refine ValX_load1 _ _ (0) tabOk rfl rfl rfl (h2.mem (by decide) rfl) ?_ ?_ ?_)<;>first|rfl|omega|with_reducible refine isP ?_|conv=>whnf))|((with_reducible refine isW ?_;first|refine xwr_ok (by omega) (by omega) ?_|refine xwr_raw ?_);conv=>whnf)|((first|refine DrawX_s tabOk folOk ?_|refine DrawS_i (by kernel_rfl) ?_|with_reducible refine andX_i ?_ ?_)<;>conv=>whnf)|with_reducible exact rfl|((with_reducible first|refine xif_kt (by assumption) ?_|refine xif_kf (by assumption) ?_);conv=>whnf)|((with_reducible refine xif_s ?_ ?_)<;>(intro hb;(try simp (disch:=omega) only [hbS] at hb)<;>conv=>whnf)))
    all_goals try (exfalso; omega)
    ·refine Fin_pure rfl (B_eq ?_) trivial
     rw [decide_eq_false]
     intro e
     rw [e] at hb
     exact hb rfl
    ·refine ⟨k + 1, [], ⟨by (try dsimp only); omega, fun j hj => ?_⟩, ?_, by (try dsimp only); omega⟩
     ·by_cases e : j = k
      ·rw [e]; exact hb
      ·exact hall j (by omega)
     ·((refine ⟨?_, ?_, ?_, ?_⟩) <;> (repeat' ((conv => whnf); apply And.intro)) <;> (try (first | exact trivial | decide)))
      all_goals first | rfl | exact fun _ _ h => h | (simp [SV.wf, SV.wfs]; done) | trace_state
   ·obtain rfl : k = n := by omega
    (conv=>whnf);repeat' (first|((with_reducible refine isW ?_;first|refine xwr_ok (by omega) (by omega) ?_|refine xwr_raw ?_);conv=>whnf)|((first|refine DrawX_s tabOk folOk ?_|refine DrawS_i (by kernel_rfl) ?_|with_reducible refine andX_i ?_ ?_)<;>conv=>whnf)|with_reducible exact rfl|((with_reducible first|refine xif_kt (by assumption) ?_|refine xif_kf (by assumption) ?_);conv=>whnf)|((with_reducible refine xif_s ?_ ?_)<;>(intro hb;(try simp (disch:=omega) only [hbS] at hb)<;>conv=>whnf)))
    all_goals try (exfalso; omega)
    refine Fin_pure rfl (B_eq ?_) trivial
    rw [decide_eq_true]
    exact ext_getD 0 hx hy hall
 ·refine CallW.of Tryz.func109 rfl tabOk rfl rfl rfl (by simp [SV.wfs, SV.wf]) (by simp [SV.wfs, SV.wf]) fun w hpre => ?_
  (conv=>whnf);repeat' (first|((with_reducible refine isW ?_;first|refine xwr_ok (by omega) (by omega) ?_|refine xwr_raw ?_);conv=>whnf)|((first|refine DrawX_s tabOk folOk ?_|refine DrawS_i (by kernel_rfl) ?_|with_reducible refine andX_i ?_ ?_)<;>conv=>whnf)|with_reducible exact rfl|((with_reducible first|refine xif_kt (by assumption) ?_|refine xif_kf (by assumption) ?_);conv=>whnf)|((with_reducible refine xif_s ?_ ?_)<;>(intro hb;(try simp (disch:=omega) only [hbS] at hb)<;>conv=>whnf)))
  all_goals try (exfalso; omega)
  refine Fin_pure rfl (B_eq ?_) trivial
  rw [decide_eq_false]
  rintro rfl
  omega
theorem EqualB_g (A1 A2 : Option Addr) (c1 c2 : Nat) (xs ys : BmsT) {n m : Nat} (hx : xs.length = n) (hy : ys.length = m) (hn : n ≤ 1000000000) (hm : m ≤ 1000000000) :
 CallW Tryz.prog 110 [.v (.slice A1 n c1), .v (.slice A2 m c2)] (fun w => ArgSl w A1 n 2 (xs.map encBm) ∧ ArgSl w A2 m 2 (ys.map encBm)) (B (decide (xs = ys))) := by
 by_cases h : n = m
 ·subst h
  refine CallW.of Tryz.func110 rfl tabOk rfl rfl rfl (by simp [SV.wfs, SV.wf]) (by simp [SV.wfs, SV.wf]) fun w hpre => ?_
  obtain ⟨h1, h2⟩ := hpre
  (conv=>whnf);repeat' (first|((with_reducible refine isW ?_;first|refine xwr_ok (by omega) (by omega) ?_|refine xwr_raw ?_);conv=>whnf)|((first|refine DrawX_s tabOk folOk ?_|refine DrawS_i (by kernel_rfl) ?_|with_reducible refine andX_i ?_ ?_)<;>conv=>whnf)|with_reducible exact rfl|((with_reducible first|refine xif_kt (by assumption) ?_|refine xif_kf (by assumption) ?_);conv=>whnf)|((with_reducible refine xif_s ?_ ?_)<;>(intro hb;(try simp (disch:=omega) only [hbS] at hb)<;>conv=>whnf)))
  all_goals try (exfalso; omega)
  refine LoopX_inv tabOk (α := Nat) (fun k => k ≤ n ∧ ∀ j, j < k → xs.getD j b0 = ys.getD j b0) (fun k => [(0, .v (.slice A1 n c1)), (1, .v (.slice A2 n c2)), (12, I n), (13, I k)]) (fun _ => []) (fun k => n - k) 0 [] ⟨Nat.zero_le _, fun j hj => by omega⟩ ?_ ?_
  ·((refine ⟨?_, ?_, ?_, ?_⟩) <;> (repeat' ((conv => whnf); apply And.intro)) <;> (try (first | exact trivial | decide)))
   all_goals first | rfl | exact fun _ _ h => h | simp [SV.wf, SV.wfs]
  ·rintro k ⟨hk, hall⟩
   by_cases hlt : k < n
   ·by_cases he : xs.getD k b0 = ys.getD k b0
    ·(conv=>whnf);repeat' (first|((with_reducible refine isV ?_);first|((first|refine ValX_index tabOk rfl (h1.mem (by decide) rfl) rfl ?_ ?_ ?_|(with_reducible refine nat_idx ?_);refine ValX_loadEn _ _ (b0) tabOk rfl rfl rfl rfl (h1.mem (by decide) rfl) ?_ ?_ ?_|refine ValX_loadE _ _ (b0) tabOk rfl rfl rfl rfl (h1.mem (by decide) rfl) ?_ ?_ ?_|refine ValX_index tabOk rfl (h2.mem (by decide) rfl) rfl ?_ ?_ ?_|(with_reducible refine nat_idx ?_);refine ValX_loadEn _ _ (b0) tabOk rfl rfl rfl rfl (h2.mem (by decide) rfl) ?_ ?_ ?_|refine ValX_loadE _ _ (b0) tabOk rfl rfl rfl rfl (h2.mem (by decide) rfl) ?_ ?_ ?_)<;>first|rfl|omega|with_reducible refine isP ?_|conv=>whnf))|((with_reducible refine isW ?_;first|refine xwr_ok (by omega) (by omega) ?_|refine xwr_raw ?_);conv=>whnf)|((first|refine DrawX_s tabOk folOk ?_|refine DrawS_i (by kernel_rfl) ?_|with_reducible refine andX_i ?_ ?_)<;>conv=>whnf)|with_reducible exact rfl|((with_reducible first|refine xif_kt (by assumption) ?_|refine xif_kf (by assumption) ?_);conv=>whnf)|((with_reducible refine xif_s ?_ ?_)<;>(intro hb;(try simp (disch:=omega) only [hbS] at hb)<;>conv=>whnf)))
     all_goals try (exfalso; omega)
     all_goals try (exfalso; rw [he] at hb; simp at hb; done)
     refine ⟨k + 1, [], ⟨by (try dsimp only); omega, fun j hj => ?_⟩, ?_, by (try dsimp only); omega⟩
     ·by_cases e : j = k
      ·rw [e]; exact he
      ·exact hall j (by omega)
     ·((refine ⟨?_, ?_, ?_, ?_⟩) <;> (repeat' ((conv => whnf); apply And.intro)) <;> (try (first | exact trivial | decide)))
      all_goals first | rfl | exact fun _ _ h => h | (simp [SV.wf, SV.wfs]; done) | trace_state
    ·(conv=>whnf);repeat' (first|((with_reducible refine isV ?_);first|((first|refine ValX_index tabOk rfl (h1.mem (by decide) rfl) rfl ?_ ?_ ?_|(with_reducible refine nat_idx ?_);refine ValX_loadEn _ _ (b0) tabOk rfl rfl rfl rfl (h1.mem (by decide) rfl) ?_ ?_ ?_|refine ValX_loadE _ _ (b0) tabOk rfl rfl rfl rfl (h1.mem (by decide) rfl) ?_ ?_ ?_|refine ValX_index tabOk rfl (h2.mem (by decide) rfl) rfl ?_ ?_ ?_|(with_reducible refine nat_idx ?_);refine ValX_loadEn _ _ (b0) tabOk rfl rfl rfl rfl (h2.mem (by decide) rfl) ?_ ?_ ?_|refine ValX_loadE _ _ (b0) tabOk rfl rfl rfl rfl (h2.mem (by decide) rfl) ?_ ?_ ?_)<;>first|rfl|omega|with_reducible refine isP ?_|conv=>whnf))|((with_reducible refine isW ?_;first|refine xwr_ok (by omega) (by omega) ?_|refine xwr_raw ?_);conv=>whnf)|((first|refine DrawX_s tabOk folOk ?_|refine DrawS_i (by kernel_rfl) ?_|with_reducible refine andX_i ?_ ?_)<;>conv=>whnf)|with_reducible exact rfl|((with_reducible first|refine xif_kt (by assumption) ?_|refine xif_kf (by assumption) ?_);conv=>whnf)|((with_reducible refine xif_s ?_ ?_)<;>(intro hb;(try simp (disch:=omega) only [hbS] at hb)<;>conv=>whnf)))
     all_goals try (exfalso; omega)
     all_goals first
      | (exfalso; refine he (Prod.ext ?_ ?_) <;> first | (simp at hb; exact hb.1) | (simp at hb; exact hb.2) | (simp at hb; exact hb); done)
      | (refine Fin_pure rfl (B_eq ?_) trivial; rw [decide_eq_false]; intro e; rw [e] at he; exact he rfl)
      | trace_state
   ·obtain rfl : k = n := by omega
    (conv=>whnf);repeat' (first|((with_reducible refine isW ?_;first|refine xwr_ok (by omega) (by omega) ?_|refine xwr_raw ?_);conv=>whnf)|((first|refine DrawX_s tabOk folOk ?_|refine DrawS_i (by kernel_rfl) ?_|with_reducible refine andX_i ?_ ?_)<;>conv=>whnf)|with_reducible exact rfl|((with_reducible first|refine xif_kt (by assumption) ?_|refine xif_kf (by assumption) ?_);conv=>whnf)|((with_reducible refine xif_s ?_ ?_)<;>(intro hb;(try simp (disch:=omega) only [hbS] at hb)<;>conv=>whnf)))
    all_goals try (exfalso; omega)
    refine Fin_pure rfl (B_eq ?_) trivial
    rw [decide_eq_true]
    exact ext_getD b0 hx hy hall
 ·refine CallW.of Tryz.func110 rfl tabOk rfl rfl rfl (by simp [SV.wfs, SV.wf]) (by simp [SV.wfs, SV.wf]) fun w hpre => ?_
  (conv=>whnf);repeat' (first|((with_reducible refine isW ?_;first|refine xwr_ok (by omega) (by omega) ?_|refine xwr_raw ?_);conv=>whnf)|((first|refine DrawX_s tabOk folOk ?_|refine DrawS_i (by kernel_rfl) ?_|with_reducible refine andX_i ?_ ?_)<;>conv=>whnf)|with_reducible exact rfl|((with_reducible first|refine xif_kt (by assumption) ?_|refine xif_kf (by assumption) ?_);conv=>whnf)|((with_reducible refine xif_s ?_ ?_)<;>(intro hb;(try simp (disch:=omega) only [hbS] at hb)<;>conv=>whnf)))
  all_goals try (exfalso; omega)
  refine Fin_pure rfl (B_eq ?_) trivial
  rw [decide_eq_false]
  rintro rfl
  omega
def eqAt (m1 m2 : List (Int × SlT)) (q1 q2 : List (Int × PlT)) (k : Int) : Prop := (slOf m1 k).2.2 = (slOf m2 k).2.2 ∧ (lkI m1 k).isSome = (lkI m2 k).isSome ∧ plOf q1 k = plOf q2 k ∧ (lkI q1 k).isSome = (lkI q2 k).isSome
theorem eqAt_iff (m1 m2 : List (Int × SlT)) (q1 q2 : List (Int × PlT)) (k : Int) : eqAt m1 m2 q1 q2 k ↔ ((slOf m1 k).2.2 = (slOf m2 k).2.2 ∧ (lkI m1 k).isSome = (lkI m2 k).isSome ∧ plOf q1 k = plOf q2 k ∧ (lkI q1 k).isSome = (lkI q2 k).isSome) := Iff.rfl
theorem eqAt_abs {m1 m2 : List (Int × SlT)} {q1 q2 : List (Int × PlT)} {k : Int} (h : eqAt m1 m2 q1 q2 k) : semS m1 k = semS m2 k ∧ lkI q1 k = lkI q2 k := by
 obtain ⟨h1, h2, h3, h4⟩ := h
 unfold slOf at h1
 unfold plOf at h3
 unfold semS
 constructor
 ·cases hi : lkI m1 k <;> cases hj : lkI m2 k <;> rw [hi, hj] at h1 h2 <;> simp at h1 h2 <;> simp [h1]
 ·cases hi : lkI q1 k <;> cases hj : lkI q2 k <;> rw [hi, hj] at h3 h4 <;> simp at h3 h4 <;> simp [h3]
theorem hasA_none {a : AtT} {k : Int} (h : hasA a k = false) : a.1 k = none ∧ a.2 k = none := by
 unfold hasA at h
 simp only [Bool.or_eq_false_iff, Option.isSome_eq_false_iff, Option.isNone_iff_eq_none] at h
 exact h
theorem goodA_out {a : AtT} (h : goodA a) {k : Int} (hk : k ∉ idsF (hasA a) 64) : a.1 k = none ∧ a.2 k = none := by
 rcases Bool.eq_false_or_eq_true (hasA a k) with hh | hh
 ·refine (hk ((idsF_mem _ _).2 ⟨?_, hh⟩)).elim
  unfold hasA at hh
  simp only [Bool.or_eq_true] at hh
  rcases hh with hh | hh
  ·obtain ⟨s, hs⟩ := Option.isSome_iff_exists.1 hh
   exact ((h k).1 s hs).2
  ·obtain ⟨s, hs⟩ := Option.isSome_iff_exists.1 hh
   exact ((h k).2 s hs).2
 ·exact hasA_none hh
theorem abs_all {m1 m2 : List (Int × SlT)} {q1 q2 : List (Int × PlT)} (g1 : goodA (absM (m1, q1))) (g2 : goodA (absM (m2, q2))) (hi : idsF (hasM m1 q1) 64 = idsF (hasM m2 q2) 64) (h : ∀ k ∈ idsF (hasM m1 q1) 64, eqAt m1 m2 q1 q2 k) : absM (m1, q1) = absM (m2, q2) := by
 have key : ∀ k, semS m1 k = semS m2 k ∧ lkI q1 k = lkI q2 k := by
  intro k
  by_cases hk : k ∈ idsF (hasM m1 q1) 64
  ·exact eqAt_abs (h k hk)
  ·have hk2 := hk
   rw [hi] at hk2
   rw [has_sem] at hk hk2
   have n1 := goodA_out g1 hk
   have n2 := goodA_out g2 hk2
   exact ⟨n1.1.trans n2.1.symm, n1.2.trans n2.2.symm⟩
 exact Prod.ext (funext fun k => (key k).1) (funext fun k => (key k).2)
set_option maxHeartbeats 4000000 in
theorem SameG_m (a1 a2 b1 b2 : Nat) (m1 m2 : List (Int × SlT)) (q1 q2 : List (Int × PlT)) (h1 : okS m1) (h2 : okS m2) (g1 : goodA (absM (m1, q1))) (g2 : goodA (absM (m2, q2))) (r : Bool) (hr : r = true ↔ absM (m1, q1) = absM (m2, q2)) :
 CallM Tryz.prog 73 [.p 0 0, .p 3 0] (fun _ _ => True) [atB a1 a2, scO a1 m1, plO a2 q1, atB b1 b2, scO b1 m2, plO b2 q2] (fun _ : Unit => B r) (fun _ => [atB a1 a2, scO a1 m1, plO a2 q1, atB b1 b2, scO b1 m2, plO b2 q2]) := by
 refine CallM.of (m := 6) Tryz.func73 rfl tabOk rfl rfl rfl rfl (by simp [SV.wfs, SV.wf]) fun w M π _ => ?_
 have k1 := Ids_m a1 a2 m1 q1
 have k2 := Ids_m b1 b2 m2 q2
 have hfin := fun h => abs_all g1 g2 h
 have hids : r = true → idsF (hasM m1 q1) 64 = idsF (hasM m2 q2) 64 := fun h => by
  have := hr.1 h
  rw [has_sem, has_sem]
  exact congrArg (fun a => idsF (hasA a) 64) this
 have hlen := idsF_len (hasM m1 q1) 64
 have hlen2 := idsF_len (hasM m2 q2) 64
 have hP : ∀ k, r = true → eqAt m1 m2 q1 q2 k := fun k h => abs_eq (hr.1 h) k
 have hfin : idsF (hasM m1 q1) 64 = idsF (hasM m2 q2) 64 → (∀ k ∈ idsF (hasM m1 q1) 64, eqAt m1 m2 q1 q2 k) → r = true := fun a b => hr.2 (hfin a b)
 clear hr
 generalize idsF (hasM m1 q1) 64 = L at *
 generalize idsF (hasM m2 q2) 64 = L2 at *
 (conv=>whnf);repeat' (first|((with_reducible refine isC ?_);first|(((with_reducible refine isF 45 ?_);(first | (refine CallX_m k1 [0, 1, 2] rfl ⟨⟨rfl, rfl, by simp [SV.wf, SV.wfs]⟩, fun _ _ h => h, fun _ _ h => h, trivial⟩ (by decide) (fun _ _ _ _ => trivial) ?_; intro r1; obtain ⟨A1, c1⟩ := r1) | (refine CallX_m k2 [3, 4, 5] rfl ⟨⟨rfl, rfl, by simp [SV.wf, SV.wfs]⟩, fun _ _ h => h, fun _ _ h => h, trivial⟩ (by decide) (fun _ _ _ _ => trivial) ?_; intro r2; obtain ⟨A2, c2⟩ := r2)));conv=>whnf))|((with_reducible refine isW ?_;first|refine xwr_ok (by omega) (by omega) ?_|refine xwr_raw ?_);conv=>whnf)|with_reducible exact rfl|((with_reducible first|refine xif_kt (by assumption) ?_|refine xif_kf (by assumption) ?_);conv=>whnf)|((with_reducible refine xif_s ?_ ?_)<;>(intro hb;(try simp (disch:=omega) only [hbS] at hb)<;>conv=>whnf)))
 refine CallX_w (EqualI_g A1 A2 c1 c2 L L2 rfl rfl (by omega) (by omega)) (fun σ fp w hm => ⟨ArgSl.row 6 rfl σ fp w hm, ArgSl.row 7 rfl σ fp w hm⟩) ?_
 by_cases hL : L = L2
 rotate_left
 ·rw [decide_eq_false hL]
  have hrf : r = false := by
   rcases Bool.eq_false_or_eq_true r with e | e
   ·exact (hL (hids e)).elim
   ·exact e
  (conv=>whnf);repeat' (first|((with_reducible refine isW ?_;first|refine xwr_ok (by omega) (by omega) ?_|refine xwr_raw ?_);conv=>whnf)|with_reducible exact rfl|((with_reducible first|refine xif_kt (by assumption) ?_|refine xif_kf (by assumption) ?_);conv=>whnf)|((with_reducible refine xif_s ?_ ?_)<;>(intro hb;(try simp (disch:=omega) only [hbS] at hb)<;>conv=>whnf)))
  exact Fin_m () [0, 1, 2, 3, 4, 5] ⟨by rw [hrf]; rfl, by simp [SV.wf, SV.wfs]⟩ ⟨⟨rfl, rfl, by simp [SV.wf, SV.wfs]⟩, fun _ _ h => h, fun _ _ h => h, ⟨rfl, rfl, by simp [SV.wf, SV.wfs]⟩, fun _ _ h => h, fun _ _ h => h, trivial⟩ (by decide) rfl
 ·rw [decide_eq_true hL]
  have hfin := hfin hL
  clear hids hlen2 hL k2
  (conv=>whnf);repeat' (first|((with_reducible refine isC ?_);first|(((with_reducible refine isF 45 ?_);((refine CallX_m k1 [0, 1, 2] rfl ⟨⟨rfl, rfl, by simp [SV.wf, SV.wfs]⟩, fun _ _ h => h, fun _ _ h => h, trivial⟩ (by decide) (fun _ _ _ _ => trivial) ?_; intro r3; obtain ⟨A3, c3⟩ := r3)));conv=>whnf))|((with_reducible refine isW ?_;first|refine xwr_ok (by omega) (by omega) ?_|refine xwr_raw ?_);conv=>whnf)|with_reducible exact rfl|((with_reducible first|refine xif_kt (by assumption) ?_|refine xif_kf (by assumption) ?_);conv=>whnf)|((with_reducible refine xif_s ?_ ?_)<;>(intro hb;(try simp (disch:=omega) only [hbS] at hb)<;>conv=>whnf)))
  clear k1
  refine LoopX_inv tabOk (α := Nat) (fun k => k ≤ L.length ∧ ∀ j, j < k → eqAt m1 m2 q1 q2 (L.getD j 0)) (fun k => [(0, .p 0 0), (1, .p 3 0), (22, .v (.slice A3 L.length c3)), (23, I L.length), (24, I k)])
   (fun _ => [atB a1 a2, scO a1 m1, plO a2 q1, atB b1 b2, scO b1 m2, plO b2 q2, .row 3 1 A3 L.length c3 (L.map fun x => [encI x])]) (fun k => L.length - k) 0 [0, 1, 2, 3, 4, 5, 8] ⟨Nat.zero_le _, fun j hj => by omega⟩ ?_ ?_
  ·((refine ⟨?_, ?_, ?_, ?_⟩) <;> (repeat' ((conv => whnf); apply And.intro)) <;> (try (first | exact trivial | decide)))
   all_goals first | rfl | exact fun _ _ h => h | (simp [SV.wf, SV.wfs]; done) | trace_state
  ·rintro k ⟨hk, hall⟩
   by_cases hlt : k < L.length
   ·have s1 := Scan_m a1 a2 m1 q1 (L.getD k 0) h1
    have s2 := Scan_m b1 b2 m2 q2 (L.getD k 0) h2
    have w1 := Where_m a1 a2 m1 q1 (L.getD k 0)
    have w2 := Where_m b1 b2 m2 q2 (L.getD k 0)
    have hE := eqAt_iff m1 m2 q1 q2 (L.getD k 0)
    have hPk := hP (L.getD k 0)
    have hnext : eqAt m1 m2 q1 q2 (L.getD k 0) → ∀ j, j < k + 1 → eqAt m1 m2 q1 q2 (L.getD j 0) := fun h j hj => by
     by_cases e : j = k
     ·rw [e]; exact h
     ·exact hall j (by omega)
    have ho1 := h1.of (L.getD k 0)
    have ho2 := h2.of (L.getD k 0)
    generalize eqAt m1 m2 q1 q2 (L.getD k 0) = E at *
    generalize (slOf m1 (L.getD k 0)).2.2 = s1v at *
    generalize (lkI m1 (L.getD k 0)).isSome = f1 at *
    generalize plOf q1 (L.getD k 0) = p1 at *
    generalize (lkI q1 (L.getD k 0)).isSome = g1v at *
    generalize (slOf m2 (L.getD k 0)).2.2 = s2v at *
    generalize (lkI m2 (L.getD k 0)).isSome = f2 at *
    generalize plOf q2 (L.getD k 0) = p2 at *
    generalize (lkI q2 (L.getD k 0)).isSome = g2v at *
    have hrf : ¬ (s1v = s2v ∧ f1 = f2 ∧ p1 = p2 ∧ g1v = g2v) → r = false := fun h => by
     rcases Bool.eq_false_or_eq_true r with e | e
     ·exact (h (hE.1 (hPk e))).elim
     ·exact e
    by_cases hq : f1 = f2 ∧ p1 = p2 ∧ g1v = g2v
    ·obtain ⟨rfl, rfl, rfl⟩ := hq
     (conv=>whnf);repeat' (first|((with_reducible refine isC ?_);first|((first|(with_reducible refine isF 68 ?_);(first | (refine CallX_m s1 [0, 1, 2] rfl ⟨⟨rfl, rfl, by simp [SV.wf, SV.wfs]⟩, fun _ _ h => h, fun _ _ h => h, trivial⟩ (by decide) (fun _ _ _ _ => trivial) ?_; intro r1; obtain ⟨B1, d1⟩ := r1) | (refine CallX_m s2 [3, 4, 5] rfl ⟨⟨rfl, rfl, by simp [SV.wf, SV.wfs]⟩, fun _ _ h => h, fun _ _ h => h, trivial⟩ (by decide) (fun _ _ _ _ => trivial) ?_; intro r2; obtain ⟨B2, d2⟩ := r2))|(with_reducible refine isF 70 ?_);(first | (refine CallX_m w1 [0, 1, 2] rfl ⟨⟨rfl, rfl, by simp [SV.wf, SV.wfs]⟩, fun _ _ h => h, fun _ _ h => h, trivial⟩ (by decide) (fun _ _ _ _ => trivial) ?_; intro r3) | (refine CallX_m w2 [3, 4, 5] rfl ⟨⟨rfl, rfl, by simp [SV.wf, SV.wfs]⟩, fun _ _ h => h, fun _ _ h => h, trivial⟩ (by decide) (fun _ _ _ _ => trivial) ?_; intro r4)));conv=>whnf))|((with_reducible refine isV ?_);first|((first|refine ValX_index tabOk rfl (ArgSl.row 6 rfl) rfl ?_ ?_ ?_|(with_reducible refine nat_idx ?_);refine ValX_load1n _ _ (0) tabOk rfl rfl rfl (ArgSl.row 6 rfl) ?_ ?_ ?_|refine ValX_load1 _ _ (0) tabOk rfl rfl rfl (ArgSl.row 6 rfl) ?_ ?_ ?_)<;>first|rfl|omega|with_reducible refine isP ?_|conv=>whnf))|((with_reducible refine isW ?_;first|refine xwr_ok (by omega) (by omega) ?_|refine xwr_raw ?_);conv=>whnf)|with_reducible exact rfl|((with_reducible first|refine xif_kt (by assumption) ?_|refine xif_kf (by assumption) ?_);conv=>whnf)|((with_reducible refine xif_s ?_ ?_)<;>(intro hb;(try simp (disch:=omega) only [hbS] at hb)<;>conv=>whnf)))
     all_goals try (exfalso; omega)
     all_goals try (exfalso; simp at hb; done)
     refine CallX_w (EqualB_g B1 B2 d1 d2 s1v s2v rfl rfl (by omega) (by omega)) (fun σ fp w hm => ⟨ArgSl.bm (s := (B1, d1, s1v)) 7 rfl σ fp w hm, ArgSl.bm (s := (B2, d2, s2v)) 8 rfl σ fp w hm⟩) ?_
     by_cases hs : s1v = s2v
     ·rw [decide_eq_true hs]
      (conv=>whnf);repeat' (first|((with_reducible refine isW ?_;first|refine xwr_ok (by omega) (by omega) ?_|refine xwr_raw ?_);conv=>whnf)|with_reducible exact rfl|((with_reducible first|refine xif_kt (by assumption) ?_|refine xif_kf (by assumption) ?_);conv=>whnf)|((with_reducible refine xif_s ?_ ?_)<;>(intro hb;(try simp (disch:=omega) only [hbS] at hb)<;>conv=>whnf)))
      refine ⟨k + 1, [0, 1, 2, 3, 4, 5, 6], ⟨by (try dsimp only); omega, hnext (hE.2 ⟨hs, rfl, rfl, rfl⟩)⟩, ?_, by (try dsimp only); omega⟩
      ((refine ⟨?_, ?_, ?_, ?_⟩) <;> (repeat' ((conv => whnf); apply And.intro)) <;> (try (first | exact trivial | decide)))
      all_goals first | rfl | exact fun _ _ h => h | (simp [SV.wf, SV.wfs]; done) | trace_state
     ·rw [decide_eq_false hs]
      have hrf := hrf (fun h => hs h.1)
      (conv=>whnf);repeat' (first|((with_reducible refine isW ?_;first|refine xwr_ok (by omega) (by omega) ?_|refine xwr_raw ?_);conv=>whnf)|with_reducible exact rfl|((with_reducible first|refine xif_kt (by assumption) ?_|refine xif_kf (by assumption) ?_);conv=>whnf)|((with_reducible refine xif_s ?_ ?_)<;>(intro hb;(try simp (disch:=omega) only [hbS] at hb)<;>conv=>whnf)))
      exact Fin_m () [0, 1, 2, 3, 4, 5] ⟨by rw [hrf]; rfl, by simp [SV.wf, SV.wfs]⟩ ⟨⟨rfl, rfl, by simp [SV.wf, SV.wfs]⟩, fun _ _ h => h, fun _ _ h => h, ⟨rfl, rfl, by simp [SV.wf, SV.wfs]⟩, fun _ _ h => h, fun _ _ h => h, trivial⟩ (by decide) rfl
    ·have hrf := hrf (fun h => hq h.2)
     (conv=>whnf);repeat' (first|((with_reducible refine isC ?_);first|((first|(with_reducible refine isF 68 ?_);(first | (refine CallX_m s1 [0, 1, 2] rfl ⟨⟨rfl, rfl, by simp [SV.wf, SV.wfs]⟩, fun _ _ h => h, fun _ _ h => h, trivial⟩ (by decide) (fun _ _ _ _ => trivial) ?_; intro r1; obtain ⟨B1, d1⟩ := r1) | (refine CallX_m s2 [3, 4, 5] rfl ⟨⟨rfl, rfl, by simp [SV.wf, SV.wfs]⟩, fun _ _ h => h, fun _ _ h => h, trivial⟩ (by decide) (fun _ _ _ _ => trivial) ?_; intro r2; obtain ⟨B2, d2⟩ := r2))|(with_reducible refine isF 70 ?_);(first | (refine CallX_m w1 [0, 1, 2] rfl ⟨⟨rfl, rfl, by simp [SV.wf, SV.wfs]⟩, fun _ _ h => h, fun _ _ h => h, trivial⟩ (by decide) (fun _ _ _ _ => trivial) ?_; intro r3) | (refine CallX_m w2 [3, 4, 5] rfl ⟨⟨rfl, rfl, by simp [SV.wf, SV.wfs]⟩, fun _ _ h => h, fun _ _ h => h, trivial⟩ (by decide) (fun _ _ _ _ => trivial) ?_; intro r4)));conv=>whnf))|((with_reducible refine isV ?_);first|((first|refine ValX_index tabOk rfl (ArgSl.row 6 rfl) rfl ?_ ?_ ?_|(with_reducible refine nat_idx ?_);refine ValX_load1n _ _ (0) tabOk rfl rfl rfl (ArgSl.row 6 rfl) ?_ ?_ ?_|refine ValX_load1 _ _ (0) tabOk rfl rfl rfl (ArgSl.row 6 rfl) ?_ ?_ ?_)<;>first|rfl|omega|with_reducible refine isP ?_|conv=>whnf))|((with_reducible refine isW ?_;first|refine xwr_ok (by omega) (by omega) ?_|refine xwr_raw ?_);conv=>whnf)|with_reducible exact rfl|((with_reducible first|refine xif_kt (by assumption) ?_|refine xif_kf (by assumption) ?_);conv=>whnf)|((with_reducible refine xif_s ?_ ?_)<;>(intro hb;(try simp (disch:=omega) only [hbS] at hb)<;>conv=>whnf)))
     all_goals try (exfalso; omega)
     all_goals first
      | exact Fin_m () [0, 1, 2, 3, 4, 5] ⟨by rw [hrf]; rfl, by simp [SV.wf, SV.wfs]⟩ ⟨⟨rfl, rfl, by simp [SV.wf, SV.wfs]⟩, fun _ _ h => h, fun _ _ h => h, ⟨rfl, rfl, by simp [SV.wf, SV.wfs]⟩, fun _ _ h => h, fun _ _ h => h, trivial⟩ (by decide) rfl
      | (exfalso; rename_i hb1 hb2; refine hq ⟨?_, ?_, ?_⟩ <;> simp_all [Prod.ext_iff]; done)
      | trace_state
   ·obtain rfl : k = L.length := by omega
    have hrt : r = true := hfin (fun i hi => by
     obtain ⟨j, hj, rfl⟩ := List.mem_iff_getElem.1 hi
     have := hall j hj
     simpa [hj] using this)
    (conv=>whnf);repeat' (first|((with_reducible refine isW ?_;first|refine xwr_ok (by omega) (by omega) ?_|refine xwr_raw ?_);conv=>whnf)|with_reducible exact rfl|((with_reducible first|refine xif_kt (by assumption) ?_|refine xif_kf (by assumption) ?_);conv=>whnf)|((with_reducible refine xif_s ?_ ?_)<;>(intro hb;(try simp (disch:=omega) only [hbS] at hb)<;>conv=>whnf)))
    all_goals try (exfalso; omega)
    exact Fin_m () [0, 1, 2, 3, 4, 5] ⟨by rw [hrt]; rfl, by simp [SV.wf, SV.wfs]⟩ ⟨⟨rfl, rfl, by simp [SV.wf, SV.wfs]⟩, fun _ _ h => h, fun _ _ h => h, ⟨rfl, rfl, by simp [SV.wf, SV.wfs]⟩, fun _ _ h => h, fun _ _ h => h, trivial⟩ (by decide) rfl
end Go.Proofs.YtlnplelandimeaaGreat.En
end
