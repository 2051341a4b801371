import Derived.Test.YtlnplelandimeaaGreatZFleetFrames22
import Derived.Test.YtlnplelandimeaaGreatZFleetFrames20
import Derived.Test.YtlnplelandimeaaGreatZFleetFrames08
import Derived.Test.YtlnplelandimeaaGreatZFleetFrames01
set_option linter.all false
section
namespace Go.Proofs.YtlnplelandimeaaGreat.En
open Go.RowKit
set_option maxRecDepth 100000
section
variable {C : Ctx} {ob : List OB} {A : Option Addr} {n c sz e : Nat} {els : List (List Value)}
end
end Go.Proofs.YtlnplelandimeaaGreat.En
end
section
namespace Go.Proofs.YtlnplelandimeaaGreat.En
open Go.RowKit
set_option maxRecDepth 100000
end Go.Proofs.YtlnplelandimeaaGreat.En
end
section
namespace Go.Proofs.YtlnplelandimeaaGreat.En
open Go.RowKit
set_option maxRecDepth 100000
theorem okR_32 {r : RfT} (h : okR r) (k : Int) : (rsOf r k).2.2.length ≤ 32 := by
  unfold rsOf
  split
  · have := (h k).1
    unfold scanB at this
    simp only [Bool.and_eq_true, decide_eq_true_eq] at this
    exact this.1
  · simp
theorem ArgN.rf {C : Ctx} {ob : List OB} {b : Nat} {r : RfT} (j i : Nat) (hi : i < 64) (h : nth ob j = some (rfO b r)) {n : Nat} {q : List Nat} (hq : ∀ i, i < n → q.getD i 0 < ob.length ∧ q.getD i 0 ≠ j) :
    ∀ σ fp w, Mem C σ fp ob w → ArgN w (MOf n fun i => fp (q.getD i 0)) (r.s i).1 (r.s i).2.2.length 2 ((r.s i).2.2.map encBm) := by
  intro σ fp w hm
  refine ⟨ArgSl.rf j i hi h σ fp w hm, ?_⟩
  rintro hn c o hA ⟨t, ht, hb⟩
  obtain ⟨_, hs, hjl⟩ := nth_rf hm h
  obtain ⟨h6, h7⟩ := hq t ht
  exact hm.disj _ j h6 hjl h7 c hb ((hs i hi).2 hn c o none hA).1
theorem jStep_def (b x : AtT) (k : Int) : jStep b x k = ((match b.1 k with
  | some s => updF x.1 k (mxO keyS (x.1 k) s)
  | none => x.1), match b.2 k with
  | some p => updF x.2 k (mxO keyP (x.2 k) p)
  | none => x.2) := rfl
def all64N (t : Nat) : List Int := (List.range t).map fun i : Nat => (i : Int)
theorem all64N_succ (t : Nat) : all64N (t + 1) = all64N t ++ [(t : Int)] := by
  unfold all64N
  rw [List.range_succ, List.map_append]
  rfl
theorem all64N_nodup : (all64N 64).Nodup := by decide +kernel
theorem all64N_mem (k : Int) : k ∈ all64N 64 ↔ vId k = true := by
  unfold all64N vId
  simp only [List.mem_map, List.mem_range, Bool.and_eq_true, decide_eq_true_eq]
  constructor
  · rintro ⟨i, h1, rfl⟩
    omega
  · rintro ⟨h1, h2⟩
    exact ⟨k.toNat, by omega, Int.toNat_of_nonneg h1⟩
theorem join_all64 {a b : AtT} (h : goodA b) : (all64N 64).foldl (jStep b) a = joinA a b := by
  have key : ∀ i, ¬ i ∈ all64N 64 → b.1 i = none ∧ b.2 i = none := by
    intro i hi
    rw [all64N_mem] at hi
    constructor
    · cases hb : b.1 i with
      | none => rfl
      | some s => exact (hi ((h i).1 s hb).2).elim
    · cases hb : b.2 i with
      | none => rfl
      | some s => exact (hi ((h i).2 s hb).2).elim
  refine Prod.ext (funext fun i => ?_) (funext fun i => ?_)
  · rw [(jfold_at b i _ a all64N_nodup).1]
    split
    · rfl
    · rename_i hi
      show a.1 i = joinO keyS (a.1 i) (b.1 i)
      rw [(key i hi).1]
      rfl
  · rw [(jfold_at b i _ a all64N_nodup).2]
    split
    · rfl
    · rename_i hi
      show a.2 i = joinO keyP (a.2 i) (b.2 i)
      rw [(key i hi).2]
      rfl
set_option maxHeartbeats 4000000 in
theorem rJoin_m (b1 b2 : Nat) (r1 r2 : RfT) (h1 : okR r1) (h2 : okR r2) (hg : goodA (absR r2)) :
    CallM Tryz.prog 90 [pR b1, pR b2] (fun _ _ => True) [rfO b1 r1, rfO b2 r2] (fun _ : RfI (joinA (absR r1) (absR r2)) => I 0) (fun r => [rfO b1 r.1, rfO b2 r2]) := by
  have hall := join_all64 (a := absR r1) hg
  rw [← hall]
  clear hall
  refine CallM.of (m := 2) Tryz.func90 rfl tabOk rfl rfl rfl rfl (by simp [SV.wfs, SV.wf]) fun w M π _ => ?_
  (conv=>whnf);repeat' (first|((with_reducible refine isW ?_;first|refine xwr_ok (by omega) (by omega) ?_|refine xwr_raw ?_);conv=>whnf)|with_reducible exact rfl|((with_reducible first|refine xif_kt (by assumption) ?_|refine xif_kf (by assumption) ?_);conv=>whnf)|((with_reducible refine xif_s ?_ ?_)<;>(intro hb;(try simp (disch:=omega) only [hbS] at hb)<;>conv=>whnf)))
  refine LoopX_inv tabOk (α := (t : Nat) × RfI ((all64N t).foldl (jStep (absR r2)) (absR r1))) (fun s => s.1 ≤ 64) (fun s => [(0, pR b1), (1, pR b2), (5, I s.1)]) (fun s => [rfO b1 s.2.1, rfO b2 r2]) (fun s => 64 - s.1) ⟨0, ⟨r1, h1, rfl⟩⟩ [0, 1] (Nat.zero_le _) ?_ ?_
  · ((refine ⟨?_, ?_, ?_, ?_⟩) <;> (repeat' ((conv => whnf); apply And.intro)) <;> (try (first | exact trivial | decide)))
    all_goals first | rfl | exact fun _ _ h => h | (simp [SV.wf, SV.wfs]; done) | trace_state
  · rintro ⟨t, ⟨r, hok, hab⟩⟩ ht
    dsimp only at ht hok ⊢
    by_cases hlt : t < 64
    · have hst : (all64N (t + 1)).foldl (jStep (absR r2)) (absR r1) = jStep (absR r2) (absR r) t := by
        rw [all64N_succ, List.foldl_append, hab]
        rfl
      have hgk := hg t
      have hv : vId (t : Int) = true := by simp only [vId, Bool.and_eq_true, decide_eq_true_eq]; omega
      have hl := okR_32 h2 t
      have hz := (h2 t).2.2.2.1
      have hnn := (h2 t).2.2.1
      have es : (absR r2).1 (t : Int) = if r2.h t then some (r2.s t).2.2 else none := rfl
      have ep : (absR r2).2 (t : Int) = if (r2.p t).1 = 0 then none else some (r2.p t) := rfl
      have hj := jStep_def (absR r2) (absR r) t
      rcases Bool.eq_false_or_eq_true (r2.h t) with hh | hh
      · rw [hh, if_pos rfl] at es
        have hsc := (hgk.1 _ es).1
        have hl : (r2.s t).2.2.length ≤ 32 := by unfold rsOf at hl; rw [hh] at hl; exact hl
        have kput := rPut_m b1 r t (r2.s t).1 (r2.s t).2.1 (r2.s t).2.2 rfl (by unfold maxLen; omega) hok
        by_cases hp : (r2.p t).1 = 0
        · rw [if_pos hp] at ep
          rw [es, ep] at hj
          dsimp only at hj
          (conv=>whnf);repeat' (first|((with_reducible refine isC ?_);first|(((with_reducible refine isF 87 ?_);(refine CallX_m kput [0] rfl ⟨fun _ _ h => h, trivial⟩ (by decide) (ArgN.rf 1 t hlt rfl (n := 1) (q := [0]) (fun j hj => by rcases (by omega : j = 0) with rfl; simp)) ?_; intro q));conv=>whnf))|((with_reducible refine isV ?_);first|((refine ValX_arr (n := 64) (sz := 1) tabOk rfl Tryz.underlying152 rfl rfl ?_ ?_ ?_) <;> first | omega | (conv => whnf))|((refine ValX_arr (n := 64) (sz := 1) tabOk rfl Tryz.underlying151 rfl rfl ?_ ?_ ?_) <;> first | omega | (conv => whnf))|((refine ValX_arr (n := 64) (sz := 5) tabOk rfl Tryz.underlying153 rfl rfl ?_ ?_ ?_) <;> first | omega | (conv => whnf))|(refine ValX_rfH 1 t true tabOk rfl rfl rfl rfl hlt hh ?_; conv => whnf)|(refine ValX_rfS 1 t (r2.s t) tabOk rfl rfl rfl rfl hlt rfl ?_; conv => whnf)|(refine ValX_rfV 1 t (r2.p t).1 tabOk rfl rfl rfl rfl hlt rfl ?_; conv => whnf))|((with_reducible refine isW ?_;first|refine xwr_ok (by omega) (by omega) ?_|refine xwr_raw ?_);conv=>whnf)|with_reducible exact rfl|((with_reducible first|refine xif_kt (by assumption) ?_|refine xif_kf (by assumption) ?_);conv=>whnf)|((with_reducible refine xif_s ?_ ?_)<;>(intro hb;(try simp (disch:=omega) only [hbS] at hb)<;>conv=>whnf)))
          all_goals try (exfalso; omega)
          refine ⟨⟨t + 1, q.1, q.2.1, ?_⟩, [0, 1], by (try dsimp only); omega, ?_, by (try dsimp only); omega⟩
          · rw [hst, hj, q.2.2]
            unfold putA
            rw [hsc, hv]
            rfl
          · ((refine ⟨?_, ?_, ?_, ?_⟩) <;> (repeat' ((conv => whnf); apply And.intro)) <;> (try (first | exact trivial | decide)))
            all_goals first | rfl | exact fun _ _ h => h | (simp [SV.wf, SV.wfs]; done) | trace_state
        · rw [if_neg hp] at ep
          rw [es, ep] at hj
          dsimp only at hj
          have hvp := (hgk.2 _ ep).1
          (conv=>whnf);repeat' (first|((with_reducible refine isC ?_);first|((first|(with_reducible refine isF 87 ?_);(refine CallX_m kput [0] rfl ⟨fun _ _ h => h, trivial⟩ (by decide) (ArgN.rf 1 t hlt rfl (n := 1) (q := [0]) (fun j hj => by rcases (by omega : j = 0) with rfl; simp)) ?_; intro q)|(with_reducible refine isF 88 ?_);(refine CallX_m (rPlace_m b1 q.1 t (r2.p t) q.2.1) [0] rfl ⟨fun _ _ h => h, trivial⟩ (by decide) (fun _ _ _ _ => trivial) ?_; intro q2));conv=>whnf))|((with_reducible refine isV ?_);first|((refine ValX_arr (n := 64) (sz := 1) tabOk rfl Tryz.underlying152 rfl rfl ?_ ?_ ?_) <;> first | omega | (conv => whnf))|((refine ValX_arr (n := 64) (sz := 1) tabOk rfl Tryz.underlying151 rfl rfl ?_ ?_ ?_) <;> first | omega | (conv => whnf))|((refine ValX_arr (n := 64) (sz := 5) tabOk rfl Tryz.underlying153 rfl rfl ?_ ?_ ?_) <;> first | omega | (conv => whnf))|(refine ValX_rfH 1 t true tabOk rfl rfl rfl rfl hlt hh ?_; conv => whnf)|(refine ValX_rfS 1 t (r2.s t) tabOk rfl rfl rfl rfl hlt rfl ?_; conv => whnf)|(refine ValX_rfV 1 t (r2.p t).1 tabOk rfl rfl rfl rfl hlt rfl ?_; conv => whnf)|(refine ValX_rfQ 1 t (r2.p t) tabOk rfl rfl rfl rfl rfl hlt rfl ?_; conv => whnf))|((with_reducible refine isW ?_;first|refine xwr_ok (by omega) (by omega) ?_|refine xwr_raw ?_);conv=>whnf)|with_reducible exact rfl|((with_reducible first|refine xif_kt (by assumption) ?_|refine xif_kf (by assumption) ?_);conv=>whnf)|((with_reducible refine xif_s ?_ ?_)<;>(intro hb;(try simp (disch:=omega) only [hbS] at hb)<;>conv=>whnf)))
          all_goals try (exfalso; omega)
          refine ⟨⟨t + 1, q2.1, q2.2.1, ?_⟩, [0, 1], by (try dsimp only); omega, ?_, by (try dsimp only); omega⟩
          · rw [hst, hj, q2.2.2, q.2.2]
            unfold plcA putA
            rw [hsc, hv, hvp]
            rfl
          · ((refine ⟨?_, ?_, ?_, ?_⟩) <;> (repeat' ((conv => whnf); apply And.intro)) <;> (try (first | exact trivial | decide)))
            all_goals first | rfl | exact fun _ _ h => h | (simp [SV.wf, SV.wfs]; done) | trace_state
      · rw [hh, if_neg (by simp)] at es
        by_cases hp : (r2.p t).1 = 0
        · rw [if_pos hp] at ep
          rw [es, ep] at hj
          dsimp only at hj
          (conv=>whnf);repeat' (first|((with_reducible refine isV ?_);first|((refine ValX_arr (n := 64) (sz := 1) tabOk rfl Tryz.underlying152 rfl rfl ?_ ?_ ?_) <;> first | omega | (conv => whnf))|((refine ValX_arr (n := 64) (sz := 1) tabOk rfl Tryz.underlying151 rfl rfl ?_ ?_ ?_) <;> first | omega | (conv => whnf))|((refine ValX_arr (n := 64) (sz := 5) tabOk rfl Tryz.underlying153 rfl rfl ?_ ?_ ?_) <;> first | omega | (conv => whnf))|(refine ValX_rfH 1 t false tabOk rfl rfl rfl rfl hlt hh ?_; conv => whnf)|(refine ValX_rfV 1 t (r2.p t).1 tabOk rfl rfl rfl rfl hlt rfl ?_; conv => whnf))|((with_reducible refine isW ?_;first|refine xwr_ok (by omega) (by omega) ?_|refine xwr_raw ?_);conv=>whnf)|with_reducible exact rfl|((with_reducible first|refine xif_kt (by assumption) ?_|refine xif_kf (by assumption) ?_);conv=>whnf)|((with_reducible refine xif_s ?_ ?_)<;>(intro hb;(try simp (disch:=omega) only [hbS] at hb)<;>conv=>whnf)))
          all_goals try (exfalso; omega)
          refine ⟨⟨t + 1, r, hok, ?_⟩, [0, 1], by (try dsimp only); omega, ?_, by (try dsimp only); omega⟩
          · rw [hst, hj]
          · ((refine ⟨?_, ?_, ?_, ?_⟩) <;> (repeat' ((conv => whnf); apply And.intro)) <;> (try (first | exact trivial | decide)))
            all_goals first | rfl | exact fun _ _ h => h | (simp [SV.wf, SV.wfs]; done) | trace_state
        · rw [if_neg hp] at ep
          rw [es, ep] at hj
          dsimp only at hj
          have hvp := (hgk.2 _ ep).1
          (conv=>whnf);repeat' (first|((with_reducible refine isC ?_);first|(((with_reducible refine isF 88 ?_);(refine CallX_m (rPlace_m b1 r t (r2.p t) hok) [0] rfl ⟨fun _ _ h => h, trivial⟩ (by decide) (fun _ _ _ _ => trivial) ?_; intro q2));conv=>whnf))|((with_reducible refine isV ?_);first|((refine ValX_arr (n := 64) (sz := 1) tabOk rfl Tryz.underlying152 rfl rfl ?_ ?_ ?_) <;> first | omega | (conv => whnf))|((refine ValX_arr (n := 64) (sz := 1) tabOk rfl Tryz.underlying151 rfl rfl ?_ ?_ ?_) <;> first | omega | (conv => whnf))|((refine ValX_arr (n := 64) (sz := 5) tabOk rfl Tryz.underlying153 rfl rfl ?_ ?_ ?_) <;> first | omega | (conv => whnf))|(refine ValX_rfH 1 t false tabOk rfl rfl rfl rfl hlt hh ?_; conv => whnf)|(refine ValX_rfV 1 t (r2.p t).1 tabOk rfl rfl rfl rfl hlt rfl ?_; conv => whnf)|(refine ValX_rfQ 1 t (r2.p t) tabOk rfl rfl rfl rfl rfl hlt rfl ?_; conv => whnf))|((with_reducible refine isW ?_;first|refine xwr_ok (by omega) (by omega) ?_|refine xwr_raw ?_);conv=>whnf)|with_reducible exact rfl|((with_reducible first|refine xif_kt (by assumption) ?_|refine xif_kf (by assumption) ?_);conv=>whnf)|((with_reducible refine xif_s ?_ ?_)<;>(intro hb;(try simp (disch:=omega) only [hbS] at hb)<;>conv=>whnf)))
          all_goals try (exfalso; omega)
          refine ⟨⟨t + 1, q2.1, q2.2.1, ?_⟩, [0, 1], by (try dsimp only); omega, ?_, by (try dsimp only); omega⟩
          · rw [hst, hj, q2.2.2]
            unfold plcA
            rw [hv, hvp]
            rfl
          · ((refine ⟨?_, ?_, ?_, ?_⟩) <;> (repeat' ((conv => whnf); apply And.intro)) <;> (try (first | exact trivial | decide)))
            all_goals first | rfl | exact fun _ _ h => h | (simp [SV.wf, SV.wfs]; done) | trace_state
    · obtain rfl : t = 64 := by omega
      (conv=>whnf);repeat' (first|((with_reducible refine isW ?_;first|refine xwr_ok (by omega) (by omega) ?_|refine xwr_raw ?_);conv=>whnf)|with_reducible exact rfl|((with_reducible first|refine xif_kt (by assumption) ?_|refine xif_kf (by assumption) ?_);conv=>whnf)|((with_reducible refine xif_s ?_ ?_)<;>(intro hb;(try simp (disch:=omega) only [hbS] at hb)<;>conv=>whnf)))
      all_goals try (exfalso; omega)
      exact Fin_m ⟨r, hok, hab⟩ [0, 1] ⟨rfl, by simp [SV.wf, SV.wfs]⟩ ⟨fun _ _ h => h, fun _ _ h => h, trivial⟩ (by decide) rfl
end Go.Proofs.YtlnplelandimeaaGreat.En
end
section
namespace Go.Proofs.YtlnplelandimeaaGreat.En
open Go.RowKit
set_option maxRecDepth 100000
set_option maxHeartbeats 2000000 in
theorem PutOwn_m (b1 b2 : Nat) (m : List (Int × SlT)) (p : List (Int × PlT)) (k : Int) (v : SlT) (hlk : lkI m k = some v) (hs : scanB v.2.2 = true) (hk : vId k = true) :
    CallM Tryz.prog 38 [.p 0 0, I k, .v (.slice v.1 v.2.2.length v.2.1)] (fun _ _ => True) [atB b1 b2, scO b1 m, plO b2 p] (fun _ : Unit => I 0) (fun _ => [atB b1 b2, scO b1 m, plO b2 p]) := by
  have hs32 : v.2.2.length ≤ 32 := by
    unfold scanB at hs
    simp only [Bool.and_eq_true, decide_eq_true_eq] at hs
    exact hs.1
  have kv := validScan_w v.1 v.2.1 v.2.2 rfl (by unfold maxLen; omega)
  have ki := validId_x k
  have kc := compareScans_w v.1 v.1 v.2.1 v.2.1 v.2.2 v.2.2 rfl rfl (by omega) (by omega)
  rw [lexC_self] at kc
  rw [hs] at kv
  rw [hk] at ki
  have hso : slOf m k = v := by unfold slOf; rw [hlk]; rfl
  have hargs : ∀ {C : Ctx} {ob : List OB}, nth ob 1 = some (scO b1 m) → ∀ σ fp w, Mem C σ fp ob w → ArgSl w v.1 v.2.2.length 2 (v.2.2.map encB) := by
    intro C ob h1 σ fp w hm
    have := ArgSl.sc 1 k h1 σ fp w hm
    rw [hso] at this
    exact this
  refine CallM.of (m := 3) Tryz.func38 rfl tabOk rfl rfl rfl rfl (by simp [SV.wfs, SV.wf]) fun w M π _ => ?_
  (conv=>whnf);repeat' (first|((with_reducible refine isC ?_);first|(((with_reducible refine isF 78 ?_;refine CallX_w (kv) ?_ ?_);(focus exact hargs rfl));conv=>whnf)|((with_reducible refine CallX_pure (ki) ?_)<;>first|omega|with_reducible refine isP ?_|conv=>whnf)|(((with_reducible refine isF 80 ?_);(refine CallX_w kc (fun σ fp w hm => ⟨hargs rfl σ fp w hm, hargs rfl σ fp w hm⟩) ?_));conv=>whnf))|((with_reducible refine isV ?_);first|(refine ValX_lookS 1 rfl rfl Tryz.underlying129 Tryz.underlying3 (fun w => by kernel_rfl) rfl ?_; rw [hlk, hso]; conv => whnf))|((first|refine DrawX_s tabOk folOk ?_|refine DrawS_i (by kernel_rfl) ?_|with_reducible refine andX_i ?_ ?_)<;>conv=>whnf)|with_reducible exact rfl|((with_reducible first|refine xif_kt (by assumption) ?_|refine xif_kf (by assumption) ?_);conv=>whnf)|((with_reducible refine xif_s ?_ ?_)<;>(intro hb;(try simp (disch:=omega) only [hbS] at hb)<;>conv=>whnf)))
  exact Fin_m () [0, 1, 2] ⟨rfl, by simp [SV.wf, SV.wfs]⟩ ⟨⟨rfl, rfl, by simp [SV.wf, SV.wfs]⟩, fun _ _ h => h, fun _ _ h => h, trivial⟩ (by decide) rfl
theorem plc_same {q : List (Int × PlT)} {k : Int} {p : PlT} (h : lkI q k = some p) (r : PlcI q k p) : lkI r.1 = lkI q := by
  rw [r.2]
  split
  · rw [h]
    have : mxO keyP (some p) p = some p := by
      unfold mxO
      dsimp only
      rw [lexC_self, if_neg (by omega)]
    rw [this, ← h, upd_self]
  · rfl
set_option maxHeartbeats 4000000 in
theorem JoinSelf_m (a1 a2 : Nat) (m : List (Int × SlT)) (q0 : List (Int × PlT)) (h1 : okS m) (hg : goodA (absM (m, q0))) :
    CallM Tryz.prog 77 [.p 0 0, .p 0 0] (fun _ _ => True) [atB a1 a2, scO a1 m, plO a2 q0]
      (fun _ : {q : List (Int × PlT) // lkI q = lkI q0} => I 0) (fun r => [atB a1 a2, scO a1 m, plO a2 r.1]) := by
  refine CallM.of (m := 3) Tryz.func77 rfl tabOk rfl rfl rfl rfl (by simp [SV.wfs, SV.wf]) fun w M π _ => ?_
  have k2 := Ids_m a1 a2 m q0
  have hlen := idsF_len (hasM m q0) 64
  generalize idsF (hasM m q0) 64 = L at *
  (conv=>whnf);repeat' (first|((with_reducible refine isC ?_);first|(((with_reducible refine isF 45 ?_);((refine CallX_m k2 [0, 1, 2] rfl ⟨⟨rfl, rfl, by simp [SV.wf, SV.wfs]⟩, fun _ _ h => h, fun _ _ h => h, trivial⟩ (by decide) (fun _ _ _ _ => trivial) ?_; intro r2; obtain ⟨A2, c2⟩ := r2)));conv=>whnf))|((with_reducible refine isW ?_;first|refine xwr_ok (by omega) (by omega) ?_|refine xwr_raw ?_);conv=>whnf)|with_reducible exact rfl|((with_reducible first|refine xif_kt (by assumption) ?_|refine xif_kf (by assumption) ?_);conv=>whnf)|((with_reducible refine xif_s ?_ ?_)<;>(intro hb;(try simp (disch:=omega) only [hbS] at hb)<;>conv=>whnf)))
  clear k2
  refine LoopX_inv tabOk (α := Nat × {q : List (Int × PlT) // lkI q = lkI q0}) (fun s => s.1 ≤ L.length) (fun s => [(0, .p 0 0), (1, .p 0 0), (18, .v (.slice A2 L.length c2)), (19, I L.length), (20, I s.1)])
    (fun s => [atB a1 a2, scO a1 m, plO a2 s.2.1, .row 3 1 A2 L.length c2 (L.map fun x => [encI x])]) (fun s => L.length - s.1) (0, ⟨q0, rfl⟩) [0, 1, 2, 3] (Nat.zero_le _) ?_ ?_
  · ((refine ⟨?_, ?_, ?_, ?_⟩) <;> (repeat' ((conv => whnf); apply And.intro)) <;> (try (first | exact trivial | decide)))
    all_goals first | rfl | exact fun _ _ h => h | (simp [SV.wf, SV.wfs]; done) | trace_state
  · rintro ⟨t, ⟨q, hq⟩⟩ ht
    dsimp only at ht ⊢
    by_cases hlt : t < L.length
    · have ho := h1.of (L.getD t 0)
      have hgk := hg (L.getD t 0)
      have hqi : lkI q (L.getD t 0) = lkI q0 (L.getD t 0) := by rw [hq]
      generalize hid : L.getD t 0 = id at *
      rcases opt_em (lkI m id) with hl | ⟨v, hl⟩
      · rcases opt_em (lkI q0 id) with hp | ⟨p, hp⟩
        · (conv=>whnf);repeat' (first|((with_reducible refine isV ?_);first|((first|refine ValX_index tabOk rfl (ArgSl.row 3 rfl) rfl ?_ ?_ ?_|(with_reducible refine nat_idx ?_);refine ValX_load1n _ _ (0) tabOk rfl rfl rfl (ArgSl.row 3 rfl) ?_ ?_ ?_|refine ValX_load1 _ _ (0) tabOk rfl rfl rfl (ArgSl.row 3 rfl) ?_ ?_ ?_)<;>first|rfl|omega|with_reducible refine isP ?_|conv=>whnf)|(rw [hid]; refine ValX_lookB 1 (slOf m id) false rfl rfl rfl rfl (by rw [hl]; rfl) ?_; conv => whnf)|(refine ValX_lookP 2 (plOf q id) false rfl rfl rfl rfl (by rw [hqi, hp]; rfl) ?_; conv => whnf))|((with_reducible refine isW ?_;first|refine xwr_ok (by omega) (by omega) ?_|refine xwr_raw ?_);conv=>whnf)|with_reducible exact rfl|((with_reducible first|refine xif_kt (by assumption) ?_|refine xif_kf (by assumption) ?_);conv=>whnf)|((with_reducible refine xif_s ?_ ?_)<;>(intro hb;(try simp (disch:=omega) only [hbS] at hb)<;>conv=>whnf)))
          all_goals try (exfalso; omega)
          refine ⟨(t + 1, ⟨q, hq⟩), [0, 1, 2, 3], by (try dsimp only); omega, ?_, by (try dsimp only); omega⟩
          ((refine ⟨?_, ?_, ?_, ?_⟩) <;> (repeat' ((conv => whnf); apply And.intro)) <;> (try (first | exact trivial | decide)))
          all_goals first | rfl | exact fun _ _ h => h | (simp [SV.wf, SV.wfs]; done) | trace_state
        · have hpo : plOf q id = p := by unfold plOf; rw [hqi, hp]; rfl
          (conv=>whnf);repeat' (first|((with_reducible refine isC ?_);first|(((with_reducible refine isF 84 ?_);(refine CallX_m (Place_m a1 a2 m q id p) [0, 1, 2] rfl ⟨⟨rfl, rfl, by simp [SV.wf, SV.wfs]⟩, fun _ _ h => h, fun _ _ h => h, trivial⟩ (by decide) (fun _ _ _ _ => trivial) ?_; intro r3));conv=>whnf))|((with_reducible refine isV ?_);first|((first|refine ValX_index tabOk rfl (ArgSl.row 3 rfl) rfl ?_ ?_ ?_|(with_reducible refine nat_idx ?_);refine ValX_load1n _ _ (0) tabOk rfl rfl rfl (ArgSl.row 3 rfl) ?_ ?_ ?_|refine ValX_load1 _ _ (0) tabOk rfl rfl rfl (ArgSl.row 3 rfl) ?_ ?_ ?_)<;>first|rfl|omega|with_reducible refine isP ?_|conv=>whnf)|(rw [hid]; refine ValX_lookB 1 (slOf m id) false rfl rfl rfl rfl (by rw [hl]; rfl) ?_; conv => whnf)|(refine ValX_lookP 2 p true rfl rfl rfl hpo (by rw [hqi, hp]; rfl) ?_; conv => whnf))|((with_reducible refine isW ?_;first|refine xwr_ok (by omega) (by omega) ?_|refine xwr_raw ?_);conv=>whnf)|with_reducible exact rfl|((with_reducible first|refine xif_kt (by assumption) ?_|refine xif_kf (by assumption) ?_);conv=>whnf)|((with_reducible refine xif_s ?_ ?_)<;>(intro hb;(try simp (disch:=omega) only [hbS] at hb)<;>conv=>whnf)))
          all_goals try (exfalso; omega)
          refine ⟨(t + 1, ⟨r3.1, (plc_same (hqi.trans hp) r3).trans hq⟩), [0, 1, 2, 3], by (try dsimp only); omega, ?_, by (try dsimp only); omega⟩
          ((refine ⟨?_, ?_, ?_, ?_⟩) <;> (repeat' ((conv => whnf); apply And.intro)) <;> (try (first | exact trivial | decide)))
          all_goals first | rfl | exact fun _ _ h => h | (simp [SV.wf, SV.wfs]; done) | trace_state
      · have hso : slOf m id = v := by unfold slOf; rw [hl]; rfl
        have hsm : semS m id = some v.2.2 := by unfold semS; rw [hl]; rfl
        have hs := hgk.1 _ hsm
        have kput := fun q => PutOwn_m a1 a2 m q id v hl hs.1 hs.2
        rcases opt_em (lkI q0 id) with hp | ⟨p, hp⟩
        · (conv=>whnf);repeat' (first|((with_reducible refine isC ?_);first|(((with_reducible refine isF 38 ?_);(refine CallX_m (kput q) [0, 1, 2] rfl ⟨⟨rfl, rfl, by simp [SV.wf, SV.wfs]⟩, fun _ _ h => h, fun _ _ h => h, trivial⟩ (by decide) (fun _ _ _ _ => trivial) ?_; intro r1));conv=>whnf))|((with_reducible refine isV ?_);first|((first|refine ValX_index tabOk rfl (ArgSl.row 3 rfl) rfl ?_ ?_ ?_|(with_reducible refine nat_idx ?_);refine ValX_load1n _ _ (0) tabOk rfl rfl rfl (ArgSl.row 3 rfl) ?_ ?_ ?_|refine ValX_load1 _ _ (0) tabOk rfl rfl rfl (ArgSl.row 3 rfl) ?_ ?_ ?_)<;>first|rfl|omega|with_reducible refine isP ?_|conv=>whnf)|(rw [hid]; refine ValX_lookB 1 v true rfl rfl rfl hso (by rw [hl]; rfl) ?_; conv => whnf)|(refine ValX_lookP 2 (plOf q id) false rfl rfl rfl rfl (by rw [hqi, hp]; rfl) ?_; conv => whnf))|((with_reducible refine isW ?_;first|refine xwr_ok (by omega) (by omega) ?_|refine xwr_raw ?_);conv=>whnf)|with_reducible exact rfl|((with_reducible first|refine xif_kt (by assumption) ?_|refine xif_kf (by assumption) ?_);conv=>whnf)|((with_reducible refine xif_s ?_ ?_)<;>(intro hb;(try simp (disch:=omega) only [hbS] at hb)<;>conv=>whnf)))
          all_goals try (exfalso; omega)
          refine ⟨(t + 1, ⟨q, hq⟩), [0, 1, 2, 3], by (try dsimp only); omega, ?_, by (try dsimp only); omega⟩
          ((refine ⟨?_, ?_, ?_, ?_⟩) <;> (repeat' ((conv => whnf); apply And.intro)) <;> (try (first | exact trivial | decide)))
          all_goals first | rfl | exact fun _ _ h => h | (simp [SV.wf, SV.wfs]; done) | trace_state
        · have hpo : plOf q id = p := by unfold plOf; rw [hqi, hp]; rfl
          (conv=>whnf);repeat' (first|((with_reducible refine isC ?_);first|((first|(with_reducible refine isF 38 ?_);(refine CallX_m (kput q) [0, 1, 2] rfl ⟨⟨rfl, rfl, by simp [SV.wf, SV.wfs]⟩, fun _ _ h => h, fun _ _ h => h, trivial⟩ (by decide) (fun _ _ _ _ => trivial) ?_; intro r1)|(with_reducible refine isF 84 ?_);(refine CallX_m (Place_m a1 a2 m q id p) [0, 1, 2] rfl ⟨⟨rfl, rfl, by simp [SV.wf, SV.wfs]⟩, fun _ _ h => h, fun _ _ h => h, trivial⟩ (by decide) (fun _ _ _ _ => trivial) ?_; intro r3));conv=>whnf))|((with_reducible refine isV ?_);first|((first|refine ValX_index tabOk rfl (ArgSl.row 3 rfl) rfl ?_ ?_ ?_|(with_reducible refine nat_idx ?_);refine ValX_load1n _ _ (0) tabOk rfl rfl rfl (ArgSl.row 3 rfl) ?_ ?_ ?_|refine ValX_load1 _ _ (0) tabOk rfl rfl rfl (ArgSl.row 3 rfl) ?_ ?_ ?_)<;>first|rfl|omega|with_reducible refine isP ?_|conv=>whnf)|(rw [hid]; refine ValX_lookB 1 v true rfl rfl rfl hso (by rw [hl]; rfl) ?_; conv => whnf)|(refine ValX_lookP 2 p true rfl rfl rfl hpo (by rw [hqi, hp]; rfl) ?_; conv => whnf))|((with_reducible refine isW ?_;first|refine xwr_ok (by omega) (by omega) ?_|refine xwr_raw ?_);conv=>whnf)|with_reducible exact rfl|((with_reducible first|refine xif_kt (by assumption) ?_|refine xif_kf (by assumption) ?_);conv=>whnf)|((with_reducible refine xif_s ?_ ?_)<;>(intro hb;(try simp (disch:=omega) only [hbS] at hb)<;>conv=>whnf)))
          all_goals try (exfalso; omega)
          refine ⟨(t + 1, ⟨r3.1, (plc_same (hqi.trans hp) r3).trans hq⟩), [0, 1, 2, 3], by (try dsimp only); omega, ?_, by (try dsimp only); omega⟩
          ((refine ⟨?_, ?_, ?_, ?_⟩) <;> (repeat' ((conv => whnf); apply And.intro)) <;> (try (first | exact trivial | decide)))
          all_goals first | rfl | exact fun _ _ h => h | (simp [SV.wf, SV.wfs]; done) | trace_state
    · obtain rfl : t = L.length := by omega
      (conv=>whnf);repeat' (first|((with_reducible refine isW ?_;first|refine xwr_ok (by omega) (by omega) ?_|refine xwr_raw ?_);conv=>whnf)|with_reducible exact rfl|((with_reducible first|refine xif_kt (by assumption) ?_|refine xif_kf (by assumption) ?_);conv=>whnf)|((with_reducible refine xif_s ?_ ?_)<;>(intro hb;(try simp (disch:=omega) only [hbS] at hb)<;>conv=>whnf)))
      all_goals try (exfalso; omega)
      exact Fin_m ⟨q, hq⟩ [0, 1, 2] ⟨rfl, by simp [SV.wf, SV.wfs]⟩ ⟨⟨rfl, rfl, by simp [SV.wf, SV.wfs]⟩, fun _ _ h => h, fun _ _ h => h, trivial⟩ (by decide) rfl
theorem joinA_none (a : AtT) : joinA at0 a = a := by
  unfold joinA at0
  refine Prod.ext (funext fun k => ?_) (funext fun k => ?_)
  · dsimp only
    cases a.1 k <;> rfl
  · dsimp only
    cases a.2 k <;> rfl
set_option maxHeartbeats 2000000 in
theorem AClone_m (a1 a2 : Nat) (m : List (Int × SlT)) (q : List (Int × PlT)) (h1 : okS m) (hg : goodA (absM (m, q))) :
    CallM Tryz.prog 75 [.p 0 0] (fun _ _ => True) [atB a1 a2, scO a1 m, plO a2 q]
      (fun _ : (Nat × Nat) × StI (absM (m, q)) => .p 3 0) (fun r => [atB a1 a2, scO a1 m, plO a2 q, atB r.1.1 r.1.2, scO r.1.1 r.2.1.1, plO r.1.2 r.2.1.2]) := by
  have hok0 : okS [] := by intro e he; cases he
  refine CallM.of (m := 3) Tryz.func75 rfl tabOk rfl rfl rfl rfl (by simp [SV.wfs, SV.wf]) fun w M π _ => ?_
  (conv=>whnf);repeat' (first|((with_reducible refine isC ?_);first|((first|(with_reducible refine isF 82 ?_);(refine CallX_m New_m [] rfl trivial (by decide) (fun _ _ _ _ => trivial) ?_; intro b; obtain ⟨b1, b2⟩ := b)|(with_reducible refine isF 77 ?_);(refine CallX_m (Join_m b1 b2 a1 a2 [] m [] q hok0 h1 hg) [3, 4, 5, 0, 1, 2] rfl ⟨⟨rfl, rfl, by simp [SV.wf, SV.wfs]⟩, fun _ _ h => h, fun _ _ h => h, ⟨rfl, rfl, by simp [SV.wf, SV.wfs]⟩, fun _ _ h => h, fun _ _ h => h, trivial⟩ (by decide) (fun _ _ _ _ => trivial) ?_; intro r));conv=>whnf))|with_reducible exact rfl|((with_reducible first|refine xif_kt (by assumption) ?_|refine xif_kf (by assumption) ?_);conv=>whnf)|((with_reducible refine xif_s ?_ ?_)<;>(intro hb;(try simp (disch:=omega) only [hbS] at hb)<;>conv=>whnf)))
  exact Fin_m ⟨(b1, b2), r.1, r.2.1, r.2.2.trans (joinA_none _)⟩ [0, 1, 2, 3, 4, 5] ⟨rfl, by simp [SV.wf, SV.wfs]⟩ ⟨⟨rfl, rfl, by simp [SV.wf, SV.wfs]⟩, fun _ _ h => h, fun _ _ h => h, ⟨rfl, rfl, by simp [SV.wf, SV.wfs]⟩, fun _ _ h => h, fun _ _ h => h, trivial⟩ (by decide) rfl
abbrev nilP : SV := .v (.pointer none)
abbrev nilS : SV := .v (.slice none 0 0)
end Go.Proofs.YtlnplelandimeaaGreat.En
end
section
namespace Go.Proofs.YtlnplelandimeaaGreat.En
open Go.RowKit
set_option maxRecDepth 100000
end Go.Proofs.YtlnplelandimeaaGreat.En
end
section
namespace Go.Proofs.YtlnplelandimeaaGreat
open Go.RowKit
set_option maxHeartbeats 400000 in
theorem compose_any (fq fx fy gq gx gy : Int) (w : World) (h1 : -1000000000 ≤ fx) (h2 : fx ≤ 1000000000) (h3 : -1000000000 ≤ fy) (h4 : fy ≤ 1000000000)
    (h5 : -1000000000 ≤ gx) (h6 : gx ≤ 1000000000) (h7 : -1000000000 ≤ gy) (h8 : gy ≤ 1000000000) :
    Calls Tryz.prog 103 #[.agg #[.int .i64 fq, .int .i64 fx, .int .i64 fy], .agg #[.int .i64 gq, .int .i64 gx, .int .i64 gy]] w fun e w' =>
      e = .returned (.agg #[.int .i64 ((fq + gq) % 4), .int .i64 (tX (fq % 4) gx gy + fx), .int .i64 (tY (fq % 4) gx gy + fy)]) ∧
      ((w.alloc (.cells #[.int .i64 fq, .int .i64 fx, .int .i64 fy] 37)).alloc (.cells #[.int .i64 gq, .int .i64 gx, .int .i64 gy] 37)).alloc
        (.cells #[.int .i64 ((fq + gq) % 4), .int .i64 (tX (fq % 4) gx gy + fx), .int .i64 (tY (fq % 4) gx gy + fy)] 37) = w' := by
  have ha := and3
  obtain ⟨b1, b2⟩ := tX_bd (fq % 4) gx gy 1000000000 h5 h6 h7 h8
  obtain ⟨b3, b4⟩ := tY_bd (fq % 4) gx gy 1000000000 h5 h6 h7 h8
  go_enter Tryz.func103, Tryz.ntmps103
  go_wp2_with (go_at_call 126; refine (turned_any _ _ _ _ (by omega) (by omega) (by omega) (by omega)).mono ?_; rintro e w' ⟨rfl, rfl⟩)
  exact bodyPost_ret (v := .agg #[.int .i64 ((fq + gq) % 4), .int .i64 (tX (fq % 4) gx gy + fx), .int .i64 (tY (fq % 4) gx gy + fy)]) (by simp [results, Tryz.results103, go_sem]) rfl
    ⟨rfl, rfl⟩
def CmpV (fq fx fy gq gx gy : Int) : Value :=
  if szB fx 8192 && szB fy 8192 && (szB gx 8192 && szB gy 8192) then
    if szB (tX (fq % 4) gx gy + fx) 8192 && szB (tY (fq % 4) gx gy + fy) 8192 then
      .tuple #[.agg #[.int .i64 ((fq + gq) % 4), .int .i64 (tX (fq % 4) gx gy + fx), .int .i64 (tY (fq % 4) gx gy + fy)], .int .i64 0]
    else .tuple #[.agg #[.int .i64 0, .int .i64 0, .int .i64 0], .int .i64 2]
  else .tuple #[.agg #[.int .i64 0, .int .i64 0, .int .i64 0], .int .i64 1]
theorem szB2_of {n k m : Int} (h : (szB n m && szB k m) = true) : -m ≤ n ∧ n ≤ m ∧ -m ≤ k ∧ k ≤ m := by
  simp [szB] at h; omega
end Go.Proofs.YtlnplelandimeaaGreat
namespace Go.Proofs.YtlnplelandimeaaGreat
open Go.RowKit
theorem wneg4 (q : Int) : wrap64 (-q) % 4 = (-q) % 4 := by unfold wrap64; omega
set_option maxHeartbeats 400000 in
theorem inverse_any (fq fx fy : Int) (w : World) (h1 : -1000000000 ≤ fx) (h2 : fx ≤ 1000000000) (h3 : -1000000000 ≤ fy) (h4 : fy ≤ 1000000000) :
    Calls Tryz.prog 104 #[.agg #[.int .i64 fq, .int .i64 fx, .int .i64 fy]] w fun e w' =>
      e = .returned (.agg #[.int .i64 ((-fq) % 4), .int .i64 (tX ((-fq) % 4) (-fx) (-fy)), .int .i64 (tY ((-fq) % 4) (-fx) (-fy))]) ∧
      (w.alloc (.cells #[.int .i64 fq, .int .i64 fx, .int .i64 fy] 37)).alloc (.cells #[.int .i64 ((-fq) % 4), .int .i64 (tX ((-fq) % 4) (-fx) (-fy)), .int .i64 (tY ((-fq) % 4) (-fx) (-fy))] 37) = w' := by
  have ha := and3
  have hb := wneg4
  go_enter Tryz.func104, Tryz.ntmps104
  go_wp2_with (go_at_call 126; refine (turned_any _ _ _ _ (by omega) (by omega) (by omega) (by omega)).mono ?_; rintro e w' ⟨rfl, rfl⟩)
  exact bodyPost_ret (v := .agg #[.int .i64 ((-fq) % 4), .int .i64 (tX ((-fq) % 4) (-fx) (-fy)), .int .i64 (tY ((-fq) % 4) (-fx) (-fy))]) (by simp [results, Tryz.results104, go_sem]) rfl
    ⟨rfl, rfl⟩
def InvV (fq fx fy : Int) : Value :=
  if szB fx 8192 && szB fy 8192 then .tuple #[.agg #[.int .i64 ((-fq) % 4), .int .i64 (tX ((-fq) % 4) (-fx) (-fy)), .int .i64 (tY ((-fq) % 4) (-fx) (-fy))], .int .i64 0]
  else .tuple #[.agg #[.int .i64 0, .int .i64 0, .int .i64 0], .int .i64 1]
set_option maxHeartbeats 400000 in
theorem Inverse_any (fq fx fy : Int) (w : World) :
    Calls Tryz.prog 111 #[.agg #[.int .i64 fq, .int .i64 fx, .int .i64 fy]] w fun e w' => e = .returned (InvV fq fx fy) ∧ Below w.heap.size w w' := by
  cases hf : (szB fx 8192 && szB fy 8192)
  · have HS := Lib.hid (show InvV fq fx fy = .tuple #[.agg #[.int .i64 0, .int .i64 0, .int .i64 0], .int .i64 1] by simp [InvV, hf])
    go_enter Tryz.func111, Tryz.ntmps111
    go_wp2_with (go_at_call 91; refine (valid_any _ _ _ _).mono ?_; rintro e w1 ⟨rfl, rfl⟩)
    refine bodyPost_ret (v := .tuple #[.agg #[.int .i64 0, .int .i64 0, .int .i64 0], .int .i64 1]) (by simp [results, Tryz.results111, go_sem]) rfl ⟨by rw [HS.out], ?_⟩
    repeat (first | exact bw_refl _ | refine bw_alloc ?_ _)
  · have HS := Lib.hid (show InvV fq fx fy = .tuple #[.agg #[.int .i64 ((-fq) % 4), .int .i64 (tX ((-fq) % 4) (-fx) (-fy)), .int .i64 (tY ((-fq) % 4) (-fx) (-fy))], .int .i64 0] by simp [InvV, hf])
    obtain ⟨f1, f2, f3, f4⟩ := szB2_of hf
    go_enter Tryz.func111, Tryz.ntmps111
    go_wp2_with (first | (go_at_call 91; refine (valid_any _ _ _ _).mono ?_; rintro e w1 ⟨rfl, rfl⟩) | (go_at_call 104; refine (inverse_any _ _ _ _ (by omega) (by omega) (by omega) (by omega)).mono ?_; rintro e w1 ⟨rfl, rfl⟩))
    refine bodyPost_ret (v := .tuple #[.agg #[.int .i64 ((-fq) % 4), .int .i64 (tX ((-fq) % 4) (-fx) (-fy)), .int .i64 (tY ((-fq) % 4) (-fx) (-fy))], .int .i64 0]) (by simp [results, Tryz.results111, go_sem]) rfl ⟨by rw [HS.out], ?_⟩
    repeat (first | exact bw_refl _ | refine bw_alloc ?_ _)
end Go.Proofs.YtlnplelandimeaaGreat
namespace Go.Proofs.YtlnplelandimeaaGreat
open Go.RowKit
def PtV (fq fx fy x y : Int) : Value :=
  if szB fx 8192 && szB fy 8192 && (szB x 1048576 && szB y 1048576) then
    if szB (tX (fq % 4) x y + 64 * fx) 1048576 && szB (tY (fq % 4) x y + 64 * fy) 1048576 then .tuple #[.agg #[.int .i64 (tX (fq % 4) x y + 64 * fx), .int .i64 (tY (fq % 4) x y + 64 * fy)], .int .i64 0]
    else .tuple #[.agg #[.int .i64 0, .int .i64 0], .int .i64 2]
  else .tuple #[.agg #[.int .i64 0, .int .i64 0], .int .i64 1]
end Go.Proofs.YtlnplelandimeaaGreat
namespace Go.Proofs.YtlnplelandimeaaGreat
open Go.RowKit
end Go.Proofs.YtlnplelandimeaaGreat
end
