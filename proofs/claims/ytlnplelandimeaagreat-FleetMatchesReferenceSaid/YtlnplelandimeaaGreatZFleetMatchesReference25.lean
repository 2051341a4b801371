import Derived.Test.YtlnplelandimeaaGreatZFleetMatchesReference24
import Derived.Test.YtlnplelandimeaaGreatZFleetMatchesReference08
import Derived.Test.YtlnplelandimeaaGreatZFleetMatchesReference01
set_option linter.all false
section
namespace Go.Proofs.YtlnplelandimeaaGreat.En
open Go.RowKit
set_option maxRecDepth 100000
set_option maxHeartbeats 2000000 in
theorem PutOwn_m (b1 b2 : Nat) (m : List (Int × SlT)) (p : List (Int × PlT)) (k : Int) (v : SlT) (hlk : lkI m k = some v) (hs : scanB v.2.2 = true) (hk : vId k = true) :
 CallM Tryz.prog 38 [.p 0 0, I k, .v (.slice v.1 v.2.2.length v.2.1)] (fun _ _ => True) [atB b1 b2, scO b1 m, plO b2 p] (fun _ : Unit => I 0) (fun _ => [atB b1 b2, scO b1 m, plO b2 p]) := by
 have hs32 : v.2.2.length ≤ 32 := by
  unfold scanB at hs
  simp only [Bool.and_eq_true, decide_eq_true_eq] at hs
  exact hs.1
 have kv := validScan_w v.1 v.2.1 v.2.2 rfl (by unfold maxLen; omega)
 have ki := validId_x k
 have kc := compareScans_w v.1 v.1 v.2.1 v.2.1 v.2.2 v.2.2 rfl rfl (by omega) (by omega)
 rw [lexC_self] at kc
 rw [hs] at kv
 rw [hk] at ki
 have hso : slOf m k = v := by unfold slOf; rw [hlk]; rfl
 have hargs : ∀ {C : Ctx} {ob : List OB}, nth ob 1 = some (scO b1 m) → ∀ σ fp w, Mem C σ fp ob w → ArgSl w v.1 v.2.2.length 2 (v.2.2.map encB) := by
  intro C ob h1 σ fp w hm
  have := ArgSl.sc 1 k h1 σ fp w hm
  rw [hso] at this
  exact this
 refine CallM.of (m := 3) Tryz.func38 rfl tabOk rfl rfl rfl rfl (by simp [SV.wfs, SV.wf]) fun w M π _ => ?_
 (conv=>whnf);repeat' (first|((with_reducible refine isC ?_);first|(((with_reducible refine isF 78 ?_;refine CallX_w (kv) ?_ ?_);(focus exact hargs rfl));conv=>whnf)|((with_reducible refine CallX_pure (ki) ?_)<;>first|omega|with_reducible refine isP ?_|conv=>whnf)|(((with_reducible refine isF 80 ?_);(refine CallX_w kc (fun σ fp w hm => ⟨hargs rfl σ fp w hm, hargs rfl σ fp w hm⟩) ?_));conv=>whnf))|((with_reducible refine isV ?_);first|(refine ValX_lookS 1 rfl rfl Tryz.underlying129 Tryz.underlying3 (fun w => by kernel_rfl) rfl ?_; rw [hlk, hso]; conv => whnf))|((first|refine DrawX_s tabOk folOk ?_|refine DrawS_i (by kernel_rfl) ?_|with_reducible refine andX_i ?_ ?_)<;>conv=>whnf)|with_reducible exact rfl|((with_reducible first|refine xif_kt (by assumption) ?_|refine xif_kf (by assumption) ?_);conv=>whnf)|((with_reducible refine xif_s ?_ ?_)<;>(intro hb;(try simp (disch:=omega) only [hbS] at hb)<;>conv=>whnf)))
 exact Fin_m () [0, 1, 2] ⟨rfl, by simp [SV.wf, SV.wfs]⟩ ⟨⟨rfl, rfl, by simp [SV.wf, SV.wfs]⟩, fun _ _ h => h, fun _ _ h => h, trivial⟩ (by decide) rfl
theorem plc_same {q : List (Int × PlT)} {k : Int} {p : PlT} (h : lkI q k = some p) (r : PlcI q k p) : lkI r.1 = lkI q := by
 rw [r.2]
 split
 ·rw [h]
  have : mxO keyP (some p) p = some p := by
   unfold mxO
   dsimp only
   rw [lexC_self, if_neg (by omega)]
  rw [this, ← h, upd_self]
 ·rfl
set_option maxHeartbeats 4000000 in
theorem JoinSelf_m (a1 a2 : Nat) (m : List (Int × SlT)) (q0 : List (Int × PlT)) (h1 : okS m) (hg : goodA (absM (m, q0))) :
 CallM Tryz.prog 77 [.p 0 0, .p 0 0] (fun _ _ => True) [atB a1 a2, scO a1 m, plO a2 q0]
  (fun _ : {q : List (Int × PlT) // lkI q = lkI q0} => I 0) (fun r => [atB a1 a2, scO a1 m, plO a2 r.1]) := by
 refine CallM.of (m := 3) Tryz.func77 rfl tabOk rfl rfl rfl rfl (by simp [SV.wfs, SV.wf]) fun w M π _ => ?_
 have k2 := Ids_m a1 a2 m q0
 have hlen := idsF_len (hasM m q0) 64
 generalize idsF (hasM m q0) 64 = L at *
 (conv=>whnf);repeat' (first|((with_reducible refine isC ?_);first|(((with_reducible refine isF 45 ?_);((refine CallX_m k2 [0, 1, 2] rfl ⟨⟨rfl, rfl, by simp [SV.wf, SV.wfs]⟩, fun _ _ h => h, fun _ _ h => h, trivial⟩ (by decide) (fun _ _ _ _ => trivial) ?_; intro r2; obtain ⟨A2, c2⟩ := r2)));conv=>whnf))|((with_reducible refine isW ?_;first|refine xwr_ok (by omega) (by omega) ?_|refine xwr_raw ?_);conv=>whnf)|with_reducible exact rfl|((with_reducible first|refine xif_kt (by assumption) ?_|refine xif_kf (by assumption) ?_);conv=>whnf)|((with_reducible refine xif_s ?_ ?_)<;>(intro hb;(try simp (disch:=omega) only [hbS] at hb)<;>conv=>whnf)))
 clear k2
 refine LoopX_inv tabOk (α := Nat × {q : List (Int × PlT) // lkI q = lkI q0}) (fun s => s.1 ≤ L.length) (fun s => [(0, .p 0 0), (1, .p 0 0), (18, .v (.slice A2 L.length c2)), (19, I L.length), (20, I s.1)])
  (fun s => [atB a1 a2, scO a1 m, plO a2 s.2.1, .row 3 1 A2 L.length c2 (L.map fun x => [encI x])]) (fun s => L.length - s.1) (0, ⟨q0, rfl⟩) [0, 1, 2, 3] (Nat.zero_le _) ?_ ?_
 ·((refine ⟨?_, ?_, ?_, ?_⟩) <;> (repeat' ((conv => whnf); apply And.intro)) <;> (try (first | exact trivial | decide)))
  all_goals first | rfl | exact fun _ _ h => h | (simp [SV.wf, SV.wfs]; done) | trace_state
 ·rintro ⟨t, ⟨q, hq⟩⟩ ht
  dsimp only at ht ⊢
  by_cases hlt : t < L.length
  ·have ho := h1.of (L.getD t 0)
   have hgk := hg (L.getD t 0)
   have hqi : lkI q (L.getD t 0) = lkI q0 (L.getD t 0) := by rw [hq]
   generalize hid : L.getD t 0 = id at *
   rcases opt_em (lkI m id) with hl | ⟨v, hl⟩
   ·rcases opt_em (lkI q0 id) with hp | ⟨p, hp⟩
    ·(conv=>whnf);repeat' (first|((with_reducible refine isV ?_);first|((first|refine ValX_index tabOk rfl (ArgSl.row 3 rfl) rfl ?_ ?_ ?_|(with_reducible refine nat_idx ?_);refine ValX_load1n _ _ (0) tabOk rfl rfl rfl (ArgSl.row 3 rfl) ?_ ?_ ?_|refine ValX_load1 _ _ (0) tabOk rfl rfl rfl (ArgSl.row 3 rfl) ?_ ?_ ?_)<;>first|rfl|omega|with_reducible refine isP ?_|conv=>whnf)|(rw [hid]; refine ValX_lookB 1 (slOf m id) false rfl rfl rfl rfl (by rw [hl]; rfl) ?_; conv => whnf)|(refine ValX_lookP 2 (plOf q id) false rfl rfl rfl rfl (by rw [hqi, hp]; rfl) ?_; conv => whnf))|((with_reducible refine isW ?_;first|refine xwr_ok (by omega) (by omega) ?_|refine xwr_raw ?_);conv=>whnf)|with_reducible exact rfl|((with_reducible first|refine xif_kt (by assumption) ?_|refine xif_kf (by assumption) ?_);conv=>whnf)|((with_reducible refine xif_s ?_ ?_)<;>(intro hb;(try simp (disch:=omega) only [hbS] at hb)<;>conv=>whnf)))
     all_goals try (exfalso; omega)
     refine ⟨(t + 1, ⟨q, hq⟩), [0, 1, 2, 3], by (try dsimp only); omega, ?_, by (try dsimp only); omega⟩
     ((refine ⟨?_, ?_, ?_, ?_⟩) <;> (repeat' ((conv => whnf); apply And.intro)) <;> (try (first | exact trivial | decide)))
     all_goals first | rfl | exact fun _ _ h => h | (simp [SV.wf, SV.wfs]; done) | trace_state
    ·have hpo : plOf q id = p := by unfold plOf; rw [hqi, hp]; rfl
     (conv=>whnf);repeat' (first|((with_reducible refine isC ?_);first|(((with_reducible refine isF 84 ?_);(refine CallX_m (Place_m a1 a2 m q id p) [0, 1, 2] rfl ⟨⟨rfl, rfl, by simp [SV.wf, SV.wfs]⟩, fun _ _ h => h, fun _ _ h => h, trivial⟩ (by decide) (fun _ _ _ _ => trivial) ?_; intro r3));conv=>whnf))|((with_reducible refine isV ?_);first|((first|refine ValX_index tabOk rfl (ArgSl.row 3 rfl) rfl ?_ ?_ ?_|(with_reducible refine nat_idx ?_);refine ValX_load1n _ _ (0) tabOk rfl rfl rfl (ArgSl.row 3 rfl) ?_ ?_ ?_|refine ValX_load1 _ _ (0) tabOk rfl rfl rfl (ArgSl.row 3 rfl) ?_ ?_ ?_)<;>first|rfl|omega|with_reducible refine isP ?_|conv=>whnf)|(rw [hid]; refine ValX_lookB 1 (slOf m id) false rfl rfl rfl rfl (by rw [hl]; rfl) ?_; conv => whnf)|(refine ValX_lookP 2 p true rfl rfl rfl hpo (by rw [hqi, hp]; rfl) ?_; conv => whnf))|((with_reducible refine isW ?_;first|refine xwr_ok (by omega) (by omega) ?_|refine xwr_raw ?_);conv=>whnf)|with_reducible exact rfl|((with_reducible first|refine xif_kt (by assumption) ?_|refine xif_kf (by assumption) ?_);conv=>whnf)|((with_reducible refine xif_s ?_ ?_)<;>(intro hb;(try simp (disch:=omega) only [hbS] at hb)<;>conv=>whnf)))
     all_goals try (exfalso; omega)
     refine ⟨(t + 1, ⟨r3.1, (plc_same (hqi.trans hp) r3).trans hq⟩), [0, 1, 2, 3], by (try dsimp only); omega, ?_, by (try dsimp only); omega⟩
     ((refine ⟨?_, ?_, ?_, ?_⟩) <;> (repeat' ((conv => whnf); apply And.intro)) <;> (try (first | exact trivial | decide)))
     all_goals first | rfl | exact fun _ _ h => h | (simp [SV.wf, SV.wfs]; done) | trace_state
   ·have hso : slOf m id = v := by unfold slOf; rw [hl]; rfl
    have hsm : semS m id = some v.2.2 := by unfold semS; rw [hl]; rfl
    have hs := hgk.1 _ hsm
    have kput := fun q => PutOwn_m a1 a2 m q id v hl hs.1 hs.2
    rcases opt_em (lkI q0 id) with hp | ⟨p, hp⟩
    ·(conv=>whnf);repeat' (first|((with_reducible refine isC ?_);first|(((with_reducible refine isF 38 ?_);(refine CallX_m (kput q) [0, 1, 2] rfl ⟨⟨rfl, rfl, by simp [SV.wf, SV.wfs]⟩, fun _ _ h => h, fun _ _ h => h, trivial⟩ (by decide) (fun _ _ _ _ => trivial) ?_; intro r1));conv=>whnf))|((with_reducible refine isV ?_);first|((first|refine ValX_index tabOk rfl (ArgSl.row 3 rfl) rfl ?_ ?_ ?_|(with_reducible refine nat_idx ?_);refine ValX_load1n _ _ (0) tabOk rfl rfl rfl (ArgSl.row 3 rfl) ?_ ?_ ?_|refine ValX_load1 _ _ (0) tabOk rfl rfl rfl (ArgSl.row 3 rfl) ?_ ?_ ?_)<;>first|rfl|omega|with_reducible refine isP ?_|conv=>whnf)|(rw [hid]; refine ValX_lookB 1 v true rfl rfl rfl hso (by rw [hl]; rfl) ?_; conv => whnf)|(refine ValX_lookP 2 (plOf q id) false rfl rfl rfl rfl (by rw [hqi, hp]; rfl) ?_; conv => whnf))|((with_reducible refine isW ?_;first|refine xwr_ok (by omega) (by omega) ?_|refine xwr_raw ?_);conv=>whnf)|with_reducible exact rfl|((with_reducible first|refine xif_kt (by assumption) ?_|refine xif_kf (by assumption) ?_);conv=>whnf)|((with_reducible refine xif_s ?_ ?_)<;>(intro hb;(try simp (disch:=omega) only [hbS] at hb)<;>conv=>whnf)))
     all_goals try (exfalso; omega)
     refine ⟨(t + 1, ⟨q, hq⟩), [0, 1, 2, 3], by (try dsimp only); omega, ?_, by (try dsimp only); omega⟩
     ((refine ⟨?_, ?_, ?_, ?_⟩) <;> (repeat' ((conv => whnf); apply And.intro)) <;> (try (first | exact trivial | decide)))
     all_goals first | rfl | exact fun _ _ h => h | (simp [SV.wf, SV.wfs]; done) | trace_state
    ·have hpo : plOf q id = p := by unfold plOf; rw [hqi, hp]; rfl
     (conv=>whnf);repeat' (first|((with_reducible refine isC ?_);first|((first|(with_reducible refine isF 38 ?_);(refine CallX_m (kput q) [0, 1, 2] rfl ⟨⟨rfl, rfl, by simp [SV.wf, SV.wfs]⟩, fun _ _ h => h, fun _ _ h => h, trivial⟩ (by decide) (fun _ _ _ _ => trivial) ?_; intro r1)|(with_reducible refine isF 84 ?_);(refine CallX_m (Place_m a1 a2 m q id p) [0, 1, 2] rfl ⟨⟨rfl, rfl, by simp [SV.wf, SV.wfs]⟩, fun _ _ h => h, fun _ _ h => h, trivial⟩ (by decide) (fun _ _ _ _ => trivial) ?_; intro r3));conv=>whnf))|((with_reducible refine isV ?_);first|((first|refine ValX_index tabOk rfl (ArgSl.row 3 rfl) rfl ?_ ?_ ?_|(with_reducible refine nat_idx ?_);refine ValX_load1n _ _ (0) tabOk rfl rfl rfl (ArgSl.row 3 rfl) ?_ ?_ ?_|refine ValX_load1 _ _ (0) tabOk rfl rfl rfl (ArgSl.row 3 rfl) ?_ ?_ ?_)<;>first|rfl|omega|with_reducible refine isP ?_|conv=>whnf)|(rw [hid]; refine ValX_lookB 1 v true rfl rfl rfl hso (by rw [hl]; rfl) ?_; conv => whnf)|(refine ValX_lookP 2 p true rfl rfl rfl hpo (by rw [hqi, hp]; rfl) ?_; conv => whnf))|((with_reducible refine isW ?_;first|refine xwr_ok (by omega) (by omega) ?_|refine xwr_raw ?_);conv=>whnf)|with_reducible exact rfl|((with_reducible first|refine xif_kt (by assumption) ?_|refine xif_kf (by assumption) ?_);conv=>whnf)|((with_reducible refine xif_s ?_ ?_)<;>(intro hb;(try simp (disch:=omega) only [hbS] at hb)<;>conv=>whnf)))
     all_goals try (exfalso; omega)
     refine ⟨(t + 1, ⟨r3.1, (plc_same (hqi.trans hp) r3).trans hq⟩), [0, 1, 2, 3], by (try dsimp only); omega, ?_, by (try dsimp only); omega⟩
     ((refine ⟨?_, ?_, ?_, ?_⟩) <;> (repeat' ((conv => whnf); apply And.intro)) <;> (try (first | exact trivial | decide)))
     all_goals first | rfl | exact fun _ _ h => h | (simp [SV.wf, SV.wfs]; done) | trace_state
  ·obtain rfl : t = L.length := by omega
   (conv=>whnf);repeat' (first|((with_reducible refine isW ?_;first|refine xwr_ok (by omega) (by omega) ?_|refine xwr_raw ?_);conv=>whnf)|with_reducible exact rfl|((with_reducible first|refine xif_kt (by assumption) ?_|refine xif_kf (by assumption) ?_);conv=>whnf)|((with_reducible refine xif_s ?_ ?_)<;>(intro hb;(try simp (disch:=omega) only [hbS] at hb)<;>conv=>whnf)))
   all_goals try (exfalso; omega)
   exact Fin_m ⟨q, hq⟩ [0, 1, 2] ⟨rfl, by simp [SV.wf, SV.wfs]⟩ ⟨⟨rfl, rfl, by simp [SV.wf, SV.wfs]⟩, fun _ _ h => h, fun _ _ h => h, trivial⟩ (by decide) rfl
theorem joinA_none (a : AtT) : joinA at0 a = a := by
 unfold joinA at0
 refine Prod.ext (funext fun k => ?_) (funext fun k => ?_)
 ·dsimp only
  cases a.1 k <;> rfl
 ·dsimp only
  cases a.2 k <;> rfl
set_option maxHeartbeats 2000000 in
theorem AClone_m (a1 a2 : Nat) (m : List (Int × SlT)) (q : List (Int × PlT)) (h1 : okS m) (hg : goodA (absM (m, q))) :
 CallM Tryz.prog 75 [.p 0 0] (fun _ _ => True) [atB a1 a2, scO a1 m, plO a2 q]
  (fun _ : (Nat × Nat) × StI (absM (m, q)) => .p 3 0) (fun r => [atB a1 a2, scO a1 m, plO a2 q, atB r.1.1 r.1.2, scO r.1.1 r.2.1.1, plO r.1.2 r.2.1.2]) := by
 have hok0 : okS [] := by intro e he; cases he
 refine CallM.of (m := 3) Tryz.func75 rfl tabOk rfl rfl rfl rfl (by simp [SV.wfs, SV.wf]) fun w M π _ => ?_
 (conv=>whnf);repeat' (first|((with_reducible refine isC ?_);first|((first|(with_reducible refine isF 82 ?_);(refine CallX_m New_m [] rfl trivial (by decide) (fun _ _ _ _ => trivial) ?_; intro b; obtain ⟨b1, b2⟩ := b)|(with_reducible refine isF 77 ?_);(refine CallX_m (Join_m b1 b2 a1 a2 [] m [] q hok0 h1 hg) [3, 4, 5, 0, 1, 2] rfl ⟨⟨rfl, rfl, by simp [SV.wf, SV.wfs]⟩, fun _ _ h => h, fun _ _ h => h, ⟨rfl, rfl, by simp [SV.wf, SV.wfs]⟩, fun _ _ h => h, fun _ _ h => h, trivial⟩ (by decide) (fun _ _ _ _ => trivial) ?_; intro r));conv=>whnf))|with_reducible exact rfl|((with_reducible first|refine xif_kt (by assumption) ?_|refine xif_kf (by assumption) ?_);conv=>whnf)|((with_reducible refine xif_s ?_ ?_)<;>(intro hb;(try simp (disch:=omega) only [hbS] at hb)<;>conv=>whnf)))
 exact Fin_m ⟨(b1, b2), r.1, r.2.1, r.2.2.trans (joinA_none _)⟩ [0, 1, 2, 3, 4, 5] ⟨rfl, by simp [SV.wf, SV.wfs]⟩ ⟨⟨rfl, rfl, by simp [SV.wf, SV.wfs]⟩, fun _ _ h => h, fun _ _ h => h, ⟨rfl, rfl, by simp [SV.wf, SV.wfs]⟩, fun _ _ h => h, fun _ _ h => h, trivial⟩ (by decide) rfl
abbrev nilP : SV := .v (.pointer none)
abbrev nilS : SV := .v (.slice none 0 0)
end Go.Proofs.YtlnplelandimeaaGreat.En
end
section
namespace Go.Proofs.YtlnplelandimeaaGreat.En
open Go.RowKit
set_option maxRecDepth 100000
end Go.Proofs.YtlnplelandimeaaGreat.En
end
section
namespace Go.Proofs.YtlnplelandimeaaGreat
open Go.RowKit
set_option maxHeartbeats 400000 in
theorem compose_any (fq fx fy gq gx gy : Int) (w : World) (h1 : -1000000000 ≤ fx) (h2 : fx ≤ 1000000000) (h3 : -1000000000 ≤ fy) (h4 : fy ≤ 1000000000)
 (h5 : -1000000000 ≤ gx) (h6 : gx ≤ 1000000000) (h7 : -1000000000 ≤ gy) (h8 : gy ≤ 1000000000) :
 Calls Tryz.prog 103 #[.agg #[.int .i64 fq, .int .i64 fx, .int .i64 fy], .agg #[.int .i64 gq, .int .i64 gx, .int .i64 gy]] w fun e w' =>
  e = .returned (.agg #[.int .i64 ((fq + gq) % 4), .int .i64 (tX (fq % 4) gx gy + fx), .int .i64 (tY (fq % 4) gx gy + fy)]) ∧
  ((w.alloc (.cells #[.int .i64 fq, .int .i64 fx, .int .i64 fy] 37)).alloc (.cells #[.int .i64 gq, .int .i64 gx, .int .i64 gy] 37)).alloc
   (.cells #[.int .i64 ((fq + gq) % 4), .int .i64 (tX (fq % 4) gx gy + fx), .int .i64 (tY (fq % 4) gx gy + fy)] 37) = w' := by
 have ha := and3
 obtain ⟨b1, b2⟩ := tX_bd (fq % 4) gx gy 1000000000 h5 h6 h7 h8
 obtain ⟨b3, b4⟩ := tY_bd (fq % 4) gx gy 1000000000 h5 h6 h7 h8
 go_enter Tryz.func103, Tryz.ntmps103
 go_wp2_with (go_at_call 126; refine (turned_any _ _ _ _ (by omega) (by omega) (by omega) (by omega)).mono ?_; rintro e w' ⟨rfl, rfl⟩)
 exact bodyPost_ret (v := .agg #[.int .i64 ((fq + gq) % 4), .int .i64 (tX (fq % 4) gx gy + fx), .int .i64 (tY (fq % 4) gx gy + fy)]) (by simp [results, Tryz.results103, go_sem]) rfl
  ⟨rfl, rfl⟩
theorem szB2_of {n k m : Int} (h : (szB n m && szB k m) = true) : -m ≤ n ∧ n ≤ m ∧ -m ≤ k ∧ k ≤ m := by
 simp [szB] at h; omega
end Go.Proofs.YtlnplelandimeaaGreat
namespace Go.Proofs.YtlnplelandimeaaGreat
open Go.RowKit
theorem wneg4 (q : Int) : wrap64 (-q) % 4 = (-q) % 4 := by unfold wrap64; omega
set_option maxHeartbeats 400000 in
theorem inverse_any (fq fx fy : Int) (w : World) (h1 : -1000000000 ≤ fx) (h2 : fx ≤ 1000000000) (h3 : -1000000000 ≤ fy) (h4 : fy ≤ 1000000000) :
 Calls Tryz.prog 104 #[.agg #[.int .i64 fq, .int .i64 fx, .int .i64 fy]] w fun e w' =>
  e = .returned (.agg #[.int .i64 ((-fq) % 4), .int .i64 (tX ((-fq) % 4) (-fx) (-fy)), .int .i64 (tY ((-fq) % 4) (-fx) (-fy))]) ∧
  (w.alloc (.cells #[.int .i64 fq, .int .i64 fx, .int .i64 fy] 37)).alloc (.cells #[.int .i64 ((-fq) % 4), .int .i64 (tX ((-fq) % 4) (-fx) (-fy)), .int .i64 (tY ((-fq) % 4) (-fx) (-fy))] 37) = w' := by
 have ha := and3
 have hb := wneg4
 go_enter Tryz.func104, Tryz.ntmps104
 go_wp2_with (go_at_call 126; refine (turned_any _ _ _ _ (by omega) (by omega) (by omega) (by omega)).mono ?_; rintro e w' ⟨rfl, rfl⟩)
 exact bodyPost_ret (v := .agg #[.int .i64 ((-fq) % 4), .int .i64 (tX ((-fq) % 4) (-fx) (-fy)), .int .i64 (tY ((-fq) % 4) (-fx) (-fy))]) (by simp [results, Tryz.results104, go_sem]) rfl
  ⟨rfl, rfl⟩
def InvV (fq fx fy : Int) : Value :=
 if szB fx 8192 && szB fy 8192 then .tuple #[.agg #[.int .i64 ((-fq) % 4), .int .i64 (tX ((-fq) % 4) (-fx) (-fy)), .int .i64 (tY ((-fq) % 4) (-fx) (-fy))], .int .i64 0]
 else .tuple #[.agg #[.int .i64 0, .int .i64 0, .int .i64 0], .int .i64 1]
set_option maxHeartbeats 400000 in
theorem Inverse_any (fq fx fy : Int) (w : World) :
 Calls Tryz.prog 111 #[.agg #[.int .i64 fq, .int .i64 fx, .int .i64 fy]] w fun e w' => e = .returned (InvV fq fx fy) ∧ Below w.heap.size w w' := by
 cases hf : (szB fx 8192 && szB fy 8192)
 ·have HS := Lib.hid (show InvV fq fx fy = .tuple #[.agg #[.int .i64 0, .int .i64 0, .int .i64 0], .int .i64 1] by simp [InvV, hf])
  go_enter Tryz.func111, Tryz.ntmps111
  go_wp2_with (go_at_call 91; refine (valid_any _ _ _ _).mono ?_; rintro e w1 ⟨rfl, rfl⟩)
  refine bodyPost_ret (v := .tuple #[.agg #[.int .i64 0, .int .i64 0, .int .i64 0], .int .i64 1]) (by simp [results, Tryz.results111, go_sem]) rfl ⟨by rw [HS.out], ?_⟩
  repeat (first | exact bw_refl _ | refine bw_alloc ?_ _)
 ·have HS := Lib.hid (show InvV fq fx fy = .tuple #[.agg #[.int .i64 ((-fq) % 4), .int .i64 (tX ((-fq) % 4) (-fx) (-fy)), .int .i64 (tY ((-fq) % 4) (-fx) (-fy))], .int .i64 0] by simp [InvV, hf])
  obtain ⟨f1, f2, f3, f4⟩ := szB2_of hf
  go_enter Tryz.func111, Tryz.ntmps111
  go_wp2_with (first | (go_at_call 91; refine (valid_any _ _ _ _).mono ?_; rintro e w1 ⟨rfl, rfl⟩) | (go_at_call 104; refine (inverse_any _ _ _ _ (by omega) (by omega) (by omega) (by omega)).mono ?_; rintro e w1 ⟨rfl, rfl⟩))
  refine bodyPost_ret (v := .tuple #[.agg #[.int .i64 ((-fq) % 4), .int .i64 (tX ((-fq) % 4) (-fx) (-fy)), .int .i64 (tY ((-fq) % 4) (-fx) (-fy))], .int .i64 0]) (by simp [results, Tryz.results111, go_sem]) rfl ⟨by rw [HS.out], ?_⟩
  repeat (first | exact bw_refl _ | refine bw_alloc ?_ _)
end Go.Proofs.YtlnplelandimeaaGreat
namespace Go.Proofs.YtlnplelandimeaaGreat
open Go.RowKit
def PtV (fq fx fy x y : Int) : Value :=
 if szB fx 8192 && szB fy 8192 && (szB x 1048576 && szB y 1048576) then
  if szB (tX (fq % 4) x y + 64 * fx) 1048576 && szB (tY (fq % 4) x y + 64 * fy) 1048576 then .tuple #[.agg #[.int .i64 (tX (fq % 4) x y + 64 * fx), .int .i64 (tY (fq % 4) x y + 64 * fy)], .int .i64 0]
  else .tuple #[.agg #[.int .i64 0, .int .i64 0], .int .i64 2]
 else .tuple #[.agg #[.int .i64 0, .int .i64 0], .int .i64 1]
end Go.Proofs.YtlnplelandimeaaGreat
namespace Go.Proofs.YtlnplelandimeaaGreat
open Go.RowKit
end Go.Proofs.YtlnplelandimeaaGreat
end
