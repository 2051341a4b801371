import Derived.Test.YtlnplelandimeaaGreatZFleetAligned31
import Derived.Test.YtlnplelandimeaaGreatZFleetAligned24
set_option linter.all false
section
namespace Go.Proofs.YtlnplelandimeaaGreat.En
open Go.RowKit
set_option maxRecDepth 100000
theorem rb_mod (a : Int) : Go.Proofs.YtlnplelandimeaaGreat.rbB (a % 8) = true := by
 simp [Go.Proofs.YtlnplelandimeaaGreat.rbB]
 omega
theorem fr_len (S : SnT) : (framesS S).length ≤ 100 := Nat.le_trans (framesS_len S) (by omega)
set_option maxHeartbeats 16000000 in
theorem falign_x (A : Option Addr) (c : Nat) (l : List FOp) (a b : Int) (ha : 0 ≤ a ∧ a < 256) (hb' : 0 ≤ b ∧ b < 256) {n : Nat} (hl : l.length = n) (hn : n ≤ maxLen) :
 CallW Tryz.prog 4 [.v (.slice A n c), .v (.int .u8 a), .v (.int .u8 b)] (fun w => opsF w A n l) (B true) := by
 have kf := few34_w A c l hl hn
 rcases Bool.eq_false_or_eq_true (fewG l) with hf | hf
 rotate_left
 ·rw [hf] at kf
  refine CallW.of Tryz.func4 rfl tabOk rfl rfl rfl (by simp [SV.wfs, SV.wf]) (by simp [SV.wfs, SV.wf]) fun w hpre => ?_
  (conv=>whnf);repeat' (first|((with_reducible refine isC ?_);first|((with_reducible refine CallX_pure (awake34_x) ?_)<;>first|omega|with_reducible refine isP ?_|conv=>whnf)|(((with_reducible refine isF 12 ?_;refine CallX_w (kf) ?_ ?_);(focus exact hpre.few rfl));conv=>whnf))|((with_reducible refine isW ?_;first|refine xwr_ok (by omega) (by omega) ?_|refine xwr_raw ?_);conv=>whnf)|((with_reducible refine isR ?_;first|refine xrem_nn (by omega) (by omega) ?_|refine xrem_raw (by omega) ?_);conv=>whnf)|((with_reducible refine isK ?_;first|refine xcv_i64 (by omega) (by omega) ?_|refine xcv_u64 (by omega) (by omega) ?_|refine xcv_u8 (by omega) (by omega) ?_|refine xcv_raw ?_);conv=>whnf)|((with_reducible refine need_i ?_ ?_)<;>first|omega|conv=>whnf)|((first|refine DrawX_s tabOk folOk ?_|refine DrawS_i (by kernel_rfl) ?_|with_reducible refine andX_i ?_ ?_)<;>conv=>whnf)|with_reducible exact rfl|((with_reducible first|refine xif_kt (by assumption) ?_|refine xif_kf (by assumption) ?_);conv=>whnf)|((with_reducible refine xif_s ?_ ?_)<;>(intro hb;(try simp (disch:=omega) only [hbS] at hb)<;>conv=>whnf)))
  exact Fin_pure rfl rfl trivial
 ·rw [hf] at kf
  have hfl := fewG_len hf
  refine CallW.of Tryz.func4 rfl tabOk rfl rfl rfl (by simp [SV.wfs, SV.wf]) (by simp [SV.wfs, SV.wf]) fun w hpre => ?_
  (conv=>whnf);repeat' (first|((with_reducible refine isC ?_);first|((with_reducible refine CallX_pure (awake34_x) ?_)<;>first|omega|with_reducible refine isP ?_|conv=>whnf)|(((with_reducible refine isF 12 ?_;refine CallX_w (kf) ?_ ?_);(focus exact hpre.few rfl));conv=>whnf))|((with_reducible refine isW ?_;first|refine xwr_ok (by omega) (by omega) ?_|refine xwr_raw ?_);conv=>whnf)|((with_reducible refine isR ?_;first|refine xrem_nn (by omega) (by omega) ?_|refine xrem_raw (by omega) ?_);conv=>whnf)|((with_reducible refine isK ?_;first|refine xcv_i64 (by omega) (by omega) ?_|refine xcv_u64 (by omega) (by omega) ?_|refine xcv_u8 (by omega) (by omega) ?_|refine xcv_raw ?_);conv=>whnf)|((with_reducible refine need_i ?_ ?_)<;>first|omega|conv=>whnf)|((first|refine DrawX_s tabOk folOk ?_|refine DrawS_i (by kernel_rfl) ?_|with_reducible refine andX_i ?_ ?_)<;>conv=>whnf)|with_reducible exact rfl|((with_reducible first|refine xif_kt (by assumption) ?_|refine xif_kf (by assumption) ?_);conv=>whnf)|((with_reducible refine xif_s ?_ ?_)<;>(intro hb;(try simp (disch:=omega) only [hbS] at hb)<;>conv=>whnf)))
  refine CallX_m three_m [] rfl trivial (by decide) (fun _ _ _ _ => trivial) ?_
  rintro ⟨⟨b0, d0⟩, ⟨b1, d1⟩, ⟨b2, d2⟩, A1, e1⟩
  dsimp only
  (conv=>whnf);repeat' (first|((with_reducible refine isW ?_;first|refine xwr_ok (by omega) (by omega) ?_|refine xwr_raw ?_);conv=>whnf)|((with_reducible refine isR ?_;first|refine xrem_nn (by omega) (by omega) ?_|refine xrem_raw (by omega) ?_);conv=>whnf)|((with_reducible refine isK ?_;first|refine xcv_i64 (by omega) (by omega) ?_|refine xcv_u64 (by omega) (by omega) ?_|refine xcv_u8 (by omega) (by omega) ?_|refine xcv_raw ?_);conv=>whnf)|((with_reducible refine need_i ?_ ?_)<;>first|omega|conv=>whnf)|((first|refine DrawX_s tabOk folOk ?_|refine DrawS_i (by kernel_rfl) ?_|with_reducible refine andX_i ?_ ?_)<;>conv=>whnf)|with_reducible exact rfl|((with_reducible first|refine xif_kt (by assumption) ?_|refine xif_kf (by assumption) ?_);conv=>whnf)|((with_reducible refine xif_s ?_ ?_)<;>(intro hb;(try simp (disch:=omega) only [hbS] at hb)<;>conv=>whnf)))
  clear kf
  refine LoopX_inv tabOk (α := (k : Nat) × Co3 × {Q : Nat → SnT // Q = runQ Q0 (l.take k)}) (fun s => s.1 ≤ n) (fun s => [(0, .v (.slice A n c)), (1, .v (.int .u8 a)), (2, .v (.int .u8 b)), (7, .v (.slice A1 3 e1)), (8, I s.1)])
   (fun s => [stO b0 s.2.1.1 (s.2.2.1 0) allT, stO b1 s.2.1.2.1 (s.2.2.1 1) allT, stO b2 s.2.1.2.2 (s.2.2.1 2) allT, ptsO A1 e1 b0 b1 b2]) (fun s => n - s.1) ⟨0, (d0, d1, d2), ⟨Q0, rfl⟩⟩ [0, 1, 2, 3] (Nat.zero_le _) ?_ ?_
  ·((refine ⟨?_, ?_, ?_, ?_⟩) <;> (repeat' ((conv => whnf); apply And.intro)) <;> (try (first | exact trivial | decide)))
   all_goals first | rfl | exact fun _ _ h => h | (simp [SV.wf, SV.wfs]; done) | trace_state
  ·rintro ⟨k, cs, Q, hQ⟩ hk
   dsimp only at hk hQ ⊢
   by_cases hlt : k < n
   ·have hokQ : okQ Q := by rw [hQ]; exact okQ_run _ okQ0
    have hmem : l.getD k fo0 ∈ l := by simp [show k < l.length by omega]
    have hop := hpre.op hmem
    have hol := (hpre.2 _ hmem).2
    have hnx : doQ Q (l.getD k fo0) = runQ Q0 (l.take (k + 1)) := by rw [runQ_take (by omega), hQ]
    have hd := do3_m b0 b1 b2 cs Q hokQ A1 e1 (l.getD k fo0) hol
    (conv=>whnf);repeat' (first|((with_reducible refine isC ?_);first|(((with_reducible refine isF 15 ?_);(refine CallX_m hd [0, 1, 2, 3] rfl ⟨fun _ _ h => h, fun _ _ h => h, fun _ _ h => h, ⟨rfl, rfl, rfl, rfl, rfl, rfl⟩, trivial⟩ (by decide) (ArgN.on hop (by decide) (m := 4) (r := [0, 1, 2, 3]) (fun j hj => by rcases (by omega : j = 0 ∨ j = 1 ∨ j = 2 ∨ j = 3) with rfl | rfl | rfl | rfl <;> simp)) ?_; intro q));conv=>whnf))|((with_reducible refine isV ?_);first|((first|refine ValX_index tabOk rfl (hpre.1.mem (by decide) rfl) rfl ?_ ?_ ?_|(with_reducible refine nat_idx ?_);refine ValX_loadEn _ _ (fo0) tabOk rfl rfl rfl rfl (hpre.1.mem (by decide) rfl) ?_ ?_ ?_|refine ValX_loadE _ _ (fo0) tabOk rfl rfl rfl rfl (hpre.1.mem (by decide) rfl) ?_ ?_ ?_)<;>first|rfl|omega|with_reducible refine isP ?_|conv=>whnf))|((with_reducible refine isW ?_;first|refine xwr_ok (by omega) (by omega) ?_|refine xwr_raw ?_);conv=>whnf)|((with_reducible refine isR ?_;first|refine xrem_nn (by omega) (by omega) ?_|refine xrem_raw (by omega) ?_);conv=>whnf)|((with_reducible refine isK ?_;first|refine xcv_i64 (by omega) (by omega) ?_|refine xcv_u64 (by omega) (by omega) ?_|refine xcv_u8 (by omega) (by omega) ?_|refine xcv_raw ?_);conv=>whnf)|((with_reducible refine need_i ?_ ?_)<;>first|omega|conv=>whnf)|((first|refine DrawX_s tabOk folOk ?_|refine DrawS_i (by kernel_rfl) ?_|with_reducible refine andX_i ?_ ?_)<;>conv=>whnf)|with_reducible exact rfl|((with_reducible first|refine xif_kt (by assumption) ?_|refine xif_kf (by assumption) ?_);conv=>whnf)|((with_reducible refine xif_s ?_ ?_)<;>(intro hb;(try simp (disch:=omega) only [hbS] at hb)<;>conv=>whnf)))
    all_goals try (exfalso; omega)
    refine ⟨⟨k + 1, q, ⟨_, hnx⟩⟩, [0, 1, 2, 3], by (try dsimp only); omega, ?_, by (try dsimp only); omega⟩
    ((refine ⟨?_, ?_, ?_, ?_⟩) <;> (repeat' ((conv => whnf); apply And.intro)) <;> (try (first | exact trivial | decide)))
    all_goals first | rfl | exact fun _ _ h => h | (simp [SV.wf, SV.wfs]; done) | trace_state
   ·obtain rfl : k = n := by omega
    have kfr := frames_m b0 cs.1 (Q 0)
    have hbl := fr_len (Q 0)
    have hwa : IntKind.i64.wrap (a.tmod 8) = a % 8 := by rw [Int.tmod_eq_emod_of_nonneg ha.1]; exact wr (by omega) (by omega)
    have hwb : IntKind.i64.wrap (b.tmod 8) = b % 8 := by rw [Int.tmod_eq_emod_of_nonneg hb'.1]; exact wr (by omega) (by omega)
    (conv=>whnf);repeat' (first|((with_reducible refine isC ?_);first|(((with_reducible refine isF 21 ?_);((refine CallX_m kfr [0] rfl ⟨fun _ _ h => h, trivial⟩ (by decide) (fun _ _ _ _ => trivial) ?_; intro rb)));conv=>whnf))|((with_reducible refine isV ?_);first|((first|refine ValX_index tabOk rfl (ArgSl.row 3 rfl) rfl ?_ ?_ ?_|(with_reducible refine nat_idx ?_);refine ValX_load1n _ _ (0) tabOk rfl rfl rfl (ArgSl.row 3 rfl) ?_ ?_ ?_|refine ValX_load1 _ _ (0) tabOk rfl rfl rfl (ArgSl.row 3 rfl) ?_ ?_ ?_)<;>first|rfl|omega|with_reducible refine isP ?_|conv=>whnf))|((with_reducible refine isW ?_;first|refine xwr_ok (by omega) (by omega) ?_|refine xwr_raw ?_);conv=>whnf)|((with_reducible refine isR ?_;first|refine xrem_nn (by omega) (by omega) ?_|refine xrem_raw (by omega) ?_);conv=>whnf)|((with_reducible refine isK ?_;first|refine xcv_i64 (by omega) (by omega) ?_|refine xcv_u64 (by omega) (by omega) ?_|refine xcv_u8 (by omega) (by omega) ?_|refine xcv_raw ?_);conv=>whnf)|((with_reducible refine need_i ?_ ?_)<;>first|omega|conv=>whnf)|((first|refine DrawX_s tabOk folOk ?_|refine DrawS_i (by kernel_rfl) ?_|with_reducible refine andX_i ?_ ?_)<;>conv=>whnf)|with_reducible exact rfl|((with_reducible first|refine xif_kt (by assumption) ?_|refine xif_kf (by assumption) ?_);conv=>whnf)|((with_reducible refine xif_s ?_ ?_)<;>(intro hb;(try simp (disch:=omega) only [hbS] at hb)<;>conv=>whnf)))
    all_goals try (exfalso; omega)
    clear kfr
    generalize hbt : Go.Proofs.YtlnplelandimeaaGreat.btF (framesS (Q 0)) (a % 8) (b % 8) = bt
    rcases bt with _ | f
    ·(conv=>whnf);repeat' (first|((with_reducible refine isC ?_);first|(((with_reducible refine isF 22 ?_);((rw [hwa, hwb]; refine CallX_Between 4 rfl rfl hbl ?_; rw [hbt]; dsimp only [Option.getD, Option.isSome])));conv=>whnf))|((with_reducible refine isW ?_;first|refine xwr_ok (by omega) (by omega) ?_|refine xwr_raw ?_);conv=>whnf)|((with_reducible refine isR ?_;first|refine xrem_nn (by omega) (by omega) ?_|refine xrem_raw (by omega) ?_);conv=>whnf)|((with_reducible refine isK ?_;first|refine xcv_i64 (by omega) (by omega) ?_|refine xcv_u64 (by omega) (by omega) ?_|refine xcv_u8 (by omega) (by omega) ?_|refine xcv_raw ?_);conv=>whnf)|((with_reducible refine need_i ?_ ?_)<;>first|omega|conv=>whnf)|((first|refine DrawX_s tabOk folOk ?_|refine DrawS_i (by kernel_rfl) ?_|with_reducible refine andX_i ?_ ?_)<;>conv=>whnf)|with_reducible exact rfl|((with_reducible first|refine xif_kt (by assumption) ?_|refine xif_kf (by assumption) ?_);conv=>whnf)|((with_reducible refine xif_s ?_ ?_)<;>(intro hb;(try simp (disch:=omega) only [hbS] at hb)<;>conv=>whnf)))
     all_goals try (exfalso; omega)
     exact Fin_pure rfl rfl trivial
    ·have him := view_image (Q 0) hbt
     have kb := view_m b0 cs.1 (Q 0) (b % 8) (rb_mod b)
     have ka := view_m b0 cs.1 (Q 0) (a % 8) (rb_mod a)
     have hvl : (viewS (Q 0) (b % 8)).length ≤ 1048576 := viewK_le (Q 0) (b % 8) 8
     have hvl' : (viewS (Q 0) (a % 8)).length ≤ 1048576 := viewK_le (Q 0) (a % 8) 8
     generalize viewS (Q 0) (b % 8) = VB at *
     generalize viewS (Q 0) (a % 8) = VA at *
     obtain ⟨hc0, hout⟩ := him
     (conv=>whnf);repeat' (first|((with_reducible refine isC ?_);first|((first|(with_reducible refine isF 22 ?_);((rw [hwa, hwb]; refine CallX_Between 4 rfl rfl hbl ?_; rw [hbt]; dsimp only [Option.getD, Option.isSome]))|(with_reducible refine isF 18 ?_);(first | (rw [hwb]; refine CallX_m kb [0] rfl ⟨fun _ _ h => h, trivial⟩ (by decide) (fun _ _ _ _ => trivial) ?_; intro q3; obtain ⟨A3, c3⟩ := q3; clear kb; dsimp only) | (rw [hwa]; refine CallX_m ka [0] rfl ⟨fun _ _ h => h, trivial⟩ (by decide) (fun _ _ _ _ => trivial) ?_; intro q4; obtain ⟨A4, c4⟩ := q4; dsimp only))|(with_reducible refine isF 23 ?_);((have ke := rEntries_m f A3 c3 VB rfl (by omega); rw [hc0] at ke; refine CallX_m ke [] rfl trivial (by decide) (ArgN.row 6 rfl (m := 0) (fun j hj => by omega)) ?_; intro p; obtain ⟨⟨A5, c5, ys⟩, hy⟩ := p; dsimp only; dsimp only at hy; obtain rfl := hout ys hy; clear hout hy))|(with_reducible refine isF 17 ?_);((refine CallX_w (Entries_t A5 A4 c5 c4 ys ys rfl rfl rfl (by omega) (by omega)) (fun σ fp w hm => ⟨ArgSl.row 7 rfl σ fp w hm, ArgSl.row 8 rfl σ fp w hm⟩) ?_)));conv=>whnf))|((with_reducible refine isV ?_);first|((first|refine ValX_index tabOk rfl (ArgSl.row 3 rfl) rfl ?_ ?_ ?_|(with_reducible refine nat_idx ?_);refine ValX_load1n _ _ (0) tabOk rfl rfl rfl (ArgSl.row 3 rfl) ?_ ?_ ?_|refine ValX_load1 _ _ (0) tabOk rfl rfl rfl (ArgSl.row 3 rfl) ?_ ?_ ?_)<;>first|rfl|omega|with_reducible refine isP ?_|conv=>whnf))|((with_reducible refine isW ?_;first|refine xwr_ok (by omega) (by omega) ?_|refine xwr_raw ?_);conv=>whnf)|((with_reducible refine isR ?_;first|refine xrem_nn (by omega) (by omega) ?_|refine xrem_raw (by omega) ?_);conv=>whnf)|((with_reducible refine isK ?_;first|refine xcv_i64 (by omega) (by omega) ?_|refine xcv_u64 (by omega) (by omega) ?_|refine xcv_u8 (by omega) (by omega) ?_|refine xcv_raw ?_);conv=>whnf)|((with_reducible refine need_i ?_ ?_)<;>first|omega|conv=>whnf)|((first|refine DrawX_s tabOk folOk ?_|refine DrawS_i (by kernel_rfl) ?_|with_reducible refine andX_i ?_ ?_)<;>conv=>whnf)|with_reducible exact rfl|((with_reducible first|refine xif_kt (by assumption) ?_|refine xif_kf (by assumption) ?_);conv=>whnf)|((with_reducible refine xif_s ?_ ?_)<;>(intro hb;(try simp (disch:=omega) only [hbS] at hb)<;>conv=>whnf)))
     all_goals try (exfalso; omega)
     exact Fin_pure rfl rfl trivial
theorem falign_walk (A0 : Option Addr) (n0 c0 : Nat) (l0 : List FOp) (a1 a2 : Int) (w : World) (h0 : l0.length = n0) (o0 : opsF w A0 n0 l0) (g0 : n0 ≤ c0) (k0 : c0 ≤ maxLen) (b1 : 0 ≤ a1 ∧ a1 < 256) (b2 : 0 ≤ a2 ∧ a2 < 256) :
 Calls Tryz.prog 4 #[.slice A0 n0 c0, .int .u8 a1, .int .u8 a2] w fun e w' => e = .returned (.bool true) ∧ Below w.heap.size w w' :=
 (falign_x A0 c0 l0 a1 a2 b1 b2 h0 (by omega)).2.2 (fun _ => 0) w o0
end Go.Proofs.YtlnplelandimeaaGreat.En
end
