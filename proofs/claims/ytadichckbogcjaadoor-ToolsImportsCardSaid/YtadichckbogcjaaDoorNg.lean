/- The reference's integers: Text; a number's text. -/
import Derived.Test.YtadichckbogcjaaDoorNf
set_option linter.all false
namespace Go.Proofs.YtadichckbogcjaaDoor.En
open Go.RowKit
set_option maxRecDepth 100000

theorem ArgSl.byte1 {C : Ctx} {ob : List OB} {e c : Nat} {A : Option Addr} (j : Nat) {x : Int} (b : UInt8) (h : ((b.toNat : Nat) : Int) = x) (hj : nth ob j = some (.row e 1 A 1 c [[.int .u8 x]])) : ∀ σ fp w, Mem C σ fp ob w → ArgSl w A 1 1 ([b].map encU) := by
  subst h
  exact ArgSl.row j hj
theorem ValX_loadL {C : Ctx} {ob : List OB} {A : Option Addr} {n : Nat} {els : List (List Value)} {o : Oper} {t : TypeId} {x : Operand} {i : Int} {k : SV → Prop} {te : TI} (v : Value) (hT : TabOk C.P C.T) (ho : o.op = .load t x) (ht : lookT C.T t = some te) (hagg : te.agg = false)
    (hA : ∀ σ fp w, Mem C σ fp ob w → ArgSl w A n 1 els) (h1 : i.toNat < n) (hv : els.getD i.toNat [] = [v]) (hk : k (.v v)) : ValX C o [.v (.pointer (some (elA A i 1)))] ob k := by
  refine ValX_load hT ho ht ?_ hA h1 (.v v) ?_ hk
  · exact (hT t te ht).2.one hagg
  · rw [hv, hagg]
    rfl
theorem trimV_m (A : Option Addr) (c : Nat) (e1 e2 v : Int) (h : trW [e1, e2] = wN v) :
    CallM Tryd.prog 74 [.v (.slice A 2 c)] (fun w M => ArgN w M A 2 1 [[.int .u32 e1], [.int .u32 e2]] ∧ 2 ≤ c) []
      (fun q : Option Addr × Nat => .v (.slice q.1 (wN v).length q.2)) (fun q => [.row 102 1 q.1 (wN v).length q.2 ((wN v).map encW)]) := by
  have := trim_m A c [e1, e2] (n := 2) rfl (by decide)
  rwa [h] at this
theorem trimU_m (A : Option Addr) (c : Nat) (e1 v : Int) (h : trW [e1] = wN v) :
    CallM Tryd.prog 74 [.v (.slice A 1 c)] (fun w M => ArgN w M A 1 1 [[.int .u32 e1]] ∧ 1 ≤ c) []
      (fun q : Option Addr × Nat => .v (.slice q.1 (wN v).length q.2)) (fun q => [.row 102 1 q.1 (wN v).length q.2 ((wN v).map encW)]) := by
  have := trim_m A c [e1] (n := 1) rfl (by decide)
  rwa [h] at this
theorem dig_ne (v : Int) : dig v ≠ [] := by
  unfold dig
  intro h
  have := congrArg List.length h
  rw [Lib.decDigits_length] at this
  have := Lib.nDigits_pos v.toNat
  simp at *
  omega
/-- where Text's loop stands -/
def txJ (v : Int) (x : Int) (acc : List UInt8) : Prop := 0 ≤ x ∧ x ≤ v ∧ ((x = 0 ∧ ((v = 0 ∧ acc = []) ∨ (v ≠ 0 ∧ acc = dig v))) ∨ (0 < x ∧ dig x ++ acc = dig v))
theorem txJ_next {v x : Int} {acc : List UInt8} (h : txJ v x acc) (hx : 0 < x) : txJ v (x / 10) (UInt8.ofNat (48 + (x % 10).toNat) :: acc) := by
  obtain ⟨h0, h1, h2⟩ := h
  rcases h2 with ⟨h2, _⟩ | ⟨_, h2⟩
  · omega
  · have := dig_step hx h2
    refine ⟨by omega, by omega, ?_⟩
    by_cases h3 : x / 10 = 0
    · rw [if_pos h3] at this
      exact .inl ⟨h3, .inr ⟨by omega, this⟩⟩
    · rw [if_neg h3] at this
      exact .inr ⟨by omega, this⟩
theorem txJ_len {v x : Int} {acc : List UInt8} (h : txJ v x acc) (hv : v < 18446744073709551616) : acc.length ≤ 20 := by
  obtain ⟨h0, h1, h2⟩ := h
  have := dig_len (v := v) (by omega) hv
  rcases h2 with ⟨_, ⟨_, rfl⟩ | ⟨_, rfl⟩⟩ | ⟨_, h2⟩
  · simp
  · exact this
  · rw [← h2, List.length_append] at this
    omega
set_option maxHeartbeats 2000000 in
theorem Text_m (neg : Bool) (A : Option Addr) (c : Nat) (v : Int) (h0 : 0 ≤ v) (h1 : v < 18446744073709551616) {n : Nat} (hl : (wN v).length = n) :
    CallM Tryd.prog 52 [nI neg A n c] (fun w M => ArgN w M A n 1 ((wN v).map encW) ∧ n ≤ c) [] (fun _ : Nat => S (txt neg v)) (fun _ => []) := by
  have hn := wN_len v
  have kt := trim_m A c (wN v) hl (by omega)
  rw [wN_trim h0] at kt
  subst hl
  refine CallM.of (m := 0) Tryd.func52 rfl tabOk rfl rfl rfl rfl (by simp [SV.wfs, SV.wf]) fun w M π hpre => ?_
  obtain ⟨hp, hc⟩ := hpre
  (conv=>whnf);repeat' (first|((with_reducible refine isC ?_);first|(((with_reducible refine isF 74 ?_);((refine CallX_m kt [] rfl trivial (by decide) (fun σ fp w' hm => ⟨ArgN.on hp (by decide) (m := 0) (fun j hj => by omega) σ fp w' hm, hc⟩) ?_; intro q; obtain ⟨A1, c1⟩ := q; dsimp only)));conv=>whnf))|((with_reducible refine isO ?_);first|((first|(refine OpX_build0 tabOk rfl rfl rfl ?_);intro bN|(refine OpX_build tabOk rfl rfl rfl rfl rfl ?_);intro bN);conv=>whnf))|((first|(with_reducible refine isU ?_;first|refine xwru_64 (by omega) (by omega) ?_|refine xwru_32 (by omega) (by omega) ?_|refine xwru_64m ?_|refine xwru_32m ?_)|(with_reducible refine isUq ?_;refine xquou_nn (by omega) (by omega) (by omega) ?_)|(with_reducible refine isUr ?_;refine xremu_nn (by omega) (by omega) ?_)|(with_reducible refine isK ?_;first|refine xcv_u32 (by omega) (by omega) ?_|refine xcv_u32m ?_|refine xcv_u64 (by omega) (by omega) ?_|refine xcv_u64m ?_)|(with_reducible refine isS ?_;refine xshr_32 ?_));conv=>whnf)|((with_reducible refine isW ?_;first|refine xwr_ok (by omega) (by omega) ?_|refine xwr_raw ?_);conv=>whnf)|((with_reducible refine isQ ?_;first|refine xquo_nn (by omega) (by omega) (by omega) ?_|refine xquo_ok (by omega) (by omega) (by omega) ?_|refine xquo_raw (by omega) ?_);conv=>whnf)|((with_reducible refine isR ?_;first|refine xrem_nn (by omega) (by omega) ?_|refine xrem_raw (by omega) ?_);conv=>whnf)|((with_reducible refine isK ?_;first|refine xcv_i64 (by omega) (by omega) ?_|refine xcv_u64 (by omega) (by omega) ?_|refine xcv_u8 (by omega) (by omega) ?_|refine xcv_raw ?_);conv=>whnf)|((with_reducible refine need_i ?_ ?_)<;>first|omega|conv=>whnf)|with_reducible exact rfl|((with_reducible first|refine xif_kt (by assumption) ?_|refine xif_kf (by assumption) ?_);conv=>whnf)|((with_reducible refine xif_s ?_ ?_)<;>(intro hb;(try simp (disch:=omega) only [hbS] at hb)<;>conv=>whnf)))
  refine LoopX_inv tabOk (α := Int × List UInt8 × Option Addr × Nat) (fun s => txJ v s.1 s.2.1) (fun s => [(1, .p 0 0), (3, S s.2.1), (4, .v (.slice s.2.2.1 (wN s.1).length s.2.2.2))])
    (fun s => [.box 79 [B neg, .v (.slice A (wN v).length c)], .row 102 1 s.2.2.1 (wN s.1).length s.2.2.2 ((wN s.1).map encW)]) (fun s => s.1.toNat) (v, [], A1, c1) [0, 1] ⟨h0, Int.le_refl _, ?_⟩ ?_ ?_
  · by_cases h : v = 0
    · exact .inl ⟨h, .inl ⟨h, rfl⟩⟩
    · exact .inr ⟨by (try dsimp only); omega, by simp⟩
  · ((refine ⟨?_, ?_, ?_, ?_⟩) <;> (repeat' ((conv => whnf); apply And.intro)) <;> (try (first | exact trivial | decide)))
    all_goals first | rfl | exact fun _ _ h => h | (simp [SV.wf, SV.wfs]; done) | trace_state
  · rintro ⟨x, acc, A2, c2⟩ hj
    dsimp only at hj ⊢
    have hal := txJ_len hj h1
    by_cases hx0 : x = 0
    · subst hx0
      rw [wN_0]
      obtain ⟨_, _, hj⟩ := hj
      rcases hj with ⟨_, ⟨rfl, rfl⟩ | ⟨hv, rfl⟩⟩ | ⟨hj, _⟩
      · have ht : txt neg 0 = [48] := rfl
        rw [ht]
        (conv=>whnf);repeat' (first|((with_reducible refine isV ?_);first|(refine ValX_sEq (r := true) rfl Tryd.underlying9 (by simp) ?_; conv => whnf))|((with_reducible refine isO ?_);first|((first|(refine OpX_build0 tabOk rfl rfl rfl ?_);intro bN|(refine OpX_build tabOk rfl rfl rfl rfl rfl ?_);intro bN);conv=>whnf))|((first|(with_reducible refine isU ?_;first|refine xwru_64 (by omega) (by omega) ?_|refine xwru_32 (by omega) (by omega) ?_|refine xwru_64m ?_|refine xwru_32m ?_)|(with_reducible refine isUq ?_;refine xquou_nn (by omega) (by omega) (by omega) ?_)|(with_reducible refine isUr ?_;refine xremu_nn (by omega) (by omega) ?_)|(with_reducible refine isK ?_;first|refine xcv_u32 (by omega) (by omega) ?_|refine xcv_u32m ?_|refine xcv_u64 (by omega) (by omega) ?_|refine xcv_u64m ?_)|(with_reducible refine isS ?_;refine xshr_32 ?_));conv=>whnf)|((with_reducible refine isW ?_;first|refine xwr_ok (by omega) (by omega) ?_|refine xwr_raw ?_);conv=>whnf)|((with_reducible refine isQ ?_;first|refine xquo_nn (by omega) (by omega) (by omega) ?_|refine xquo_ok (by omega) (by omega) (by omega) ?_|refine xquo_raw (by omega) ?_);conv=>whnf)|((with_reducible refine isR ?_;first|refine xrem_nn (by omega) (by omega) ?_|refine xrem_raw (by omega) ?_);conv=>whnf)|((with_reducible refine isK ?_;first|refine xcv_i64 (by omega) (by omega) ?_|refine xcv_u64 (by omega) (by omega) ?_|refine xcv_u8 (by omega) (by omega) ?_|refine xcv_raw ?_);conv=>whnf)|((with_reducible refine need_i ?_ ?_)<;>first|omega|conv=>whnf)|with_reducible exact rfl|((with_reducible first|refine xif_kt (by assumption) ?_|refine xif_kf (by assumption) ?_);conv=>whnf)|((with_reducible refine xif_s ?_ ?_)<;>(intro hb;(try simp (disch:=omega) only [hbS] at hb)<;>conv=>whnf)))
        all_goals exact Fin_m 0 [] ⟨rfl, by simp [SV.wf, SV.wfs]⟩ trivial (by decide) rfl
      · have hd := dig_ne v
        have ht : txt neg v = if neg then 45 :: dig v else dig v := by
          unfold txt
          rw [if_neg hv]
        rw [ht]
        cases neg
        all_goals
          (conv=>whnf);repeat' (first|((with_reducible refine isV ?_);first|(refine ValX_sEq (r := false) rfl Tryd.underlying9 (by simpa using hd) ?_; conv => whnf)|(refine ValX_sAdd (a := [45]) rfl (by simp only [List.length_cons, List.length_nil]; omega) ?_; conv => whnf))|((with_reducible refine isO ?_);first|((first|(refine OpX_build0 tabOk rfl rfl rfl ?_);intro bN|(refine OpX_build tabOk rfl rfl rfl rfl rfl ?_);intro bN);conv=>whnf))|((first|(with_reducible refine isU ?_;first|refine xwru_64 (by omega) (by omega) ?_|refine xwru_32 (by omega) (by omega) ?_|refine xwru_64m ?_|refine xwru_32m ?_)|(with_reducible refine isUq ?_;refine xquou_nn (by omega) (by omega) (by omega) ?_)|(with_reducible refine isUr ?_;refine xremu_nn (by omega) (by omega) ?_)|(with_reducible refine isK ?_;first|refine xcv_u32 (by omega) (by omega) ?_|refine xcv_u32m ?_|refine xcv_u64 (by omega) (by omega) ?_|refine xcv_u64m ?_)|(with_reducible refine isS ?_;refine xshr_32 ?_));conv=>whnf)|((with_reducible refine isW ?_;first|refine xwr_ok (by omega) (by omega) ?_|refine xwr_raw ?_);conv=>whnf)|((with_reducible refine isQ ?_;first|refine xquo_nn (by omega) (by omega) (by omega) ?_|refine xquo_ok (by omega) (by omega) (by omega) ?_|refine xquo_raw (by omega) ?_);conv=>whnf)|((with_reducible refine isR ?_;first|refine xrem_nn (by omega) (by omega) ?_|refine xrem_raw (by omega) ?_);conv=>whnf)|((with_reducible refine isK ?_;first|refine xcv_i64 (by omega) (by omega) ?_|refine xcv_u64 (by omega) (by omega) ?_|refine xcv_u8 (by omega) (by omega) ?_|refine xcv_raw ?_);conv=>whnf)|((with_reducible refine need_i ?_ ?_)<;>first|omega|conv=>whnf)|with_reducible exact rfl|((with_reducible first|refine xif_kt (by assumption) ?_|refine xif_kf (by assumption) ?_);conv=>whnf)|((with_reducible refine xif_s ?_ ?_)<;>(intro hb;(try simp (disch:=omega) only [hbS] at hb)<;>conv=>whnf)))
          all_goals exact Fin_m 0 [] ⟨rfl, by simp [SV.wf, SV.wfs]⟩ trivial (by decide) rfl
      · omega
    · have hx : 0 < x := by have := hj.1; omega
      have hxv := hj.2.1
      have hnx := txJ_next hj hx
      have hb8 : (((UInt8.ofNat (48 + (x % 10).toNat)).toNat : Nat) : Int) = 48 + x % 10 := by
        rw [ofNat_dig (by omega)]
        omega
      generalize UInt8.ofNat (48 + (x % 10).toNat) = b at *
      clear hj
      by_cases h32 : x < 4294967296
      · rw [show (wN x).length = 1 by rw [wN_1 hx h32]; rfl, show (wN x).map encW = [[.int .u32 x]] by rw [wN_1 hx h32]; rfl]
        (conv=>whnf);repeat' (first|((with_reducible refine isO ?_);first|((first|(refine OpX_build0 tabOk rfl rfl rfl ?_);intro bN|(refine OpX_build tabOk rfl rfl rfl rfl rfl ?_);intro bN);conv=>whnf))|((first|(with_reducible refine isU ?_;first|refine xwru_64 (by omega) (by omega) ?_|refine xwru_32 (by omega) (by omega) ?_|refine xwru_64m ?_|refine xwru_32m ?_)|(with_reducible refine isUq ?_;refine xquou_nn (by omega) (by omega) (by omega) ?_)|(with_reducible refine isUr ?_;refine xremu_nn (by omega) (by omega) ?_)|(with_reducible refine isK ?_;first|refine xcv_u32 (by omega) (by omega) ?_|refine xcv_u32m ?_|refine xcv_u64 (by omega) (by omega) ?_|refine xcv_u64m ?_)|(with_reducible refine isS ?_;refine xshr_32 ?_));conv=>whnf)|((with_reducible refine isW ?_;first|refine xwr_ok (by omega) (by omega) ?_|refine xwr_raw ?_);conv=>whnf)|((with_reducible refine isQ ?_;first|refine xquo_nn (by omega) (by omega) (by omega) ?_|refine xquo_ok (by omega) (by omega) (by omega) ?_|refine xquo_raw (by omega) ?_);conv=>whnf)|((with_reducible refine isR ?_;first|refine xrem_nn (by omega) (by omega) ?_|refine xrem_raw (by omega) ?_);conv=>whnf)|((with_reducible refine isK ?_;first|refine xcv_i64 (by omega) (by omega) ?_|refine xcv_u64 (by omega) (by omega) ?_|refine xcv_u8 (by omega) (by omega) ?_|refine xcv_raw ?_);conv=>whnf)|((with_reducible refine need_i ?_ ?_)<;>first|omega|conv=>whnf)|with_reducible exact rfl|((with_reducible first|refine xif_kt (by assumption) ?_|refine xif_kf (by assumption) ?_);conv=>whnf)|((with_reducible refine xif_s ?_ ?_)<;>(intro hb;(try simp (disch:=omega) only [hbS] at hb)<;>conv=>whnf)))
        refine LoopX_n 2 tabOk ?_
        (conv=>whnf);repeat' (first|((with_reducible refine isV ?_);first|(refine ValX_loadL _ tabOk rfl rfl rfl (ArgSl.row 1 rfl) (by decide) rfl ?_; conv => whnf)|((refine ValX_index tabOk rfl (ArgSl.row 1 rfl) rfl ?_ ?_ ?_) <;> first | omega | (conv => whnf)))|((with_reducible refine isO ?_);first|((refine OpX_store 1 tabOk rfl rfl rfl rfl rfl rfl ?_ ?_)<;>first|omega|with_reducible refine isP ?_|conv=>whnf)|((first|(refine OpX_build0 tabOk rfl rfl rfl ?_);intro bN|(refine OpX_build tabOk rfl rfl rfl rfl rfl ?_);intro bN);conv=>whnf))|((first|(with_reducible refine isU ?_;first|refine xwru_64 (by omega) (by omega) ?_|refine xwru_32 (by omega) (by omega) ?_|refine xwru_64m ?_|refine xwru_32m ?_)|(with_reducible refine isUq ?_;refine xquou_nn (by omega) (by omega) (by omega) ?_)|(with_reducible refine isUr ?_;refine xremu_nn (by omega) (by omega) ?_)|(with_reducible refine isK ?_;first|refine xcv_u32 (by omega) (by omega) ?_|refine xcv_u32m ?_|refine xcv_u64 (by omega) (by omega) ?_|refine xcv_u64m ?_)|(with_reducible refine isS ?_;refine xshr_32 ?_));conv=>whnf)|((with_reducible refine isW ?_;first|refine xwr_ok (by omega) (by omega) ?_|refine xwr_raw ?_);conv=>whnf)|((with_reducible refine isQ ?_;first|refine xquo_nn (by omega) (by omega) (by omega) ?_|refine xquo_ok (by omega) (by omega) (by omega) ?_|refine xquo_raw (by omega) ?_);conv=>whnf)|((with_reducible refine isR ?_;first|refine xrem_nn (by omega) (by omega) ?_|refine xrem_raw (by omega) ?_);conv=>whnf)|((with_reducible refine isK ?_;first|refine xcv_i64 (by omega) (by omega) ?_|refine xcv_u64 (by omega) (by omega) ?_|refine xcv_u8 (by omega) (by omega) ?_|refine xcv_raw ?_);conv=>whnf)|((with_reducible refine need_i ?_ ?_)<;>first|omega|conv=>whnf)|with_reducible exact rfl|((with_reducible first|refine xif_kt (by assumption) ?_|refine xif_kf (by assumption) ?_);conv=>whnf)|((with_reducible refine xif_s ?_ ?_)<;>(intro hb;(try simp (disch:=omega) only [hbS] at hb)<;>conv=>whnf)))
        all_goals try (exfalso; omega)
        refine ValX_toS [b] rfl Tryd.underlying22 Tryd.underlying5 Tryd.underlying9 rfl (ArgSl.byte1 2 b (by omega) rfl) (row_spot 2 rfl) ?_
        (conv=>whnf);repeat' (first|((with_reducible refine isV ?_);first|(refine ValX_sAdd rfl (by simp only [List.length_cons, List.length_nil]; omega) ?_; conv => whnf))|((with_reducible refine isO ?_);first|((first|(refine OpX_build0 tabOk rfl rfl rfl ?_);intro bN|(refine OpX_build tabOk rfl rfl rfl rfl rfl ?_);intro bN);conv=>whnf))|((first|(with_reducible refine isU ?_;first|refine xwru_64 (by omega) (by omega) ?_|refine xwru_32 (by omega) (by omega) ?_|refine xwru_64m ?_|refine xwru_32m ?_)|(with_reducible refine isUq ?_;refine xquou_nn (by omega) (by omega) (by omega) ?_)|(with_reducible refine isUr ?_;refine xremu_nn (by omega) (by omega) ?_)|(with_reducible refine isK ?_;first|refine xcv_u32 (by omega) (by omega) ?_|refine xcv_u32m ?_|refine xcv_u64 (by omega) (by omega) ?_|refine xcv_u64m ?_)|(with_reducible refine isS ?_;refine xshr_32 ?_));conv=>whnf)|((with_reducible refine isW ?_;first|refine xwr_ok (by omega) (by omega) ?_|refine xwr_raw ?_);conv=>whnf)|((with_reducible refine isQ ?_;first|refine xquo_nn (by omega) (by omega) (by omega) ?_|refine xquo_ok (by omega) (by omega) (by omega) ?_|refine xquo_raw (by omega) ?_);conv=>whnf)|((with_reducible refine isR ?_;first|refine xrem_nn (by omega) (by omega) ?_|refine xrem_raw (by omega) ?_);conv=>whnf)|((with_reducible refine isK ?_;first|refine xcv_i64 (by omega) (by omega) ?_|refine xcv_u64 (by omega) (by omega) ?_|refine xcv_u8 (by omega) (by omega) ?_|refine xcv_raw ?_);conv=>whnf)|((with_reducible refine need_i ?_ ?_)<;>first|omega|conv=>whnf)|with_reducible exact rfl|((with_reducible first|refine xif_kt (by assumption) ?_|refine xif_kf (by assumption) ?_);conv=>whnf)|((with_reducible refine xif_s ?_ ?_)<;>(intro hb;(try simp (disch:=omega) only [hbS] at hb)<;>conv=>whnf)))
        all_goals try (exfalso; omega)
        refine CallX_m (trimU_m _ _ _ (x / 10) ?_) [] rfl trivial (by decide) (fun σ fp w' hm => ⟨ArgN.row 1 rfl (m := 0) (fun j hj => by omega) σ fp w' hm, row_capN 1 rfl σ fp w' hm⟩) ?_
        rotate_left
        · intro q
          obtain ⟨A3, c3⟩ := q
          dsimp only
          (conv=>whnf);repeat' (first|((with_reducible refine isO ?_);first|((first|(refine OpX_build0 tabOk rfl rfl rfl ?_);intro bN|(refine OpX_build tabOk rfl rfl rfl rfl rfl ?_);intro bN);conv=>whnf))|((first|(with_reducible refine isU ?_;first|refine xwru_64 (by omega) (by omega) ?_|refine xwru_32 (by omega) (by omega) ?_|refine xwru_64m ?_|refine xwru_32m ?_)|(with_reducible refine isUq ?_;refine xquou_nn (by omega) (by omega) (by omega) ?_)|(with_reducible refine isUr ?_;refine xremu_nn (by omega) (by omega) ?_)|(with_reducible refine isK ?_;first|refine xcv_u32 (by omega) (by omega) ?_|refine xcv_u32m ?_|refine xcv_u64 (by omega) (by omega) ?_|refine xcv_u64m ?_)|(with_reducible refine isS ?_;refine xshr_32 ?_));conv=>whnf)|((with_reducible refine isW ?_;first|refine xwr_ok (by omega) (by omega) ?_|refine xwr_raw ?_);conv=>whnf)|((with_reducible refine isQ ?_;first|refine xquo_nn (by omega) (by omega) (by omega) ?_|refine xquo_ok (by omega) (by omega) (by omega) ?_|refine xquo_raw (by omega) ?_);conv=>whnf)|((with_reducible refine isR ?_;first|refine xrem_nn (by omega) (by omega) ?_|refine xrem_raw (by omega) ?_);conv=>whnf)|((with_reducible refine isK ?_;first|refine xcv_i64 (by omega) (by omega) ?_|refine xcv_u64 (by omega) (by omega) ?_|refine xcv_u8 (by omega) (by omega) ?_|refine xcv_raw ?_);conv=>whnf)|((with_reducible refine need_i ?_ ?_)<;>first|omega|conv=>whnf)|with_reducible exact rfl|((with_reducible first|refine xif_kt (by assumption) ?_|refine xif_kf (by assumption) ?_);conv=>whnf)|((with_reducible refine xif_s ?_ ?_)<;>(intro hb;(try simp (disch:=omega) only [hbS] at hb)<;>conv=>whnf)))
          refine ⟨(x / 10, b :: acc, A3, c3), [0, 3], hnx, ?_, by (try dsimp only); omega⟩
          ((refine ⟨?_, ?_, ?_, ?_⟩) <;> (repeat' ((conv => whnf); apply And.intro)) <;> (try (first | exact trivial | decide)))
          all_goals first | rfl | exact fun _ _ h => h | (simp [SV.wf, SV.wfs]; done) | trace_state
        · exact wN_one (by omega) (by omega) |>.trans (by congr 1; omega)
      · rw [show (wN x).length = 2 by rw [wN_2 (by omega)]; rfl, show (wN x).map encW = [[.int .u32 (x % 4294967296)], [.int .u32 (x / 4294967296)]] by rw [wN_2 (by omega)]; rfl]
        (conv=>whnf);repeat' (first|((with_reducible refine isO ?_);first|((first|(refine OpX_build0 tabOk rfl rfl rfl ?_);intro bN|(refine OpX_build tabOk rfl rfl rfl rfl rfl ?_);intro bN);conv=>whnf))|((first|(with_reducible refine isU ?_;first|refine xwru_64 (by omega) (by omega) ?_|refine xwru_32 (by omega) (by omega) ?_|refine xwru_64m ?_|refine xwru_32m ?_)|(with_reducible refine isUq ?_;refine xquou_nn (by omega) (by omega) (by omega) ?_)|(with_reducible refine isUr ?_;refine xremu_nn (by omega) (by omega) ?_)|(with_reducible refine isK ?_;first|refine xcv_u32 (by omega) (by omega) ?_|refine xcv_u32m ?_|refine xcv_u64 (by omega) (by omega) ?_|refine xcv_u64m ?_)|(with_reducible refine isS ?_;refine xshr_32 ?_));conv=>whnf)|((with_reducible refine isW ?_;first|refine xwr_ok (by omega) (by omega) ?_|refine xwr_raw ?_);conv=>whnf)|((with_reducible refine isQ ?_;first|refine xquo_nn (by omega) (by omega) (by omega) ?_|refine xquo_ok (by omega) (by omega) (by omega) ?_|refine xquo_raw (by omega) ?_);conv=>whnf)|((with_reducible refine isR ?_;first|refine xrem_nn (by omega) (by omega) ?_|refine xrem_raw (by omega) ?_);conv=>whnf)|((with_reducible refine isK ?_;first|refine xcv_i64 (by omega) (by omega) ?_|refine xcv_u64 (by omega) (by omega) ?_|refine xcv_u8 (by omega) (by omega) ?_|refine xcv_raw ?_);conv=>whnf)|((with_reducible refine need_i ?_ ?_)<;>first|omega|conv=>whnf)|with_reducible exact rfl|((with_reducible first|refine xif_kt (by assumption) ?_|refine xif_kf (by assumption) ?_);conv=>whnf)|((with_reducible refine xif_s ?_ ?_)<;>(intro hb;(try simp (disch:=omega) only [hbS] at hb)<;>conv=>whnf)))
        refine LoopX_n 3 tabOk ?_
        (conv=>whnf);repeat' (first|((with_reducible refine isV ?_);first|(refine ValX_loadL _ tabOk rfl rfl rfl (ArgSl.row 1 rfl) (by decide) rfl ?_; conv => whnf)|((refine ValX_index tabOk rfl (ArgSl.row 1 rfl) rfl ?_ ?_ ?_) <;> first | omega | (conv => whnf)))|((with_reducible refine isO ?_);first|((refine OpX_store 1 tabOk rfl rfl rfl rfl rfl rfl ?_ ?_)<;>first|omega|with_reducible refine isP ?_|conv=>whnf)|((first|(refine OpX_build0 tabOk rfl rfl rfl ?_);intro bN|(refine OpX_build tabOk rfl rfl rfl rfl rfl ?_);intro bN);conv=>whnf))|((first|(with_reducible refine isU ?_;first|refine xwru_64 (by omega) (by omega) ?_|refine xwru_32 (by omega) (by omega) ?_|refine xwru_64m ?_|refine xwru_32m ?_)|(with_reducible refine isUq ?_;refine xquou_nn (by omega) (by omega) (by omega) ?_)|(with_reducible refine isUr ?_;refine xremu_nn (by omega) (by omega) ?_)|(with_reducible refine isK ?_;first|refine xcv_u32 (by omega) (by omega) ?_|refine xcv_u32m ?_|refine xcv_u64 (by omega) (by omega) ?_|refine xcv_u64m ?_)|(with_reducible refine isS ?_;refine xshr_32 ?_));conv=>whnf)|((with_reducible refine isW ?_;first|refine xwr_ok (by omega) (by omega) ?_|refine xwr_raw ?_);conv=>whnf)|((with_reducible refine isQ ?_;first|refine xquo_nn (by omega) (by omega) (by omega) ?_|refine xquo_ok (by omega) (by omega) (by omega) ?_|refine xquo_raw (by omega) ?_);conv=>whnf)|((with_reducible refine isR ?_;first|refine xrem_nn (by omega) (by omega) ?_|refine xrem_raw (by omega) ?_);conv=>whnf)|((with_reducible refine isK ?_;first|refine xcv_i64 (by omega) (by omega) ?_|refine xcv_u64 (by omega) (by omega) ?_|refine xcv_u8 (by omega) (by omega) ?_|refine xcv_raw ?_);conv=>whnf)|((with_reducible refine need_i ?_ ?_)<;>first|omega|conv=>whnf)|with_reducible exact rfl|((with_reducible first|refine xif_kt (by assumption) ?_|refine xif_kf (by assumption) ?_);conv=>whnf)|((with_reducible refine xif_s ?_ ?_)<;>(intro hb;(try simp (disch:=omega) only [hbS] at hb)<;>conv=>whnf)))
        all_goals try (exfalso; omega)
        refine ValX_toS [b] rfl Tryd.underlying22 Tryd.underlying5 Tryd.underlying9 rfl (ArgSl.byte1 2 b (by omega) rfl) (row_spot 2 rfl) ?_
        (conv=>whnf);repeat' (first|((with_reducible refine isV ?_);first|(refine ValX_sAdd rfl (by simp only [List.length_cons, List.length_nil]; omega) ?_; conv => whnf))|((with_reducible refine isO ?_);first|((first|(refine OpX_build0 tabOk rfl rfl rfl ?_);intro bN|(refine OpX_build tabOk rfl rfl rfl rfl rfl ?_);intro bN);conv=>whnf))|((first|(with_reducible refine isU ?_;first|refine xwru_64 (by omega) (by omega) ?_|refine xwru_32 (by omega) (by omega) ?_|refine xwru_64m ?_|refine xwru_32m ?_)|(with_reducible refine isUq ?_;refine xquou_nn (by omega) (by omega) (by omega) ?_)|(with_reducible refine isUr ?_;refine xremu_nn (by omega) (by omega) ?_)|(with_reducible refine isK ?_;first|refine xcv_u32 (by omega) (by omega) ?_|refine xcv_u32m ?_|refine xcv_u64 (by omega) (by omega) ?_|refine xcv_u64m ?_)|(with_reducible refine isS ?_;refine xshr_32 ?_));conv=>whnf)|((with_reducible refine isW ?_;first|refine xwr_ok (by omega) (by omega) ?_|refine xwr_raw ?_);conv=>whnf)|((with_reducible refine isQ ?_;first|refine xquo_nn (by omega) (by omega) (by omega) ?_|refine xquo_ok (by omega) (by omega) (by omega) ?_|refine xquo_raw (by omega) ?_);conv=>whnf)|((with_reducible refine isR ?_;first|refine xrem_nn (by omega) (by omega) ?_|refine xrem_raw (by omega) ?_);conv=>whnf)|((with_reducible refine isK ?_;first|refine xcv_i64 (by omega) (by omega) ?_|refine xcv_u64 (by omega) (by omega) ?_|refine xcv_u8 (by omega) (by omega) ?_|refine xcv_raw ?_);conv=>whnf)|((with_reducible refine need_i ?_ ?_)<;>first|omega|conv=>whnf)|with_reducible exact rfl|((with_reducible first|refine xif_kt (by assumption) ?_|refine xif_kf (by assumption) ?_);conv=>whnf)|((with_reducible refine xif_s ?_ ?_)<;>(intro hb;(try simp (disch:=omega) only [hbS] at hb)<;>conv=>whnf)))
        all_goals try (exfalso; omega)
        refine CallX_m (trimV_m _ _ _ _ (x / 10) ?_) [] rfl trivial (by decide) (fun σ fp w' hm => ⟨ArgN.row 1 rfl (m := 0) (fun j hj => by omega) σ fp w' hm, row_capN 1 rfl σ fp w' hm⟩) ?_
        rotate_left
        · intro q
          obtain ⟨A3, c3⟩ := q
          dsimp only
          (conv=>whnf);repeat' (first|((with_reducible refine isO ?_);first|((first|(refine OpX_build0 tabOk rfl rfl rfl ?_);intro bN|(refine OpX_build tabOk rfl rfl rfl rfl rfl ?_);intro bN);conv=>whnf))|((first|(with_reducible refine isU ?_;first|refine xwru_64 (by omega) (by omega) ?_|refine xwru_32 (by omega) (by omega) ?_|refine xwru_64m ?_|refine xwru_32m ?_)|(with_reducible refine isUq ?_;refine xquou_nn (by omega) (by omega) (by omega) ?_)|(with_reducible refine isUr ?_;refine xremu_nn (by omega) (by omega) ?_)|(with_reducible refine isK ?_;first|refine xcv_u32 (by omega) (by omega) ?_|refine xcv_u32m ?_|refine xcv_u64 (by omega) (by omega) ?_|refine xcv_u64m ?_)|(with_reducible refine isS ?_;refine xshr_32 ?_));conv=>whnf)|((with_reducible refine isW ?_;first|refine xwr_ok (by omega) (by omega) ?_|refine xwr_raw ?_);conv=>whnf)|((with_reducible refine isQ ?_;first|refine xquo_nn (by omega) (by omega) (by omega) ?_|refine xquo_ok (by omega) (by omega) (by omega) ?_|refine xquo_raw (by omega) ?_);conv=>whnf)|((with_reducible refine isR ?_;first|refine xrem_nn (by omega) (by omega) ?_|refine xrem_raw (by omega) ?_);conv=>whnf)|((with_reducible refine isK ?_;first|refine xcv_i64 (by omega) (by omega) ?_|refine xcv_u64 (by omega) (by omega) ?_|refine xcv_u8 (by omega) (by omega) ?_|refine xcv_raw ?_);conv=>whnf)|((with_reducible refine need_i ?_ ?_)<;>first|omega|conv=>whnf)|with_reducible exact rfl|((with_reducible first|refine xif_kt (by assumption) ?_|refine xif_kf (by assumption) ?_);conv=>whnf)|((with_reducible refine xif_s ?_ ?_)<;>(intro hb;(try simp (disch:=omega) only [hbS] at hb)<;>conv=>whnf)))
          refine ⟨(x / 10, b :: acc, A3, c3), [0, 3], hnx, ?_, by (try dsimp only); omega⟩
          ((refine ⟨?_, ?_, ?_, ?_⟩) <;> (repeat' ((conv => whnf); apply And.intro)) <;> (try (first | exact trivial | decide)))
          all_goals first | rfl | exact fun _ _ h => h | (simp [SV.wf, SV.wfs]; done) | trace_state
        · exact wN_tr (by omega) (by omega) (by omega) (by omega)
end Go.Proofs.YtadichckbogcjaaDoor.En
