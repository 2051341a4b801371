/- The reference's integers: Parse. -/
import Derived.Test.YtadichckbogcjaaDoorNg
set_option linter.all false
namespace Go.Proofs.YtadichckbogcjaaDoor.En
open Go.RowKit
set_option maxRecDepth 100000

theorem ValX_sIdxN {C : Ctx} {ob : List OB} {k : SV → Prop} {o : Oper} {x y : Operand} {t : TypeId} {a : List UInt8} {i : Nat} (ho : o.op = .index t x y) (ht : C.P.underlying t = some .string) (h1 : i < a.length) (hk : k (.v (.int .u8 ((a.getD i 0).toNat : Nat)))) : ValX C o [S a, I (i : Int)] ob k := by
  refine ValX_sIdx ho ht (by omega) (by omega) ?_
  rwa [Int.toNat_natCast]
theorem xcv_d8 {c : Int} {k : Int → Prop} (h1 : 48 ≤ c) (h2 : c ≤ 57) (h : k (c - 48)) : xcv .u64 (IntKind.u8.wrap (c - 48)) k := by
  refine ⟨?_⟩
  rwa [show IntKind.u64.wrap (IntKind.u8.wrap (c - 48)) = c - 48 by unfold IntKind.wrap; simp [IntKind.bits, IntKind.signed]; omega]
theorem ValX_sNe {C : Ctx} {ob : List OB} {k : SV → Prop} {o : Oper} {x y : Operand} {t t' : TypeId} {a b : List UInt8} {r : Bool} (ho : o.op = .binOp .neq t x y t') (ht : C.P.underlying t = some .string) (hr : decide (a ≠ b) = r) (hk : k (.v (.bool r))) : ValX C o [S a, S b] ob k := by
  subst hr
  unfold ValX
  intro σ fp w ρ hm hx
  rw [ho] at hx
  simp [Op.operands, SV.vals, SV.val] at hx
  refine ⟨_, hk, ?_, by simp [SV.wf, SV.wfs]⟩
  have hc : (binOp .neq t (.string ⟨a.toArray⟩) (.string ⟨b.toArray⟩)).run C.P w = .ok (.bool (decide (a ≠ b))) w := by
    rw [binOp_string_neq, ByteArray.toList_mk, ByteArray.toList_mk]
    show Result.ok (Value.bool (a != b)) w = _
    congr 2
    by_cases e : a = b <;> simp [e]
  have hq : (eqGuard .neq t x y (.string ⟨a.toArray⟩) (.string ⟨b.toArray⟩)).run C.P w = .ok () w := by
    unfold eqGuard
    rfl
  simp only [execOp, ho, hx.1, hx.2, Sem.run_bind, hq, hc, Result.andThen_ok, Sem.run_pure]
  rfl
theorem wN_1m {v : Int} (h0 : 0 < v) (h : v < 4294967296) : wN v = [v % 4294967296] := by
  rw [wN_1 h0 h, show v % 4294967296 = v by omega]
theorem wN_2m {a b v : Int} (h1 : 0 ≤ a) (h2 : a < 4294967296) (h3 : 0 < b) (hv : a + 4294967296 * b = v) : wN v = [a, b] := by
  rw [wN_2 (by omega), show v % 4294967296 = a by omega, show v / 4294967296 = b by omega]
theorem wN_dec {v : Int} (h : 0 ≤ v) : decide (0 < (wN v).length) = decide (v ≠ 0) := by
  by_cases h0 : v = 0
  · subst h0
    rfl
  · rw [decide_eq_true (wN_pos (by omega)), decide_eq_true h0]
/-- what Parse reads: the sign, the magnitude -/
def prF (s : List UInt8) : Option (Bool × Int) :=
  (vD 0 (s.drop (if s.head? = some 45 then 1 else 0))).bind fun v =>
    if txt (decide (s.head? = some 45) && decide (v ≠ 0)) v = s then some (decide (s.head? = some 45) && decide (v ≠ 0), v) else none
def prN (s : List UInt8) : Bool × Int := (prF s).getD (false, 0)
def prE (s : List UInt8) : Int := if (prF s).isSome then 0 else 3
theorem pr_some {s : List UInt8} {x : Bool × Int} (h : prF s = some x) : prN s = x ∧ prE s = 0 := by simp [prN, prE, h]
theorem pr_none {s : List UInt8} (h : prF s = none) : prN s = (false, 0) ∧ prE s = 3 := by simp [prN, prE, h]
theorem vD_next {l : List UInt8} {k : Nat} {v : Int} (hk : k < l.length) (h : vD 0 (l.take k) = some v) : vD 0 (l.take (k + 1)) = if 48 ≤ (l.getD k 0).toNat ∧ (l.getD k 0).toNat ≤ 57 then some (v * 10 + (((l.getD k 0).toNat : Int) - 48)) else none := by
  rw [List.take_succ_eq_append_getElem hk, vD_append, h]
  simp only [Option.bind_some, vD]
  simp [hk]
theorem vD_stop {l : List UInt8} {k : Nat} (h : vD 0 (l.take k) = none) : vD 0 l = none := by
  conv => lhs; rw [← List.take_append_drop k l]
  rw [vD_append, h]
  rfl
/-- in Parse's loop: the digits that are read -/
def paJ (d : List UInt8) (k : Nat) (v : Int) : Prop := k ≤ d.length ∧ vD 0 (d.take k) = some v ∧ 0 ≤ v ∧ v < 10 ^ k
theorem paJ_next {d : List UInt8} {k : Nat} {v : Int} (h : paJ d k v) (hk : k < d.length) (h1 : 48 ≤ (d.getD k 0).toNat ∧ (d.getD k 0).toNat ≤ 57) : paJ d (k + 1) (v * 10 + (((d.getD k 0).toNat : Int) - 48)) := by
  obtain ⟨_, a, b, c⟩ := h
  refine ⟨by omega, ?_, by omega, ?_⟩
  · rw [vD_next hk a, if_pos h1]
  · rw [Int.pow_succ]
    omega
theorem pow17 {k : Nat} (h : k ≤ 17) : (10 : Int) ^ k ≤ 100000000000000000 := by
  have h1 : (10 : Nat) ^ k ≤ 10 ^ 17 := Nat.pow_le_pow_right (by decide) h
  rw [show (10 : Nat) ^ 17 = 100000000000000000 from rfl] at h1
  rw [show (10 : Int) ^ k = ((10 ^ k : Nat) : Int) from (Int.natCast_pow 10 k).symm]
  omega
theorem pow18 {k : Nat} (h : k ≤ 18) : (10 : Int) ^ k ≤ 1000000000000000000 := by
  have h1 : (10 : Nat) ^ k ≤ 10 ^ 18 := Nat.pow_le_pow_right (by decide) h
  rw [show (10 : Nat) ^ 18 = 1000000000000000000 from rfl] at h1
  rw [show (10 : Int) ^ k = ((10 ^ k : Nat) : Int) from (Int.natCast_pow 10 k).symm]
  omega
set_option maxHeartbeats 4000000 in
theorem Parse_m (s : List UInt8) (hs : s.length ≤ 18) :
    CallM Tryd.prog 54 [S s] (fun _ _ => True) []
      (fun q : Option Addr × Nat => .t [nI (prN s).1 q.1 (wN (prN s).2).length q.2, I (prE s)]) (fun q => [.row 102 1 q.1 (wN (prN s).2).length q.2 ((wN (prN s).2).map encW)]) := by
  refine CallM.of (m := 0) Tryd.func54 rfl tabOk rfl rfl rfl rfl (by simp [SV.wfs, SV.wf]) fun w M π hpre => ?_
  by_cases hm : s.head? = some 45
  · obtain ⟨hl0, h45⟩ : 0 < s.length ∧ s.getD 0 0 = 45 := by
      cases s with
      | nil => simp at hm
      | cons x r => simp at hm; simp [hm]
    (conv=>whnf);repeat' (first|((with_reducible refine isV ?_);first|((refine ValX_sLen rfl Tryd.underlying9 ?_); conv => whnf)|((refine ValX_sIdxN (i := 0) rfl Tryd.underlying9 hl0 ?_; rw [h45]); conv => whnf))|((with_reducible refine isO ?_);first|((first|(refine OpX_build0 tabOk rfl rfl rfl ?_);intro bN|(refine OpX_build tabOk rfl rfl rfl rfl rfl ?_);intro bN);conv=>whnf))|((first|(with_reducible refine isU ?_;first|refine xwru_64 (by omega) (by omega) ?_|refine xwru_32 (by omega) (by omega) ?_|refine xwru_64m ?_|refine xwru_32m ?_)|(with_reducible refine isUq ?_;refine xquou_nn (by omega) (by omega) (by omega) ?_)|(with_reducible refine isUr ?_;refine xremu_nn (by omega) (by omega) ?_)|(with_reducible refine isK ?_;first|refine xcv_u32 (by omega) (by omega) ?_|refine xcv_u32m ?_|refine xcv_u64 (by omega) (by omega) ?_|refine xcv_u64m ?_)|(with_reducible refine isS ?_;refine xshr_32 ?_));conv=>whnf)|((with_reducible refine isW ?_;first|refine xwr_ok (by omega) (by omega) ?_|refine xwr_raw ?_);conv=>whnf)|((with_reducible refine isS ?_;refine xshr_1 ?_);conv=>whnf)|((with_reducible refine isK ?_;first|refine xcv_i64 (by omega) (by omega) ?_|refine xcv_u64 (by omega) (by omega) ?_|refine xcv_u8 (by omega) (by omega) ?_|refine xcv_raw ?_);conv=>whnf)|with_reducible exact rfl|((with_reducible first|refine xif_kt (by assumption) ?_|refine xif_kf (by assumption) ?_);conv=>whnf)|((with_reducible refine xif_s ?_ ?_)<;>(intro hb;(try simp (disch:=omega) only [hbS] at hb)<;>conv=>whnf)))
    all_goals try (exfalso; omega)
    refine LoopX_addNil 102 1 ?_
    conv => whnf
    have hF : prF s = (vD 0 (s.drop 1)).bind fun v => if txt (true && decide (v ≠ 0)) v = s then some (true && decide (v ≠ 0), v) else none := by
      unfold prF
      rw [if_pos hm, decide_eq_true hm]
    have hdl : (s.drop 1).length = s.length - 1 := List.length_drop
    have hdg : ∀ k, (s.drop 1).getD k 0 = s.getD (k + 1) 0 := fun k => by simp [Nat.add_comm]
    generalize hd : s.drop 1 = d at *
    refine LoopX_inv tabOk (α := Nat × Int × Option Addr × Nat) (fun s => paJ d s.1 s.2.1) (fun z => [(0, S s), (2, .p 0 0), (4, .v (.slice z.2.2.1 (wN z.2.1).length z.2.2.2)), (5, I 1), (6, I ((z.1 + 1 : Nat) : Int))])
      (fun z => [.box 79 [B false, .v (.slice none 0 0)], .row 102 1 z.2.2.1 (wN z.2.1).length z.2.2.2 ((wN z.2.1).map encW)]) (fun z => d.length - z.1) (0, 0, none, 0) [0, 1] ⟨Nat.zero_le _, rfl, Int.le_refl _, by decide⟩ ?_ ?_
    · ((refine ⟨?_, ?_, ?_, ?_⟩) <;> (repeat' ((conv => whnf); apply And.intro)) <;> (try (first | exact trivial | decide)))
      all_goals first | rfl | exact fun _ _ h => h | (simp [SV.wf, SV.wfs]; done) | trace_state
    · rintro ⟨k, v, A, c⟩ hj
      dsimp only at hj ⊢
      have hkl := hj.1
      have hv0 := hj.2.2.1
      by_cases hlt : k < d.length
      · have hdk := hdg k
        have hpk := pow17 (k := k) (by omega)
        have hvb := hj.2.2.2
        have hnd := vD_next hlt hj.2.1
        obtain ⟨ch, hch⟩ : ∃ ch, s.getD (k + 1) 0 = ch := ⟨_, rfl⟩
        have hnx := paJ_next hj hlt
        rw [hdk, hch] at hnx hnd
        have hix : ((k + 1 : Nat) : Int) < s.length := by omega
        by_cases hdig : 48 ≤ ch.toNat ∧ ch.toNat ≤ 57
        · replace hnx := hnx hdig
          obtain ⟨hg1, hg2⟩ := hdig
          have hv2 : v < 100000000000000000 := by omega
          clear hnd hj hvb hpk hF
          have hdv : ∀ x : Int, x = v * 10 + ((ch.toNat : Int) - 48) → paJ d (k + 1) x := fun x hx => hx ▸ hnx
          clear hnx
          by_cases hz : v = 0
          · subst hz
            rw [show (wN 0).length = 0 from rfl, show (wN 0).map encW = [] from rfl]
            (conv=>whnf);repeat' (first|((with_reducible refine isK ?_; refine xcv_d8 (by omega) (by omega) ?_); conv => whnf)|((with_reducible refine isV ?_);first|((refine ValX_sLen rfl Tryd.underlying9 ?_); conv => whnf)|((refine ValX_sIdxN rfl Tryd.underlying9 (by omega) ?_; rw [hch]); conv => whnf))|((with_reducible refine isO ?_);first|((first|(refine OpX_build0 tabOk rfl rfl rfl ?_);intro bN|(refine OpX_build tabOk rfl rfl rfl rfl rfl ?_);intro bN);conv=>whnf))|((first|(with_reducible refine isU ?_;first|refine xwru_64 (by omega) (by omega) ?_|refine xwru_32 (by omega) (by omega) ?_|refine xwru_64m ?_|refine xwru_32m ?_)|(with_reducible refine isUq ?_;refine xquou_nn (by omega) (by omega) (by omega) ?_)|(with_reducible refine isUr ?_;refine xremu_nn (by omega) (by omega) ?_)|(with_reducible refine isK ?_;first|refine xcv_u32 (by omega) (by omega) ?_|refine xcv_u32m ?_|refine xcv_u64 (by omega) (by omega) ?_|refine xcv_u64m ?_)|(with_reducible refine isS ?_;refine xshr_32 ?_));conv=>whnf)|((with_reducible refine isW ?_;first|refine xwr_ok (by omega) (by omega) ?_|refine xwr_raw ?_);conv=>whnf)|((with_reducible refine isS ?_;refine xshr_1 ?_);conv=>whnf)|((with_reducible refine isK ?_;first|refine xcv_i64 (by omega) (by omega) ?_|refine xcv_u64 (by omega) (by omega) ?_|refine xcv_u8 (by omega) (by omega) ?_|refine xcv_raw ?_);conv=>whnf)|with_reducible exact rfl|((with_reducible first|refine xif_kt (by assumption) ?_|refine xif_kf (by assumption) ?_);conv=>whnf)|((with_reducible refine xif_s ?_ ?_)<;>(intro hb;(try simp (disch:=omega) only [hbS] at hb)<;>conv=>whnf)))
            all_goals try (exfalso; omega)
            refine LoopX_n 1 tabOk ?_
            (conv=>whnf);repeat' (first|((with_reducible refine isO ?_);first|((refine OpX_append 1 tabOk rfl rfl rfl rfl (ArgSl.row 2 rfl) (by decide) ?_ ?_ ?_)<;>first|omega|(dsimp only;omega)|(intro A' c';conv=>whnf))|((first|(refine OpX_build0 tabOk rfl rfl rfl ?_);intro bN|(refine OpX_build tabOk rfl rfl rfl rfl rfl ?_);intro bN);conv=>whnf))|((first|(with_reducible refine isU ?_;first|refine xwru_64 (by omega) (by omega) ?_|refine xwru_32 (by omega) (by omega) ?_|refine xwru_64m ?_|refine xwru_32m ?_)|(with_reducible refine isUq ?_;refine xquou_nn (by omega) (by omega) (by omega) ?_)|(with_reducible refine isUr ?_;refine xremu_nn (by omega) (by omega) ?_)|(with_reducible refine isK ?_;first|refine xcv_u32 (by omega) (by omega) ?_|refine xcv_u32m ?_|refine xcv_u64 (by omega) (by omega) ?_|refine xcv_u64m ?_)|(with_reducible refine isS ?_;refine xshr_32 ?_));conv=>whnf)|((with_reducible refine isW ?_;first|refine xwr_ok (by omega) (by omega) ?_|refine xwr_raw ?_);conv=>whnf)|((with_reducible refine isS ?_;refine xshr_1 ?_);conv=>whnf)|((with_reducible refine isK ?_;first|refine xcv_i64 (by omega) (by omega) ?_|refine xcv_u64 (by omega) (by omega) ?_|refine xcv_u8 (by omega) (by omega) ?_|refine xcv_raw ?_);conv=>whnf)|with_reducible exact rfl|((with_reducible first|refine xif_kt (by assumption) ?_|refine xif_kf (by assumption) ?_);conv=>whnf)|((with_reducible refine xif_s ?_ ?_)<;>(intro hb;(try simp (disch:=omega) only [hbS] at hb)<;>conv=>whnf)))
            all_goals try (exfalso; omega)
            · refine ⟨(k + 1, (ch.toNat : Int) - 48, A', c'), [0, 1], hdv ((ch.toNat : Int) - 48) (by omega), ?_, by (try dsimp only); omega⟩
              dsimp only
              rw [wN_1 (by omega) (by omega)]
              ((refine ⟨?_, ?_, ?_, ?_⟩) <;> (repeat' ((conv => whnf); apply And.intro)) <;> (try (first | exact trivial | decide)))
              all_goals first | rfl | exact fun _ _ h => h | (simp [SV.wf, SV.wfs]; done) | trace_state
            · refine ⟨(k + 1, 0, A, c), [0, 1], hdv 0 (by omega), ?_, by (try dsimp only); omega⟩
              dsimp only
              rw [wN_0]
              ((refine ⟨?_, ?_, ?_, ?_⟩) <;> (repeat' ((conv => whnf); apply And.intro)) <;> (try (first | exact trivial | decide)))
              all_goals first | rfl | exact fun _ _ h => h | (simp [SV.wf, SV.wfs]; done) | trace_state
          · by_cases h32 : v < 4294967296
            · rw [show (wN v).length = 1 by rw [wN_1 (by omega) h32]; rfl, show (wN v).map encW = [[.int .u32 v]] by rw [wN_1 (by omega) h32]; rfl]
              (conv=>whnf);repeat' (first|((with_reducible refine isK ?_; refine xcv_d8 (by omega) (by omega) ?_); conv => whnf)|((with_reducible refine isV ?_);first|((refine ValX_sLen rfl Tryd.underlying9 ?_); conv => whnf)|((refine ValX_sIdxN rfl Tryd.underlying9 (by omega) ?_; rw [hch]); conv => whnf))|((with_reducible refine isO ?_);first|((first|(refine OpX_build0 tabOk rfl rfl rfl ?_);intro bN|(refine OpX_build tabOk rfl rfl rfl rfl rfl ?_);intro bN);conv=>whnf))|((first|(with_reducible refine isU ?_;first|refine xwru_64 (by omega) (by omega) ?_|refine xwru_32 (by omega) (by omega) ?_|refine xwru_64m ?_|refine xwru_32m ?_)|(with_reducible refine isUq ?_;refine xquou_nn (by omega) (by omega) (by omega) ?_)|(with_reducible refine isUr ?_;refine xremu_nn (by omega) (by omega) ?_)|(with_reducible refine isK ?_;first|refine xcv_u32 (by omega) (by omega) ?_|refine xcv_u32m ?_|refine xcv_u64 (by omega) (by omega) ?_|refine xcv_u64m ?_)|(with_reducible refine isS ?_;refine xshr_32 ?_));conv=>whnf)|((with_reducible refine isW ?_;first|refine xwr_ok (by omega) (by omega) ?_|refine xwr_raw ?_);conv=>whnf)|((with_reducible refine isS ?_;refine xshr_1 ?_);conv=>whnf)|((with_reducible refine isK ?_;first|refine xcv_i64 (by omega) (by omega) ?_|refine xcv_u64 (by omega) (by omega) ?_|refine xcv_u8 (by omega) (by omega) ?_|refine xcv_raw ?_);conv=>whnf)|with_reducible exact rfl|((with_reducible first|refine xif_kt (by assumption) ?_|refine xif_kf (by assumption) ?_);conv=>whnf)|((with_reducible refine xif_s ?_ ?_)<;>(intro hb;(try simp (disch:=omega) only [hbS] at hb)<;>conv=>whnf)))
              all_goals try (exfalso; omega)
              refine LoopX_n 2 tabOk ?_
              (conv=>whnf);repeat' (first|((with_reducible refine isV ?_);first|(refine ValX_loadL _ tabOk rfl rfl rfl (ArgSl.row 1 rfl) (by decide) rfl ?_; conv => whnf)|((refine ValX_index tabOk rfl (ArgSl.row 1 rfl) rfl ?_ ?_ ?_) <;> first | omega | (conv => whnf)))|((with_reducible refine isO ?_);first|((refine OpX_store 1 tabOk rfl rfl rfl rfl rfl rfl ?_ ?_)<;>first|omega|with_reducible refine isP ?_|conv=>whnf)|((refine OpX_append 1 tabOk rfl rfl rfl rfl (ArgSl.row 2 rfl) (by decide) ?_ ?_ ?_)<;>first|omega|(dsimp only;omega)|(intro A' c';conv=>whnf))|((first|(refine OpX_build0 tabOk rfl rfl rfl ?_);intro bN|(refine OpX_build tabOk rfl rfl rfl rfl rfl ?_);intro bN);conv=>whnf))|((first|(with_reducible refine isU ?_;first|refine xwru_64 (by omega) (by omega) ?_|refine xwru_32 (by omega) (by omega) ?_|refine xwru_64m ?_|refine xwru_32m ?_)|(with_reducible refine isUq ?_;refine xquou_nn (by omega) (by omega) (by omega) ?_)|(with_reducible refine isUr ?_;refine xremu_nn (by omega) (by omega) ?_)|(with_reducible refine isK ?_;first|refine xcv_u32 (by omega) (by omega) ?_|refine xcv_u32m ?_|refine xcv_u64 (by omega) (by omega) ?_|refine xcv_u64m ?_)|(with_reducible refine isS ?_;refine xshr_32 ?_));conv=>whnf)|((with_reducible refine isW ?_;first|refine xwr_ok (by omega) (by omega) ?_|refine xwr_raw ?_);conv=>whnf)|((with_reducible refine isS ?_;refine xshr_1 ?_);conv=>whnf)|((with_reducible refine isK ?_;first|refine xcv_i64 (by omega) (by omega) ?_|refine xcv_u64 (by omega) (by omega) ?_|refine xcv_u8 (by omega) (by omega) ?_|refine xcv_raw ?_);conv=>whnf)|with_reducible exact rfl|((with_reducible first|refine xif_kt (by assumption) ?_|refine xif_kf (by assumption) ?_);conv=>whnf)|((with_reducible refine xif_s ?_ ?_)<;>(intro hb;(try simp (disch:=omega) only [hbS] at hb)<;>conv=>whnf)))
              all_goals try (exfalso; omega)
              · refine ⟨(k + 1, (ch.toNat : Int) - 48 + v * 10, A', c'), [0, 1], hdv ((ch.toNat : Int) - 48 + v * 10) (by omega), ?_, by (try dsimp only); omega⟩
                dsimp only
                rw [wN_2 (by omega)]
                ((refine ⟨?_, ?_, ?_, ?_⟩) <;> (repeat' ((conv => whnf); apply And.intro)) <;> (try (first | exact trivial | decide)))
                all_goals first | rfl | exact fun _ _ h => h | (simp [SV.wf, SV.wfs]; done) | trace_state
              · refine ⟨(k + 1, (ch.toNat : Int) - 48 + v * 10, A, c), [0, 1], hdv ((ch.toNat : Int) - 48 + v * 10) (by omega), ?_, by (try dsimp only); omega⟩
                dsimp only
                rw [wN_1m (by omega) (by omega)]
                ((refine ⟨?_, ?_, ?_, ?_⟩) <;> (repeat' ((conv => whnf); apply And.intro)) <;> (try (first | exact trivial | decide)))
                all_goals first | rfl | exact fun _ _ h => h | (simp [SV.wf, SV.wfs]; done) | trace_state
            · rw [show (wN v).length = 2 by rw [wN_2 (by omega)]; rfl, show (wN v).map encW = [[.int .u32 (v % 4294967296)], [.int .u32 (v / 4294967296)]] by rw [wN_2 (by omega)]; rfl]
              (conv=>whnf);repeat' (first|((with_reducible refine isK ?_; refine xcv_d8 (by omega) (by omega) ?_); conv => whnf)|((with_reducible refine isV ?_);first|((refine ValX_sLen rfl Tryd.underlying9 ?_); conv => whnf)|((refine ValX_sIdxN rfl Tryd.underlying9 (by omega) ?_; rw [hch]); conv => whnf))|((with_reducible refine isO ?_);first|((first|(refine OpX_build0 tabOk rfl rfl rfl ?_);intro bN|(refine OpX_build tabOk rfl rfl rfl rfl rfl ?_);intro bN);conv=>whnf))|((first|(with_reducible refine isU ?_;first|refine xwru_64 (by omega) (by omega) ?_|refine xwru_32 (by omega) (by omega) ?_|refine xwru_64m ?_|refine xwru_32m ?_)|(with_reducible refine isUq ?_;refine xquou_nn (by omega) (by omega) (by omega) ?_)|(with_reducible refine isUr ?_;refine xremu_nn (by omega) (by omega) ?_)|(with_reducible refine isK ?_;first|refine xcv_u32 (by omega) (by omega) ?_|refine xcv_u32m ?_|refine xcv_u64 (by omega) (by omega) ?_|refine xcv_u64m ?_)|(with_reducible refine isS ?_;refine xshr_32 ?_));conv=>whnf)|((with_reducible refine isW ?_;first|refine xwr_ok (by omega) (by omega) ?_|refine xwr_raw ?_);conv=>whnf)|((with_reducible refine isS ?_;refine xshr_1 ?_);conv=>whnf)|((with_reducible refine isK ?_;first|refine xcv_i64 (by omega) (by omega) ?_|refine xcv_u64 (by omega) (by omega) ?_|refine xcv_u8 (by omega) (by omega) ?_|refine xcv_raw ?_);conv=>whnf)|with_reducible exact rfl|((with_reducible first|refine xif_kt (by assumption) ?_|refine xif_kf (by assumption) ?_);conv=>whnf)|((with_reducible refine xif_s ?_ ?_)<;>(intro hb;(try simp (disch:=omega) only [hbS] at hb)<;>conv=>whnf)))
              all_goals try (exfalso; omega)
              refine LoopX_n 3 tabOk ?_
              (conv=>whnf);repeat' (first|((with_reducible refine isV ?_);first|(refine ValX_loadL _ tabOk rfl rfl rfl (ArgSl.row 1 rfl) (by decide) rfl ?_; conv => whnf)|((refine ValX_index tabOk rfl (ArgSl.row 1 rfl) rfl ?_ ?_ ?_) <;> first | omega | (conv => whnf)))|((with_reducible refine isO ?_);first|((refine OpX_store 1 tabOk rfl rfl rfl rfl rfl rfl ?_ ?_)<;>first|omega|with_reducible refine isP ?_|conv=>whnf)|((refine OpX_append 1 tabOk rfl rfl rfl rfl (ArgSl.row 2 rfl) (by decide) ?_ ?_ ?_)<;>first|omega|(dsimp only;omega)|(intro A' c';conv=>whnf))|((first|(refine OpX_build0 tabOk rfl rfl rfl ?_);intro bN|(refine OpX_build tabOk rfl rfl rfl rfl rfl ?_);intro bN);conv=>whnf))|((first|(with_reducible refine isU ?_;first|refine xwru_64 (by omega) (by omega) ?_|refine xwru_32 (by omega) (by omega) ?_|refine xwru_64m ?_|refine xwru_32m ?_)|(with_reducible refine isUq ?_;refine xquou_nn (by omega) (by omega) (by omega) ?_)|(with_reducible refine isUr ?_;refine xremu_nn (by omega) (by omega) ?_)|(with_reducible refine isK ?_;first|refine xcv_u32 (by omega) (by omega) ?_|refine xcv_u32m ?_|refine xcv_u64 (by omega) (by omega) ?_|refine xcv_u64m ?_)|(with_reducible refine isS ?_;refine xshr_32 ?_));conv=>whnf)|((with_reducible refine isW ?_;first|refine xwr_ok (by omega) (by omega) ?_|refine xwr_raw ?_);conv=>whnf)|((with_reducible refine isS ?_;refine xshr_1 ?_);conv=>whnf)|((with_reducible refine isK ?_;first|refine xcv_i64 (by omega) (by omega) ?_|refine xcv_u64 (by omega) (by omega) ?_|refine xcv_u8 (by omega) (by omega) ?_|refine xcv_raw ?_);conv=>whnf)|with_reducible exact rfl|((with_reducible first|refine xif_kt (by assumption) ?_|refine xif_kf (by assumption) ?_);conv=>whnf)|((with_reducible refine xif_s ?_ ?_)<;>(intro hb;(try simp (disch:=omega) only [hbS] at hb)<;>conv=>whnf)))
              all_goals try (exfalso; omega)
              refine ⟨(k + 1, v * 10 + ((ch.toNat : Int) - 48), A, c), [0, 1], hdv _ rfl, ?_, by (try dsimp only); omega⟩
              dsimp only
              rw [wN_2m (a := ((ch.toNat : Int) - 48 + v % 4294967296 * 10) % 4294967296) (b := ((ch.toNat : Int) - 48 + v % 4294967296 * 10) / 4294967296 + v / 4294967296 * 10) (by omega) (by omega) (by omega) (by omega)]
              ((refine ⟨?_, ?_, ?_, ?_⟩) <;> (repeat' ((conv => whnf); apply And.intro)) <;> (try (first | exact trivial | decide)))
              all_goals first | rfl | exact fun _ _ h => h | (simp [SV.wf, SV.wfs]; done) | trace_state
        · rw [if_neg hdig] at hnd
          have hnone : prF s = none := by
            rw [hF, vD_stop hnd]
            rfl
          obtain ⟨e1, e2⟩ := pr_none hnone
          rw [e1, e2]
          clear hnd hj hF hnone
          (conv=>whnf);repeat' (first|((with_reducible refine isV ?_);first|((refine ValX_sLen rfl Tryd.underlying9 ?_); conv => whnf)|((refine ValX_sIdxN rfl Tryd.underlying9 (by omega) ?_; rw [hch]); conv => whnf))|((with_reducible refine isO ?_);first|((first|(refine OpX_build0 tabOk rfl rfl rfl ?_);intro bN|(refine OpX_build tabOk rfl rfl rfl rfl rfl ?_);intro bN);conv=>whnf))|((first|(with_reducible refine isU ?_;first|refine xwru_64 (by omega) (by omega) ?_|refine xwru_32 (by omega) (by omega) ?_|refine xwru_64m ?_|refine xwru_32m ?_)|(with_reducible refine isUq ?_;refine xquou_nn (by omega) (by omega) (by omega) ?_)|(with_reducible refine isUr ?_;refine xremu_nn (by omega) (by omega) ?_)|(with_reducible refine isK ?_;first|refine xcv_u32 (by omega) (by omega) ?_|refine xcv_u32m ?_|refine xcv_u64 (by omega) (by omega) ?_|refine xcv_u64m ?_)|(with_reducible refine isS ?_;refine xshr_32 ?_));conv=>whnf)|((with_reducible refine isW ?_;first|refine xwr_ok (by omega) (by omega) ?_|refine xwr_raw ?_);conv=>whnf)|((with_reducible refine isS ?_;refine xshr_1 ?_);conv=>whnf)|((with_reducible refine isK ?_;first|refine xcv_i64 (by omega) (by omega) ?_|refine xcv_u64 (by omega) (by omega) ?_|refine xcv_u8 (by omega) (by omega) ?_|refine xcv_raw ?_);conv=>whnf)|with_reducible exact rfl|((with_reducible first|refine xif_kt (by assumption) ?_|refine xif_kf (by assumption) ?_);conv=>whnf)|((with_reducible refine xif_s ?_ ?_)<;>(intro hb;(try simp (disch:=omega) only [hbS] at hb)<;>conv=>whnf)))
          all_goals try (exfalso; omega)
          all_goals
            refine Fin_addNil 102 1 ?_
            exact Fin_m (none, 0) [2] ⟨rfl, by simp [SV.wf, SV.wfs]⟩ ⟨⟨rfl, rfl, rfl, rfl, rfl, rfl⟩, trivial⟩ (by decide) rfl
      · obtain rfl : k = d.length := by omega
        have hb18 := pow18 (k := d.length) (by omega)
        obtain ⟨_, hvd, _, hvb⟩ := hj
        rw [List.take_length] at hvd
        have hF2 : prF s = if txt (true && decide (v ≠ 0)) v = s then some (true && decide (v ≠ 0), v) else none := by
          rw [hF, hvd]
          rfl
        have kn := Norm_m true A c (wN v) rfl (by have := wN_len v; omega)
        rw [wN_trim hv0, wN_dec hv0] at kn
        have kx := fun A' c' => Text_m (true && decide (v ≠ 0)) A' c' v hv0 (by omega) rfl
        clear hF hvd hdg
        generalize (true && decide (v ≠ 0)) = N at *
        by_cases ht : txt N v = s
        · rw [if_pos ht] at hF2
          obtain ⟨e1, e2⟩ := pr_some hF2
          rw [e1, e2]
          dsimp only
          (conv=>whnf);repeat' (first|((with_reducible refine isC ?_);first|((first|(with_reducible refine isF 75 ?_);((refine CallX_m kn [] rfl trivial (by decide) (fun σ fp w' hm => ⟨ArgN.row 1 rfl (m := 0) (fun j hj => by omega) σ fp w' hm, row_capN 1 rfl σ fp w' hm⟩) ?_; intro q; obtain ⟨A1, c1⟩ := q; dsimp only))|(with_reducible refine isF 52 ?_);((refine CallX_m (kx A1 c1) [] rfl trivial (by decide) (fun σ fp w' hm => ⟨ArgN.row 2 rfl (m := 0) (fun j hj => by omega) σ fp w' hm, row_capN 2 rfl σ fp w' hm⟩) ?_; intro q2)));conv=>whnf))|((with_reducible refine isV ?_);first|((refine ValX_sLen rfl Tryd.underlying9 ?_); conv => whnf)|(refine ValX_sNe (r := false) rfl Tryd.underlying9 (by simp [ht]) ?_; conv => whnf))|((with_reducible refine isO ?_);first|((first|(refine OpX_build0 tabOk rfl rfl rfl ?_);intro bN|(refine OpX_build tabOk rfl rfl rfl rfl rfl ?_);intro bN);conv=>whnf))|((first|(with_reducible refine isU ?_;first|refine xwru_64 (by omega) (by omega) ?_|refine xwru_32 (by omega) (by omega) ?_|refine xwru_64m ?_|refine xwru_32m ?_)|(with_reducible refine isUq ?_;refine xquou_nn (by omega) (by omega) (by omega) ?_)|(with_reducible refine isUr ?_;refine xremu_nn (by omega) (by omega) ?_)|(with_reducible refine isK ?_;first|refine xcv_u32 (by omega) (by omega) ?_|refine xcv_u32m ?_|refine xcv_u64 (by omega) (by omega) ?_|refine xcv_u64m ?_)|(with_reducible refine isS ?_;refine xshr_32 ?_));conv=>whnf)|((with_reducible refine isW ?_;first|refine xwr_ok (by omega) (by omega) ?_|refine xwr_raw ?_);conv=>whnf)|((with_reducible refine isS ?_;refine xshr_1 ?_);conv=>whnf)|((with_reducible refine isK ?_;first|refine xcv_i64 (by omega) (by omega) ?_|refine xcv_u64 (by omega) (by omega) ?_|refine xcv_u8 (by omega) (by omega) ?_|refine xcv_raw ?_);conv=>whnf)|with_reducible exact rfl|((with_reducible first|refine xif_kt (by assumption) ?_|refine xif_kf (by assumption) ?_);conv=>whnf)|((with_reducible refine xif_s ?_ ?_)<;>(intro hb;(try simp (disch:=omega) only [hbS] at hb)<;>conv=>whnf)))
          all_goals try (exfalso; omega)
          exact Fin_m (A1, c1) [2] ⟨rfl, by simp [SV.wf, SV.wfs]⟩ ⟨⟨rfl, rfl, rfl, rfl, rfl, rfl⟩, trivial⟩ (by decide) rfl
        · rw [if_neg ht] at hF2
          obtain ⟨e1, e2⟩ := pr_none hF2
          rw [e1, e2]
          dsimp only
          (conv=>whnf);repeat' (first|((with_reducible refine isC ?_);first|((first|(with_reducible refine isF 75 ?_);((refine CallX_m kn [] rfl trivial (by decide) (fun σ fp w' hm => ⟨ArgN.row 1 rfl (m := 0) (fun j hj => by omega) σ fp w' hm, row_capN 1 rfl σ fp w' hm⟩) ?_; intro q; obtain ⟨A1, c1⟩ := q; dsimp only))|(with_reducible refine isF 52 ?_);((refine CallX_m (kx A1 c1) [] rfl trivial (by decide) (fun σ fp w' hm => ⟨ArgN.row 2 rfl (m := 0) (fun j hj => by omega) σ fp w' hm, row_capN 2 rfl σ fp w' hm⟩) ?_; intro q2)));conv=>whnf))|((with_reducible refine isV ?_);first|((refine ValX_sLen rfl Tryd.underlying9 ?_); conv => whnf)|(refine ValX_sNe (r := true) rfl Tryd.underlying9 (by simp [ht]) ?_; conv => whnf))|((with_reducible refine isO ?_);first|((first|(refine OpX_build0 tabOk rfl rfl rfl ?_);intro bN|(refine OpX_build tabOk rfl rfl rfl rfl rfl ?_);intro bN);conv=>whnf))|((first|(with_reducible refine isU ?_;first|refine xwru_64 (by omega) (by omega) ?_|refine xwru_32 (by omega) (by omega) ?_|refine xwru_64m ?_|refine xwru_32m ?_)|(with_reducible refine isUq ?_;refine xquou_nn (by omega) (by omega) (by omega) ?_)|(with_reducible refine isUr ?_;refine xremu_nn (by omega) (by omega) ?_)|(with_reducible refine isK ?_;first|refine xcv_u32 (by omega) (by omega) ?_|refine xcv_u32m ?_|refine xcv_u64 (by omega) (by omega) ?_|refine xcv_u64m ?_)|(with_reducible refine isS ?_;refine xshr_32 ?_));conv=>whnf)|((with_reducible refine isW ?_;first|refine xwr_ok (by omega) (by omega) ?_|refine xwr_raw ?_);conv=>whnf)|((with_reducible refine isS ?_;refine xshr_1 ?_);conv=>whnf)|((with_reducible refine isK ?_;first|refine xcv_i64 (by omega) (by omega) ?_|refine xcv_u64 (by omega) (by omega) ?_|refine xcv_u8 (by omega) (by omega) ?_|refine xcv_raw ?_);conv=>whnf)|with_reducible exact rfl|((with_reducible first|refine xif_kt (by assumption) ?_|refine xif_kf (by assumption) ?_);conv=>whnf)|((with_reducible refine xif_s ?_ ?_)<;>(intro hb;(try simp (disch:=omega) only [hbS] at hb)<;>conv=>whnf)))
          all_goals try (exfalso; omega)
          refine Fin_addNil 102 1 ?_
          exact Fin_m (none, 0) [4] ⟨rfl, by simp [SV.wf, SV.wfs]⟩ ⟨⟨rfl, rfl, rfl, rfl, rfl, rfl⟩, trivial⟩ (by decide) rfl
  · have h45 : ∀ hl0 : 0 < s.length, s.getD 0 0 ≠ 45 := by
      intro hl0 h
      cases s with
      | nil => simp at hl0
      | cons x r => simp at hm; simp at h; exact hm h
    have h45n : 0 < s.length → (((s.getD 0 0).toNat : Nat) : Int) ≠ 45 := fun hl0 h => h45 hl0 (by
      apply UInt8.toNat_inj.1
      have : (s.getD 0 0).toNat = 45 := by omega
      rw [this]
      rfl)
    clear h45
    by_cases hs0 : s = []
    · subst hs0
      have hF2 : prF [] = none := rfl
      obtain ⟨e1, e2⟩ := pr_none hF2
      rw [e1, e2]
      have kn := Norm_m false none 0 [] (n := 0) rfl (by decide)
      have kx := fun A' c' => Text_m false A' c' 0 (Int.le_refl _) (by decide) (n := 0) rfl
      (conv=>whnf);repeat' (first|((with_reducible refine isV ?_);first|((refine ValX_sLen rfl Tryd.underlying9 ?_); conv => whnf))|((with_reducible refine isO ?_);first|((first|(refine OpX_build0 tabOk rfl rfl rfl ?_);intro bN|(refine OpX_build tabOk rfl rfl rfl rfl rfl ?_);intro bN);conv=>whnf))|((first|(with_reducible refine isU ?_;first|refine xwru_64 (by omega) (by omega) ?_|refine xwru_32 (by omega) (by omega) ?_|refine xwru_64m ?_|refine xwru_32m ?_)|(with_reducible refine isUq ?_;refine xquou_nn (by omega) (by omega) (by omega) ?_)|(with_reducible refine isUr ?_;refine xremu_nn (by omega) (by omega) ?_)|(with_reducible refine isK ?_;first|refine xcv_u32 (by omega) (by omega) ?_|refine xcv_u32m ?_|refine xcv_u64 (by omega) (by omega) ?_|refine xcv_u64m ?_)|(with_reducible refine isS ?_;refine xshr_32 ?_));conv=>whnf)|((with_reducible refine isW ?_;first|refine xwr_ok (by omega) (by omega) ?_|refine xwr_raw ?_);conv=>whnf)|((with_reducible refine isS ?_;refine xshr_1 ?_);conv=>whnf)|((with_reducible refine isK ?_;first|refine xcv_i64 (by omega) (by omega) ?_|refine xcv_u64 (by omega) (by omega) ?_|refine xcv_u8 (by omega) (by omega) ?_|refine xcv_raw ?_);conv=>whnf)|with_reducible exact rfl|((with_reducible first|refine xif_kt (by assumption) ?_|refine xif_kf (by assumption) ?_);conv=>whnf)|((with_reducible refine xif_s ?_ ?_)<;>(intro hb;(try simp (disch:=omega) only [hbS] at hb)<;>conv=>whnf)))
      refine LoopX_addNil 102 1 ?_
      conv => whnf
      refine LoopX_n 1 tabOk ?_
      (conv=>whnf);repeat' (first|((with_reducible refine isC ?_);first|((first|(with_reducible refine isF 75 ?_);((refine CallX_m kn [] rfl trivial (by decide) (fun σ fp w' hm => ⟨ArgN.row 1 rfl (m := 0) (fun j hj => by omega) σ fp w' hm, Nat.le_refl 0⟩) ?_; intro q; obtain ⟨A1, c1⟩ := q; dsimp only))|(with_reducible refine isF 52 ?_);((refine CallX_m (kx A1 c1) [] rfl trivial (by decide) (fun σ fp w' hm => ⟨ArgN.row 2 rfl (m := 0) (fun j hj => by omega) σ fp w' hm, row_capN 2 rfl σ fp w' hm⟩) ?_; intro q2)));conv=>whnf))|((with_reducible refine isV ?_);first|((refine ValX_sLen rfl Tryd.underlying9 ?_); conv => whnf)|(refine ValX_sNe (r := true) rfl Tryd.underlying9 (by decide) ?_; conv => whnf))|((with_reducible refine isO ?_);first|((first|(refine OpX_build0 tabOk rfl rfl rfl ?_);intro bN|(refine OpX_build tabOk rfl rfl rfl rfl rfl ?_);intro bN);conv=>whnf))|((first|(with_reducible refine isU ?_;first|refine xwru_64 (by omega) (by omega) ?_|refine xwru_32 (by omega) (by omega) ?_|refine xwru_64m ?_|refine xwru_32m ?_)|(with_reducible refine isUq ?_;refine xquou_nn (by omega) (by omega) (by omega) ?_)|(with_reducible refine isUr ?_;refine xremu_nn (by omega) (by omega) ?_)|(with_reducible refine isK ?_;first|refine xcv_u32 (by omega) (by omega) ?_|refine xcv_u32m ?_|refine xcv_u64 (by omega) (by omega) ?_|refine xcv_u64m ?_)|(with_reducible refine isS ?_;refine xshr_32 ?_));conv=>whnf)|((with_reducible refine isW ?_;first|refine xwr_ok (by omega) (by omega) ?_|refine xwr_raw ?_);conv=>whnf)|((with_reducible refine isS ?_;refine xshr_1 ?_);conv=>whnf)|((with_reducible refine isK ?_;first|refine xcv_i64 (by omega) (by omega) ?_|refine xcv_u64 (by omega) (by omega) ?_|refine xcv_u8 (by omega) (by omega) ?_|refine xcv_raw ?_);conv=>whnf)|with_reducible exact rfl|((with_reducible first|refine xif_kt (by assumption) ?_|refine xif_kf (by assumption) ?_);conv=>whnf)|((with_reducible refine xif_s ?_ ?_)<;>(intro hb;(try simp (disch:=omega) only [hbS] at hb)<;>conv=>whnf)))
      refine Fin_addNil 102 1 ?_
      exact Fin_m (none, 0) [4] ⟨rfl, by simp [SV.wf, SV.wfs]⟩ ⟨⟨rfl, rfl, rfl, rfl, rfl, rfl⟩, trivial⟩ (by decide) rfl
    have hsp : 0 < s.length := by
      cases s with
      | nil => exact absurd rfl hs0
      | cons x r => simp
    (conv=>whnf);repeat' (first|((with_reducible refine isV ?_);first|((refine ValX_sLen rfl Tryd.underlying9 ?_); conv => whnf)|((refine ValX_sIdxN (i := 0) rfl Tryd.underlying9 (by omega) ?_); conv => whnf))|((with_reducible refine isO ?_);first|((first|(refine OpX_build0 tabOk rfl rfl rfl ?_);intro bN|(refine OpX_build tabOk rfl rfl rfl rfl rfl ?_);intro bN);conv=>whnf))|((first|(with_reducible refine isU ?_;first|refine xwru_64 (by omega) (by omega) ?_|refine xwru_32 (by omega) (by omega) ?_|refine xwru_64m ?_|refine xwru_32m ?_)|(with_reducible refine isUq ?_;refine xquou_nn (by omega) (by omega) (by omega) ?_)|(with_reducible refine isUr ?_;refine xremu_nn (by omega) (by omega) ?_)|(with_reducible refine isK ?_;first|refine xcv_u32 (by omega) (by omega) ?_|refine xcv_u32m ?_|refine xcv_u64 (by omega) (by omega) ?_|refine xcv_u64m ?_)|(with_reducible refine isS ?_;refine xshr_32 ?_));conv=>whnf)|((with_reducible refine isW ?_;first|refine xwr_ok (by omega) (by omega) ?_|refine xwr_raw ?_);conv=>whnf)|((with_reducible refine isS ?_;refine xshr_1 ?_);conv=>whnf)|((with_reducible refine isK ?_;first|refine xcv_i64 (by omega) (by omega) ?_|refine xcv_u64 (by omega) (by omega) ?_|refine xcv_u8 (by omega) (by omega) ?_|refine xcv_raw ?_);conv=>whnf)|with_reducible exact rfl|((with_reducible first|refine xif_kt (by assumption) ?_|refine xif_kf (by assumption) ?_);conv=>whnf)|((with_reducible refine xif_s ?_ ?_)<;>(intro hb;(try simp (disch:=omega) only [hbS] at hb)<;>conv=>whnf)))
    all_goals try (exfalso; omega)
    all_goals try (exfalso; simp only [hbS] at hb; exact h45n (by omega) hb)
    refine LoopX_addNil 102 1 ?_
    conv => whnf
    have hF : prF s = (vD 0 (s.drop 0)).bind fun v => if txt (false && decide (v ≠ 0)) v = s then some (false && decide (v ≠ 0), v) else none := by
      unfold prF
      rw [if_neg hm, decide_eq_false hm]
    have hdl : (s.drop 0).length = s.length - 0 := List.length_drop
    have hdg : ∀ k, (s.drop 0).getD k 0 = s.getD (k + 0) 0 := fun k => by simp [Nat.add_comm]
    generalize hd : s.drop 0 = d at *
    refine LoopX_inv tabOk (α := Nat × Int × Option Addr × Nat) (fun s => paJ d s.1 s.2.1) (fun z => [(0, S s), (2, .p 0 0), (4, .v (.slice z.2.2.1 (wN z.2.1).length z.2.2.2)), (5, I 0), (6, I ((z.1 + 0 : Nat) : Int))])
      (fun z => [.box 79 [B false, .v (.slice none 0 0)], .row 102 1 z.2.2.1 (wN z.2.1).length z.2.2.2 ((wN z.2.1).map encW)]) (fun z => d.length - z.1) (0, 0, none, 0) [0, 1] ⟨Nat.zero_le _, rfl, Int.le_refl _, by decide⟩ ?_ ?_
    · ((refine ⟨?_, ?_, ?_, ?_⟩) <;> (repeat' ((conv => whnf); apply And.intro)) <;> (try (first | exact trivial | decide)))
      all_goals first | rfl | exact fun _ _ h => h | (simp [SV.wf, SV.wfs]; done) | trace_state
    · rintro ⟨k, v, A, c⟩ hj
      dsimp only at hj ⊢
      have hkl := hj.1
      have hv0 := hj.2.2.1
      by_cases hlt : k < d.length
      · have hdk := hdg k
        have hpk := pow17 (k := k) (by omega)
        have hvb := hj.2.2.2
        have hnd := vD_next hlt hj.2.1
        obtain ⟨ch, hch⟩ : ∃ ch, s.getD (k + 0) 0 = ch := ⟨_, rfl⟩
        have hnx := paJ_next hj hlt
        rw [hdk, hch] at hnx hnd
        have hix : ((k + 0 : Nat) : Int) < s.length := by omega
        by_cases hdig : 48 ≤ ch.toNat ∧ ch.toNat ≤ 57
        · replace hnx := hnx hdig
          obtain ⟨hg1, hg2⟩ := hdig
          have hv2 : v < 100000000000000000 := by omega
          clear hnd hj hvb hpk hF
          have hdv : ∀ x : Int, x = v * 10 + ((ch.toNat : Int) - 48) → paJ d (k + 1) x := fun x hx => hx ▸ hnx
          clear hnx
          by_cases hz : v = 0
          · subst hz
            rw [show (wN 0).length = 0 from rfl, show (wN 0).map encW = [] from rfl]
            (conv=>whnf);repeat' (first|((with_reducible refine isK ?_; refine xcv_d8 (by omega) (by omega) ?_); conv => whnf)|((with_reducible refine isV ?_);first|((refine ValX_sLen rfl Tryd.underlying9 ?_); conv => whnf)|((refine ValX_sIdxN rfl Tryd.underlying9 (by omega) ?_; rw [hch]); conv => whnf))|((with_reducible refine isO ?_);first|((first|(refine OpX_build0 tabOk rfl rfl rfl ?_);intro bN|(refine OpX_build tabOk rfl rfl rfl rfl rfl ?_);intro bN);conv=>whnf))|((first|(with_reducible refine isU ?_;first|refine xwru_64 (by omega) (by omega) ?_|refine xwru_32 (by omega) (by omega) ?_|refine xwru_64m ?_|refine xwru_32m ?_)|(with_reducible refine isUq ?_;refine xquou_nn (by omega) (by omega) (by omega) ?_)|(with_reducible refine isUr ?_;refine xremu_nn (by omega) (by omega) ?_)|(with_reducible refine isK ?_;first|refine xcv_u32 (by omega) (by omega) ?_|refine xcv_u32m ?_|refine xcv_u64 (by omega) (by omega) ?_|refine xcv_u64m ?_)|(with_reducible refine isS ?_;refine xshr_32 ?_));conv=>whnf)|((with_reducible refine isW ?_;first|refine xwr_ok (by omega) (by omega) ?_|refine xwr_raw ?_);conv=>whnf)|((with_reducible refine isS ?_;refine xshr_1 ?_);conv=>whnf)|((with_reducible refine isK ?_;first|refine xcv_i64 (by omega) (by omega) ?_|refine xcv_u64 (by omega) (by omega) ?_|refine xcv_u8 (by omega) (by omega) ?_|refine xcv_raw ?_);conv=>whnf)|with_reducible exact rfl|((with_reducible first|refine xif_kt (by assumption) ?_|refine xif_kf (by assumption) ?_);conv=>whnf)|((with_reducible refine xif_s ?_ ?_)<;>(intro hb;(try simp (disch:=omega) only [hbS] at hb)<;>conv=>whnf)))
            all_goals try (exfalso; omega)
            refine LoopX_n 1 tabOk ?_
            (conv=>whnf);repeat' (first|((with_reducible refine isO ?_);first|((refine OpX_append 1 tabOk rfl rfl rfl rfl (ArgSl.row 2 rfl) (by decide) ?_ ?_ ?_)<;>first|omega|(dsimp only;omega)|(intro A' c';conv=>whnf))|((first|(refine OpX_build0 tabOk rfl rfl rfl ?_);intro bN|(refine OpX_build tabOk rfl rfl rfl rfl rfl ?_);intro bN);conv=>whnf))|((first|(with_reducible refine isU ?_;first|refine xwru_64 (by omega) (by omega) ?_|refine xwru_32 (by omega) (by omega) ?_|refine xwru_64m ?_|refine xwru_32m ?_)|(with_reducible refine isUq ?_;refine xquou_nn (by omega) (by omega) (by omega) ?_)|(with_reducible refine isUr ?_;refine xremu_nn (by omega) (by omega) ?_)|(with_reducible refine isK ?_;first|refine xcv_u32 (by omega) (by omega) ?_|refine xcv_u32m ?_|refine xcv_u64 (by omega) (by omega) ?_|refine xcv_u64m ?_)|(with_reducible refine isS ?_;refine xshr_32 ?_));conv=>whnf)|((with_reducible refine isW ?_;first|refine xwr_ok (by omega) (by omega) ?_|refine xwr_raw ?_);conv=>whnf)|((with_reducible refine isS ?_;refine xshr_1 ?_);conv=>whnf)|((with_reducible refine isK ?_;first|refine xcv_i64 (by omega) (by omega) ?_|refine xcv_u64 (by omega) (by omega) ?_|refine xcv_u8 (by omega) (by omega) ?_|refine xcv_raw ?_);conv=>whnf)|with_reducible exact rfl|((with_reducible first|refine xif_kt (by assumption) ?_|refine xif_kf (by assumption) ?_);conv=>whnf)|((with_reducible refine xif_s ?_ ?_)<;>(intro hb;(try simp (disch:=omega) only [hbS] at hb)<;>conv=>whnf)))
            all_goals try (exfalso; omega)
            · refine ⟨(k + 1, (ch.toNat : Int) - 48, A', c'), [0, 1], hdv ((ch.toNat : Int) - 48) (by omega), ?_, by (try dsimp only); omega⟩
              dsimp only
              rw [wN_1 (by omega) (by omega)]
              ((refine ⟨?_, ?_, ?_, ?_⟩) <;> (repeat' ((conv => whnf); apply And.intro)) <;> (try (first | exact trivial | decide)))
              all_goals first | rfl | exact fun _ _ h => h | (simp [SV.wf, SV.wfs]; done) | trace_state
            · refine ⟨(k + 1, 0, A, c), [0, 1], hdv 0 (by omega), ?_, by (try dsimp only); omega⟩
              dsimp only
              rw [wN_0]
              ((refine ⟨?_, ?_, ?_, ?_⟩) <;> (repeat' ((conv => whnf); apply And.intro)) <;> (try (first | exact trivial | decide)))
              all_goals first | rfl | exact fun _ _ h => h | (simp [SV.wf, SV.wfs]; done) | trace_state
          · by_cases h32 : v < 4294967296
            · rw [show (wN v).length = 1 by rw [wN_1 (by omega) h32]; rfl, show (wN v).map encW = [[.int .u32 v]] by rw [wN_1 (by omega) h32]; rfl]
              (conv=>whnf);repeat' (first|((with_reducible refine isK ?_; refine xcv_d8 (by omega) (by omega) ?_); conv => whnf)|((with_reducible refine isV ?_);first|((refine ValX_sLen rfl Tryd.underlying9 ?_); conv => whnf)|((refine ValX_sIdxN rfl Tryd.underlying9 (by omega) ?_; rw [hch]); conv => whnf))|((with_reducible refine isO ?_);first|((first|(refine OpX_build0 tabOk rfl rfl rfl ?_);intro bN|(refine OpX_build tabOk rfl rfl rfl rfl rfl ?_);intro bN);conv=>whnf))|((first|(with_reducible refine isU ?_;first|refine xwru_64 (by omega) (by omega) ?_|refine xwru_32 (by omega) (by omega) ?_|refine xwru_64m ?_|refine xwru_32m ?_)|(with_reducible refine isUq ?_;refine xquou_nn (by omega) (by omega) (by omega) ?_)|(with_reducible refine isUr ?_;refine xremu_nn (by omega) (by omega) ?_)|(with_reducible refine isK ?_;first|refine xcv_u32 (by omega) (by omega) ?_|refine xcv_u32m ?_|refine xcv_u64 (by omega) (by omega) ?_|refine xcv_u64m ?_)|(with_reducible refine isS ?_;refine xshr_32 ?_));conv=>whnf)|((with_reducible refine isW ?_;first|refine xwr_ok (by omega) (by omega) ?_|refine xwr_raw ?_);conv=>whnf)|((with_reducible refine isS ?_;refine xshr_1 ?_);conv=>whnf)|((with_reducible refine isK ?_;first|refine xcv_i64 (by omega) (by omega) ?_|refine xcv_u64 (by omega) (by omega) ?_|refine xcv_u8 (by omega) (by omega) ?_|refine xcv_raw ?_);conv=>whnf)|with_reducible exact rfl|((with_reducible first|refine xif_kt (by assumption) ?_|refine xif_kf (by assumption) ?_);conv=>whnf)|((with_reducible refine xif_s ?_ ?_)<;>(intro hb;(try simp (disch:=omega) only [hbS] at hb)<;>conv=>whnf)))
              all_goals try (exfalso; omega)
              refine LoopX_n 2 tabOk ?_
              (conv=>whnf);repeat' (first|((with_reducible refine isV ?_);first|(refine ValX_loadL _ tabOk rfl rfl rfl (ArgSl.row 1 rfl) (by decide) rfl ?_; conv => whnf)|((refine ValX_index tabOk rfl (ArgSl.row 1 rfl) rfl ?_ ?_ ?_) <;> first | omega | (conv => whnf)))|((with_reducible refine isO ?_);first|((refine OpX_store 1 tabOk rfl rfl rfl rfl rfl rfl ?_ ?_)<;>first|omega|with_reducible refine isP ?_|conv=>whnf)|((refine OpX_append 1 tabOk rfl rfl rfl rfl (ArgSl.row 2 rfl) (by decide) ?_ ?_ ?_)<;>first|omega|(dsimp only;omega)|(intro A' c';conv=>whnf))|((first|(refine OpX_build0 tabOk rfl rfl rfl ?_);intro bN|(refine OpX_build tabOk rfl rfl rfl rfl rfl ?_);intro bN);conv=>whnf))|((first|(with_reducible refine isU ?_;first|refine xwru_64 (by omega) (by omega) ?_|refine xwru_32 (by omega) (by omega) ?_|refine xwru_64m ?_|refine xwru_32m ?_)|(with_reducible refine isUq ?_;refine xquou_nn (by omega) (by omega) (by omega) ?_)|(with_reducible refine isUr ?_;refine xremu_nn (by omega) (by omega) ?_)|(with_reducible refine isK ?_;first|refine xcv_u32 (by omega) (by omega) ?_|refine xcv_u32m ?_|refine xcv_u64 (by omega) (by omega) ?_|refine xcv_u64m ?_)|(with_reducible refine isS ?_;refine xshr_32 ?_));conv=>whnf)|((with_reducible refine isW ?_;first|refine xwr_ok (by omega) (by omega) ?_|refine xwr_raw ?_);conv=>whnf)|((with_reducible refine isS ?_;refine xshr_1 ?_);conv=>whnf)|((with_reducible refine isK ?_;first|refine xcv_i64 (by omega) (by omega) ?_|refine xcv_u64 (by omega) (by omega) ?_|refine xcv_u8 (by omega) (by omega) ?_|refine xcv_raw ?_);conv=>whnf)|with_reducible exact rfl|((with_reducible first|refine xif_kt (by assumption) ?_|refine xif_kf (by assumption) ?_);conv=>whnf)|((with_reducible refine xif_s ?_ ?_)<;>(intro hb;(try simp (disch:=omega) only [hbS] at hb)<;>conv=>whnf)))
              all_goals try (exfalso; omega)
              · refine ⟨(k + 1, (ch.toNat : Int) - 48 + v * 10, A', c'), [0, 1], hdv ((ch.toNat : Int) - 48 + v * 10) (by omega), ?_, by (try dsimp only); omega⟩
                dsimp only
                rw [wN_2 (by omega)]
                ((refine ⟨?_, ?_, ?_, ?_⟩) <;> (repeat' ((conv => whnf); apply And.intro)) <;> (try (first | exact trivial | decide)))
                all_goals first | rfl | exact fun _ _ h => h | (simp [SV.wf, SV.wfs]; done) | trace_state
              · refine ⟨(k + 1, (ch.toNat : Int) - 48 + v * 10, A, c), [0, 1], hdv ((ch.toNat : Int) - 48 + v * 10) (by omega), ?_, by (try dsimp only); omega⟩
                dsimp only
                rw [wN_1m (by omega) (by omega)]
                ((refine ⟨?_, ?_, ?_, ?_⟩) <;> (repeat' ((conv => whnf); apply And.intro)) <;> (try (first | exact trivial | decide)))
                all_goals first | rfl | exact fun _ _ h => h | (simp [SV.wf, SV.wfs]; done) | trace_state
            · rw [show (wN v).length = 2 by rw [wN_2 (by omega)]; rfl, show (wN v).map encW = [[.int .u32 (v % 4294967296)], [.int .u32 (v / 4294967296)]] by rw [wN_2 (by omega)]; rfl]
              (conv=>whnf);repeat' (first|((with_reducible refine isK ?_; refine xcv_d8 (by omega) (by omega) ?_); conv => whnf)|((with_reducible refine isV ?_);first|((refine ValX_sLen rfl Tryd.underlying9 ?_); conv => whnf)|((refine ValX_sIdxN rfl Tryd.underlying9 (by omega) ?_; rw [hch]); conv => whnf))|((with_reducible refine isO ?_);first|((first|(refine OpX_build0 tabOk rfl rfl rfl ?_);intro bN|(refine OpX_build tabOk rfl rfl rfl rfl rfl ?_);intro bN);conv=>whnf))|((first|(with_reducible refine isU ?_;first|refine xwru_64 (by omega) (by omega) ?_|refine xwru_32 (by omega) (by omega) ?_|refine xwru_64m ?_|refine xwru_32m ?_)|(with_reducible refine isUq ?_;refine xquou_nn (by omega) (by omega) (by omega) ?_)|(with_reducible refine isUr ?_;refine xremu_nn (by omega) (by omega) ?_)|(with_reducible refine isK ?_;first|refine xcv_u32 (by omega) (by omega) ?_|refine xcv_u32m ?_|refine xcv_u64 (by omega) (by omega) ?_|refine xcv_u64m ?_)|(with_reducible refine isS ?_;refine xshr_32 ?_));conv=>whnf)|((with_reducible refine isW ?_;first|refine xwr_ok (by omega) (by omega) ?_|refine xwr_raw ?_);conv=>whnf)|((with_reducible refine isS ?_;refine xshr_1 ?_);conv=>whnf)|((with_reducible refine isK ?_;first|refine xcv_i64 (by omega) (by omega) ?_|refine xcv_u64 (by omega) (by omega) ?_|refine xcv_u8 (by omega) (by omega) ?_|refine xcv_raw ?_);conv=>whnf)|with_reducible exact rfl|((with_reducible first|refine xif_kt (by assumption) ?_|refine xif_kf (by assumption) ?_);conv=>whnf)|((with_reducible refine xif_s ?_ ?_)<;>(intro hb;(try simp (disch:=omega) only [hbS] at hb)<;>conv=>whnf)))
              all_goals try (exfalso; omega)
              refine LoopX_n 3 tabOk ?_
              (conv=>whnf);repeat' (first|((with_reducible refine isV ?_);first|(refine ValX_loadL _ tabOk rfl rfl rfl (ArgSl.row 1 rfl) (by decide) rfl ?_; conv => whnf)|((refine ValX_index tabOk rfl (ArgSl.row 1 rfl) rfl ?_ ?_ ?_) <;> first | omega | (conv => whnf)))|((with_reducible refine isO ?_);first|((refine OpX_store 1 tabOk rfl rfl rfl rfl rfl rfl ?_ ?_)<;>first|omega|with_reducible refine isP ?_|conv=>whnf)|((refine OpX_append 1 tabOk rfl rfl rfl rfl (ArgSl.row 2 rfl) (by decide) ?_ ?_ ?_)<;>first|omega|(dsimp only;omega)|(intro A' c';conv=>whnf))|((first|(refine OpX_build0 tabOk rfl rfl rfl ?_);intro bN|(refine OpX_build tabOk rfl rfl rfl rfl rfl ?_);intro bN);conv=>whnf))|((first|(with_reducible refine isU ?_;first|refine xwru_64 (by omega) (by omega) ?_|refine xwru_32 (by omega) (by omega) ?_|refine xwru_64m ?_|refine xwru_32m ?_)|(with_reducible refine isUq ?_;refine xquou_nn (by omega) (by omega) (by omega) ?_)|(with_reducible refine isUr ?_;refine xremu_nn (by omega) (by omega) ?_)|(with_reducible refine isK ?_;first|refine xcv_u32 (by omega) (by omega) ?_|refine xcv_u32m ?_|refine xcv_u64 (by omega) (by omega) ?_|refine xcv_u64m ?_)|(with_reducible refine isS ?_;refine xshr_32 ?_));conv=>whnf)|((with_reducible refine isW ?_;first|refine xwr_ok (by omega) (by omega) ?_|refine xwr_raw ?_);conv=>whnf)|((with_reducible refine isS ?_;refine xshr_1 ?_);conv=>whnf)|((with_reducible refine isK ?_;first|refine xcv_i64 (by omega) (by omega) ?_|refine xcv_u64 (by omega) (by omega) ?_|refine xcv_u8 (by omega) (by omega) ?_|refine xcv_raw ?_);conv=>whnf)|with_reducible exact rfl|((with_reducible first|refine xif_kt (by assumption) ?_|refine xif_kf (by assumption) ?_);conv=>whnf)|((with_reducible refine xif_s ?_ ?_)<;>(intro hb;(try simp (disch:=omega) only [hbS] at hb)<;>conv=>whnf)))
              all_goals try (exfalso; omega)
              refine ⟨(k + 1, v * 10 + ((ch.toNat : Int) - 48), A, c), [0, 1], hdv _ rfl, ?_, by (try dsimp only); omega⟩
              dsimp only
              rw [wN_2m (a := ((ch.toNat : Int) - 48 + v % 4294967296 * 10) % 4294967296) (b := ((ch.toNat : Int) - 48 + v % 4294967296 * 10) / 4294967296 + v / 4294967296 * 10) (by omega) (by omega) (by omega) (by omega)]
              ((refine ⟨?_, ?_, ?_, ?_⟩) <;> (repeat' ((conv => whnf); apply And.intro)) <;> (try (first | exact trivial | decide)))
              all_goals first | rfl | exact fun _ _ h => h | (simp [SV.wf, SV.wfs]; done) | trace_state
        · rw [if_neg hdig] at hnd
          have hnone : prF s = none := by
            rw [hF, vD_stop hnd]
            rfl
          obtain ⟨e1, e2⟩ := pr_none hnone
          rw [e1, e2]
          clear hnd hj hF hnone
          (conv=>whnf);repeat' (first|((with_reducible refine isV ?_);first|((refine ValX_sLen rfl Tryd.underlying9 ?_); conv => whnf)|((refine ValX_sIdxN rfl Tryd.underlying9 (by omega) ?_; rw [hch]); conv => whnf))|((with_reducible refine isO ?_);first|((first|(refine OpX_build0 tabOk rfl rfl rfl ?_);intro bN|(refine OpX_build tabOk rfl rfl rfl rfl rfl ?_);intro bN);conv=>whnf))|((first|(with_reducible refine isU ?_;first|refine xwru_64 (by omega) (by omega) ?_|refine xwru_32 (by omega) (by omega) ?_|refine xwru_64m ?_|refine xwru_32m ?_)|(with_reducible refine isUq ?_;refine xquou_nn (by omega) (by omega) (by omega) ?_)|(with_reducible refine isUr ?_;refine xremu_nn (by omega) (by omega) ?_)|(with_reducible refine isK ?_;first|refine xcv_u32 (by omega) (by omega) ?_|refine xcv_u32m ?_|refine xcv_u64 (by omega) (by omega) ?_|refine xcv_u64m ?_)|(with_reducible refine isS ?_;refine xshr_32 ?_));conv=>whnf)|((with_reducible refine isW ?_;first|refine xwr_ok (by omega) (by omega) ?_|refine xwr_raw ?_);conv=>whnf)|((with_reducible refine isS ?_;refine xshr_1 ?_);conv=>whnf)|((with_reducible refine isK ?_;first|refine xcv_i64 (by omega) (by omega) ?_|refine xcv_u64 (by omega) (by omega) ?_|refine xcv_u8 (by omega) (by omega) ?_|refine xcv_raw ?_);conv=>whnf)|with_reducible exact rfl|((with_reducible first|refine xif_kt (by assumption) ?_|refine xif_kf (by assumption) ?_);conv=>whnf)|((with_reducible refine xif_s ?_ ?_)<;>(intro hb;(try simp (disch:=omega) only [hbS] at hb)<;>conv=>whnf)))
          all_goals try (exfalso; omega)
          all_goals
            refine Fin_addNil 102 1 ?_
            exact Fin_m (none, 0) [2] ⟨rfl, by simp [SV.wf, SV.wfs]⟩ ⟨⟨rfl, rfl, rfl, rfl, rfl, rfl⟩, trivial⟩ (by decide) rfl
      · obtain rfl : k = d.length := by omega
        have hb18 := pow18 (k := d.length) (by omega)
        obtain ⟨_, hvd, _, hvb⟩ := hj
        rw [List.take_length] at hvd
        have hF2 : prF s = if txt (false && decide (v ≠ 0)) v = s then some (false && decide (v ≠ 0), v) else none := by
          rw [hF, hvd]
          rfl
        have kn := Norm_m false A c (wN v) rfl (by have := wN_len v; omega)
        rw [wN_trim hv0, wN_dec hv0] at kn
        have kx := fun A' c' => Text_m (false && decide (v ≠ 0)) A' c' v hv0 (by omega) rfl
        clear hF hvd hdg
        generalize (false && decide (v ≠ 0)) = N at *
        by_cases ht : txt N v = s
        · rw [if_pos ht] at hF2
          obtain ⟨e1, e2⟩ := pr_some hF2
          rw [e1, e2]
          dsimp only
          (conv=>whnf);repeat' (first|((with_reducible refine isC ?_);first|((first|(with_reducible refine isF 75 ?_);((refine CallX_m kn [] rfl trivial (by decide) (fun σ fp w' hm => ⟨ArgN.row 1 rfl (m := 0) (fun j hj => by omega) σ fp w' hm, row_capN 1 rfl σ fp w' hm⟩) ?_; intro q; obtain ⟨A1, c1⟩ := q; dsimp only))|(with_reducible refine isF 52 ?_);((refine CallX_m (kx A1 c1) [] rfl trivial (by decide) (fun σ fp w' hm => ⟨ArgN.row 2 rfl (m := 0) (fun j hj => by omega) σ fp w' hm, row_capN 2 rfl σ fp w' hm⟩) ?_; intro q2)));conv=>whnf))|((with_reducible refine isV ?_);first|((refine ValX_sLen rfl Tryd.underlying9 ?_); conv => whnf)|(refine ValX_sNe (r := false) rfl Tryd.underlying9 (by simp [ht]) ?_; conv => whnf))|((with_reducible refine isO ?_);first|((first|(refine OpX_build0 tabOk rfl rfl rfl ?_);intro bN|(refine OpX_build tabOk rfl rfl rfl rfl rfl ?_);intro bN);conv=>whnf))|((first|(with_reducible refine isU ?_;first|refine xwru_64 (by omega) (by omega) ?_|refine xwru_32 (by omega) (by omega) ?_|refine xwru_64m ?_|refine xwru_32m ?_)|(with_reducible refine isUq ?_;refine xquou_nn (by omega) (by omega) (by omega) ?_)|(with_reducible refine isUr ?_;refine xremu_nn (by omega) (by omega) ?_)|(with_reducible refine isK ?_;first|refine xcv_u32 (by omega) (by omega) ?_|refine xcv_u32m ?_|refine xcv_u64 (by omega) (by omega) ?_|refine xcv_u64m ?_)|(with_reducible refine isS ?_;refine xshr_32 ?_));conv=>whnf)|((with_reducible refine isW ?_;first|refine xwr_ok (by omega) (by omega) ?_|refine xwr_raw ?_);conv=>whnf)|((with_reducible refine isS ?_;refine xshr_1 ?_);conv=>whnf)|((with_reducible refine isK ?_;first|refine xcv_i64 (by omega) (by omega) ?_|refine xcv_u64 (by omega) (by omega) ?_|refine xcv_u8 (by omega) (by omega) ?_|refine xcv_raw ?_);conv=>whnf)|with_reducible exact rfl|((with_reducible first|refine xif_kt (by assumption) ?_|refine xif_kf (by assumption) ?_);conv=>whnf)|((with_reducible refine xif_s ?_ ?_)<;>(intro hb;(try simp (disch:=omega) only [hbS] at hb)<;>conv=>whnf)))
          all_goals try (exfalso; omega)
          exact Fin_m (A1, c1) [2] ⟨rfl, by simp [SV.wf, SV.wfs]⟩ ⟨⟨rfl, rfl, rfl, rfl, rfl, rfl⟩, trivial⟩ (by decide) rfl
        · rw [if_neg ht] at hF2
          obtain ⟨e1, e2⟩ := pr_none hF2
          rw [e1, e2]
          dsimp only
          (conv=>whnf);repeat' (first|((with_reducible refine isC ?_);first|((first|(with_reducible refine isF 75 ?_);((refine CallX_m kn [] rfl trivial (by decide) (fun σ fp w' hm => ⟨ArgN.row 1 rfl (m := 0) (fun j hj => by omega) σ fp w' hm, row_capN 1 rfl σ fp w' hm⟩) ?_; intro q; obtain ⟨A1, c1⟩ := q; dsimp only))|(with_reducible refine isF 52 ?_);((refine CallX_m (kx A1 c1) [] rfl trivial (by decide) (fun σ fp w' hm => ⟨ArgN.row 2 rfl (m := 0) (fun j hj => by omega) σ fp w' hm, row_capN 2 rfl σ fp w' hm⟩) ?_; intro q2)));conv=>whnf))|((with_reducible refine isV ?_);first|((refine ValX_sLen rfl Tryd.underlying9 ?_); conv => whnf)|(refine ValX_sNe (r := true) rfl Tryd.underlying9 (by simp [ht]) ?_; conv => whnf))|((with_reducible refine isO ?_);first|((first|(refine OpX_build0 tabOk rfl rfl rfl ?_);intro bN|(refine OpX_build tabOk rfl rfl rfl rfl rfl ?_);intro bN);conv=>whnf))|((first|(with_reducible refine isU ?_;first|refine xwru_64 (by omega) (by omega) ?_|refine xwru_32 (by omega) (by omega) ?_|refine xwru_64m ?_|refine xwru_32m ?_)|(with_reducible refine isUq ?_;refine xquou_nn (by omega) (by omega) (by omega) ?_)|(with_reducible refine isUr ?_;refine xremu_nn (by omega) (by omega) ?_)|(with_reducible refine isK ?_;first|refine xcv_u32 (by omega) (by omega) ?_|refine xcv_u32m ?_|refine xcv_u64 (by omega) (by omega) ?_|refine xcv_u64m ?_)|(with_reducible refine isS ?_;refine xshr_32 ?_));conv=>whnf)|((with_reducible refine isW ?_;first|refine xwr_ok (by omega) (by omega) ?_|refine xwr_raw ?_);conv=>whnf)|((with_reducible refine isS ?_;refine xshr_1 ?_);conv=>whnf)|((with_reducible refine isK ?_;first|refine xcv_i64 (by omega) (by omega) ?_|refine xcv_u64 (by omega) (by omega) ?_|refine xcv_u8 (by omega) (by omega) ?_|refine xcv_raw ?_);conv=>whnf)|with_reducible exact rfl|((with_reducible first|refine xif_kt (by assumption) ?_|refine xif_kf (by assumption) ?_);conv=>whnf)|((with_reducible refine xif_s ?_ ?_)<;>(intro hb;(try simp (disch:=omega) only [hbS] at hb)<;>conv=>whnf)))
          all_goals try (exfalso; omega)
          refine Fin_addNil 102 1 ?_
          exact Fin_m (none, 0) [4] ⟨rfl, by simp [SV.wf, SV.wfs]⟩ ⟨⟨rfl, rfl, rfl, rfl, rfl, rfl⟩, trivial⟩ (by decide) rfl
end Go.Proofs.YtadichckbogcjaaDoor.En
