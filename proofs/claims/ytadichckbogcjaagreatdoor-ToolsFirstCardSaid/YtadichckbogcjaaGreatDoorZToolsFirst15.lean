import Derived.Test.YtadichckbogcjaaGreatDoorZToolsFirst13
import Derived.Test.YtadichckbogcjaaGreatDoorZToolsFirst10
set_option linter.all false
section
namespace Go.Proofs.YtadichckbogcjaaGreatDoor.En
open Go.RowKit
set_option maxRecDepth 100000
theorem ValX_idx2 {C : Ctx} {ob : List OB} {k : SV → Prop} {o : Oper} {x ix : Operand} {a b i : Int} (hP : C.P = Tryz.prog) (ho : o.op = .index 195 x ix) (h : i = 0 ∨ i = 1) (hk : k (I (if i = 0 then a else b))) : ValX C o [.a [I a, I b], I i] ob k := by
  unfold ValX
  intro σ fp w ρ hm hx
  rw [ho] at hx
  simp [Op.operands, SV.vals, SV.val] at hx
  refine ⟨_, hk, ?_, trivial⟩
  have i0 : (Instr.index 195 (.agg #[.int .i64 a, .int .i64 b]) (.int .i64 0)).run Tryz.prog w = .ok (.int .i64 a) w := by kernel_rfl
  have i1 : (Instr.index 195 (.agg #[.int .i64 a, .int .i64 b]) (.int .i64 1)).run Tryz.prog w = .ok (.int .i64 b) w := by kernel_rfl
  rcases h with rfl | rfl
  · simp [execOp, ho, hx.1, hx.2, hP, i0, SV.val]
  · simp [execOp, ho, hx.1, hx.2, hP, i1, SV.val]
theorem ValX_build2 {C : Ctx} {ob : List OB} {k : SV → Prop} {o : Oper} {x y : Operand} {a b : Int} (hP : C.P = Tryz.prog) (ho : o.op = .build 195 #[(0, x), (1, y)]) (hk : k (.a [I a, I b])) : ValX C o [I a, I b] ob k := by
  unfold ValX
  intro σ fp w ρ hm hx
  rw [ho] at hx
  simp [Op.operands, SV.vals, SV.val] at hx
  refine ⟨_, hk, ?_, by simp [SV.wf, SV.wfs]⟩
  have hb : (Instr.build 195 #[(0, .int .i64 a), (1, .int .i64 b)]).run Tryz.prog w = .ok (.agg #[.int .i64 a, .int .i64 b]) w := by kernel_rfl
  simp [execOp, ho, hx.1, hx.2, hP, hb, SV.val, SV.vals]
def gsI (x y d : Int) : Nat → Int
  | 0 => d
  | 1 => (Nat.gcd d.natAbs x.natAbs : Nat)
  | _ => (Nat.gcd (Nat.gcd d.natAbs x.natAbs) y.natAbs : Nat)
def lowF (x y d : Int) : VecT := (x.tdiv (gsI x y d 2), y.tdiv (gsI x y d 2), d / gsI x y d 2)
theorem gsI_pos (x y d : Int) (hd : 1 ≤ d) (i : Nat) : 1 ≤ gsI x y d i ∧ gsI x y d i ≤ d := by
  have h0 : 0 < d.natAbs := by omega
  have h1 : 0 < Nat.gcd d.natAbs x.natAbs := Nat.gcd_pos_of_pos_left _ h0
  have h2 : 0 < Nat.gcd (Nat.gcd d.natAbs x.natAbs) y.natAbs := Nat.gcd_pos_of_pos_left _ h1
  have h3 := Nat.gcd_le_left x.natAbs h0
  have h4 := Nat.gcd_le_left y.natAbs h1
  unfold gsI
  split <;> omega
theorem gcd_rec' {a b : Int} (ha : 0 ≤ a) (hb : 0 < b) : Nat.gcd b.natAbs (a % b).natAbs = Nat.gcd a.natAbs b.natAbs := by
  obtain ⟨m, rfl⟩ := Int.eq_ofNat_of_zero_le ha
  obtain ⟨n, rfl⟩ := Int.eq_ofNat_of_zero_le (Int.le_of_lt hb)
  rw [← Int.natCast_emod]
  simp only [Int.natAbs_natCast]
  rw [Nat.gcd_comm n, ← Nat.gcd_rec, Nat.gcd_comm]
set_option maxHeartbeats 2000000 in
theorem low_x (x y d : Int) (hx : -1000000000000 ≤ x ∧ x ≤ 1000000000000) (hy : -1000000000000 ≤ y ∧ y ≤ 1000000000000) (hd : 1 ≤ d ∧ d ≤ 1000000000000) : PureX Tryz.prog 131 [I x, I y, I d] (.a [I (lowF x y d).1, I (lowF x y d).2.1, I (lowF x y d).2.2]) := by
  obtain ⟨x1, x2⟩ := hx
  obtain ⟨y1, y2⟩ := hy
  obtain ⟨d1, d2⟩ := hd
  have hg := gsI_pos x y d d1
  refine PureX.of Tryz.func131 rfl tabOk rfl rfl rfl (by simp [SV.wfs, SV.wf]) (by simp [SV.wfs, SV.wf]) fun w => ?_
  (conv=>whnf);repeat' (first|((with_reducible refine isV ?_);first|(refine ValX_build2 rfl rfl ?_; conv => whnf))|((with_reducible refine isW ?_;first|refine xwr_ok (by omega) (by omega) ?_|refine xwr_raw ?_);conv=>whnf)|((with_reducible refine isQ ?_;first|refine xquo_nn (by omega) (by omega) (by omega) ?_|refine xquo_ok (by omega) (by omega) (by omega) ?_|refine xquo_raw (by omega) ?_);conv=>whnf)|((with_reducible refine isR ?_;first|refine xrem_nn (by omega) (by omega) ?_|refine xrem_raw (by omega) ?_);conv=>whnf)|((with_reducible refine need_i ?_ ?_)<;>first|omega|conv=>whnf)|((first|refine DrawX_s tabOk folOk ?_|refine DrawS_i (by kernel_rfl) ?_|with_reducible refine andX_i ?_ ?_)<;>conv=>whnf)|with_reducible exact rfl|((with_reducible first|refine xif_kt (by assumption) ?_|refine xif_kf (by assumption) ?_);conv=>whnf)|((with_reducible refine xif_s ?_ ?_)<;>(intro hb;(try simp (disch:=omega) only [hbS] at hb)<;>conv=>whnf)))
  refine LoopX_inv tabOk (α := Nat) (fun i => i ≤ 2) (fun i => [(0, I x), (1, I y), (2, I d), (6, .p 0 0), (7, I (gsI x y d i)), (13, .a [I x, I y]), (14, I i)]) (fun _ => [.box 100 [I 0, I 0, I 0]]) (fun i => 2 - i) 0 [0] (by omega) ?_ ?_
  · ((refine ⟨?_, ?_, ?_, ?_⟩) <;> (repeat' ((conv => whnf); apply And.intro)) <;> (try (first | exact trivial | decide)))
    all_goals first | rfl | exact fun _ _ h => h | simp [SV.wf, SV.wfs]
  · intro i hi
    have hgi := hg i
    have hgi1 := hg (i + 1)
    by_cases hlt : i < 2
    · have key : ∀ n : Int, (n = x ∧ i = 0 ∨ n = y ∧ i = 1) → ((Nat.gcd (gsI x y d i).natAbs n.natAbs : Nat) : Int) = gsI x y d (i + 1) := by
        intro n hn
        rcases hn with ⟨rfl, rfl⟩ | ⟨rfl, rfl⟩
        · simp [gsI]
        · simp [gsI]
      (conv=>whnf);repeat' (first|((with_reducible refine isV ?_);first|(refine ValX_idx2 rfl rfl (by omega) ?_; conv => whnf))|((with_reducible refine isW ?_;first|refine xwr_ok (by omega) (by omega) ?_|refine xwr_raw ?_);conv=>whnf)|((with_reducible refine isQ ?_;first|refine xquo_nn (by omega) (by omega) (by omega) ?_|refine xquo_ok (by omega) (by omega) (by omega) ?_|refine xquo_raw (by omega) ?_);conv=>whnf)|((with_reducible refine isR ?_;first|refine xrem_nn (by omega) (by omega) ?_|refine xrem_raw (by omega) ?_);conv=>whnf)|((with_reducible refine need_i ?_ ?_)<;>first|omega|conv=>whnf)|((first|refine DrawX_s tabOk folOk ?_|refine DrawS_i (by kernel_rfl) ?_|with_reducible refine andX_i ?_ ?_)<;>conv=>whnf)|with_reducible exact rfl|((with_reducible first|refine xif_kt (by assumption) ?_|refine xif_kf (by assumption) ?_);conv=>whnf)|((with_reducible refine xif_s ?_ ?_)<;>(intro hb;(try simp (disch:=omega) only [hbS] at hb)<;>conv=>whnf)))
      all_goals try (exfalso; omega)
      generalize hv : (if (i : Int) = 0 then x else y) = v
      have hv1 : -1000000000000 ≤ v ∧ v ≤ 1000000000000 := by rw [← hv]; split <;> omega
      have hk := key v (by
        rw [← hv]
        rcases (by omega : i = 0 ∨ i = 1) with h0 | h1
        · exact .inl ⟨by rw [h0]; rfl, h0⟩
        · exact .inr ⟨by rw [h1]; rfl, h1⟩)
      clear key
      generalize hKK : gsI x y d (i + 1) = K at *
      generalize hG : gsI x y d i = G at *
      refine LoopX_inv tabOk (α := Int × Int) (fun s => (1 ≤ s.1 ∧ s.1 ≤ 1000000000000 ∧ 0 ≤ s.2 ∧ s.2 ≤ 1000000000000) ∧ ((Nat.gcd s.1.natAbs s.2.natAbs : Nat) : Int) = K) (fun s => [(0, I x), (1, I y), (2, I d), (6, .p 0 0), (7, I s.1), (9, I s.2), (13, .a [I x, I y]), (14, I i)]) (fun _ => [.box 100 [I 0, I 0, I 0]]) (fun s => s.2.toNat) (G, max v (0 - v)) [0] ⟨by dsimp only; omega, ?_⟩ ?_ ?_
      · dsimp only
        rw [← hk, show (max v (0 - v)).natAbs = v.natAbs by omega]
      · ((refine ⟨?_, ?_, ?_, ?_⟩) <;> (repeat' ((conv => whnf); apply And.intro)) <;> (try (first | exact trivial | decide)))
        all_goals first | rfl | exact fun _ _ h => h | (rw [hv]; rfl) | simp [SV.wf, SV.wfs]
      · rintro ⟨g, n⟩ ⟨hj, hgk⟩
        dsimp only at hj hgk ⊢
        by_cases hn : n = 0
        · subst hn
          (conv=>whnf);repeat' (first|((with_reducible refine isW ?_;first|refine xwr_ok (by omega) (by omega) ?_|refine xwr_raw ?_);conv=>whnf)|((with_reducible refine isQ ?_;first|refine xquo_nn (by omega) (by omega) (by omega) ?_|refine xquo_ok (by omega) (by omega) (by omega) ?_|refine xquo_raw (by omega) ?_);conv=>whnf)|((with_reducible refine isR ?_;first|refine xrem_nn (by omega) (by omega) ?_|refine xrem_raw (by omega) ?_);conv=>whnf)|((with_reducible refine need_i ?_ ?_)<;>first|omega|conv=>whnf)|((first|refine DrawX_s tabOk folOk ?_|refine DrawS_i (by kernel_rfl) ?_|with_reducible refine andX_i ?_ ?_)<;>conv=>whnf)|with_reducible exact rfl|((with_reducible first|refine xif_kt (by assumption) ?_|refine xif_kf (by assumption) ?_);conv=>whnf)|((with_reducible refine xif_s ?_ ?_)<;>(intro hb;(try simp (disch:=omega) only [hbS] at hb)<;>conv=>whnf)))
          all_goals try (exfalso; omega)
          refine ⟨i + 1, [0], by omega, ?_, by (try dsimp only); omega⟩
          have e : gsI x y d (i + 1) = g := by
            rw [hKK, ← hgk]
            simp
            omega
          dsimp only
          rw [e]
          ((refine ⟨?_, ?_, ?_, ?_⟩) <;> (repeat' ((conv => whnf); apply And.intro)) <;> (try (first | exact trivial | decide)))
          all_goals first | rfl | exact fun _ _ h => h | exact I_eq (by simp; omega) | simp [SV.wf, SV.wfs]
        · have hr1 := Int.emod_nonneg g hn
          have hr2 := Int.emod_lt_of_pos g (show 0 < n by omega)
          (conv=>whnf);repeat' (first|((with_reducible refine isW ?_;first|refine xwr_ok (by omega) (by omega) ?_|refine xwr_raw ?_);conv=>whnf)|((with_reducible refine isQ ?_;first|refine xquo_nn (by omega) (by omega) (by omega) ?_|refine xquo_ok (by omega) (by omega) (by omega) ?_|refine xquo_raw (by omega) ?_);conv=>whnf)|((with_reducible refine isR ?_;first|refine xrem_nn (by omega) (by omega) ?_|refine xrem_raw (by omega) ?_);conv=>whnf)|((with_reducible refine need_i ?_ ?_)<;>first|omega|conv=>whnf)|((first|refine DrawX_s tabOk folOk ?_|refine DrawS_i (by kernel_rfl) ?_|with_reducible refine andX_i ?_ ?_)<;>conv=>whnf)|with_reducible exact rfl|((with_reducible first|refine xif_kt (by assumption) ?_|refine xif_kf (by assumption) ?_);conv=>whnf)|((with_reducible refine xif_s ?_ ?_)<;>(intro hb;(try simp (disch:=omega) only [hbS] at hb)<;>conv=>whnf)))
          all_goals try (exfalso; omega)
          refine ⟨(n, g % n), [0], ⟨by dsimp only; omega, ?_⟩, ?_, by (try dsimp only); omega⟩
          · dsimp only
            rw [gcd_rec' (by omega) (by omega)]
            exact hgk
          · ((refine ⟨?_, ?_, ?_, ?_⟩) <;> (repeat' ((conv => whnf); apply And.intro)) <;> (try (first | exact trivial | decide)))
            all_goals first | rfl | exact fun _ _ h => h | simp [SV.wf, SV.wfs]
    · obtain rfl : i = 2 := by omega
      (conv=>whnf);repeat' (first|((with_reducible refine isW ?_;first|refine xwr_ok (by omega) (by omega) ?_|refine xwr_raw ?_);conv=>whnf)|((with_reducible refine isQ ?_;first|refine xquo_nn (by omega) (by omega) (by omega) ?_|refine xquo_ok (by omega) (by omega) (by omega) ?_|refine xquo_raw (by omega) ?_);conv=>whnf)|((with_reducible refine isR ?_;first|refine xrem_nn (by omega) (by omega) ?_|refine xrem_raw (by omega) ?_);conv=>whnf)|((with_reducible refine need_i ?_ ?_)<;>first|omega|conv=>whnf)|((first|refine DrawX_s tabOk folOk ?_|refine DrawS_i (by kernel_rfl) ?_|with_reducible refine andX_i ?_ ?_)<;>conv=>whnf)|with_reducible exact rfl|((with_reducible first|refine xif_kt (by assumption) ?_|refine xif_kf (by assumption) ?_);conv=>whnf)|((with_reducible refine xif_s ?_ ?_)<;>(intro hb;(try simp (disch:=omega) only [hbS] at hb)<;>conv=>whnf)))
      all_goals try (exfalso; omega)
      exact Fin_pure rfl rfl (by simp [SV.wf, SV.wfs])
theorem and255e (n : Int) : bits .and .i64 n 255 = n % 256 := by
  have h3 : (BitVec.ofInt 64 255).toNat = 2 ^ 8 - 1 := by decide
  have key : (BitVec.ofInt 64 n &&& BitVec.ofInt 64 255).toNat = (n % ((2 ^ 64 : Nat) : Int)).toNat % 2 ^ 8 := by
    rw [BitVec.toNat_and, BitVec.toNat_ofInt, h3, Nat.and_two_pow_sub_one_eq_mod]
  show IntKind.i64.wrap ((BitVec.ofInt 64 n &&& BitVec.ofInt 64 255).toNat : Nat) = n % 256
  rw [key, IntKind.wrap_i64]
  omega
theorem mark_x (h : Int) : PureX Tryz.prog 132 [I h] (I (h % 256)) := by
  refine PureX.of Tryz.func132 rfl tabOk rfl rfl rfl (by simp [SV.wfs, SV.wf]) (by simp [SV.wfs, SV.wf]) fun w => ?_
  (conv=>whnf);repeat' (first|with_reducible exact rfl|((with_reducible first|refine xif_kt (by assumption) ?_|refine xif_kf (by assumption) ?_);conv=>whnf)|((with_reducible refine xif_s ?_ ?_)<;>(intro hb;(try simp (disch:=omega) only [hbS] at hb)<;>conv=>whnf)))
  exact Fin_pure rfl (I_eq (and255e h)) trivial
theorem tdiv_le (a b : Int) : (a.tdiv b).natAbs ≤ a.natAbs := by rw [Int.natAbs_tdiv]; exact Nat.div_le_self _ _
def quF (k : Int) : VecT := lowF (4096 - k * k) (128 * k) (4096 + k * k)
def dirF (h : Int) : VecT := (tX (h % 256 / 64) (quF (h % 256 % 64)).1 (quF (h % 256 % 64)).2.1, tY (h % 256 / 64) (quF (h % 256 % 64)).1 (quF (h % 256 % 64)).2.1, (quF (h % 256 % 64)).2.2)
theorem dir_all : ((List.range 256).all fun n : Nat => vecB (dirF (n : Int)) && decide ((dirF (n : Int)).2.2 ≤ 8065)) = true := by decide +kernel
theorem dir_ok (h : Int) : vecB (dirF h) = true ∧ (dirF h).2.2 ≤ 8065 := by
  have h0 : 0 ≤ h % 256 ∧ h % 256 < 256 := by omega
  have e : dirF h = dirF (((h % 256).toNat : Nat) : Int) := by
    unfold dirF
    rw [show ((((h % 256).toNat : Nat) : Int)) % 256 = h % 256 by omega]
  have := List.all_eq_true.1 dir_all (h % 256).toNat (by simp; omega)
  rw [e]
  simpa only [Bool.and_eq_true, decide_eq_true_eq] using this
theorem Dir_x (h : Int) : PureX Tryz.prog 96 [I h] (.a [I (dirF h).1, I (dirF h).2.1, I (dirF h).2.2]) := by
  unfold dirF
  have hk1 : 0 ≤ h % 256 % 64 ∧ h % 256 % 64 < 64 := by omega
  have hq1 : 0 ≤ h % 256 / 64 ∧ h % 256 / 64 < 4 := by omega
  have kk := mul_bd (a := h % 256 % 64) (b := h % 256 % 64) (A := 63) (B := 63) (by omega) (by omega)
  have kk0 : 0 ≤ (h % 256 % 64) * (h % 256 % 64) := Int.mul_nonneg hk1.1 hk1.1
  have hl := low_x (4096 - (h % 256 % 64) * (h % 256 % 64)) (128 * (h % 256 % 64)) (4096 + (h % 256 % 64) * (h % 256 % 64)) (by omega) (by omega) (by omega)
  have b1 := tdiv_le (4096 - (h % 256 % 64) * (h % 256 % 64)) (gsI (4096 - (h % 256 % 64) * (h % 256 % 64)) (128 * (h % 256 % 64)) (4096 + (h % 256 % 64) * (h % 256 % 64)) 2)
  have b2 := tdiv_le (128 * (h % 256 % 64)) (gsI (4096 - (h % 256 % 64) * (h % 256 % 64)) (128 * (h % 256 % 64)) (4096 + (h % 256 % 64) * (h % 256 % 64)) 2)
  have b3 : (quF (h % 256 % 64)).1.natAbs ≤ 10000 ∧ (quF (h % 256 % 64)).2.1.natAbs ≤ 10000 := by
    show ((4096 - (h % 256 % 64) * (h % 256 % 64)).tdiv _).natAbs ≤ 10000 ∧ ((128 * (h % 256 % 64)).tdiv _).natAbs ≤ 10000
    omega
  have hl' : PureX Tryz.prog 131 [I (4096 - (h % 256 % 64) * (h % 256 % 64)), I (128 * (h % 256 % 64)), I (4096 + (h % 256 % 64) * (h % 256 % 64))] (.a [I (quF (h % 256 % 64)).1, I (quF (h % 256 % 64)).2.1, I (quF (h % 256 % 64)).2.2]) := hl
  clear hl b1 b2
  generalize quF (h % 256 % 64) = v at *
  refine PureX.of Tryz.func96 rfl tabOk rfl rfl rfl (by simp [SV.wfs, SV.wf]) (by simp [SV.wfs, SV.wf]) fun w => ?_
  (conv=>whnf);repeat' (first|((with_reducible refine isC ?_);first|((first|with_reducible refine CallX_pure (mark_x _) ?_|with_reducible refine CallX_pure (hl') ?_)<;>first|omega|with_reducible refine isP ?_|conv=>whnf))|((with_reducible refine isW ?_;first|refine xwr_ok (by omega) (by omega) ?_|refine xwr_raw ?_);conv=>whnf)|((with_reducible refine isQ ?_;first|refine xquo_nn (by omega) (by omega) (by omega) ?_|refine xquo_ok (by omega) (by omega) (by omega) ?_|refine xquo_raw (by omega) ?_);conv=>whnf)|((with_reducible refine isR ?_;first|refine xrem_nn (by omega) (by omega) ?_|refine xrem_raw (by omega) ?_);conv=>whnf)|((with_reducible refine need_i ?_ ?_)<;>first|omega|conv=>whnf)|with_reducible exact rfl|((with_reducible first|refine xif_kt (by assumption) ?_|refine xif_kf (by assumption) ?_);conv=>whnf)|((with_reducible refine xif_s ?_ ?_)<;>(intro hb;(try simp (disch:=omega) only [hbS] at hb)<;>conv=>whnf)))
  generalize h % 256 / 64 = q at *
  clear hl'
  refine LoopX_inv tabOk (α := Nat) (fun i => (i : Int) ≤ q) (fun i => [(2, .p 0 0), (4, .p 1 0), (21, I q), (22, I i)]) (fun i => [.box 100 [I 0, I 0, I 0], .box 100 [I (tX i v.1 v.2.1), I (tY i v.1 v.2.1), I v.2.2]]) (fun i => q.toNat - i) 0 [0, 1] (by omega) ?_ ?_
  · ((refine ⟨?_, ?_, ?_, ?_⟩) <;> (repeat' ((conv => whnf); apply And.intro)) <;> (try (first | exact trivial | decide)))
    all_goals first | rfl | exact fun _ _ h => h | (simp [tX, tY, SV.ren, SV.rens]; done) | (simp [SV.wf, SV.wfs]; done) | trace_state
  · intro i hi
    have tb := tXY_bd (q := (i : Int)) (x := v.1) (y := v.2.1) (m := 10000) (by omega)
    by_cases hlt : (i : Int) < q
    · (conv=>whnf);repeat' (first|((with_reducible refine isW ?_;first|refine xwr_ok (by omega) (by omega) ?_|refine xwr_raw ?_);conv=>whnf)|((with_reducible refine isQ ?_;first|refine xquo_nn (by omega) (by omega) (by omega) ?_|refine xquo_ok (by omega) (by omega) (by omega) ?_|refine xquo_raw (by omega) ?_);conv=>whnf)|((with_reducible refine isR ?_;first|refine xrem_nn (by omega) (by omega) ?_|refine xrem_raw (by omega) ?_);conv=>whnf)|((with_reducible refine need_i ?_ ?_)<;>first|omega|conv=>whnf)|with_reducible exact rfl|((with_reducible first|refine xif_kt (by assumption) ?_|refine xif_kf (by assumption) ?_);conv=>whnf)|((with_reducible refine xif_s ?_ ?_)<;>(intro hb;(try simp (disch:=omega) only [hbS] at hb)<;>conv=>whnf)))
      all_goals try (exfalso; omega)
      refine ⟨i + 1, [0, 1], by omega, ?_, by (try dsimp only); omega⟩
      have e : tX ((i + 1 : Nat) : Int) v.1 v.2.1 = 0 - tY i v.1 v.2.1 ∧ tY ((i + 1 : Nat) : Int) v.1 v.2.1 = tX i v.1 v.2.1 := by
        rcases (by omega : i = 0 ∨ i = 1 ∨ i = 2) with rfl | rfl | rfl <;> simp [tX, tY] <;> omega
      dsimp only
      rw [e.1, e.2]
      ((refine ⟨?_, ?_, ?_, ?_⟩) <;> (repeat' ((conv => whnf); apply And.intro)) <;> (try (first | exact trivial | decide)))
      all_goals first | rfl | exact fun _ _ h => h | exact I_eq (by simp) | (simp [SV.wf, SV.wfs]; done) | trace_state
    · obtain hq : (i : Int) = q := by omega
      (conv=>whnf);repeat' (first|((with_reducible refine isW ?_;first|refine xwr_ok (by omega) (by omega) ?_|refine xwr_raw ?_);conv=>whnf)|((with_reducible refine isQ ?_;first|refine xquo_nn (by omega) (by omega) (by omega) ?_|refine xquo_ok (by omega) (by omega) (by omega) ?_|refine xquo_raw (by omega) ?_);conv=>whnf)|((with_reducible refine isR ?_;first|refine xrem_nn (by omega) (by omega) ?_|refine xrem_raw (by omega) ?_);conv=>whnf)|((with_reducible refine need_i ?_ ?_)<;>first|omega|conv=>whnf)|with_reducible exact rfl|((with_reducible first|refine xif_kt (by assumption) ?_|refine xif_kf (by assumption) ?_);conv=>whnf)|((with_reducible refine xif_s ?_ ?_)<;>(intro hb;(try simp (disch:=omega) only [hbS] at hb)<;>conv=>whnf)))
      all_goals try (exfalso; omega)
      rw [hq]
      exact Fin_pure rfl rfl (by simp [SV.wf, SV.wfs])
theorem hValid_x (v : VecT) : PureX Tryz.prog 130 [.a [I v.1, I v.2.1, I v.2.2]] (B (vecB v)) := by
  cases h : vecIn v with
  | true =>
    obtain ⟨q1, q2, q3⟩ := vec_sq h
    have h' := vecIn_iff.1 h
    refine PureX.of Tryz.func130 rfl tabOk rfl rfl rfl (by simp [SV.wfs, SV.wf]) (by simp [SV.wfs, SV.wf]) fun w => ?_
    (conv=>whnf);repeat' (first|((with_reducible refine isW ?_;first|refine xwr_ok (by omega) (by omega) ?_|refine xwr_raw ?_);conv=>whnf)|with_reducible exact rfl|((with_reducible first|refine xif_kt (by assumption) ?_|refine xif_kf (by assumption) ?_);conv=>whnf)|((with_reducible refine xif_s ?_ ?_)<;>(intro hb;(try simp (disch:=omega) only [hbS] at hb)<;>conv=>whnf)))
    all_goals try (exfalso; omega)
    all_goals refine Fin_pure rfl (B_eq ?_) trivial
    all_goals simp [vecB, h]
    all_goals rfl
  | false =>
    have h' := (Bool.eq_false_iff.1 h)
    rw [ne_eq, vecIn_iff] at h'
    refine PureX.of Tryz.func130 rfl tabOk rfl rfl rfl (by simp [SV.wfs, SV.wf]) (by simp [SV.wfs, SV.wf]) fun w => ?_
    (conv=>whnf);repeat' (first|((with_reducible refine isW ?_;first|refine xwr_ok (by omega) (by omega) ?_|refine xwr_raw ?_);conv=>whnf)|with_reducible exact rfl|((with_reducible first|refine xif_kt (by assumption) ?_|refine xif_kf (by assumption) ?_);conv=>whnf)|((with_reducible refine xif_s ?_ ?_)<;>(intro hb;(try simp (disch:=omega) only [hbS] at hb)<;>conv=>whnf)))
    all_goals try (exfalso; omega)
    all_goals refine Fin_pure rfl (B_eq ?_) trivial
    all_goals simp [vecB, h]
def turnF (a b : VecT) : VecT := lowF (a.1 * b.1 - a.2.1 * b.2.1) (a.1 * b.2.1 + a.2.1 * b.1) (a.2.2 * b.2.2)
theorem turn_bd {a b : VecT} (ha : vecB a = true) (hb : vecB b = true) (hD : a.2.2 * b.2.2 ≤ 67108864) :
    (-67108864 ≤ a.1 * b.1 ∧ a.1 * b.1 ≤ 67108864) ∧ (-67108864 ≤ a.2.1 * b.2.1 ∧ a.2.1 * b.2.1 ≤ 67108864) ∧ (-67108864 ≤ a.1 * b.2.1 ∧ a.1 * b.2.1 ≤ 67108864) ∧ (-67108864 ≤ a.2.1 * b.1 ∧ a.2.1 * b.1 ≤ 67108864) ∧ 1 ≤ a.2.2 * b.2.2 := by
  simp only [vecB, Bool.and_eq_true, vecIn_iff] at ha hb
  have m1 := mul_bd (a := a.1) (b := b.1) (A := a.2.2) (B := b.2.2) (by omega) (by omega)
  have m2 := mul_bd (a := a.2.1) (b := b.2.1) (A := a.2.2) (B := b.2.2) (by omega) (by omega)
  have m3 := mul_bd (a := a.1) (b := b.2.1) (A := a.2.2) (B := b.2.2) (by omega) (by omega)
  have m4 := mul_bd (a := a.2.1) (b := b.1) (A := a.2.2) (B := b.2.2) (by omega) (by omega)
  have m5 : 1 * 1 ≤ a.2.2 * b.2.2 := Int.mul_le_mul (by omega) (by omega) (by decide) (by omega)
  omega
theorem Turn_x (a b : VecT) (ha : vecB a = true) (hb' : vecB b = true) (hD : a.2.2 * b.2.2 ≤ 67108864) : PureX Tryz.prog 95 [.a [I a.1, I a.2.1, I a.2.2], .a [I b.1, I b.2.1, I b.2.2]] (.t [.a [I (turnF a b).1, I (turnF a b).2.1, I (turnF a b).2.2], I 0]) := by
  obtain ⟨m1, m2, m3, m4, m5⟩ := turn_bd ha hb' hD
  have hl := low_x (a.1 * b.1 - a.2.1 * b.2.1) (a.1 * b.2.1 + a.2.1 * b.1) (a.2.2 * b.2.2) (by omega) (by omega) (by omega)
  have hd : (turnF a b).2.2 ≤ 67108864 := by
    have hg := gsI_pos (a.1 * b.1 - a.2.1 * b.2.1) (a.1 * b.2.1 + a.2.1 * b.1) (a.2.2 * b.2.2) m5 2
    show (a.2.2 * b.2.2) / _ ≤ 67108864
    have := Int.ediv_le_self (gsI (a.1 * b.1 - a.2.1 * b.2.1) (a.1 * b.2.1 + a.2.1 * b.1) (a.2.2 * b.2.2) 2) (show 0 ≤ a.2.2 * b.2.2 by omega)
    omega
  have hl' : PureX Tryz.prog 131 [I (a.1 * b.1 - a.2.1 * b.2.1), I (a.1 * b.2.1 + a.2.1 * b.1), I (a.2.2 * b.2.2)] (.a [I (turnF a b).1, I (turnF a b).2.1, I (turnF a b).2.2]) := hl
  clear hl
  have hv1 := hValid_x a
  have hv2 := hValid_x b
  rw [ha] at hv1
  rw [hb'] at hv2
  generalize turnF a b = v at *
  refine PureX.of Tryz.func95 rfl tabOk rfl rfl rfl (by simp [SV.wfs, SV.wf]) (by simp [SV.wfs, SV.wf]) fun w => ?_
  (conv=>whnf);repeat' (first|((with_reducible refine isC ?_);first|((first|with_reducible refine CallX_pure (hv1) ?_|with_reducible refine CallX_pure (hv2) ?_|with_reducible refine CallX_pure (hl') ?_)<;>first|omega|with_reducible refine isP ?_|conv=>whnf))|((with_reducible refine isW ?_;first|refine xwr_ok (by omega) (by omega) ?_|refine xwr_raw ?_);conv=>whnf)|with_reducible exact rfl|((with_reducible first|refine xif_kt (by assumption) ?_|refine xif_kf (by assumption) ?_);conv=>whnf)|((with_reducible refine xif_s ?_ ?_)<;>(intro hb;(try simp (disch:=omega) only [hbS] at hb)<;>conv=>whnf)))
  all_goals try (exfalso; omega)
  exact Fin_pure rfl rfl (by simp [SV.wf, SV.wfs])
def beamF (h m : Int) : VecT := turnF (dirF h) (dirF m)
theorem dir_prod (h m : Int) : (dirF h).2.2 * (dirF m).2.2 ≤ 67108864 := by
  have h1 := dir_ok h
  have h2 := dir_ok m
  simp only [vecB, Bool.and_eq_true, vecIn_iff] at h1 h2
  have : (dirF h).2.2 * (dirF m).2.2 ≤ 8065 * 8065 := Int.mul_le_mul h1.2 h2.2 (by omega) (by decide)
  omega
theorem Beam_x (h m : Int) : PureX Tryz.prog 54 [I h, I m] (.a [I (beamF h m).1, I (beamF h m).2.1, I (beamF h m).2.2]) := by
  have hd1 := Dir_x h
  have hd2 := Dir_x m
  have ht := Turn_x (dirF h) (dirF m) (dir_ok h).1 (dir_ok m).1 (dir_prod h m)
  unfold beamF
  generalize turnF (dirF h) (dirF m) = v at *
  generalize dirF h = a at *
  generalize dirF m = b at *
  refine PureX.of Tryz.func54 rfl tabOk rfl rfl rfl (by simp [SV.wfs, SV.wf]) (by simp [SV.wfs, SV.wf]) fun w => ?_
  (conv=>whnf);repeat' (first|((with_reducible refine isC ?_);first|((first|with_reducible refine CallX_pure (hd1) ?_|with_reducible refine CallX_pure (hd2) ?_|with_reducible refine CallX_pure (ht) ?_)<;>first|omega|with_reducible refine isP ?_|conv=>whnf))|with_reducible exact rfl|((with_reducible first|refine xif_kt (by assumption) ?_|refine xif_kf (by assumption) ?_);conv=>whnf)|((with_reducible refine xif_s ?_ ?_)<;>(intro hb;(try simp (disch:=omega) only [hbS] at hb)<;>conv=>whnf)))
  exact Fin_pure rfl rfl (by simp [SV.wf, SV.wfs])
theorem low_vec {x y d : Int} (hd : 1 ≤ d) (hd2 : d ≤ 67108864) (h : x * x + y * y = d * d) : vecB (lowF x y d) = true := by
  have hg := gsI_pos x y d hd 2
  have dv : ∀ z : Int, (z = x ∨ z = y ∨ z = d) → gsI x y d 2 ∣ z := by
    intro z hz
    have h1 : (Nat.gcd (Nat.gcd d.natAbs x.natAbs) y.natAbs) ∣ z.natAbs := by
      rcases hz with rfl | rfl | rfl
      · exact Nat.dvd_trans (Nat.gcd_dvd_left _ _) (Nat.gcd_dvd_right _ _)
      · exact Nat.gcd_dvd_right _ _
      · exact Nat.dvd_trans (Nat.gcd_dvd_left _ _) (Nat.gcd_dvd_left _ _)
    show ((Nat.gcd (Nat.gcd d.natAbs x.natAbs) y.natAbs : Nat) : Int) ∣ z
    exact Int.ofNat_dvd_left.2 h1
  unfold lowF
  generalize gsI x y d 2 = g at *
  obtain ⟨x', hx⟩ := dv x (.inl rfl)
  obtain ⟨y', hy⟩ := dv y (.inr (.inl rfl))
  obtain ⟨d', hd'⟩ := dv d (.inr (.inr rfl))
  have e1 : x.tdiv g = x' := by rw [hx, Int.mul_tdiv_cancel_left _ (by omega)]
  have e2 : y.tdiv g = y' := by rw [hy, Int.mul_tdiv_cancel_left _ (by omega)]
  have e3 : d / g = d' := by rw [hd', Int.mul_ediv_cancel_left _ (by omega)]
  rw [e1, e2, e3]
  clear dv e1 e2 e3
  have hd1 : 1 ≤ d' := by
    refine Int.not_lt.1 fun hn => ?_
    have : g * d' ≤ g * 0 := Int.mul_le_mul_of_nonneg_left (by omega) (by omega)
    omega
  have hd3 : d' ≤ 67108864 := by
    have : 1 * d' ≤ g * d' := Int.mul_le_mul_of_nonneg_right hg.1 (by omega)
    omega
  have hsq : x' * x' + y' * y' = d' * d' := by
    have h2 : (g * g) * (x' * x' + y' * y') = (g * g) * (d' * d') := by grind
    exact Int.eq_of_mul_eq_mul_left (by have := Int.mul_pos (show 0 < g by omega) (show 0 < g by omega); omega) h2
  have sq : ∀ z : Int, z * z ≤ d' * d' → -d' ≤ z ∧ z ≤ d' := by
    intro z hz
    constructor
    · refine Int.not_lt.1 fun hn => ?_
      have h3 : (d' + 1) * (d' + 1) ≤ (-z) * (-z) := Int.mul_le_mul (by omega) (by omega) (by omega) (by omega)
      grind
    · refine Int.not_lt.1 fun hn => ?_
      have h3 : (d' + 1) * (d' + 1) ≤ z * z := Int.mul_le_mul (by omega) (by omega) (by omega) (by omega)
      grind
  have nx : 0 ≤ x' * x' := by rcases Int.le_total 0 x' with h | h; exact Int.mul_nonneg h h; exact Int.mul_nonneg_of_nonpos_of_nonpos h h
  have ny : 0 ≤ y' * y' := by rcases Int.le_total 0 y' with h | h; exact Int.mul_nonneg h h; exact Int.mul_nonneg_of_nonpos_of_nonpos h h
  have s1 := sq x' (by omega)
  have s2 := sq y' (by omega)
  simp only [vecB, Bool.and_eq_true, vecIn_iff, decide_eq_true_eq]
  exact ⟨by omega, hsq⟩
theorem beam_vec (h m : Int) : vecB (beamF h m) = true := by
  have h1 := (dir_ok h).1
  have h2 := (dir_ok m).1
  obtain ⟨_, _, _, _, m5⟩ := turn_bd h1 h2 (dir_prod h m)
  refine low_vec m5 (dir_prod h m) ?_
  simp only [vecB, Bool.and_eq_true, decide_eq_true_eq] at h1 h2
  grind
end Go.Proofs.YtadichckbogcjaaGreatDoor.En
end
