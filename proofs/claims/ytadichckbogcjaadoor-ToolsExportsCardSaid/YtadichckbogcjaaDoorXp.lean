/- Plans: Valid, Text of package plan and of the reference, in plain Lean and by the executor. -/
import Derived.Test.YtadichckbogcjaaDoorXt
set_option linter.all false
namespace Go.Proofs.YtadichckbogcjaaDoor.En
open Go.RowKit
set_option maxRecDepth 100000

def szP (n : Int) : Bool := decide (1 ≤ n) && decide (n ≤ 64)
def vP (x y : Int) (l : List UInt8) : Bool := szP x && szP y && decide ((l.length : Int) = x * y) && l.all fun b => decide (b.toNat ≤ 2)
theorem szP_iff {n : Int} : szP n = true ↔ 1 ≤ n ∧ n ≤ 64 := by simp [szP]
theorem mul_bdP {x y : Int} (hx : szP x = true) (hy : szP y = true) : 1 ≤ x * y ∧ x * y ≤ 4096 := by
  rw [szP_iff] at hx hy
  refine ⟨?_, ?_⟩
  · have := Int.mul_le_mul hx.1 hy.1 (by omega) (by omega)
    omega
  · have := Int.mul_le_mul hx.2 hy.2 (by omega) (by omega)
    omega
def maxU (l : List UInt8) : Nat := l.foldl (fun m x => max m x.toNat) 0
theorem maxU_succ {l : List UInt8} {k : Nat} (hk : k < l.length) : maxU (l.take (k + 1)) = max (maxU (l.take k)) (l.getD k 0).toNat := by
  unfold maxU
  rw [List.take_succ_eq_append_getElem hk, List.foldl_append]
  simp [hk]
theorem maxU_le {l : List UInt8} {m : Nat} : maxU l ≤ m ↔ ∀ b ∈ l, b.toNat ≤ m := by
  have key : ∀ (l : List UInt8) (a : Nat), l.foldl (fun m x => max m x.toNat) a ≤ m ↔ a ≤ m ∧ ∀ b ∈ l, b.toNat ≤ m := by
    intro l
    induction l with
    | nil => intro a; simp
    | cons x l ih =>
      intro a
      rw [List.foldl_cons, ih]
      simp only [List.mem_cons, forall_eq_or_imp, Nat.max_le, and_assoc]
  rw [maxU, key]
  simp
theorem toNat_le (b : UInt8) : b.toNat ≤ 255 := by have := b.toNat_lt; omega
theorem maxU_255 (l : List UInt8) : maxU l ≤ 255 := maxU_le.2 fun b _ => toNat_le b
set_option maxHeartbeats 1000000 in
theorem MaxU_w (A : Option Addr) (c : Nat) (l : List UInt8) {n : Nat} (hl : l.length = n) (hn0 : n ≠ 0) (hn : n ≤ 1000000000) : CallW Tryd.prog 57 [.v (.slice A n c)] (fun w => ArgSl w A n 1 (l.map encU)) (.v (.int .u8 (maxU l : Nat))) := by
  have h1 : maxU (l.take 1) = (l.getD 0 0).toNat := by
    rw [maxU_succ (by omega)]
    simp [maxU]
  refine CallW.of Tryd.func57 rfl tabOk rfl rfl rfl (by simp [SV.wfs, SV.wf]) (by simp [SV.wfs, SV.wf]) fun w hpre => ?_
  (conv=>whnf);repeat' (first|((with_reducible refine isV ?_);first|((first|refine ValX_index tabOk rfl (hpre.mem (by decide) rfl) rfl ?_ ?_ ?_|(with_reducible refine nat_idx ?_);refine ValX_load1n _ _ (0) tabOk rfl rfl rfl (hpre.mem (by decide) rfl) ?_ ?_ ?_|refine ValX_load1 _ _ (0) tabOk rfl rfl rfl (hpre.mem (by decide) rfl) ?_ ?_ ?_)<;>first|rfl|omega|with_reducible refine isP ?_|conv=>whnf))|((with_reducible refine isW ?_;first|refine xwr_ok (by omega) (by omega) ?_|refine xwr_raw ?_);conv=>whnf)|with_reducible exact rfl|((with_reducible first|refine xif_kt (by assumption) ?_|refine xif_kf (by assumption) ?_);conv=>whnf)|((with_reducible refine xif_s ?_ ?_)<;>(intro hb;(try simp (disch:=omega) only [hbS] at hb)<;>conv=>whnf)))
  all_goals try (exfalso; omega)
  refine LoopX_inv tabOk (α := Nat) (fun k => 1 ≤ k ∧ k ≤ n) (fun k => [(0, .v (.slice A n c)), (3, .v (.int .u8 (maxU (l.take k) : Nat))), (4, I k)]) (fun _ => []) (fun k => n - k) 1 [] ⟨Nat.le_refl _, by omega⟩ ?_ ?_
  · dsimp only
    rw [h1]
    ((refine ⟨?_, ?_, ?_, ?_⟩) <;> (repeat' ((conv => whnf); apply And.intro)) <;> (try (first | exact trivial | decide)))
    all_goals first | rfl | exact fun _ _ h => h | (simp [SV.wf, SV.wfs]; done) | trace_state
  · rintro k ⟨hk0, hk⟩
    by_cases hlt : k < n
    · have hnx := maxU_succ (l := l) (k := k) (by omega)
      (conv=>whnf);repeat' (first|((with_reducible refine isV ?_);first|((first|refine ValX_index tabOk rfl (hpre.mem (by decide) rfl) rfl ?_ ?_ ?_|(with_reducible refine nat_idx ?_);refine ValX_load1n _ _ (0) tabOk rfl rfl rfl (hpre.mem (by decide) rfl) ?_ ?_ ?_|refine ValX_load1 _ _ (0) tabOk rfl rfl rfl (hpre.mem (by decide) rfl) ?_ ?_ ?_)<;>first|rfl|omega|with_reducible refine isP ?_|conv=>whnf))|((with_reducible refine isW ?_;first|refine xwr_ok (by omega) (by omega) ?_|refine xwr_raw ?_);conv=>whnf)|with_reducible exact rfl|((with_reducible first|refine xif_kt (by assumption) ?_|refine xif_kf (by assumption) ?_);conv=>whnf)|((with_reducible refine xif_s ?_ ?_)<;>(intro hb;(try simp (disch:=omega) only [hbS] at hb)<;>conv=>whnf)))
      all_goals try (exfalso; omega)
      refine ⟨k + 1, [], by (try dsimp only); omega, ?_, by (try dsimp only); omega⟩
      dsimp only
      rw [hnx, show ((max (maxU (l.take k)) (l.getD k 0).toNat : Nat) : Int) = max ((maxU (l.take k) : Nat) : Int) (((l.getD k 0).toNat : Nat) : Int) by omega]
      ((refine ⟨?_, ?_, ?_, ?_⟩) <;> (repeat' ((conv => whnf); apply And.intro)) <;> (try (first | exact trivial | decide)))
      all_goals first | rfl | exact fun _ _ h => h | (simp [SV.wf, SV.wfs]; done) | trace_state
    · obtain rfl : k = n := by omega
      (conv=>whnf);repeat' (first|((with_reducible refine isW ?_;first|refine xwr_ok (by omega) (by omega) ?_|refine xwr_raw ?_);conv=>whnf)|with_reducible exact rfl|((with_reducible first|refine xif_kt (by assumption) ?_|refine xif_kf (by assumption) ?_);conv=>whnf)|((with_reducible refine xif_s ?_ ?_)<;>(intro hb;(try simp (disch:=omega) only [hbS] at hb)<;>conv=>whnf)))
      all_goals try (exfalso; omega)
      rw [List.take_of_length_le (by omega)]
      exact Fin_pure rfl rfl trivial
theorem psize_x (n : Int) : PureX Tryd.prog 56 [I n] (B (szP n)) := by
  unfold szP
  refine PureX.of Tryd.func56 rfl tabOk rfl rfl rfl (by simp [SV.wfs, SV.wf]) (by simp [SV.wfs, SV.wf]) fun w => ?_
  (conv=>whnf);repeat' (first|with_reducible exact rfl|((with_reducible first|refine xif_kt (by assumption) ?_|refine xif_kf (by assumption) ?_);conv=>whnf)|((with_reducible refine xif_s ?_ ?_)<;>(intro hb;(try simp (disch:=omega) only [hbS] at hb)<;>conv=>whnf)))
  all_goals first | exact Fin_pure rfl rfl trivial | (refine Fin_pure rfl (congrArg B ?_) trivial; simp; omega) | trace_state
abbrev plX3 (x y : Int) (A : Option Addr) (n c : Nat) : SV := .a [I x, I y, .v (.slice A n c)]
theorem pValid_w (x y : Int) (A : Option Addr) (c : Nat) (l : List UInt8) {n : Nat} (hl : l.length = n) (hn : n ≤ maxLen) : CallW Tryd.prog 38 [plX3 x y A n c] (fun w => ArgSl w A n 1 (l.map encU)) (B (vP x y l)) := by
  unfold maxLen at hn
  have k1 := psize_x x
  have k2 := psize_x y
  rcases Bool.eq_false_or_eq_true (szP x) with hx | hx
  rotate_left
  · have e : vP x y l = false := by simp [vP, hx]
    rw [e]
    rw [hx] at k1
    refine CallW.of Tryd.func38 rfl tabOk rfl rfl rfl (by simp [SV.wfs, SV.wf]) (by simp [SV.wfs, SV.wf]) fun w hpre => ?_
    (conv=>whnf);repeat' (first|((with_reducible refine isC ?_);first|((first|with_reducible refine CallX_pure (k1) ?_|with_reducible refine CallX_pure (k2) ?_)<;>first|omega|with_reducible refine isP ?_|conv=>whnf))|((with_reducible refine isW ?_;first|refine xwr_ok (by omega) (by omega) ?_|refine xwr_raw ?_);conv=>whnf)|with_reducible exact rfl|((with_reducible first|refine xif_kt (by assumption) ?_|refine xif_kf (by assumption) ?_);conv=>whnf)|((with_reducible refine xif_s ?_ ?_)<;>(intro hb;(try simp (disch:=omega) only [hbS] at hb)<;>conv=>whnf)))
    all_goals first | exact Fin_pure rfl rfl trivial | trace_state
  rcases Bool.eq_false_or_eq_true (szP y) with hy | hy
  rotate_left
  · have e : vP x y l = false := by simp [vP, hy]
    rw [e]
    rw [hx] at k1
    rw [hy] at k2
    refine CallW.of Tryd.func38 rfl tabOk rfl rfl rfl (by simp [SV.wfs, SV.wf]) (by simp [SV.wfs, SV.wf]) fun w hpre => ?_
    (conv=>whnf);repeat' (first|((with_reducible refine isC ?_);first|((first|with_reducible refine CallX_pure (k1) ?_|with_reducible refine CallX_pure (k2) ?_)<;>first|omega|with_reducible refine isP ?_|conv=>whnf))|((with_reducible refine isW ?_;first|refine xwr_ok (by omega) (by omega) ?_|refine xwr_raw ?_);conv=>whnf)|with_reducible exact rfl|((with_reducible first|refine xif_kt (by assumption) ?_|refine xif_kf (by assumption) ?_);conv=>whnf)|((with_reducible refine xif_s ?_ ?_)<;>(intro hb;(try simp (disch:=omega) only [hbS] at hb)<;>conv=>whnf)))
    all_goals first | exact Fin_pure rfl rfl trivial | trace_state
  have hb := mul_bdP hx hy
  rw [hx] at k1
  rw [hy] at k2
  by_cases hm : (l.length : Int) = x * y
  · have kx := MaxU_w A c l hl (by omega) (by omega)
    have hmx := maxU_255 l
    have e : vP x y l = decide ((maxU l : Int) ≤ 2) := by
      simp only [vP, hx, hy, hm, decide_true, Bool.true_and]
      rw [Bool.eq_iff_iff]
      simp only [List.all_eq_true, decide_eq_true_eq]
      rw [← maxU_le]
      omega
    rw [e]
    refine CallW.of Tryd.func38 rfl tabOk rfl rfl rfl (by simp [SV.wfs, SV.wf]) (by simp [SV.wfs, SV.wf]) fun w hpre => ?_
    (conv=>whnf);repeat' (first|((with_reducible refine isC ?_);first|((first|with_reducible refine CallX_pure (k1) ?_|with_reducible refine CallX_pure (k2) ?_)<;>first|omega|with_reducible refine isP ?_|conv=>whnf)|(((with_reducible refine isF 57 ?_;refine CallX_w (kx) ?_ ?_);(focus exact hpre.mem (by decide) rfl));conv=>whnf))|((with_reducible refine isW ?_;first|refine xwr_ok (by omega) (by omega) ?_|refine xwr_raw ?_);conv=>whnf)|with_reducible exact rfl|((with_reducible first|refine xif_kt (by assumption) ?_|refine xif_kf (by assumption) ?_);conv=>whnf)|((with_reducible refine xif_s ?_ ?_)<;>(intro hb;(try simp (disch:=omega) only [hbS] at hb)<;>conv=>whnf)))
    all_goals try (exfalso; omega)
    all_goals first | exact Fin_pure rfl rfl trivial | (refine Fin_pure rfl (congrArg B ?_) trivial; simp; omega) | trace_state
  · have e : vP x y l = false := by simp [vP, hm]
    rw [e]
    refine CallW.of Tryd.func38 rfl tabOk rfl rfl rfl (by simp [SV.wfs, SV.wf]) (by simp [SV.wfs, SV.wf]) fun w hpre => ?_
    (conv=>whnf);repeat' (first|((with_reducible refine isC ?_);first|((first|with_reducible refine CallX_pure (k1) ?_|with_reducible refine CallX_pure (k2) ?_)<;>first|omega|with_reducible refine isP ?_|conv=>whnf))|((with_reducible refine isW ?_;first|refine xwr_ok (by omega) (by omega) ?_|refine xwr_raw ?_);conv=>whnf)|with_reducible exact rfl|((with_reducible first|refine xif_kt (by assumption) ?_|refine xif_kf (by assumption) ?_);conv=>whnf)|((with_reducible refine xif_s ?_ ?_)<;>(intro hb;(try simp (disch:=omega) only [hbS] at hb)<;>conv=>whnf)))
    all_goals try (exfalso; omega)
    all_goals first | exact Fin_pure rfl rfl trivial | trace_state
theorem bPlan_w (x y : Int) (A : Option Addr) (c : Nat) (l : List UInt8) {n : Nat} (hl : l.length = n) (hn : n ≤ maxLen) : CallW Tryd.prog 20 [plX3 x y A n c] (fun w => ArgSl w A n 1 (l.map encU)) (B (vP x y l)) := by
  unfold maxLen at hn
  by_cases hx : szP x = true
  by_cases hy : szP y = true
  have hb := mul_bdP hx hy
  by_cases hm : (l.length : Int) = x * y
  · have e : vP x y l = l.all fun b => decide (b.toNat ≤ 2) := by simp [vP, hx, hy, hm]
    rw [e]
    rw [szP_iff] at hx hy
    refine CallW.of Tryd.func20 rfl tabOk rfl rfl rfl (by simp [SV.wfs, SV.wf]) (by simp [SV.wfs, SV.wf]) fun w hpre => ?_
    (conv=>whnf);repeat' (first|((with_reducible refine isW ?_;first|refine xwr_ok (by omega) (by omega) ?_|refine xwr_raw ?_);conv=>whnf)|with_reducible exact rfl|((with_reducible first|refine xif_kt (by assumption) ?_|refine xif_kf (by assumption) ?_);conv=>whnf)|((with_reducible refine xif_s ?_ ?_)<;>(intro hb;(try simp (disch:=omega) only [hbS] at hb)<;>conv=>whnf)))
    all_goals try (exfalso; omega)
    refine LoopX_inv tabOk (α := Nat) (fun k => k ≤ n ∧ ∀ j, j < k → (l.getD j 0).toNat ≤ 2) (fun k => [(1, .p 0 0), (3, I k)]) (fun _ => [.box 24 [I x, I y, .v (.slice A n c)]]) (fun k => n - k) 0 [0] ⟨Nat.zero_le _, fun j hj => by omega⟩ ?_ ?_
    · ((refine ⟨?_, ?_, ?_, ?_⟩) <;> (repeat' ((conv => whnf); apply And.intro)) <;> (try (first | exact trivial | decide)))
      all_goals first | rfl | exact fun _ _ h => h | (simp [SV.wf, SV.wfs]; done) | trace_state
    · rintro k ⟨hk, hall⟩
      have h255 := toNat_le (l.getD k 0)
      by_cases hlt : k < n
      · (conv=>whnf);repeat' (first|((with_reducible refine isV ?_);first|((first|refine ValX_index tabOk rfl (hpre.mem (by decide) rfl) rfl ?_ ?_ ?_|(with_reducible refine nat_idx ?_);refine ValX_load1n _ _ (0) tabOk rfl rfl rfl (hpre.mem (by decide) rfl) ?_ ?_ ?_|refine ValX_load1 _ _ (0) tabOk rfl rfl rfl (hpre.mem (by decide) rfl) ?_ ?_ ?_)<;>first|rfl|omega|with_reducible refine isP ?_|conv=>whnf))|((with_reducible refine isW ?_;first|refine xwr_ok (by omega) (by omega) ?_|refine xwr_raw ?_);conv=>whnf)|with_reducible exact rfl|((with_reducible first|refine xif_kt (by assumption) ?_|refine xif_kf (by assumption) ?_);conv=>whnf)|((with_reducible refine xif_s ?_ ?_)<;>(intro hb;(try simp (disch:=omega) only [hbS] at hb)<;>conv=>whnf)))
        all_goals try (exfalso; omega)
        · have hno : (l.all fun b => decide (b.toNat ≤ 2)) = false := by
            rw [List.all_eq_false]
            exact ⟨l.getD k 0, by simp [show k < l.length by omega], by show ¬ decide ((l.getD k 0).toNat ≤ 2) = true; rw [decide_eq_true_eq]; omega⟩
          rw [hno]
          exact Fin_pure rfl rfl trivial
        · refine ⟨k + 1, [0], ⟨by (try dsimp only); omega, fun j hj => ?_⟩, ?_, by (try dsimp only); omega⟩
          · by_cases e : j = k
            · rw [e]; omega
            · exact hall j (by omega)
          · ((refine ⟨?_, ?_, ?_, ?_⟩) <;> (repeat' ((conv => whnf); apply And.intro)) <;> (try (first | exact trivial | decide)))
            all_goals first | rfl | exact fun _ _ h => h | (simp [SV.wf, SV.wfs]; done) | trace_state
      · obtain rfl : k = n := by omega
        have hye : (l.all fun b => decide (b.toNat ≤ 2)) = true := by
          rw [List.all_eq_true]
          intro b hb
          obtain ⟨i, hi, rfl⟩ := List.getElem_of_mem hb
          have := hall i (by omega)
          simpa [hi] using this
        rw [hye]
        (conv=>whnf);repeat' (first|((with_reducible refine isW ?_;first|refine xwr_ok (by omega) (by omega) ?_|refine xwr_raw ?_);conv=>whnf)|with_reducible exact rfl|((with_reducible first|refine xif_kt (by assumption) ?_|refine xif_kf (by assumption) ?_);conv=>whnf)|((with_reducible refine xif_s ?_ ?_)<;>(intro hb;(try simp (disch:=omega) only [hbS] at hb)<;>conv=>whnf)))
        all_goals try (exfalso; omega)
        exact Fin_pure rfl rfl trivial
  all_goals
    have e : vP x y l = false := by first | (simp only [vP, decide_eq_false hm, Bool.and_false, Bool.false_and]; done) | simp [vP, *]
    rw [e]
    try rw [szP_iff] at hx
    try rw [szP_iff] at hy
    refine CallW.of Tryd.func20 rfl tabOk rfl rfl rfl (by simp [SV.wfs, SV.wf]) (by simp [SV.wfs, SV.wf]) fun w hpre => ?_
    (conv=>whnf);repeat' (first|((with_reducible refine isW ?_;first|refine xwr_ok (by omega) (by omega) ?_|refine xwr_raw ?_);conv=>whnf)|with_reducible exact rfl|((with_reducible first|refine xif_kt (by assumption) ?_|refine xif_kf (by assumption) ?_);conv=>whnf)|((with_reducible refine xif_s ?_ ?_)<;>(intro hb;(try simp (disch:=omega) only [hbS] at hb)<;>conv=>whnf)))
    all_goals try (exfalso; omega)
    all_goals first | exact Fin_pure rfl rfl trivial | trace_state
/-! ### texts of plans -/
def sgn (b : UInt8) : UInt8 := ([63, 46, 35] : List UInt8).getD b.toNat 0
def textK (x : Int) (l : List UInt8) : Nat → List UInt8
  | 0 => []
  | k + 1 => textK x l k ++ [sgn (l.getD k 0)] ++ if (k : Int) % x = x - 1 then [10] else []
theorem textK_len (x : Int) (l : List UInt8) : ∀ k, k ≤ (textK x l k).length ∧ (textK x l k).length ≤ 2 * k
  | 0 => by simp [textK]
  | k + 1 => by
    have ih := textK_len x l k
    unfold textK
    split <;> simp only [List.length_append, List.length_cons, List.length_nil] <;> omega
def textP (x y : Int) (l : List UInt8) : List UInt8 := if vP x y l then textK x l l.length else []
theorem vP_all {x y : Int} {l : List UInt8} (h : vP x y l = true) : szP x = true ∧ szP y = true ∧ (l.length : Int) = x * y ∧ ∀ b ∈ l, b.toNat ≤ 2 := by
  simp only [vP, Bool.and_eq_true, decide_eq_true_eq, List.all_eq_true] at h
  exact ⟨h.1.1.1, h.1.1.2, h.1.2, h.2⟩
def bx (u : Bool) (j : Nat) : SV := match u with
  | true => .p j 0
  | false => .v (.pointer none)
theorem bx_or (u : Bool) : bx u 0 = .v (.pointer none) ∨ bx u 0 = .p 0 0 := by cases u <;> simp [bx]
theorem bx_ren (u : Bool) (j : Nat) (y : Value) (r : List Nat) : [bx u j, SV.v y] = SV.rens (j :: r) [bx u 0, .v y] := by cases u <;> rfl
theorem bx_wf (u : Bool) (j : Nat) (y : Value) : SV.wfs (j + 1) [bx u j, SV.v y] := by cases u <;> simp [bx, SV.wf, SV.wfs]
theorem bx_wf0 (u : Bool) (y : Value) {n : Nat} : SV.wfs (n + 1) [bx u 0, SV.v y] := by cases u <;> simp [bx, SV.wf, SV.wfs]
set_option maxHeartbeats 4000000 in
theorem pText_w (x y : Int) (A : Option Addr) (c : Nat) (l : List UInt8) {n : Nat} (hl : l.length = n) (hn : n ≤ maxLen) : CallW Tryd.prog 18 [plX3 x y A n c] (fun w => ArgSl w A n 1 (l.map encU)) (S (textP x y l)) := by
  have kv := pValid_w x y A c l hl hn
  unfold textP
  rcases Bool.eq_false_or_eq_true (vP x y l) with hv | hv
  rotate_left
  · rw [hv] at kv ⊢
    refine CallW.of Tryd.func18 rfl tabOk rfl rfl rfl (by simp [SV.wfs, SV.wf]) (by simp [SV.wfs, SV.wf]) fun w hpre => ?_
    (conv=>whnf);repeat' (first|((with_reducible refine isC ?_);first|(((with_reducible refine isF 38 ?_;refine CallX_w (kv) ?_ ?_);(focus exact hpre.mem (by decide) rfl));conv=>whnf))|((with_reducible refine isW ?_;first|refine xwr_ok (by omega) (by omega) ?_|refine xwr_raw ?_);conv=>whnf)|((with_reducible refine isR ?_;first|refine xrem_nn (by omega) (by omega) ?_|refine xrem_raw (by omega) ?_);conv=>whnf)|((with_reducible refine need_i ?_ ?_)<;>first|omega|conv=>whnf)|((first|refine DrawX_s tabOk folOk ?_|refine DrawS_i (by kernel_rfl) ?_|with_reducible refine andX_i ?_ ?_)<;>conv=>whnf)|with_reducible exact rfl|((with_reducible first|refine xif_kt (by assumption) ?_|refine xif_kf (by assumption) ?_);conv=>whnf)|((with_reducible refine xif_s ?_ ?_)<;>(intro hb;(try simp (disch:=omega) only [hbS] at hb)<;>conv=>whnf)))
    exact Fin_pure rfl rfl trivial
  · rw [hv] at kv ⊢
    rw [if_pos rfl]
    obtain ⟨hx, hy, hm, hall⟩ := vP_all hv
    have hb := mul_bdP hx hy
    rw [szP_iff] at hx hy
    refine CallW.of Tryd.func18 rfl tabOk rfl rfl rfl (by simp [SV.wfs, SV.wf]) (by simp [SV.wfs, SV.wf]) fun w hpre => ?_
    (conv=>whnf);repeat' (first|((with_reducible refine isC ?_);first|(((with_reducible refine isF 38 ?_;refine CallX_w (kv) ?_ ?_);(focus exact hpre.mem (by decide) rfl));conv=>whnf))|((with_reducible refine isW ?_;first|refine xwr_ok (by omega) (by omega) ?_|refine xwr_raw ?_);conv=>whnf)|((with_reducible refine isR ?_;first|refine xrem_nn (by omega) (by omega) ?_|refine xrem_raw (by omega) ?_);conv=>whnf)|((with_reducible refine need_i ?_ ?_)<;>first|omega|conv=>whnf)|((first|refine DrawX_s tabOk folOk ?_|refine DrawS_i (by kernel_rfl) ?_|with_reducible refine andX_i ?_ ?_)<;>conv=>whnf)|with_reducible exact rfl|((with_reducible first|refine xif_kt (by assumption) ?_|refine xif_kf (by assumption) ?_);conv=>whnf)|((with_reducible refine xif_s ?_ ?_)<;>(intro hb;(try simp (disch:=omega) only [hbS] at hb)<;>conv=>whnf)))
    refine LoopX_addNil 5 1 ?_
    conv => whnf
    refine LoopX_inv tabOk (α := Nat × (Option Addr × Nat) × Bool) (fun s => s.1 ≤ n ∧ (s.1 = 0 → s.2.1.1 = none)) (fun s => [(1, .p 0 0), (3, .p 1 0), (10, .v (.slice A n c)), (11, I n), (12, I s.1)])
      (fun s => [.box 24 [I x, I y, .v (.slice A n c)], bldB (bx s.2.2 1) s.2.1.1 (textK x l s.1).length s.2.1.2, bldR s.2.1.1 (textK x l s.1).length s.2.1.2 (textK x l s.1)]) (fun s => n - s.1) (0, (none, 0), false) [0, 1, 2] ⟨Nat.zero_le _, fun _ => rfl⟩ ?_ ?_
    · ((refine ⟨?_, ?_, ?_, ?_⟩) <;> (repeat' ((conv => whnf); apply And.intro)) <;> (try (first | exact trivial | decide)))
      all_goals first | rfl | exact fun _ _ h => h | (simp [SV.wf, SV.wfs]; done) | trace_state
    · rintro ⟨k, ⟨A1, c1⟩, u⟩ ⟨hk, hz⟩
      dsimp only at hk hz ⊢
      have hbd := textK_len x l k
      by_cases hlt : k < n
      · have hnx : textK x l (k + 1) = textK x l k ++ [sgn (l.getD k 0)] ++ if (k : Int) % x = x - 1 then [10] else [] := rfl
        have hbk := hall (l.getD k 0) (by simp [show k < l.length by omega])
        have hsg : (([63, 46, 35] : List UInt8).getD ((((l.getD k 0).toNat : Nat) : Int)).toNat 0) = sgn (l.getD k 0) := rfl
        generalize textK x l k = X at *
        have kw := WriteByte_m (bx u 0) (bx_or u) A1 X.length c1 X (sgn (l.getD k 0)) (by omega)
        (conv=>whnf);repeat' (first|((with_reducible refine isC ?_);first|(((with_reducible refine isF 39 ?_;refine CallX_m (kw) [1, 2] ?_ ?_ ?_ ?_ ?_);(focus exact rfl);(focus exact ⟨⟨rfl, bx_ren u 1 _ _, bx_wf0 u _⟩, ⟨rfl, rfl, rfl, rfl, rfl, rfl⟩, trivial⟩);(focus decide);(focus exact (fun _ _ _ _ => trivial));intro q; obtain ⟨A2, c2⟩ := q; dsimp only);conv=>whnf))|((with_reducible refine isV ?_);first|((first|refine ValX_index tabOk rfl (hpre.mem (by decide) rfl) rfl ?_ ?_ ?_|(with_reducible refine nat_idx ?_);refine ValX_load1n _ _ (0) tabOk rfl rfl rfl (hpre.mem (by decide) rfl) ?_ ?_ ?_|refine ValX_load1 _ _ (0) tabOk rfl rfl rfl (hpre.mem (by decide) rfl) ?_ ?_ ?_)<;>first|rfl|omega|with_reducible refine isP ?_|conv=>whnf)|(refine ValX_sIdx (a := [63, 46, 35]) rfl Tryd.underlying9 (by omega) (by show (_ : Int) < 3; omega) ?_; rw [hsg]; conv => whnf))|((with_reducible refine isW ?_;first|refine xwr_ok (by omega) (by omega) ?_|refine xwr_raw ?_);conv=>whnf)|((with_reducible refine isR ?_;first|refine xrem_nn (by omega) (by omega) ?_|refine xrem_raw (by omega) ?_);conv=>whnf)|((with_reducible refine need_i ?_ ?_)<;>first|omega|conv=>whnf)|((first|refine DrawX_s tabOk folOk ?_|refine DrawS_i (by kernel_rfl) ?_|with_reducible refine andX_i ?_ ?_)<;>conv=>whnf)|with_reducible exact rfl|((with_reducible first|refine xif_kt (by assumption) ?_|refine xif_kf (by assumption) ?_);conv=>whnf)|((with_reducible refine xif_s ?_ ?_)<;>(intro hb;(try simp (disch:=omega) only [hbS] at hb)<;>conv=>whnf)))
        all_goals try (exfalso; omega)
        · refine CallX_m (WriteByte_m (bx true 0) (bx_or true) A2 (X.length + 1) c2 (X ++ [sgn (l.getD k 0)]) 10 (by omega)) [1, 2] rfl ⟨⟨rfl, rfl, by simp [SV.wf, SV.wfs, bx]⟩, ⟨rfl, rfl, rfl, rfl, rfl, rfl⟩, trivial⟩ (by decide) (fun _ _ _ _ => trivial) ?_
          rintro ⟨A3, c3⟩
          dsimp only
          (conv=>whnf);repeat' (first|((with_reducible refine isW ?_;first|refine xwr_ok (by omega) (by omega) ?_|refine xwr_raw ?_);conv=>whnf)|((with_reducible refine isR ?_;first|refine xrem_nn (by omega) (by omega) ?_|refine xrem_raw (by omega) ?_);conv=>whnf)|((with_reducible refine need_i ?_ ?_)<;>first|omega|conv=>whnf)|((first|refine DrawX_s tabOk folOk ?_|refine DrawS_i (by kernel_rfl) ?_|with_reducible refine andX_i ?_ ?_)<;>conv=>whnf)|with_reducible exact rfl|((with_reducible first|refine xif_kt (by assumption) ?_|refine xif_kf (by assumption) ?_);conv=>whnf)|((with_reducible refine xif_s ?_ ?_)<;>(intro hb;(try simp (disch:=omega) only [hbS] at hb)<;>conv=>whnf)))
          all_goals try (exfalso; omega)
          refine ⟨(k + 1, (A3, c3), true), [0, 1, 2], ⟨by (try dsimp only); omega, fun h => by cases h⟩, ?_, by (try dsimp only); omega⟩
          dsimp only
          rw [hnx, if_pos hb, show ((X ++ [sgn (l.getD k 0)] ++ [10] : List UInt8)).length = X.length + 1 + 1 by simp]
          ((refine ⟨?_, ?_, ?_, ?_⟩) <;> (repeat' ((conv => whnf); apply And.intro)) <;> (try (first | exact trivial | decide)))
          all_goals first | rfl | exact fun _ _ h => h | (simp [SV.wf, SV.wfs]; done) | trace_state
          all_goals simp [bx, SV.wf]
        · refine ⟨(k + 1, (A2, c2), true), [0, 1, 2], ⟨by (try dsimp only); omega, fun h => by cases h⟩, ?_, by (try dsimp only); omega⟩
          dsimp only
          rw [hnx, if_neg hb, List.append_nil, show ((X ++ [sgn (l.getD k 0)] : List UInt8)).length = X.length + 1 by simp]
          ((refine ⟨?_, ?_, ?_, ?_⟩) <;> (repeat' ((conv => whnf); apply And.intro)) <;> (try (first | exact trivial | decide)))
          all_goals first | rfl | exact fun _ _ h => h | (simp [SV.wf, SV.wfs]; done) | trace_state
          all_goals simp [bx, SV.wf]
      · obtain rfl : k = n := by omega
        have ks := BString_m A1 _ c1 (textK x l k) rfl (by
          intro h0
          exact hz (by omega)) (by omega) (bx u 0) (bx_or u)
        (conv=>whnf);repeat' (first|((with_reducible refine isC ?_);first|(((with_reducible refine isF 30 ?_;refine CallX_m (ks) [1, 2] ?_ ?_ ?_ ?_ ?_);(focus exact rfl);(focus exact ⟨⟨rfl, bx_ren u 1 _ _, bx_wf0 u _⟩, ⟨rfl, rfl, rfl, rfl, rfl, rfl⟩, trivial⟩);(focus decide);(focus exact (fun _ _ _ _ => trivial));intro q);conv=>whnf))|((with_reducible refine isW ?_;first|refine xwr_ok (by omega) (by omega) ?_|refine xwr_raw ?_);conv=>whnf)|((with_reducible refine isR ?_;first|refine xrem_nn (by omega) (by omega) ?_|refine xrem_raw (by omega) ?_);conv=>whnf)|((with_reducible refine need_i ?_ ?_)<;>first|omega|conv=>whnf)|((first|refine DrawX_s tabOk folOk ?_|refine DrawS_i (by kernel_rfl) ?_|with_reducible refine andX_i ?_ ?_)<;>conv=>whnf)|with_reducible exact rfl|((with_reducible first|refine xif_kt (by assumption) ?_|refine xif_kf (by assumption) ?_);conv=>whnf)|((with_reducible refine xif_s ?_ ?_)<;>(intro hb;(try simp (disch:=omega) only [hbS] at hb)<;>conv=>whnf)))
        all_goals try (exfalso; omega)
        rw [hl]
        exact Fin_pure rfl rfl trivial
end Go.Proofs.YtadichckbogcjaaDoor.En
