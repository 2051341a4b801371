/- The reference's atlas by the executor: Put, Place, Scan, Where -/
import Derived.Test.YtodaijlclbngbaaGreatRy
import Derived.Test.YtodaijlclbngbaaGreatAe
set_option linter.all false
namespace Go.Proofs.YtodaijlclbngbaaGreat.En
open Go.RowKit
set_option maxRecDepth 100000

theorem rf_ad (b off i sz : Nat) : ((⟨b, 0, none⟩ : Addr).add off).add ((i : Int).toNat * sz) = ⟨b, off + sz * i, none⟩ := by
  rw [Addr.add_mid, Addr.add_mid, Int.toNat_natCast, Nat.zero_add, Nat.mul_comm]
theorem rf_ad0 (b off i sz : Nat) : (((⟨b, 0, none⟩ : Addr).add off).add ((i : Int).toNat * sz)).add 0 = ⟨b, off + sz * i, none⟩ := by
  rw [rf_ad, Addr.add_mid, Nat.add_zero]
section
variable {C : Ctx} {ob : List OB} {b : Nat} {r : RfT} {o : Oper} {t : TypeId} {x y : Operand} {te : TI}
theorem ValX_rfH (j i : Nat) (v : Bool) {K : SV → Prop} (hT : TabOk C.P C.T) (ho : o.op = .load t x) (hte : lookT C.T t = some te) (hagg : te.agg = false) (hj : nth ob j = some (rfO b r)) (hi : i < 64) (hv : r.h i = v) (hK : K (B v)) :
    ValX C o [.v (.pointer (some (((⟨b, 0, none⟩ : Addr).add 64).add ((i : Int).toNat * 1))))] ob K := by
  subst hv
  refine ValX_rf1 j (64 + i) _ hT ho hte hagg (by rw [rf_ad, Nat.one_mul]) (by omega) hj ?_ hK
  unfold rfC
  rw [if_neg (by omega), if_pos (by omega), Nat.add_sub_cancel_left]
theorem ValX_rfS (j i : Nat) (v : SlT) {K : SV → Prop} (hT : TabOk C.P C.T) (ho : o.op = .load t x) (hte : lookT C.T t = some te) (hagg : te.agg = false) (hj : nth ob j = some (rfO b r)) (hi : i < 64) (hv : r.s i = v) (hK : K (.v (.slice v.1 v.2.2.length v.2.1))) :
    ValX C o [.v (.pointer (some (((⟨b, 0, none⟩ : Addr).add 0).add ((i : Int).toNat * 1))))] ob K := by
  subst hv
  refine ValX_rf1 j i _ hT ho hte hagg (by rw [rf_ad, Nat.one_mul, Nat.zero_add]) (by omega) hj ?_ hK
  unfold rfC
  rw [if_pos hi]
  rfl
theorem ValX_rfV (j i : Nat) (v : Int) {K : SV → Prop} (hT : TabOk C.P C.T) (ho : o.op = .load t x) (hte : lookT C.T t = some te) (hagg : te.agg = false) (hj : nth ob j = some (rfO b r)) (hi : i < 64) (hv : (r.p i).1 = v) (hK : K (I v)) :
    ValX C o [.v (.pointer (some ((((⟨b, 0, none⟩ : Addr).add 128).add ((i : Int).toNat * 5)).add 0)))] ob K := by
  subst hv
  refine ValX_rf1 j (128 + 5 * i + 0) _ hT ho hte hagg (by rw [rf_ad0]; rfl) (by omega) hj (rfC_pl r hi (by omega)) hK
theorem ValX_rfQ (j i : Nat) (v : PlT) {K : SV → Prop} (hT : TabOk C.P C.T) (ho : o.op = .load t x) (hte : lookT C.T t = some te) (hagg : te.agg = true) (hz : te.zero.length = 5) (hj : nth ob j = some (rfO b r)) (hi : i < 64) (hv : r.p i = v) (hK : K (plX v)) :
    ValX C o [.v (.pointer (some (((⟨b, 0, none⟩ : Addr).add 128).add ((i : Int).toNat * 5))))] ob K := by
  subst hv
  exact ValX_rfP j i hT ho hte hagg hz (rf_ad b 128 i 5) hi hj hK
theorem OpX_rfH (j i : Nat) (v : Bool) {K : SV → List OB → Prop} (hT : TabOk C.P C.T) (ho : o.op = .store t x y) (hte : lookT C.T t = some te) (hz : te.zero.length = 1) (hj : nth ob j = some (rfO b r)) (hi : i < 64) (hK : force (setN ob j (rfO b { r with h := setF r.h i v })) fun ob => K (.v undef) ob) :
    OpX C o [.v (.pointer (some (((⟨b, 0, none⟩ : Addr).add 64).add ((i : Int).toNat * 1)))), .v (.bool v)] ob K :=
  OpX_rf (off := 64 + i) (vs := [.bool v]) j _ hT ho hte (by rw [rf_ad, Nat.one_mul]) (by simp; omega) (by rw [hz]; rfl) (fun σ => .inr ⟨_, rfl, rfl⟩) (by simp [Value.oneCell']) (rfC_setH r i hi v) rfl hj hK
theorem OpX_rfQ (j i : Nat) (v : PlT) {K : SV → List OB → Prop} (hT : TabOk C.P C.T) (ho : o.op = .store t x y) (hte : lookT C.T t = some te) (hz : te.zero.length = 5) (hj : nth ob j = some (rfO b r)) (hi : i < 64) (hK : force (setN ob j (rfO b { r with p := setF r.p i v })) fun ob => K (.v undef) ob) :
    OpX C o [.v (.pointer (some (((⟨b, 0, none⟩ : Addr).add 128).add ((i : Int).toNat * 5)))), plX v] ob K :=
  OpX_rf (off := 128 + 5 * i) (vs := plL v) j _ hT ho hte (rf_ad b 128 i 5) (by simp [plL]; omega) (by rw [hz]; rfl) (fun σ => .inl rfl) (by simp [plL, Value.oneCell']) (rfC_setP r i hi v) rfl hj hK
theorem OpX_rfT {e m : Nat} {els : List (List Value)} (j q i : Nat) (s : SlT) {K : SV → List OB → Prop} (hjq : j ≠ q) (hT : TabOk C.P C.T) (ho : o.op = .store t x y) (hte : lookT C.T t = some te) (hz : te.zero.length = 1) (hj : nth ob j = some (rfO b r)) (hi : i < 64)
    (hm : m = s.2.2.length) (he : els = s.2.2.map encBm) (hq : nth ob q = some (.row e 2 s.1 m s.2.1 els)) (hK : force (setN (setN ob j (rfO b { r with s := setF r.s i s })) q noO) fun ob => K (.v undef) ob) :
    OpX C o [.v (.pointer (some (((⟨b, 0, none⟩ : Addr).add 0).add ((i : Int).toNat * 1)))), .v (.slice s.1 m s.2.1)] ob K := by
  subst hm he
  exact OpX_rfS j q i hjq hi hT ho hte (by rw [rf_ad, Nat.one_mul, Nat.zero_add]) hz hj hq hK
end
/-- what an atlas of the reference keeps -/
def okR (r : RfT) : Prop := ∀ k, scanB (r.s k).2.2 = true ∧ smP (r.p k) ∧ 0 ≤ (r.p k).1 ∧ ((r.p k).1 = 0 → r.p k = (0, false, 0, 0, 0)) ∧ (vId k = false → r.h k = false ∧ (r.p k).1 = 0)
def absR (r : RfT) : AtT := (fun k => if r.h k then some (r.s k).2.2 else none, fun k => if (r.p k).1 = 0 then none else some (r.p k))
abbrev RfI (a : AtT) := {r : RfT // okR r ∧ absR r = a}
theorem okR0 : okR rf0 := fun _ => ⟨(by decide : scanB [] = true), smP0, Int.le_refl _, fun _ => rfl, fun _ => ⟨rfl, rfl⟩⟩
theorem absR0 : absR rf0 = at0 := rfl
theorem putR_ok {r : RfT} (hok : okR r) {i : Nat} (hi : i < 64) {s : BmsT} (hs : scanB s = true) {A : Option Addr} {c : Nat} (hm : mxO keyS ((absR r).1 i) s = some s) :
    okR { r with h := setF r.h i true, s := setF r.s i (A, c, s) } ∧ absR { r with h := setF r.h i true, s := setF r.s i (A, c, s) } = putA (absR r) i s := by
  have hv : vId (i : Int) = true := by
    simp only [vId, Bool.and_eq_true, decide_eq_true_eq]
    omega
  constructor
  · intro k
    obtain ⟨h1, h2, h3, h4, h5⟩ := hok k
    refine ⟨?_, h2, h3, h4, fun hk => ⟨?_, (h5 hk).2⟩⟩
    · show scanB (setF r.s i (A, c, s) k).2.2 = true
      unfold setF
      split
      · exact hs
      · exact h1
    · show setF r.h i true k = false
      unfold setF
      rw [if_neg (by rintro rfl; rw [hv] at hk; cases hk)]
      exact (h5 hk).1
  · unfold putA
    rw [hs, hv]
    refine Prod.ext ?_ rfl
    funext k
    show (if setF r.h i true k then some (setF r.s i (A, c, s) k).2.2 else none) = updF (absR r).1 i (mxO keyS ((absR r).1 i) s) k
    rw [hm]
    unfold setF updF
    split
    · rfl
    · rfl
theorem plcR_ok {r : RfT} (hok : okR r) {i : Nat} (hi : i < 64) {p : PlT} (hp : vPl p = true) (hm : mxO keyP ((absR r).2 i) p = some p) :
    okR { r with p := setF r.p i p } ∧ absR { r with p := setF r.p i p } = plcA (absR r) i p := by
  have hv : vId (i : Int) = true := by
    simp only [vId, Bool.and_eq_true, decide_eq_true_eq]
    omega
  have h1p : 1 ≤ p.1 := by
    unfold vPl at hp
    simp only [Bool.and_eq_true, decide_eq_true_eq] at hp
    omega
  constructor
  · intro k
    obtain ⟨h1, h2, h3, h4, h5⟩ := hok k
    by_cases e : k = (i : Int)
    · have e2 : setF r.p i p k = p := by unfold setF; rw [if_pos e]
      refine ⟨h1, ?_, ?_, ?_, fun hk => by rw [e, hv] at hk; cases hk⟩
      · show smP (setF r.p i p k)
        rw [e2]
        exact vPl_sm hp
      · show 0 ≤ (setF r.p i p k).1
        rw [e2]
        omega
      · show (setF r.p i p k).1 = 0 → _
        rw [e2]
        omega
    · have e2 : setF r.p i p k = r.p k := by unfold setF; rw [if_neg e]
      refine ⟨h1, ?_, ?_, ?_, fun hk => ⟨(h5 hk).1, ?_⟩⟩
      · show smP (setF r.p i p k)
        rw [e2]
        exact h2
      · show 0 ≤ (setF r.p i p k).1
        rw [e2]
        exact h3
      · show (setF r.p i p k).1 = 0 → setF r.p i p k = _
        rw [e2]
        exact h4
      · show (setF r.p i p k).1 = 0
        rw [e2]
        exact (h5 hk).2
  · unfold plcA
    rw [hp, hv]
    refine Prod.ext rfl ?_
    funext k
    show (if (setF r.p i p k).1 = 0 then none else some (setF r.p i p k)) = updF (absR r).2 i (mxO keyP ((absR r).2 i) p) k
    rw [hm]
    unfold setF updF
    split
    · rw [if_neg (by omega)]
    · rfl
set_option maxHeartbeats 2000000 in
theorem rPut_m (b : Nat) (r : RfT) (k : Int) (A : Option Addr) (c : Nat) (s : BmsT) {n : Nat} (hl : s.length = n) (hn : n ≤ maxLen) (hok : okR r) :
    CallM Tryz.prog 38 [pR b, I k, .v (.slice A n c)] (fun w M => ArgN w M A n 2 (s.map encBm)) [rfO b r] (fun _ : RfI (putA (absR r) k s) => I (putC k s)) (fun q => [rfO b q.1]) := by
  have hn' := hn
  unfold maxLen at hn'
  subst hl
  have kv := bScan_w A c s rfl hn
  have ki := rId_x k
  refine CallM.of (m := 1) Tryz.func38 rfl tabOk rfl rfl rfl rfl (by simp [SV.wfs, SV.wf]) fun w M π hpre => ?_
  rcases Bool.eq_false_or_eq_true (scanB s) with hv | hv
  rotate_left
  · rw [hv] at kv
    (conv => whnf); repeat' (first | ((with_reducible refine isC ?_); first | ((with_reducible refine isF 61 ?_); (with_reducible refine CallX_w (kv) ?_ ?_); (focus (exact ArgN.mem hpre (by decide))); conv => whnf)) | ((with_reducible refine isO ?_); first | ((refine OpX_build0 tabOk rfl rfl rfl ?_); intro bN; conv => whnf) | ((refine OpX_build tabOk rfl rfl rfl rfl rfl ?_); intro bN; conv => whnf)) | ((with_reducible refine isW ?_); first | ((with_reducible refine xwr_ok (by omega) (by omega) ?_); conv => whnf) | ((with_reducible refine xwr_raw ?_); conv => whnf)) | ((with_reducible refine isQ ?_); first | ((with_reducible refine xquo_nn (by omega) (by omega) (by omega) ?_); conv => whnf) | ((with_reducible refine xquo_ok (by omega) (by omega) (by omega) ?_); conv => whnf) | ((with_reducible refine xquo_raw (by omega) ?_); conv => whnf)) | ((with_reducible refine isR ?_); first | ((with_reducible refine xrem_nn (by omega) (by omega) ?_); conv => whnf) | ((with_reducible refine xrem_raw (by omega) ?_); conv => whnf)) | ((with_reducible refine isS ?_); first | ((with_reducible refine xshr_1 ?_); conv => whnf)) | ((with_reducible refine isK ?_); first | ((with_reducible refine xcv_i64 (by omega) (by omega) ?_); conv => whnf) | ((with_reducible refine xcv_u64 (by omega) (by omega) ?_); conv => whnf) | ((with_reducible refine xcv_u8 (by omega) (by omega) ?_); conv => whnf) | ((with_reducible refine xcv_raw ?_); conv => whnf)) | ((with_reducible refine need_i ?_ ?_) <;> first | omega | (conv => whnf)) | ((refine DrawX_s tabOk folOk ?_); conv => whnf) | ((refine DrawS_i (by kernel_rfl) ?_); conv => whnf) | ((with_reducible refine andX_i ?_ ?_) <;> (conv => whnf)) | (with_reducible exact rfl) | ((with_reducible refine xif_kt (by with_reducible assumption) ?_); conv => whnf) | ((with_reducible refine xif_kf (by with_reducible assumption) ?_); conv => whnf) | (((with_reducible refine xif_s ?_ ?_) <;> (intro hb; (try simp (disch := omega) only [wr, ge_dec, gt_dec, decide_eq_true_eq, decide_eq_false_iff_not, beq_iff_eq, bne_iff_ne, beq_eq_false_iff_ne, bne_eq_false_iff_eq, Bool.not_eq_true', Bool.not_eq_false', Bool.and_eq_true, Bool.or_eq_true, Bool.not_not, ne_eq, Decidable.not_not, Int.not_le, Int.not_lt, Int.toNat_natCast, not_true_eq_false, eq_self, Bool.not_true, Bool.not_false, Bool.true_eq_false, Bool.false_eq_true] at hb))) <;> (conv => whnf)))
    exact Fin_m ⟨r, hok, by unfold putA; rw [hv]; rfl⟩ [0] ⟨by unfold putC; rw [hv]; rfl, by simp [SV.wf, SV.wfs]⟩ ⟨fun _ _ h => h, trivial⟩ (by decide) rfl
  · rw [hv] at kv
    rcases Bool.eq_false_or_eq_true (vId k) with hi | hi
    rotate_left
    · rw [hi] at ki
      (conv => whnf); repeat' (first | ((with_reducible refine isC ?_); first | ((with_reducible refine isF 61 ?_); (with_reducible refine CallX_w (kv) ?_ ?_); (focus (exact ArgN.mem hpre (by decide))); conv => whnf) | ((with_reducible refine CallX_pure (ki) ?_) <;> first | omega | (with_reducible show (_ : Int) ≤ _) | (with_reducible show (_ : Int) < _) | (with_reducible show (_ : Nat) ≤ _) | (with_reducible show (_ : Nat) < _) | (conv => whnf))) | ((with_reducible refine isO ?_); first | ((refine OpX_build0 tabOk rfl rfl rfl ?_); intro bN; conv => whnf) | ((refine OpX_build tabOk rfl rfl rfl rfl rfl ?_); intro bN; conv => whnf)) | ((with_reducible refine isW ?_); first | ((with_reducible refine xwr_ok (by omega) (by omega) ?_); conv => whnf) | ((with_reducible refine xwr_raw ?_); conv => whnf)) | ((with_reducible refine isQ ?_); first | ((with_reducible refine xquo_nn (by omega) (by omega) (by omega) ?_); conv => whnf) | ((with_reducible refine xquo_ok (by omega) (by omega) (by omega) ?_); conv => whnf) | ((with_reducible refine xquo_raw (by omega) ?_); conv => whnf)) | ((with_reducible refine isR ?_); first | ((with_reducible refine xrem_nn (by omega) (by omega) ?_); conv => whnf) | ((with_reducible refine xrem_raw (by omega) ?_); conv => whnf)) | ((with_reducible refine isS ?_); first | ((with_reducible refine xshr_1 ?_); conv => whnf)) | ((with_reducible refine isK ?_); first | ((with_reducible refine xcv_i64 (by omega) (by omega) ?_); conv => whnf) | ((with_reducible refine xcv_u64 (by omega) (by omega) ?_); conv => whnf) | ((with_reducible refine xcv_u8 (by omega) (by omega) ?_); conv => whnf) | ((with_reducible refine xcv_raw ?_); conv => whnf)) | ((with_reducible refine need_i ?_ ?_) <;> first | omega | (conv => whnf)) | ((refine DrawX_s tabOk folOk ?_); conv => whnf) | ((refine DrawS_i (by kernel_rfl) ?_); conv => whnf) | ((with_reducible refine andX_i ?_ ?_) <;> (conv => whnf)) | (with_reducible exact rfl) | ((with_reducible refine xif_kt (by with_reducible assumption) ?_); conv => whnf) | ((with_reducible refine xif_kf (by with_reducible assumption) ?_); conv => whnf) | (((with_reducible refine xif_s ?_ ?_) <;> (intro hb; (try simp (disch := omega) only [wr, ge_dec, gt_dec, decide_eq_true_eq, decide_eq_false_iff_not, beq_iff_eq, bne_iff_ne, beq_eq_false_iff_ne, bne_eq_false_iff_eq, Bool.not_eq_true', Bool.not_eq_false', Bool.and_eq_true, Bool.or_eq_true, Bool.not_not, ne_eq, Decidable.not_not, Int.not_le, Int.not_lt, Int.toNat_natCast, not_true_eq_false, eq_self, Bool.not_true, Bool.not_false, Bool.true_eq_false, Bool.false_eq_true] at hb))) <;> (conv => whnf)))
      exact Fin_m ⟨r, hok, by unfold putA; rw [hv, hi]; rfl⟩ [0] ⟨by unfold putC; rw [hv, hi]; rfl, by simp [SV.wf, SV.wfs]⟩ ⟨fun _ _ h => h, trivial⟩ (by decide) rfl
    · rw [hi] at ki
      have hcode : putC k s = 0 := by unfold putC; rw [hv, hi]; rfl
      rw [hcode]
      have hs32 : s.length ≤ 32 := by
        unfold scanB at hv
        simp only [Bool.and_eq_true, decide_eq_true_eq] at hv
        exact hv.1
      have hi' := hi
      simp only [vId, Bool.and_eq_true, decide_eq_true_eq] at hi'
      obtain ⟨i, rfl⟩ := Int.eq_ofNat_of_zero_le hi'.1
      have hi64 : i < 64 := by omega
      have hput := fun (A1 : Option Addr) (c1 : Nat) (hm : mxO keyS ((absR r).1 i) s = some s) => putR_ok (A := A1) (c := c1) hok hi64 hv hm
      rcases Bool.eq_false_or_eq_true (r.h i) with hh | hh
      rotate_left
      · have hm : mxO keyS ((absR r).1 i) s = some s := by
          have : (absR r).1 (i : Int) = none := by unfold absR; dsimp only; rw [hh]; rfl
          rw [this]
          rfl
        (conv => whnf); repeat' (first | ((with_reducible refine isC ?_); first | ((with_reducible refine isF 61 ?_); (with_reducible refine CallX_w (kv) ?_ ?_); (focus (exact ArgN.mem hpre (by decide))); conv => whnf) | ((with_reducible refine CallX_pure (ki) ?_) <;> first | omega | (with_reducible show (_ : Int) ≤ _) | (with_reducible show (_ : Int) < _) | (with_reducible show (_ : Nat) ≤ _) | (with_reducible show (_ : Nat) < _) | (conv => whnf))) | ((with_reducible refine isV ?_); first | ((refine ValX_arr (n := 64) (sz := 1) tabOk rfl Tryz.underlying73 rfl rfl ?_ ?_ ?_) <;> first | omega | (conv => whnf)) | ((refine ValX_arr (n := 64) (sz := 1) tabOk rfl Tryz.underlying72 rfl rfl ?_ ?_ ?_) <;> first | omega | (conv => whnf)) | ((refine ValX_arr (n := 64) (sz := 5) tabOk rfl Tryz.underlying74 rfl rfl ?_ ?_ ?_) <;> first | omega | (conv => whnf)) | (refine ValX_rfH 0 i false tabOk rfl rfl rfl rfl hi64 hh ?_; conv => whnf)) | ((with_reducible refine isO ?_); first | (refine OpX_rfH 0 i true tabOk rfl rfl rfl rfl hi64 ?_; conv => whnf) | ((refine OpX_append 1 tabOk rfl rfl rfl rfl (ArgN.mem hpre (by decide)) (by decide) ?_ ?_ ?_) <;> first | omega | (dsimp only; omega) | (intro A' c'; conv => whnf)) | (refine OpX_rfT 0 1 i (A', c', s) (by decide) tabOk rfl rfl rfl rfl hi64 (Nat.zero_add _) (List.nil_append _) rfl ?_; conv => whnf) | ((refine OpX_build0 tabOk rfl rfl rfl ?_); intro bN; conv => whnf) | ((refine OpX_build tabOk rfl rfl rfl rfl rfl ?_); intro bN; conv => whnf)) | ((with_reducible refine isW ?_); first | ((with_reducible refine xwr_ok (by omega) (by omega) ?_); conv => whnf) | ((with_reducible refine xwr_raw ?_); conv => whnf)) | ((with_reducible refine isQ ?_); first | ((with_reducible refine xquo_nn (by omega) (by omega) (by omega) ?_); conv => whnf) | ((with_reducible refine xquo_ok (by omega) (by omega) (by omega) ?_); conv => whnf) | ((with_reducible refine xquo_raw (by omega) ?_); conv => whnf)) | ((with_reducible refine isR ?_); first | ((with_reducible refine xrem_nn (by omega) (by omega) ?_); conv => whnf) | ((with_reducible refine xrem_raw (by omega) ?_); conv => whnf)) | ((with_reducible refine isS ?_); first | ((with_reducible refine xshr_1 ?_); conv => whnf)) | ((with_reducible refine isK ?_); first | ((with_reducible refine xcv_i64 (by omega) (by omega) ?_); conv => whnf) | ((with_reducible refine xcv_u64 (by omega) (by omega) ?_); conv => whnf) | ((with_reducible refine xcv_u8 (by omega) (by omega) ?_); conv => whnf) | ((with_reducible refine xcv_raw ?_); conv => whnf)) | ((with_reducible refine need_i ?_ ?_) <;> first | omega | (conv => whnf)) | ((refine DrawX_s tabOk folOk ?_); conv => whnf) | ((refine DrawS_i (by kernel_rfl) ?_); conv => whnf) | ((with_reducible refine andX_i ?_ ?_) <;> (conv => whnf)) | (with_reducible exact rfl) | ((with_reducible refine xif_kt (by with_reducible assumption) ?_); conv => whnf) | ((with_reducible refine xif_kf (by with_reducible assumption) ?_); conv => whnf) | (((with_reducible refine xif_s ?_ ?_) <;> (intro hb; (try simp (disch := omega) only [wr, ge_dec, gt_dec, decide_eq_true_eq, decide_eq_false_iff_not, beq_iff_eq, bne_iff_ne, beq_eq_false_iff_ne, bne_eq_false_iff_eq, Bool.not_eq_true', Bool.not_eq_false', Bool.and_eq_true, Bool.or_eq_true, Bool.not_not, ne_eq, Decidable.not_not, Int.not_le, Int.not_lt, Int.toNat_natCast, not_true_eq_false, eq_self, Bool.not_true, Bool.not_false, Bool.true_eq_false, Bool.false_eq_true] at hb))) <;> (conv => whnf)))
        exact Fin_m ⟨_, hput A' c' hm⟩ [0] ⟨rfl, by simp [SV.wf, SV.wfs]⟩ ⟨fun _ _ h => h, trivial⟩ (by decide) rfl
      · have hsm : (absR r).1 (i : Int) = some (r.s i).2.2 := by unfold absR; dsimp only; rw [hh]; rfl
        have kc := rCompare_w A (r.s i).1 c (r.s i).2.1 s (r.s i).2.2 rfl rfl hv (hok i).1
        have hsl : r.s (i : Int) = r.s i := rfl
        generalize hL : lexC (keyS s) (keyS (r.s i).2.2) = L at *
        (conv => whnf); repeat' (first | ((with_reducible refine isC ?_); first | ((with_reducible refine isF 61 ?_); (with_reducible refine CallX_w (kv) ?_ ?_); (focus (exact ArgN.mem hpre (by decide))); conv => whnf) | ((with_reducible refine CallX_pure (ki) ?_) <;> first | omega | (with_reducible show (_ : Int) ≤ _) | (with_reducible show (_ : Int) < _) | (with_reducible show (_ : Nat) ≤ _) | (with_reducible show (_ : Nat) < _) | (conv => whnf)) | ((with_reducible refine isF 62 ?_); (refine CallX_w kc (fun σ fp w hm => ⟨ArgN.mem hpre (by decide) σ fp w hm, ArgSl.rf 0 i hi64 rfl σ fp w hm⟩) ?_); conv => whnf)) | ((with_reducible refine isV ?_); first | ((refine ValX_arr (n := 64) (sz := 1) tabOk rfl Tryz.underlying73 rfl rfl ?_ ?_ ?_) <;> first | omega | (conv => whnf)) | ((refine ValX_arr (n := 64) (sz := 1) tabOk rfl Tryz.underlying72 rfl rfl ?_ ?_ ?_) <;> first | omega | (conv => whnf)) | ((refine ValX_arr (n := 64) (sz := 5) tabOk rfl Tryz.underlying74 rfl rfl ?_ ?_ ?_) <;> first | omega | (conv => whnf)) | (refine ValX_rfH 0 i true tabOk rfl rfl rfl rfl hi64 hh ?_; conv => whnf) | (refine ValX_rfS 0 i (r.s i) tabOk rfl rfl rfl rfl hi64 rfl ?_; conv => whnf)) | ((with_reducible refine isO ?_); first | (refine OpX_rfH 0 i true tabOk rfl rfl rfl rfl hi64 ?_; conv => whnf) | ((refine OpX_append 1 tabOk rfl rfl rfl rfl (ArgN.mem hpre (by decide)) (by decide) ?_ ?_ ?_) <;> first | omega | (dsimp only; omega) | (intro A' c'; conv => whnf)) | (refine OpX_rfT 0 1 i (A', c', s) (by decide) tabOk rfl rfl rfl rfl hi64 (Nat.zero_add _) (List.nil_append _) rfl ?_; conv => whnf) | ((refine OpX_build0 tabOk rfl rfl rfl ?_); intro bN; conv => whnf) | ((refine OpX_build tabOk rfl rfl rfl rfl rfl ?_); intro bN; conv => whnf)) | ((with_reducible refine isW ?_); first | ((with_reducible refine xwr_ok (by omega) (by omega) ?_); conv => whnf) | ((with_reducible refine xwr_raw ?_); conv => whnf)) | ((with_reducible refine isQ ?_); first | ((with_reducible refine xquo_nn (by omega) (by omega) (by omega) ?_); conv => whnf) | ((with_reducible refine xquo_ok (by omega) (by omega) (by omega) ?_); conv => whnf) | ((with_reducible refine xquo_raw (by omega) ?_); conv => whnf)) | ((with_reducible refine isR ?_); first | ((with_reducible refine xrem_nn (by omega) (by omega) ?_); conv => whnf) | ((with_reducible refine xrem_raw (by omega) ?_); conv => whnf)) | ((with_reducible refine isS ?_); first | ((with_reducible refine xshr_1 ?_); conv => whnf)) | ((with_reducible refine isK ?_); first | ((with_reducible refine xcv_i64 (by omega) (by omega) ?_); conv => whnf) | ((with_reducible refine xcv_u64 (by omega) (by omega) ?_); conv => whnf) | ((with_reducible refine xcv_u8 (by omega) (by omega) ?_); conv => whnf) | ((with_reducible refine xcv_raw ?_); conv => whnf)) | ((with_reducible refine need_i ?_ ?_) <;> first | omega | (conv => whnf)) | ((refine DrawX_s tabOk folOk ?_); conv => whnf) | ((refine DrawS_i (by kernel_rfl) ?_); conv => whnf) | ((with_reducible refine andX_i ?_ ?_) <;> (conv => whnf)) | (with_reducible exact rfl) | ((with_reducible refine xif_kt (by with_reducible assumption) ?_); conv => whnf) | ((with_reducible refine xif_kf (by with_reducible assumption) ?_); conv => whnf) | (((with_reducible refine xif_s ?_ ?_) <;> (intro hb; (try simp (disch := omega) only [wr, ge_dec, gt_dec, decide_eq_true_eq, decide_eq_false_iff_not, beq_iff_eq, bne_iff_ne, beq_eq_false_iff_ne, bne_eq_false_iff_eq, Bool.not_eq_true', Bool.not_eq_false', Bool.and_eq_true, Bool.or_eq_true, Bool.not_not, ne_eq, Decidable.not_not, Int.not_le, Int.not_lt, Int.toNat_natCast, not_true_eq_false, eq_self, Bool.not_true, Bool.not_false, Bool.true_eq_false, Bool.false_eq_true] at hb))) <;> (conv => whnf)))
        · exact Fin_m ⟨_, hput A' c' (by rw [hsm]; unfold mxO; dsimp only; rw [hL, if_pos hb])⟩ [0] ⟨rfl, by simp [SV.wf, SV.wfs]⟩ ⟨fun _ _ h => h, trivial⟩ (by decide) rfl
        · refine Fin_m ⟨r, hok, ?_⟩ [0] ⟨rfl, by simp [SV.wf, SV.wfs]⟩ ⟨fun _ _ h => h, trivial⟩ (by decide) rfl
          unfold putA
          rw [hv, hi]
          have hx : mxO keyS ((absR r).1 i) s = (absR r).1 i := by
            rw [hsm]
            unfold mxO
            dsimp only
            rw [hL, if_neg (by omega)]
          rw [hx, upd_self]
          rfl
set_option maxHeartbeats 2000000 in
theorem rPlace_m (b : Nat) (r : RfT) (k : Int) (p : PlT) (hok : okR r) :
    CallM Tryz.prog 37 [pR b, I k, plX p] (fun _ _ => True) [rfO b r] (fun _ : RfI (plcA (absR r) k p) => I (plcC k p)) (fun q => [rfO b q.1]) := by
  have kv := rPlacement_x p
  have ki := rId_x k
  refine CallM.of (m := 1) Tryz.func37 rfl tabOk rfl rfl rfl rfl (by simp [SV.wfs, SV.wf]) fun w M π _ => ?_
  rcases Bool.eq_false_or_eq_true (vPl p) with hv | hv
  rotate_left
  · rw [hv] at kv
    (conv => whnf); repeat' (first | ((with_reducible refine isC ?_); first | ((with_reducible refine CallX_pure (kv) ?_) <;> first | omega | (with_reducible show (_ : Int) ≤ _) | (with_reducible show (_ : Int) < _) | (with_reducible show (_ : Nat) ≤ _) | (with_reducible show (_ : Nat) < _) | (conv => whnf))) | ((with_reducible refine isO ?_); first | ((refine OpX_build0 tabOk rfl rfl rfl ?_); intro bN; conv => whnf) | ((refine OpX_build tabOk rfl rfl rfl rfl rfl ?_); intro bN; conv => whnf)) | ((with_reducible refine isW ?_); first | ((with_reducible refine xwr_ok (by omega) (by omega) ?_); conv => whnf) | ((with_reducible refine xwr_raw ?_); conv => whnf)) | ((with_reducible refine isQ ?_); first | ((with_reducible refine xquo_nn (by omega) (by omega) (by omega) ?_); conv => whnf) | ((with_reducible refine xquo_ok (by omega) (by omega) (by omega) ?_); conv => whnf) | ((with_reducible refine xquo_raw (by omega) ?_); conv => whnf)) | ((with_reducible refine isR ?_); first | ((with_reducible refine xrem_nn (by omega) (by omega) ?_); conv => whnf) | ((with_reducible refine xrem_raw (by omega) ?_); conv => whnf)) | ((with_reducible refine isS ?_); first | ((with_reducible refine xshr_1 ?_); conv => whnf)) | ((with_reducible refine isK ?_); first | ((with_reducible refine xcv_i64 (by omega) (by omega) ?_); conv => whnf) | ((with_reducible refine xcv_u64 (by omega) (by omega) ?_); conv => whnf) | ((with_reducible refine xcv_u8 (by omega) (by omega) ?_); conv => whnf) | ((with_reducible refine xcv_raw ?_); conv => whnf)) | ((with_reducible refine need_i ?_ ?_) <;> first | omega | (conv => whnf)) | ((refine DrawX_s tabOk folOk ?_); conv => whnf) | ((refine DrawS_i (by kernel_rfl) ?_); conv => whnf) | ((with_reducible refine andX_i ?_ ?_) <;> (conv => whnf)) | (with_reducible exact rfl) | ((with_reducible refine xif_kt (by with_reducible assumption) ?_); conv => whnf) | ((with_reducible refine xif_kf (by with_reducible assumption) ?_); conv => whnf) | (((with_reducible refine xif_s ?_ ?_) <;> (intro hb; (try simp (disch := omega) only [wr, ge_dec, gt_dec, decide_eq_true_eq, decide_eq_false_iff_not, beq_iff_eq, bne_iff_ne, beq_eq_false_iff_ne, bne_eq_false_iff_eq, Bool.not_eq_true', Bool.not_eq_false', Bool.and_eq_true, Bool.or_eq_true, Bool.not_not, ne_eq, Decidable.not_not, Int.not_le, Int.not_lt, Int.toNat_natCast, not_true_eq_false, eq_self, Bool.not_true, Bool.not_false, Bool.true_eq_false, Bool.false_eq_true] at hb))) <;> (conv => whnf)))
    exact Fin_m ⟨r, hok, by unfold plcA; rw [hv]; rfl⟩ [0] ⟨by unfold plcC; rw [hv]; rfl, by simp [SV.wf, SV.wfs]⟩ ⟨fun _ _ h => h, trivial⟩ (by decide) rfl
  · rw [hv] at kv
    rcases Bool.eq_false_or_eq_true (vId k) with hi | hi
    rotate_left
    · rw [hi] at ki
      (conv => whnf); repeat' (first | ((with_reducible refine isC ?_); first | ((with_reducible refine CallX_pure (kv) ?_) <;> first | omega | (with_reducible show (_ : Int) ≤ _) | (with_reducible show (_ : Int) < _) | (with_reducible show (_ : Nat) ≤ _) | (with_reducible show (_ : Nat) < _) | (conv => whnf)) | ((with_reducible refine CallX_pure (ki) ?_) <;> first | omega | (with_reducible show (_ : Int) ≤ _) | (with_reducible show (_ : Int) < _) | (with_reducible show (_ : Nat) ≤ _) | (with_reducible show (_ : Nat) < _) | (conv => whnf))) | ((with_reducible refine isO ?_); first | ((refine OpX_build0 tabOk rfl rfl rfl ?_); intro bN; conv => whnf) | ((refine OpX_build tabOk rfl rfl rfl rfl rfl ?_); intro bN; conv => whnf)) | ((with_reducible refine isW ?_); first | ((with_reducible refine xwr_ok (by omega) (by omega) ?_); conv => whnf) | ((with_reducible refine xwr_raw ?_); conv => whnf)) | ((with_reducible refine isQ ?_); first | ((with_reducible refine xquo_nn (by omega) (by omega) (by omega) ?_); conv => whnf) | ((with_reducible refine xquo_ok (by omega) (by omega) (by omega) ?_); conv => whnf) | ((with_reducible refine xquo_raw (by omega) ?_); conv => whnf)) | ((with_reducible refine isR ?_); first | ((with_reducible refine xrem_nn (by omega) (by omega) ?_); conv => whnf) | ((with_reducible refine xrem_raw (by omega) ?_); conv => whnf)) | ((with_reducible refine isS ?_); first | ((with_reducible refine xshr_1 ?_); conv => whnf)) | ((with_reducible refine isK ?_); first | ((with_reducible refine xcv_i64 (by omega) (by omega) ?_); conv => whnf) | ((with_reducible refine xcv_u64 (by omega) (by omega) ?_); conv => whnf) | ((with_reducible refine xcv_u8 (by omega) (by omega) ?_); conv => whnf) | ((with_reducible refine xcv_raw ?_); conv => whnf)) | ((with_reducible refine need_i ?_ ?_) <;> first | omega | (conv => whnf)) | ((refine DrawX_s tabOk folOk ?_); conv => whnf) | ((refine DrawS_i (by kernel_rfl) ?_); conv => whnf) | ((with_reducible refine andX_i ?_ ?_) <;> (conv => whnf)) | (with_reducible exact rfl) | ((with_reducible refine xif_kt (by with_reducible assumption) ?_); conv => whnf) | ((with_reducible refine xif_kf (by with_reducible assumption) ?_); conv => whnf) | (((with_reducible refine xif_s ?_ ?_) <;> (intro hb; (try simp (disch := omega) only [wr, ge_dec, gt_dec, decide_eq_true_eq, decide_eq_false_iff_not, beq_iff_eq, bne_iff_ne, beq_eq_false_iff_ne, bne_eq_false_iff_eq, Bool.not_eq_true', Bool.not_eq_false', Bool.and_eq_true, Bool.or_eq_true, Bool.not_not, ne_eq, Decidable.not_not, Int.not_le, Int.not_lt, Int.toNat_natCast, not_true_eq_false, eq_self, Bool.not_true, Bool.not_false, Bool.true_eq_false, Bool.false_eq_true] at hb))) <;> (conv => whnf)))
      exact Fin_m ⟨r, hok, by unfold plcA; rw [hv, hi]; rfl⟩ [0] ⟨by unfold plcC; rw [hv, hi]; rfl, by simp [SV.wf, SV.wfs]⟩ ⟨fun _ _ h => h, trivial⟩ (by decide) rfl
    · rw [hi] at ki
      have hcode : plcC k p = 0 := by unfold plcC; rw [hv, hi]; rfl
      rw [hcode]
      have hi' := hi
      simp only [vId, Bool.and_eq_true, decide_eq_true_eq] at hi'
      obtain ⟨i, rfl⟩ := Int.eq_ofNat_of_zero_le hi'.1
      have hi64 : i < 64 := by omega
      obtain ⟨_, hsm, h0, hz, _⟩ := hok i
      have hput := fun (hm : mxO keyP ((absR r).2 i) p = some p) => plcR_ok hok hi64 hv hm
      have hcase : (0 < lexC (keyP p) (keyP (r.p i)) → mxO keyP ((absR r).2 i) p = some p) ∧ (¬ 0 < lexC (keyP p) (keyP (r.p i)) → mxO keyP ((absR r).2 i) p = (absR r).2 i) := by
        have e : (absR r).2 (i : Int) = if (r.p i).1 = 0 then none else some (r.p i) := rfl
        rw [e]
        by_cases h : (r.p i).1 = 0
        · rw [if_pos h, hz h]
          refine ⟨fun _ => rfl, fun hn => ?_⟩
          have hp1 : 1 ≤ p.1 := by
            unfold vPl at hv
            simp only [Bool.and_eq_true, decide_eq_true_eq] at hv
            omega
          refine (hn ?_).elim
          unfold keyP
          simp only [lexC]
          rw [if_neg (by rw [cmpI_zero]; omega)]
          exact cmpI_pos.2 (by omega)
        · rw [if_neg h]
          unfold mxO
          dsimp only
          exact ⟨fun h => by rw [if_pos h], fun h => by rw [if_neg h]⟩
      have kc := PureD.pure (rLater_d p (r.p i) (vPl_sm hv) hsm)
      generalize lexC (keyP p) (keyP (r.p i)) = L at *
      (conv => whnf); repeat' (first | ((with_reducible refine isC ?_); first | ((with_reducible refine CallX_pure (kv) ?_) <;> first | omega | (with_reducible show (_ : Int) ≤ _) | (with_reducible show (_ : Int) < _) | (with_reducible show (_ : Nat) ≤ _) | (with_reducible show (_ : Nat) < _) | (conv => whnf)) | ((with_reducible refine CallX_pure (ki) ?_) <;> first | omega | (with_reducible show (_ : Int) ≤ _) | (with_reducible show (_ : Int) < _) | (with_reducible show (_ : Nat) ≤ _) | (with_reducible show (_ : Nat) < _) | (conv => whnf)) | ((with_reducible refine CallX_pure (kc) ?_) <;> first | omega | (with_reducible show (_ : Int) ≤ _) | (with_reducible show (_ : Int) < _) | (with_reducible show (_ : Nat) ≤ _) | (with_reducible show (_ : Nat) < _) | (conv => whnf))) | ((with_reducible refine isV ?_); first | ((refine ValX_arr (n := 64) (sz := 1) tabOk rfl Tryz.underlying73 rfl rfl ?_ ?_ ?_) <;> first | omega | (conv => whnf)) | ((refine ValX_arr (n := 64) (sz := 1) tabOk rfl Tryz.underlying72 rfl rfl ?_ ?_ ?_) <;> first | omega | (conv => whnf)) | ((refine ValX_arr (n := 64) (sz := 5) tabOk rfl Tryz.underlying74 rfl rfl ?_ ?_ ?_) <;> first | omega | (conv => whnf)) | (refine ValX_rfQ 0 i (r.p i) tabOk rfl rfl rfl rfl rfl hi64 rfl ?_; conv => whnf)) | ((with_reducible refine isO ?_); first | (refine OpX_rfQ 0 i p tabOk rfl rfl rfl rfl hi64 ?_; conv => whnf) | ((refine OpX_build0 tabOk rfl rfl rfl ?_); intro bN; conv => whnf) | ((refine OpX_build tabOk rfl rfl rfl rfl rfl ?_); intro bN; conv => whnf)) | ((with_reducible refine isW ?_); first | ((with_reducible refine xwr_ok (by omega) (by omega) ?_); conv => whnf) | ((with_reducible refine xwr_raw ?_); conv => whnf)) | ((with_reducible refine isQ ?_); first | ((with_reducible refine xquo_nn (by omega) (by omega) (by omega) ?_); conv => whnf) | ((with_reducible refine xquo_ok (by omega) (by omega) (by omega) ?_); conv => whnf) | ((with_reducible refine xquo_raw (by omega) ?_); conv => whnf)) | ((with_reducible refine isR ?_); first | ((with_reducible refine xrem_nn (by omega) (by omega) ?_); conv => whnf) | ((with_reducible refine xrem_raw (by omega) ?_); conv => whnf)) | ((with_reducible refine isS ?_); first | ((with_reducible refine xshr_1 ?_); conv => whnf)) | ((with_reducible refine isK ?_); first | ((with_reducible refine xcv_i64 (by omega) (by omega) ?_); conv => whnf) | ((with_reducible refine xcv_u64 (by omega) (by omega) ?_); conv => whnf) | ((with_reducible refine xcv_u8 (by omega) (by omega) ?_); conv => whnf) | ((with_reducible refine xcv_raw ?_); conv => whnf)) | ((with_reducible refine need_i ?_ ?_) <;> first | omega | (conv => whnf)) | ((refine DrawX_s tabOk folOk ?_); conv => whnf) | ((refine DrawS_i (by kernel_rfl) ?_); conv => whnf) | ((with_reducible refine andX_i ?_ ?_) <;> (conv => whnf)) | (with_reducible exact rfl) | ((with_reducible refine xif_kt (by with_reducible assumption) ?_); conv => whnf) | ((with_reducible refine xif_kf (by with_reducible assumption) ?_); conv => whnf) | (((with_reducible refine xif_s ?_ ?_) <;> (intro hb; (try simp (disch := omega) only [wr, ge_dec, gt_dec, decide_eq_true_eq, decide_eq_false_iff_not, beq_iff_eq, bne_iff_ne, beq_eq_false_iff_ne, bne_eq_false_iff_eq, Bool.not_eq_true', Bool.not_eq_false', Bool.and_eq_true, Bool.or_eq_true, Bool.not_not, ne_eq, Decidable.not_not, Int.not_le, Int.not_lt, Int.toNat_natCast, not_true_eq_false, eq_self, Bool.not_true, Bool.not_false, Bool.true_eq_false, Bool.false_eq_true] at hb))) <;> (conv => whnf)))
      · exact Fin_m ⟨_, hput (hcase.1 hb)⟩ [0] ⟨rfl, by simp [SV.wf, SV.wfs]⟩ ⟨fun _ _ h => h, trivial⟩ (by decide) rfl
      · refine Fin_m ⟨r, hok, ?_⟩ [0] ⟨rfl, by simp [SV.wf, SV.wfs]⟩ ⟨fun _ _ h => h, trivial⟩ (by decide) rfl
        unfold plcA
        rw [hv, hi, hcase.2 (by omega), upd_self]
        rfl
/-- the scan of an id, or nil -/
def rsOf (r : RfT) (k : Int) : SlT := if r.h k then r.s k else (none, 0, [])
theorem rScan_m (b : Nat) (r : RfT) (k : Int) (hok : okR r) :
    CallM Tryz.prog 40 [pR b, I k] (fun _ _ => True) [rfO b r] (fun _ : Unit => .t [.v (.slice (rsOf r k).1 (rsOf r k).2.2.length (rsOf r k).2.1), B (r.h k)]) (fun _ => [rfO b r]) := by
  have ki := rId_x k
  refine CallM.of (m := 1) Tryz.func40 rfl tabOk rfl rfl rfl rfl (by simp [SV.wfs, SV.wf]) fun w M π _ => ?_
  rcases Bool.eq_false_or_eq_true (vId k) with hi | hi
  rotate_left
  · rw [hi] at ki
    obtain ⟨_, _, _, _, h5⟩ := hok k
    have hh := (h5 hi).1
    (conv => whnf); repeat' (first | ((with_reducible refine isC ?_); first | ((with_reducible refine CallX_pure (ki) ?_) <;> first | omega | (with_reducible show (_ : Int) ≤ _) | (with_reducible show (_ : Int) < _) | (with_reducible show (_ : Nat) ≤ _) | (with_reducible show (_ : Nat) < _) | (conv => whnf))) | ((with_reducible refine isO ?_); first | ((refine OpX_build0 tabOk rfl rfl rfl ?_); intro bN; conv => whnf) | ((refine OpX_build tabOk rfl rfl rfl rfl rfl ?_); intro bN; conv => whnf)) | ((with_reducible refine isW ?_); first | ((with_reducible refine xwr_ok (by omega) (by omega) ?_); conv => whnf) | ((with_reducible refine xwr_raw ?_); conv => whnf)) | ((with_reducible refine isQ ?_); first | ((with_reducible refine xquo_nn (by omega) (by omega) (by omega) ?_); conv => whnf) | ((with_reducible refine xquo_ok (by omega) (by omega) (by omega) ?_); conv => whnf) | ((with_reducible refine xquo_raw (by omega) ?_); conv => whnf)) | ((with_reducible refine isR ?_); first | ((with_reducible refine xrem_nn (by omega) (by omega) ?_); conv => whnf) | ((with_reducible refine xrem_raw (by omega) ?_); conv => whnf)) | ((with_reducible refine isS ?_); first | ((with_reducible refine xshr_1 ?_); conv => whnf)) | ((with_reducible refine isK ?_); first | ((with_reducible refine xcv_i64 (by omega) (by omega) ?_); conv => whnf) | ((with_reducible refine xcv_u64 (by omega) (by omega) ?_); conv => whnf) | ((with_reducible refine xcv_u8 (by omega) (by omega) ?_); conv => whnf) | ((with_reducible refine xcv_raw ?_); conv => whnf)) | ((with_reducible refine need_i ?_ ?_) <;> first | omega | (conv => whnf)) | ((refine DrawX_s tabOk folOk ?_); conv => whnf) | ((refine DrawS_i (by kernel_rfl) ?_); conv => whnf) | ((with_reducible refine andX_i ?_ ?_) <;> (conv => whnf)) | (with_reducible exact rfl) | ((with_reducible refine xif_kt (by with_reducible assumption) ?_); conv => whnf) | ((with_reducible refine xif_kf (by with_reducible assumption) ?_); conv => whnf) | (((with_reducible refine xif_s ?_ ?_) <;> (intro hb; (try simp (disch := omega) only [wr, ge_dec, gt_dec, decide_eq_true_eq, decide_eq_false_iff_not, beq_iff_eq, bne_iff_ne, beq_eq_false_iff_ne, bne_eq_false_iff_eq, Bool.not_eq_true', Bool.not_eq_false', Bool.and_eq_true, Bool.or_eq_true, Bool.not_not, ne_eq, Decidable.not_not, Int.not_le, Int.not_lt, Int.toNat_natCast, not_true_eq_false, eq_self, Bool.not_true, Bool.not_false, Bool.true_eq_false, Bool.false_eq_true] at hb))) <;> (conv => whnf)))
    exact Fin_m () [0] ⟨by unfold rsOf; rw [hh]; rfl, by simp [SV.wf, SV.wfs]⟩ ⟨fun _ _ h => h, trivial⟩ (by decide) rfl
  · rw [hi] at ki
    have hi' := hi
    simp only [vId, Bool.and_eq_true, decide_eq_true_eq] at hi'
    obtain ⟨i, rfl⟩ := Int.eq_ofNat_of_zero_le hi'.1
    have hi64 : i < 64 := by omega
    rcases Bool.eq_false_or_eq_true (r.h i) with hh | hh
    · (conv => whnf); repeat' (first | ((with_reducible refine isC ?_); first | ((with_reducible refine CallX_pure (ki) ?_) <;> first | omega | (with_reducible show (_ : Int) ≤ _) | (with_reducible show (_ : Int) < _) | (with_reducible show (_ : Nat) ≤ _) | (with_reducible show (_ : Nat) < _) | (conv => whnf))) | ((with_reducible refine isV ?_); first | ((refine ValX_arr (n := 64) (sz := 1) tabOk rfl Tryz.underlying73 rfl rfl ?_ ?_ ?_) <;> first | omega | (conv => whnf)) | ((refine ValX_arr (n := 64) (sz := 1) tabOk rfl Tryz.underlying72 rfl rfl ?_ ?_ ?_) <;> first | omega | (conv => whnf)) | ((refine ValX_arr (n := 64) (sz := 5) tabOk rfl Tryz.underlying74 rfl rfl ?_ ?_ ?_) <;> first | omega | (conv => whnf)) | (refine ValX_rfH 0 i true tabOk rfl rfl rfl rfl hi64 hh ?_; conv => whnf) | (refine ValX_rfS 0 i (r.s i) tabOk rfl rfl rfl rfl hi64 rfl ?_; conv => whnf)) | ((with_reducible refine isO ?_); first | ((refine OpX_build0 tabOk rfl rfl rfl ?_); intro bN; conv => whnf) | ((refine OpX_build tabOk rfl rfl rfl rfl rfl ?_); intro bN; conv => whnf)) | ((with_reducible refine isW ?_); first | ((with_reducible refine xwr_ok (by omega) (by omega) ?_); conv => whnf) | ((with_reducible refine xwr_raw ?_); conv => whnf)) | ((with_reducible refine isQ ?_); first | ((with_reducible refine xquo_nn (by omega) (by omega) (by omega) ?_); conv => whnf) | ((with_reducible refine xquo_ok (by omega) (by omega) (by omega) ?_); conv => whnf) | ((with_reducible refine xquo_raw (by omega) ?_); conv => whnf)) | ((with_reducible refine isR ?_); first | ((with_reducible refine xrem_nn (by omega) (by omega) ?_); conv => whnf) | ((with_reducible refine xrem_raw (by omega) ?_); conv => whnf)) | ((with_reducible refine isS ?_); first | ((with_reducible refine xshr_1 ?_); conv => whnf)) | ((with_reducible refine isK ?_); first | ((with_reducible refine xcv_i64 (by omega) (by omega) ?_); conv => whnf) | ((with_reducible refine xcv_u64 (by omega) (by omega) ?_); conv => whnf) | ((with_reducible refine xcv_u8 (by omega) (by omega) ?_); conv => whnf) | ((with_reducible refine xcv_raw ?_); conv => whnf)) | ((with_reducible refine need_i ?_ ?_) <;> first | omega | (conv => whnf)) | ((refine DrawX_s tabOk folOk ?_); conv => whnf) | ((refine DrawS_i (by kernel_rfl) ?_); conv => whnf) | ((with_reducible refine andX_i ?_ ?_) <;> (conv => whnf)) | (with_reducible exact rfl) | ((with_reducible refine xif_kt (by with_reducible assumption) ?_); conv => whnf) | ((with_reducible refine xif_kf (by with_reducible assumption) ?_); conv => whnf) | (((with_reducible refine xif_s ?_ ?_) <;> (intro hb; (try simp (disch := omega) only [wr, ge_dec, gt_dec, decide_eq_true_eq, decide_eq_false_iff_not, beq_iff_eq, bne_iff_ne, beq_eq_false_iff_ne, bne_eq_false_iff_eq, Bool.not_eq_true', Bool.not_eq_false', Bool.and_eq_true, Bool.or_eq_true, Bool.not_not, ne_eq, Decidable.not_not, Int.not_le, Int.not_lt, Int.toNat_natCast, not_true_eq_false, eq_self, Bool.not_true, Bool.not_false, Bool.true_eq_false, Bool.false_eq_true] at hb))) <;> (conv => whnf)))
      exact Fin_m () [0] ⟨by unfold rsOf; rw [hh]; rfl, by simp [SV.wf, SV.wfs]⟩ ⟨fun _ _ h => h, trivial⟩ (by decide) rfl
    · (conv => whnf); repeat' (first | ((with_reducible refine isC ?_); first | ((with_reducible refine CallX_pure (ki) ?_) <;> first | omega | (with_reducible show (_ : Int) ≤ _) | (with_reducible show (_ : Int) < _) | (with_reducible show (_ : Nat) ≤ _) | (with_reducible show (_ : Nat) < _) | (conv => whnf))) | ((with_reducible refine isV ?_); first | ((refine ValX_arr (n := 64) (sz := 1) tabOk rfl Tryz.underlying73 rfl rfl ?_ ?_ ?_) <;> first | omega | (conv => whnf)) | ((refine ValX_arr (n := 64) (sz := 1) tabOk rfl Tryz.underlying72 rfl rfl ?_ ?_ ?_) <;> first | omega | (conv => whnf)) | ((refine ValX_arr (n := 64) (sz := 5) tabOk rfl Tryz.underlying74 rfl rfl ?_ ?_ ?_) <;> first | omega | (conv => whnf)) | (refine ValX_rfH 0 i false tabOk rfl rfl rfl rfl hi64 hh ?_; conv => whnf)) | ((with_reducible refine isO ?_); first | ((refine OpX_build0 tabOk rfl rfl rfl ?_); intro bN; conv => whnf) | ((refine OpX_build tabOk rfl rfl rfl rfl rfl ?_); intro bN; conv => whnf)) | ((with_reducible refine isW ?_); first | ((with_reducible refine xwr_ok (by omega) (by omega) ?_); conv => whnf) | ((with_reducible refine xwr_raw ?_); conv => whnf)) | ((with_reducible refine isQ ?_); first | ((with_reducible refine xquo_nn (by omega) (by omega) (by omega) ?_); conv => whnf) | ((with_reducible refine xquo_ok (by omega) (by omega) (by omega) ?_); conv => whnf) | ((with_reducible refine xquo_raw (by omega) ?_); conv => whnf)) | ((with_reducible refine isR ?_); first | ((with_reducible refine xrem_nn (by omega) (by omega) ?_); conv => whnf) | ((with_reducible refine xrem_raw (by omega) ?_); conv => whnf)) | ((with_reducible refine isS ?_); first | ((with_reducible refine xshr_1 ?_); conv => whnf)) | ((with_reducible refine isK ?_); first | ((with_reducible refine xcv_i64 (by omega) (by omega) ?_); conv => whnf) | ((with_reducible refine xcv_u64 (by omega) (by omega) ?_); conv => whnf) | ((with_reducible refine xcv_u8 (by omega) (by omega) ?_); conv => whnf) | ((with_reducible refine xcv_raw ?_); conv => whnf)) | ((with_reducible refine need_i ?_ ?_) <;> first | omega | (conv => whnf)) | ((refine DrawX_s tabOk folOk ?_); conv => whnf) | ((refine DrawS_i (by kernel_rfl) ?_); conv => whnf) | ((with_reducible refine andX_i ?_ ?_) <;> (conv => whnf)) | (with_reducible exact rfl) | ((with_reducible refine xif_kt (by with_reducible assumption) ?_); conv => whnf) | ((with_reducible refine xif_kf (by with_reducible assumption) ?_); conv => whnf) | (((with_reducible refine xif_s ?_ ?_) <;> (intro hb; (try simp (disch := omega) only [wr, ge_dec, gt_dec, decide_eq_true_eq, decide_eq_false_iff_not, beq_iff_eq, bne_iff_ne, beq_eq_false_iff_ne, bne_eq_false_iff_eq, Bool.not_eq_true', Bool.not_eq_false', Bool.and_eq_true, Bool.or_eq_true, Bool.not_not, ne_eq, Decidable.not_not, Int.not_le, Int.not_lt, Int.toNat_natCast, not_true_eq_false, eq_self, Bool.not_true, Bool.not_false, Bool.true_eq_false, Bool.false_eq_true] at hb))) <;> (conv => whnf)))
      exact Fin_m () [0] ⟨by unfold rsOf; rw [hh]; rfl, by simp [SV.wf, SV.wfs]⟩ ⟨fun _ _ h => h, trivial⟩ (by decide) rfl
def rpB (r : RfT) (k : Int) : Bool := !decide ((r.p k).1 = 0)
theorem rWhere_m (b : Nat) (r : RfT) (k : Int) (hok : okR r) :
    CallM Tryz.prog 41 [pR b, I k] (fun _ _ => True) [rfO b r] (fun _ : Unit => .t [plX (r.p k), B (rpB r k)]) (fun _ => [rfO b r]) := by
  have ki := rId_x k
  obtain ⟨_, _, _, hz, h5⟩ := hok k
  refine CallM.of (m := 1) Tryz.func41 rfl tabOk rfl rfl rfl rfl (by simp [SV.wfs, SV.wf]) fun w M π _ => ?_
  rcases Bool.eq_false_or_eq_true (vId k) with hi | hi
  rotate_left
  · rw [hi] at ki
    have h0 := (h5 hi).2
    (conv => whnf); repeat' (first | ((with_reducible refine isC ?_); first | ((with_reducible refine CallX_pure (ki) ?_) <;> first | omega | (with_reducible show (_ : Int) ≤ _) | (with_reducible show (_ : Int) < _) | (with_reducible show (_ : Nat) ≤ _) | (with_reducible show (_ : Nat) < _) | (conv => whnf))) | ((with_reducible refine isO ?_); first | ((refine OpX_build0 tabOk rfl rfl rfl ?_); intro bN; conv => whnf) | ((refine OpX_build tabOk rfl rfl rfl rfl rfl ?_); intro bN; conv => whnf)) | ((with_reducible refine isW ?_); first | ((with_reducible refine xwr_ok (by omega) (by omega) ?_); conv => whnf) | ((with_reducible refine xwr_raw ?_); conv => whnf)) | ((with_reducible refine isQ ?_); first | ((with_reducible refine xquo_nn (by omega) (by omega) (by omega) ?_); conv => whnf) | ((with_reducible refine xquo_ok (by omega) (by omega) (by omega) ?_); conv => whnf) | ((with_reducible refine xquo_raw (by omega) ?_); conv => whnf)) | ((with_reducible refine isR ?_); first | ((with_reducible refine xrem_nn (by omega) (by omega) ?_); conv => whnf) | ((with_reducible refine xrem_raw (by omega) ?_); conv => whnf)) | ((with_reducible refine isS ?_); first | ((with_reducible refine xshr_1 ?_); conv => whnf)) | ((with_reducible refine isK ?_); first | ((with_reducible refine xcv_i64 (by omega) (by omega) ?_); conv => whnf) | ((with_reducible refine xcv_u64 (by omega) (by omega) ?_); conv => whnf) | ((with_reducible refine xcv_u8 (by omega) (by omega) ?_); conv => whnf) | ((with_reducible refine xcv_raw ?_); conv => whnf)) | ((with_reducible refine need_i ?_ ?_) <;> first | omega | (conv => whnf)) | ((refine DrawX_s tabOk folOk ?_); conv => whnf) | ((refine DrawS_i (by kernel_rfl) ?_); conv => whnf) | ((with_reducible refine andX_i ?_ ?_) <;> (conv => whnf)) | (with_reducible exact rfl) | ((with_reducible refine xif_kt (by with_reducible assumption) ?_); conv => whnf) | ((with_reducible refine xif_kf (by with_reducible assumption) ?_); conv => whnf) | (((with_reducible refine xif_s ?_ ?_) <;> (intro hb; (try simp (disch := omega) only [wr, ge_dec, gt_dec, decide_eq_true_eq, decide_eq_false_iff_not, beq_iff_eq, bne_iff_ne, beq_eq_false_iff_ne, bne_eq_false_iff_eq, Bool.not_eq_true', Bool.not_eq_false', Bool.and_eq_true, Bool.or_eq_true, Bool.not_not, ne_eq, Decidable.not_not, Int.not_le, Int.not_lt, Int.toNat_natCast, not_true_eq_false, eq_self, Bool.not_true, Bool.not_false, Bool.true_eq_false, Bool.false_eq_true] at hb))) <;> (conv => whnf)))
    exact Fin_m () [0] ⟨by unfold rpB; rw [hz h0]; rfl, by simp [SV.wf, SV.wfs]⟩ ⟨fun _ _ h => h, trivial⟩ (by decide) rfl
  · rw [hi] at ki
    have hi' := hi
    simp only [vId, Bool.and_eq_true, decide_eq_true_eq] at hi'
    obtain ⟨i, rfl⟩ := Int.eq_ofNat_of_zero_le hi'.1
    have hi64 : i < 64 := by omega
    (conv => whnf); repeat' (first | ((with_reducible refine isC ?_); first | ((with_reducible refine CallX_pure (ki) ?_) <;> first | omega | (with_reducible show (_ : Int) ≤ _) | (with_reducible show (_ : Int) < _) | (with_reducible show (_ : Nat) ≤ _) | (with_reducible show (_ : Nat) < _) | (conv => whnf))) | ((with_reducible refine isV ?_); first | ((refine ValX_arr (n := 64) (sz := 1) tabOk rfl Tryz.underlying73 rfl rfl ?_ ?_ ?_) <;> first | omega | (conv => whnf)) | ((refine ValX_arr (n := 64) (sz := 1) tabOk rfl Tryz.underlying72 rfl rfl ?_ ?_ ?_) <;> first | omega | (conv => whnf)) | ((refine ValX_arr (n := 64) (sz := 5) tabOk rfl Tryz.underlying74 rfl rfl ?_ ?_ ?_) <;> first | omega | (conv => whnf)) | (refine ValX_rfV 0 i (r.p i).1 tabOk rfl rfl rfl rfl hi64 rfl ?_; conv => whnf) | (refine ValX_rfQ 0 i (r.p i) tabOk rfl rfl rfl rfl rfl hi64 rfl ?_; conv => whnf)) | ((with_reducible refine isO ?_); first | ((refine OpX_build0 tabOk rfl rfl rfl ?_); intro bN; conv => whnf) | ((refine OpX_build tabOk rfl rfl rfl rfl rfl ?_); intro bN; conv => whnf)) | ((with_reducible refine isW ?_); first | ((with_reducible refine xwr_ok (by omega) (by omega) ?_); conv => whnf) | ((with_reducible refine xwr_raw ?_); conv => whnf)) | ((with_reducible refine isQ ?_); first | ((with_reducible refine xquo_nn (by omega) (by omega) (by omega) ?_); conv => whnf) | ((with_reducible refine xquo_ok (by omega) (by omega) (by omega) ?_); conv => whnf) | ((with_reducible refine xquo_raw (by omega) ?_); conv => whnf)) | ((with_reducible refine isR ?_); first | ((with_reducible refine xrem_nn (by omega) (by omega) ?_); conv => whnf) | ((with_reducible refine xrem_raw (by omega) ?_); conv => whnf)) | ((with_reducible refine isS ?_); first | ((with_reducible refine xshr_1 ?_); conv => whnf)) | ((with_reducible refine isK ?_); first | ((with_reducible refine xcv_i64 (by omega) (by omega) ?_); conv => whnf) | ((with_reducible refine xcv_u64 (by omega) (by omega) ?_); conv => whnf) | ((with_reducible refine xcv_u8 (by omega) (by omega) ?_); conv => whnf) | ((with_reducible refine xcv_raw ?_); conv => whnf)) | ((with_reducible refine need_i ?_ ?_) <;> first | omega | (conv => whnf)) | ((refine DrawX_s tabOk folOk ?_); conv => whnf) | ((refine DrawS_i (by kernel_rfl) ?_); conv => whnf) | ((with_reducible refine andX_i ?_ ?_) <;> (conv => whnf)) | (with_reducible exact rfl) | ((with_reducible refine xif_kt (by with_reducible assumption) ?_); conv => whnf) | ((with_reducible refine xif_kf (by with_reducible assumption) ?_); conv => whnf) | (((with_reducible refine xif_s ?_ ?_) <;> (intro hb; (try simp (disch := omega) only [wr, ge_dec, gt_dec, decide_eq_true_eq, decide_eq_false_iff_not, beq_iff_eq, bne_iff_ne, beq_eq_false_iff_ne, bne_eq_false_iff_eq, Bool.not_eq_true', Bool.not_eq_false', Bool.and_eq_true, Bool.or_eq_true, Bool.not_not, ne_eq, Decidable.not_not, Int.not_le, Int.not_lt, Int.toNat_natCast, not_true_eq_false, eq_self, Bool.not_true, Bool.not_false, Bool.true_eq_false, Bool.false_eq_true] at hb))) <;> (conv => whnf)))
    · exact Fin_m () [0] ⟨by unfold rpB; rw [hz hb]; rfl, by simp [SV.wf, SV.wfs]⟩ ⟨fun _ _ h => h, trivial⟩ (by decide) rfl
    · exact Fin_m () [0] ⟨by unfold rpB; rw [decide_eq_false hb]; rfl, by simp [SV.wf, SV.wfs]⟩ ⟨fun _ _ h => h, trivial⟩ (by decide) rfl
end Go.Proofs.YtodaijlclbngbaaGreat.En
