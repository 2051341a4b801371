import Derived.Test.YtadichckbogcjaaGreatDoorZToolsShares15
import Derived.Test.YtadichckbogcjaaGreatDoorZToolsShares17
set_option linter.all false
section
namespace Go.Proofs.YtadichckbogcjaaGreatDoor.En
open Go.RowKit
set_option maxRecDepth 100000
def encPl (p : PlT) : Value := .agg #[.int .i64 p.1, .bool p.2.1, .int .i64 p.2.2.1, .int .i64 p.2.2.2.1, .int .i64 p.2.2.2.2]
abbrev plO (b : Nat) (m : List (Int × PlT)) : OB := imO encPl b m
abbrev atB (b1 b2 : Nat) : OB := .box 123 [.v (.map (some b1)), .v (.map (some b2))]
def semS (m : List (Int × SlT)) : Int → Option BmsT := fun k => (lkI m k).map (·.2.2)
theorem New_m : CallM Tryz.prog 37 [] (fun _ _ => True) [] (fun _ : Nat × Nat => .p 0 0) (fun q => [atB q.1 q.2, scO q.1 [], plO q.2 []]) := by
  refine CallM.of (m := 0) Tryz.func37 rfl tabOk rfl rfl rfl rfl (by simp [SV.wfs, SV.wf]) fun w M π _ => ?_
  conv => whnf
  refine OpX_makeS rfl ?_
  intro b1
  conv => whnf
  refine OpX_makeI encPl rfl ?_
  intro b2
  conv => whnf
  exact Fin_m (b1, b2) [2, 0, 1] ⟨rfl, by simp [SV.wf, SV.wfs]⟩ ⟨⟨rfl, rfl, by simp [SV.wf, SV.wfs]⟩, fun _ _ h => h, fun _ _ h => h, trivial⟩ (by decide) rfl
theorem Clone_m (A : Option Addr) (c : Nat) (l : BmsT) {n : Nat} (hl : l.length = n) (hn : n ≤ 1000000000) :
    CallM Tryz.prog 80 [.v (.slice A n c)] (fun w M => ArgN w M A n 2 (l.map encBm)) []
      (fun q : Option Addr × Nat => .v (.slice q.1 n q.2)) (fun q => [bmO (q.1, q.2, l)]) := by
  refine CallM.of (m := 0) Tryz.func80 rfl tabOk rfl rfl rfl rfl (by simp [SV.wfs, SV.wf]) fun w M π hpre => ?_
  subst hl
  cases A with
  | none =>
    have h0 : l = [] := by
      cases l with
      | nil => rfl
      | cons x l =>
        obtain ⟨b, o, h, _⟩ := hpre.1.at_ (by simp)
        cases h
    subst h0
    (conv=>whnf);repeat' (first|((with_reducible refine isO ?_);first|((first|(refine OpX_build0 tabOk rfl rfl rfl ?_);intro bN|(refine OpX_build tabOk rfl rfl rfl rfl rfl ?_);intro bN);conv=>whnf))|with_reducible exact rfl|((with_reducible first|refine xif_kt (by assumption) ?_|refine xif_kf (by assumption) ?_);conv=>whnf)|((with_reducible refine xif_s ?_ ?_)<;>(intro hb;(try simp (disch:=omega) only [hbS] at hb)<;>conv=>whnf)))
    refine Fin_addNil 98 2 ?_
    exact Fin_m (none, 0) [0] ⟨rfl, by simp [SV.wf, SV.wfs]⟩ ⟨row_bm (s := (none, 0, [])), trivial⟩ (by decide) rfl
  | some ad =>
    (conv=>whnf);repeat' (first|((with_reducible refine isO ?_);first|((refine OpX_append 0 tabOk rfl rfl rfl rfl (ArgN.mem hpre (by decide)) (by decide) ?_ ?_ ?_)<;>first|omega|(dsimp only;omega)|(intro A' c';conv=>whnf))|((first|(refine OpX_build0 tabOk rfl rfl rfl ?_);intro bN|(refine OpX_build tabOk rfl rfl rfl rfl rfl ?_);intro bN);conv=>whnf))|with_reducible exact rfl|((with_reducible first|refine xif_kt (by assumption) ?_|refine xif_kf (by assumption) ?_);conv=>whnf)|((with_reducible refine xif_s ?_ ?_)<;>(intro hb;(try simp (disch:=omega) only [hbS] at hb)<;>conv=>whnf)))
    rw [List.nil_append, Nat.zero_add]
    exact Fin_m (A', c') [0] ⟨rfl, by simp [SV.wf, SV.wfs]⟩ ⟨row_bm (s := (A', c', l)), trivial⟩ (by decide) rfl
theorem sem_st (m : List (Int × SlT)) (k : Int) (v : SlT) : semS (stI m k v) = updF (semS m) k (some v.2.2) := by
  funext i
  unfold semS updF
  rw [lkI_st]
  split <;> rfl
def okS (m : List (Int × SlT)) : Prop := ∀ e ∈ m, e.2.2.2.length ≤ 32
theorem okS.st {m : List (Int × SlT)} (h : okS m) {k : Int} {v : SlT} (hv : v.2.2.length ≤ 32) : okS (stI m k v) := fun e he => by
  rcases stI_mem he with he | rfl
  · exact h e he
  · exact hv
theorem okS.of {m : List (Int × SlT)} (h : okS m) (k : Int) : (slOf m k).2.2.length ≤ 32 := by
  unfold slOf
  cases hi : lkI m k with
  | none => simp
  | some v => exact h _ (lkI_mem hi)
abbrev PutI (m : List (Int × SlT)) (k : Int) (s : BmsT) := {m' : List (Int × SlT) // okS m' ∧ semS m' = if scanB s && vId k then updF (semS m) k (mxO keyS (semS m k) s) else semS m}
theorem upd_self {α : Type} (f : Int → Option α) (k : Int) : updF f k (f k) = f := by
  funext i
  unfold updF
  split
  · rename_i h
    rw [h]
  · rfl
set_option maxHeartbeats 2000000 in
theorem Put_m (b1 b2 : Nat) (m : List (Int × SlT)) (p : List (Int × PlT)) (k : Int) (A : Option Addr) (c : Nat) (s : BmsT) {n : Nat} (hl : s.length = n) (hn : n ≤ maxLen) (hok : okS m) :
    CallM Tryz.prog 39 [.p 0 0, I k, .v (.slice A n c)] (fun w M => ArgN w M A n 2 (s.map encBm)) [atB b1 b2, scO b1 m, plO b2 p] (fun _ : PutI m k s => I (putC k s)) (fun q => [atB b1 b2, scO b1 q.1, plO b2 p]) := by
  have hn' := hn
  unfold maxLen at hn'
  subst hl
  have kv := validScan_w A c s rfl hn
  have ki := validId_x k
  refine CallM.of (m := 3) Tryz.func39 rfl tabOk rfl rfl rfl rfl (by simp [SV.wfs, SV.wf]) fun w M π hpre => ?_
  rcases Bool.eq_false_or_eq_true (scanB s) with hv | hv
  rotate_left
  · rw [hv] at kv
    (conv=>whnf);repeat' (first|((with_reducible refine isC ?_);first|(((with_reducible refine isF 78 ?_;refine CallX_w (kv) ?_ ?_);(focus exact ArgN.mem hpre (by decide)));conv=>whnf))|((first|refine DrawX_s tabOk folOk ?_|refine DrawS_i (by kernel_rfl) ?_|with_reducible refine andX_i ?_ ?_)<;>conv=>whnf)|with_reducible exact rfl|((with_reducible first|refine xif_kt (by assumption) ?_|refine xif_kf (by assumption) ?_);conv=>whnf)|((with_reducible refine xif_s ?_ ?_)<;>(intro hb;(try simp (disch:=omega) only [hbS] at hb)<;>conv=>whnf)))
    exact Fin_m ⟨m, hok, by rw [hv]; rfl⟩ [0, 1, 2] ⟨by unfold putC; rw [hv]; rfl, by simp [SV.wf, SV.wfs]⟩ ⟨⟨rfl, rfl, by simp [SV.wf, SV.wfs]⟩, fun _ _ h => h, fun _ _ h => h, trivial⟩ (by decide) rfl
  · rw [hv] at kv
    rcases Bool.eq_false_or_eq_true (vId k) with hi | hi
    rotate_left
    · rw [hi] at ki
      (conv=>whnf);repeat' (first|((with_reducible refine isC ?_);first|(((with_reducible refine isF 78 ?_;refine CallX_w (kv) ?_ ?_);(focus exact ArgN.mem hpre (by decide)));conv=>whnf)|((with_reducible refine CallX_pure (ki) ?_)<;>first|omega|with_reducible refine isP ?_|conv=>whnf))|((first|refine DrawX_s tabOk folOk ?_|refine DrawS_i (by kernel_rfl) ?_|with_reducible refine andX_i ?_ ?_)<;>conv=>whnf)|with_reducible exact rfl|((with_reducible first|refine xif_kt (by assumption) ?_|refine xif_kf (by assumption) ?_);conv=>whnf)|((with_reducible refine xif_s ?_ ?_)<;>(intro hb;(try simp (disch:=omega) only [hbS] at hb)<;>conv=>whnf)))
      exact Fin_m ⟨m, hok, by rw [hv, hi]; rfl⟩ [0, 1, 2] ⟨by unfold putC; rw [hv, hi]; rfl, by simp [SV.wf, SV.wfs]⟩ ⟨⟨rfl, rfl, by simp [SV.wf, SV.wfs]⟩, fun _ _ h => h, fun _ _ h => h, trivial⟩ (by decide) rfl
    · rw [hi] at ki
      have hs32 : s.length ≤ 32 := by
        unfold scanB at hv
        simp only [Bool.and_eq_true, decide_eq_true_eq] at hv
        exact hv.1
      have hcode : putC k s = 0 := by unfold putC; rw [hv, hi]; rfl
      rw [hcode]
      have ho := hok.of k
      have kc := compareScans_w A (slOf m k).1 c (slOf m k).2.1 s (slOf m k).2.2 rfl rfl (by omega) (by omega)
      have hput : ∀ (A1 : Option Addr) (c1 : Nat), mxO keyS (semS m k) s = some s → okS (stI m k (A1, c1, s)) ∧ semS (stI m k (A1, c1, s)) = if scanB s && vId k then updF (semS m) k (mxO keyS (semS m k) s) else semS m := by
        intro A1 c1 h
        refine ⟨hok.st hs32, ?_⟩
        rw [hv, hi, sem_st, h]
        rfl
      cases hlk : lkI m k with
      | none =>
        have hm : mxO keyS (semS m k) s = some s := by
          have : semS m k = none := by unfold semS; rw [hlk]; rfl
          rw [this]
          rfl
        (conv=>whnf);repeat' (first|((with_reducible refine isC ?_);first|(((with_reducible refine isF 78 ?_;refine CallX_w (kv) ?_ ?_);(focus exact ArgN.mem hpre (by decide)));conv=>whnf)|((with_reducible refine CallX_pure (ki) ?_)<;>first|omega|with_reducible refine isP ?_|conv=>whnf)|(((with_reducible refine isF 80 ?_;refine CallX_m (Clone_m A c s rfl (by omega)) [] ?_ ?_ ?_ ?_ ?_);(focus exact rfl);(focus exact trivial);(focus decide);(focus exact fun σ fp w hm => ArgN.of0 (ArgN.mem hpre (by decide) σ fp w hm) _);intro q;obtain ⟨A_1, c_1⟩ := q;dsimp only);conv=>whnf))|((with_reducible refine isV ?_);first|(refine ValX_lookS 1 rfl rfl Tryz.underlying120 Tryz.underlying3 (fun w => by kernel_rfl) rfl ?_; rw [hlk]; conv => whnf))|((with_reducible refine isO ?_);first|(refine OpX_putS (s := (A_1, c_1, s)) 1 3 (by decide) rfl rfl Tryz.underlying120 Tryz.underlying3 rfl rfl ?_; conv => whnf))|((first|refine DrawX_s tabOk folOk ?_|refine DrawS_i (by kernel_rfl) ?_|with_reducible refine andX_i ?_ ?_)<;>conv=>whnf)|with_reducible exact rfl|((with_reducible first|refine xif_kt (by assumption) ?_|refine xif_kf (by assumption) ?_);conv=>whnf)|((with_reducible refine xif_s ?_ ?_)<;>(intro hb;(try simp (disch:=omega) only [hbS] at hb)<;>conv=>whnf)))
        exact Fin_m ⟨stI m k (A_1, c_1, s), hput A_1 c_1 hm⟩ [0, 1, 2] ⟨rfl, by simp [SV.wf, SV.wfs]⟩ ⟨⟨rfl, rfl, by simp [SV.wf, SV.wfs]⟩, fun _ _ h => h, fun _ _ h => h, trivial⟩ (by decide) rfl
      | some v =>
        have hso : slOf m k = v := by unfold slOf; rw [hlk]; rfl
        have hsm : semS m k = some v.2.2 := by unfold semS; rw [hlk]; rfl
        rw [hso] at kc ho
        have hargs : ∀ {C : Ctx} {ob : List OB}, nth ob 1 = some (scO b1 m) → ∀ σ fp w, Mem C σ fp ob w → ArgSl w v.1 v.2.2.length 2 (v.2.2.map encB) := by
          intro C ob h1 σ fp w hm
          have := ArgSl.sc 1 k h1 σ fp w hm
          rw [hso] at this
          exact this
        generalize hL : lexC (keyS s) (keyS v.2.2) = L at *
        (conv=>whnf);repeat' (first|((with_reducible refine isC ?_);first|(((with_reducible refine isF 78 ?_;refine CallX_w (kv) ?_ ?_);(focus exact ArgN.mem hpre (by decide)));conv=>whnf)|((with_reducible refine CallX_pure (ki) ?_)<;>first|omega|with_reducible refine isP ?_|conv=>whnf)|((first|(with_reducible refine isF 79 ?_);(refine CallX_w kc (fun σ fp w hm => ⟨ArgN.mem hpre (by decide) σ fp w hm, hargs rfl σ fp w hm⟩) ?_)|(with_reducible refine isF 80 ?_;refine CallX_m (Clone_m A c s rfl (by omega)) [] ?_ ?_ ?_ ?_ ?_);(focus exact rfl);(focus exact trivial);(focus decide);(focus exact fun σ fp w hm => ArgN.of0 (ArgN.mem hpre (by decide) σ fp w hm) _);intro q;obtain ⟨A_1, c_1⟩ := q;dsimp only);conv=>whnf))|((with_reducible refine isV ?_);first|(refine ValX_lookS 1 rfl rfl Tryz.underlying120 Tryz.underlying3 (fun w => by kernel_rfl) rfl ?_; rw [hlk, hso]; conv => whnf))|((with_reducible refine isO ?_);first|(refine OpX_putS (s := (A_1, c_1, s)) 1 3 (by decide) rfl rfl Tryz.underlying120 Tryz.underlying3 rfl rfl ?_; conv => whnf))|((first|refine DrawX_s tabOk folOk ?_|refine DrawS_i (by kernel_rfl) ?_|with_reducible refine andX_i ?_ ?_)<;>conv=>whnf)|with_reducible exact rfl|((with_reducible first|refine xif_kt (by assumption) ?_|refine xif_kf (by assumption) ?_);conv=>whnf)|((with_reducible refine xif_s ?_ ?_)<;>(intro hb;(try simp (disch:=omega) only [hbS] at hb)<;>conv=>whnf)))
        · exact Fin_m ⟨stI m k (A_1, c_1, s), hput A_1 c_1 (by rw [hsm]; unfold mxO; dsimp only; rw [hL, if_pos hb])⟩ [0, 1, 2] ⟨rfl, by simp [SV.wf, SV.wfs]⟩ ⟨⟨rfl, rfl, by simp [SV.wf, SV.wfs]⟩, fun _ _ h => h, fun _ _ h => h, trivial⟩ (by decide) rfl
        · refine Fin_m ⟨m, hok, ?_⟩ [0, 1, 2] ⟨rfl, by simp [SV.wf, SV.wfs]⟩ ⟨⟨rfl, rfl, by simp [SV.wf, SV.wfs]⟩, fun _ _ h => h, fun _ _ h => h, trivial⟩ (by decide) rfl
          rw [hv, hi, hsm]
          have hx : mxO keyS (some v.2.2) s = some v.2.2 := by
            unfold mxO
            dsimp only
            rw [hL, if_neg (by omega)]
          rw [hx, ← hsm, upd_self]
          rfl
def plOf (m : List (Int × PlT)) (k : Int) : PlT := (lkI m k).getD (0, false, 0, 0, 0)
theorem plOf_val (m : List (Int × PlT)) (k : Int) (σ : Nat → Nat) : (plX (plOf m k)).val σ = ((lkI m k).map encPl).getD (.agg #[.int .i64 0, .bool false, .int .i64 0, .int .i64 0, .int .i64 0]) := by
  unfold plOf
  cases lkI m k <;> rfl
theorem opt_em {α : Type} (o : Option α) : o = none ∨ ∃ v, o = some v := by
  cases o with
  | none => exact .inl rfl
  | some v => exact .inr ⟨v, rfl⟩
theorem sem_stP (m : List (Int × PlT)) (k : Int) (v : PlT) : lkI (stI m k v) = updF (lkI m) k (some v) := by
  funext i
  rw [lkI_st]
  rfl
abbrev PlcI (m : List (Int × PlT)) (k : Int) (p : PlT) := {m' : List (Int × PlT) // lkI m' = if vPl p && vId k then updF (lkI m) k (mxO keyP (lkI m k) p) else lkI m}
theorem ValX_lookP {C : Ctx} {ob : List OB} {b : Nat} {m : List (Int × PlT)} {o : Oper} {x y : Operand} {k : Int} (j : Nat) (v : PlT) (has : Bool) {K : SV → Prop} (hP : C.P = Tryz.prog) (ho : o.op = .lookup 121 x y true)
    (hj : nth ob j = some (plO b m)) (hv : plOf m k = v) (hs : (lkI m k).isSome = has) (hK : K (.t [plX v, B has])) : ValX C o [.v (.map (some b)), I k] ob K := by
  subst hv hs
  exact ValX_lookI j (plX (plOf m k)) hP ho Tryz.underlying121 Tryz.underlying3 (fun w => by kernel_rfl) hj (plOf_val m k) (by simp [SV.wf, SV.wfs]) hK
set_option maxHeartbeats 2000000 in
theorem Place_m (b1 b2 : Nat) (m : List (Int × SlT)) (q : List (Int × PlT)) (k : Int) (p : PlT) :
    CallM Tryz.prog 38 [.p 0 0, I k, plX p] (fun _ _ => True) [atB b1 b2, scO b1 m, plO b2 q] (fun _ : PlcI q k p => I (plcC k p)) (fun r => [atB b1 b2, scO b1 m, plO b2 r.1]) := by
  have kv := validPl_x p
  have ki := validId_x k
  refine CallM.of (m := 3) Tryz.func38 rfl tabOk rfl rfl rfl rfl (by simp [SV.wfs, SV.wf]) fun w M π _ => ?_
  rcases Bool.eq_false_or_eq_true (vPl p) with hv | hv
  rotate_left
  · rw [hv] at kv
    (conv=>whnf);repeat' (first|((with_reducible refine isC ?_);first|((with_reducible refine CallX_pure (kv) ?_)<;>first|omega|with_reducible refine isP ?_|conv=>whnf))|((first|refine DrawX_s tabOk folOk ?_|refine DrawS_i (by kernel_rfl) ?_|with_reducible refine andX_i ?_ ?_)<;>conv=>whnf)|with_reducible exact rfl|((with_reducible first|refine xif_kt (by assumption) ?_|refine xif_kf (by assumption) ?_);conv=>whnf)|((with_reducible refine xif_s ?_ ?_)<;>(intro hb;(try simp (disch:=omega) only [hbS] at hb)<;>conv=>whnf)))
    exact Fin_m ⟨q, by rw [hv]; rfl⟩ [0, 1, 2] ⟨by unfold plcC; rw [hv]; rfl, by simp [SV.wf, SV.wfs]⟩ ⟨⟨rfl, rfl, by simp [SV.wf, SV.wfs]⟩, fun _ _ h => h, fun _ _ h => h, trivial⟩ (by decide) rfl
  · rw [hv] at kv
    rcases Bool.eq_false_or_eq_true (vId k) with hi | hi
    rotate_left
    · rw [hi] at ki
      (conv=>whnf);repeat' (first|((with_reducible refine isC ?_);first|((first|with_reducible refine CallX_pure (kv) ?_|with_reducible refine CallX_pure (ki) ?_)<;>first|omega|with_reducible refine isP ?_|conv=>whnf))|((first|refine DrawX_s tabOk folOk ?_|refine DrawS_i (by kernel_rfl) ?_|with_reducible refine andX_i ?_ ?_)<;>conv=>whnf)|with_reducible exact rfl|((with_reducible first|refine xif_kt (by assumption) ?_|refine xif_kf (by assumption) ?_);conv=>whnf)|((with_reducible refine xif_s ?_ ?_)<;>(intro hb;(try simp (disch:=omega) only [hbS] at hb)<;>conv=>whnf)))
      exact Fin_m ⟨q, by rw [hv, hi]; rfl⟩ [0, 1, 2] ⟨by unfold plcC; rw [hv, hi]; rfl, by simp [SV.wf, SV.wfs]⟩ ⟨⟨rfl, rfl, by simp [SV.wf, SV.wfs]⟩, fun _ _ h => h, fun _ _ h => h, trivial⟩ (by decide) rfl
    · rw [hi] at ki
      have hcode : plcC k p = 0 := by unfold plcC; rw [hv, hi]; rfl
      rw [hcode]
      have kc := PureD.pure (comparePl_d p (plOf q k))
      have hput : mxO keyP (lkI q k) p = some p → lkI (stI q k p) = if vPl p && vId k then updF (lkI q) k (mxO keyP (lkI q k) p) else lkI q := by
        intro h
        rw [hv, hi, sem_stP, h]
        rfl
      rcases opt_em (lkI q k) with hlk | ⟨v, hlk⟩
      · have hm : mxO keyP (lkI q k) p = some p := by rw [hlk]; rfl
        (conv=>whnf);repeat' (first|((with_reducible refine isC ?_);first|((first|with_reducible refine CallX_pure (kv) ?_|with_reducible refine CallX_pure (ki) ?_)<;>first|omega|with_reducible refine isP ?_|conv=>whnf))|((with_reducible refine isV ?_);first|(refine ValX_lookP 2 (0, false, 0, 0, 0) false rfl rfl rfl (by unfold plOf; rw [hlk]; rfl) (by rw [hlk]; rfl) ?_; conv => whnf))|((with_reducible refine isO ?_);first|(refine OpX_updI (v := p) 2 rfl rfl Tryz.underlying121 Tryz.underlying3 rfl (fun _ => rfl) ?_; conv => whnf))|((first|refine DrawX_s tabOk folOk ?_|refine DrawS_i (by kernel_rfl) ?_|with_reducible refine andX_i ?_ ?_)<;>conv=>whnf)|with_reducible exact rfl|((with_reducible first|refine xif_kt (by assumption) ?_|refine xif_kf (by assumption) ?_);conv=>whnf)|((with_reducible refine xif_s ?_ ?_)<;>(intro hb;(try simp (disch:=omega) only [hbS] at hb)<;>conv=>whnf)))
        exact Fin_m ⟨stI q k p, hput hm⟩ [0, 1, 2] ⟨rfl, by simp [SV.wf, SV.wfs]⟩ ⟨⟨rfl, rfl, by simp [SV.wf, SV.wfs]⟩, fun _ _ h => h, fun _ _ h => h, trivial⟩ (by decide) rfl
      · have hso : plOf q k = v := by unfold plOf; rw [hlk]; rfl
        rw [hso] at kc
        generalize hL : lexC (keyP p) (keyP v) = L at *
        (conv=>whnf);repeat' (first|((with_reducible refine isC ?_);first|((first|with_reducible refine CallX_pure (kv) ?_|with_reducible refine CallX_pure (ki) ?_|with_reducible refine CallX_pure (kc) ?_)<;>first|omega|with_reducible refine isP ?_|conv=>whnf))|((with_reducible refine isV ?_);first|(refine ValX_lookP 2 v true rfl rfl rfl hso (by rw [hlk]; rfl) ?_; conv => whnf))|((with_reducible refine isO ?_);first|(refine OpX_updI (v := p) 2 rfl rfl Tryz.underlying121 Tryz.underlying3 rfl (fun _ => rfl) ?_; conv => whnf))|((first|refine DrawX_s tabOk folOk ?_|refine DrawS_i (by kernel_rfl) ?_|with_reducible refine andX_i ?_ ?_)<;>conv=>whnf)|with_reducible exact rfl|((with_reducible first|refine xif_kt (by assumption) ?_|refine xif_kf (by assumption) ?_);conv=>whnf)|((with_reducible refine xif_s ?_ ?_)<;>(intro hb;(try simp (disch:=omega) only [hbS] at hb)<;>conv=>whnf)))
        · exact Fin_m ⟨stI q k p, hput (by rw [hlk]; unfold mxO; dsimp only; rw [hL, if_pos hb])⟩ [0, 1, 2] ⟨rfl, by simp [SV.wf, SV.wfs]⟩ ⟨⟨rfl, rfl, by simp [SV.wf, SV.wfs]⟩, fun _ _ h => h, fun _ _ h => h, trivial⟩ (by decide) rfl
        · refine Fin_m ⟨q, ?_⟩ [0, 1, 2] ⟨rfl, by simp [SV.wf, SV.wfs]⟩ ⟨⟨rfl, rfl, by simp [SV.wf, SV.wfs]⟩, fun _ _ h => h, fun _ _ h => h, trivial⟩ (by decide) rfl
          have hx : mxO keyP (some v) p = some v := by
            unfold mxO
            dsimp only
            rw [hL, if_neg (by omega)]
          rw [hv, hi, hlk, hx, ← hlk, upd_self]
          rfl
end Go.Proofs.YtadichckbogcjaaGreatDoor.En
namespace Go.Proofs.YtadichckbogcjaaGreatDoor.En
open Go.RowKit
set_option maxRecDepth 100000
theorem ValX_lookB {C : Ctx} {ob : List OB} {b : Nat} {m : List (Int × SlT)} {o : Oper} {x y : Operand} {k : Int} (j : Nat) (v : SlT) (has : Bool) {K : SV → Prop} (hP : C.P = Tryz.prog) (ho : o.op = .lookup 120 x y true)
    (hj : nth ob j = some (scO b m)) (hv : slOf m k = v) (hs : (lkI m k).isSome = has) (hK : K (.t [.v (.slice v.1 v.2.2.length v.2.1), B has])) : ValX C o [.v (.map (some b)), I k] ob K := by
  subst hv hs
  exact ValX_lookS j hP ho Tryz.underlying120 Tryz.underlying3 (fun w => by kernel_rfl) hj hK
theorem Scan_m (b1 b2 : Nat) (m : List (Int × SlT)) (q : List (Int × PlT)) (k : Int) (hok : okS m) :
    CallM Tryz.prog 73 [.p 0 0, I k] (fun _ _ => True) [atB b1 b2, scO b1 m, plO b2 q]
      (fun r : Option Addr × Nat => .t [.v (.slice r.1 (slOf m k).2.2.length r.2), B (lkI m k).isSome]) (fun r => [atB b1 b2, scO b1 m, plO b2 q, bmO (r.1, r.2, (slOf m k).2.2)]) := by
  refine CallM.of (m := 3) Tryz.func73 rfl tabOk rfl rfl rfl rfl (by simp [SV.wfs, SV.wf]) fun w M π _ => ?_
  have ho := hok.of k
  have hargs : ∀ {C : Ctx} {ob : List OB}, nth ob 1 = some (scO b1 m) → ∀ σ fp w, Mem C σ fp ob w → ArgSl w (slOf m k).1 (slOf m k).2.2.length 2 ((slOf m k).2.2.map encBm) := fun h1 σ fp w hm => ArgSl.sc 1 k h1 σ fp w hm
  have kc := Clone_m (slOf m k).1 (slOf m k).2.1 (slOf m k).2.2 rfl (by omega)
  (conv=>whnf);repeat' (first|((with_reducible refine isC ?_);first|(((with_reducible refine isF 80 ?_;refine CallX_m (kc) [] ?_ ?_ ?_ ?_ ?_);(focus exact rfl);(focus exact trivial);(focus decide);(focus exact fun σ fp w hm => ArgN.of0 (hargs rfl σ fp w hm) _);intro q;obtain ⟨A_1, c_1⟩ := q;dsimp only);conv=>whnf))|((with_reducible refine isV ?_);first|(refine ValX_lookB 1 (slOf m k) (lkI m k).isSome rfl rfl rfl rfl rfl ?_; conv => whnf))|with_reducible exact rfl|((with_reducible first|refine xif_kt (by assumption) ?_|refine xif_kf (by assumption) ?_);conv=>whnf)|((with_reducible refine xif_s ?_ ?_)<;>(intro hb;(try simp (disch:=omega) only [hbS] at hb)<;>conv=>whnf)))
  exact Fin_m (A_1, c_1) [0, 1, 2, 3] ⟨rfl, by simp [SV.wf, SV.wfs]⟩ ⟨⟨rfl, rfl, by simp [SV.wf, SV.wfs]⟩, fun _ _ h => h, fun _ _ h => h, fun _ _ h => h, trivial⟩ (by decide) rfl
theorem Where_m (b1 b2 : Nat) (m : List (Int × SlT)) (q : List (Int × PlT)) (k : Int) :
    CallM Tryz.prog 74 [.p 0 0, I k] (fun _ _ => True) [atB b1 b2, scO b1 m, plO b2 q]
      (fun _ : Unit => .t [plX (plOf q k), B (lkI q k).isSome]) (fun _ => [atB b1 b2, scO b1 m, plO b2 q]) := by
  refine CallM.of (m := 3) Tryz.func74 rfl tabOk rfl rfl rfl rfl (by simp [SV.wfs, SV.wf]) fun w M π _ => ?_
  generalize hv : plOf q k = v
  generalize hh : (lkI q k).isSome = has
  (conv=>whnf);repeat' (first|((with_reducible refine isV ?_);first|(refine ValX_lookP 2 v has rfl rfl rfl hv hh ?_; conv => whnf))|with_reducible exact rfl|((with_reducible first|refine xif_kt (by assumption) ?_|refine xif_kf (by assumption) ?_);conv=>whnf)|((with_reducible refine xif_s ?_ ?_)<;>(intro hb;(try simp (disch:=omega) only [hbS] at hb)<;>conv=>whnf)))
  exact Fin_m () [0, 1, 2] ⟨rfl, by simp [SV.wf, SV.wfs]⟩ ⟨⟨rfl, rfl, by simp [SV.wf, SV.wfs]⟩, fun _ _ h => h, fun _ _ h => h, trivial⟩ (by decide) rfl
def idsF (s : Int → Bool) (k : Nat) : List Int := ((List.range k).filter fun i : Nat => s i).map fun i : Nat => (i : Int)
theorem idsF_succ (s : Int → Bool) (k : Nat) : idsF s (k + 1) = idsF s k ++ if s k then [(k : Int)] else [] := by
  unfold idsF
  rw [List.range_succ, List.filter_append, List.map_append]
  congr 1
  rw [List.filter_cons]
  cases s k <;> rfl
theorem idsF_len (s : Int → Bool) (k : Nat) : (idsF s k).length ≤ k := by
  unfold idsF
  rw [List.length_map]
  exact Nat.le_trans (List.length_filter_le _ _) (by simp)
def hasM (m : List (Int × SlT)) (q : List (Int × PlT)) (i : Int) : Bool := (lkI m i).isSome || (lkI q i).isSome
def hasA (a : AtT) (i : Int) : Bool := (a.1 i).isSome || (a.2 i).isSome
theorem has_sem (m : List (Int × SlT)) (q : List (Int × PlT)) : hasM m q = hasA (semS m, lkI q) := by
  funext i
  unfold hasM hasA semS
  dsimp only
  rw [Option.isSome_map]
theorem Ids_m (b1 b2 : Nat) (m : List (Int × SlT)) (q : List (Int × PlT)) :
    CallM Tryz.prog 35 [.p 0 0] (fun _ _ => True) [atB b1 b2, scO b1 m, plO b2 q]
      (fun r : Option Addr × Nat => .v (.slice r.1 (idsF (hasM m q) 64).length r.2)) (fun r => [atB b1 b2, scO b1 m, plO b2 q, .row 3 1 r.1 (idsF (hasM m q) 64).length r.2 ((idsF (hasM m q) 64).map fun x => [encI x])]) := by
  refine CallM.of (m := 3) Tryz.func35 rfl tabOk rfl rfl rfl rfl (by simp [SV.wfs, SV.wf]) fun w M π _ => ?_
  (conv=>whnf);repeat' (first|((with_reducible refine isO ?_);first|((first|(refine OpX_build0 tabOk rfl rfl rfl ?_);intro bN|(refine OpX_build tabOk rfl rfl rfl rfl rfl ?_);intro bN);conv=>whnf))|((with_reducible refine isW ?_;first|refine xwr_ok (by omega) (by omega) ?_|refine xwr_raw ?_);conv=>whnf)|with_reducible exact rfl|((with_reducible first|refine xif_kt (by assumption) ?_|refine xif_kf (by assumption) ?_);conv=>whnf)|((with_reducible refine xif_s ?_ ?_)<;>(intro hb;(try simp (disch:=omega) only [hbS] at hb)<;>conv=>whnf)))
  refine LoopX_addNil 3 1 ?_
  conv => whnf
  refine LoopX_inv tabOk (α := Nat × Option Addr × Nat) (fun s => s.1 ≤ 64) (fun s => [(0, .p 0 0), (3, .v (.slice s.2.1 (idsF (hasM m q) s.1).length s.2.2)), (12, I s.1)])
    (fun s => [atB b1 b2, scO b1 m, plO b2 q, .row 3 1 s.2.1 (idsF (hasM m q) s.1).length s.2.2 ((idsF (hasM m q) s.1).map fun x => [encI x])]) (fun s => 64 - s.1) (0, none, 0) [0, 1, 2, 3] (by decide) ?_ ?_
  · ((refine ⟨?_, ?_, ?_, ?_⟩) <;> (repeat' ((conv => whnf); apply And.intro)) <;> (try (first | exact trivial | decide)))
    all_goals first | rfl | exact fun _ _ h => h | (simp [SV.wf, SV.wfs]; done) | trace_state
  · rintro ⟨k, A, c⟩ hk
    dsimp only at hk ⊢
    by_cases hlt : k < 64
    · have hsk := idsF_succ (hasM m q) k
      have hl := idsF_len (hasM m q) k
      have hh : hasM m q k = ((lkI m k).isSome || (lkI q k).isSome) := rfl
      generalize idsF (hasM m q) k = L at *
      cases h1 : (lkI m k).isSome with
      | true =>
        rw [h1, Bool.true_or] at hh
        rw [hh, if_pos rfl] at hsk
        (conv=>whnf);repeat' (first|((with_reducible refine isV ?_);first|(refine ValX_lookB 1 (slOf m k) true rfl rfl rfl rfl h1 ?_; conv => whnf)|(refine ValX_lookP 2 (plOf q k) (lkI q k).isSome rfl rfl rfl rfl rfl ?_; conv => whnf))|((with_reducible refine isO ?_);first|((refine OpX_append 3 tabOk rfl rfl rfl rfl (ArgSl.row 5 rfl) (by decide) ?_ ?_ ?_)<;>first|omega|(dsimp only;omega)|(intro A' c';conv=>whnf))|((first|(refine OpX_build0 tabOk rfl rfl rfl ?_);intro bN|(refine OpX_build tabOk rfl rfl rfl rfl rfl ?_);intro bN);conv=>whnf))|((with_reducible refine isW ?_;first|refine xwr_ok (by omega) (by omega) ?_|refine xwr_raw ?_);conv=>whnf)|with_reducible exact rfl|((with_reducible first|refine xif_kt (by assumption) ?_|refine xif_kf (by assumption) ?_);conv=>whnf)|((with_reducible refine xif_s ?_ ?_)<;>(intro hb;(try simp (disch:=omega) only [hbS] at hb)<;>conv=>whnf)))
        all_goals try (exfalso; omega)
        refine ⟨(k + 1, A', c'), [0, 1, 2, 3], by (try dsimp only); omega, ?_, by (try dsimp only); omega⟩
        dsimp only
        rw [hsk, List.length_append, List.map_append]
        ((refine ⟨?_, ?_, ?_, ?_⟩) <;> (repeat' ((conv => whnf); apply And.intro)) <;> (try (first | exact trivial | decide)))
        all_goals first | rfl | exact fun _ _ h => h | (simp [SV.wf, SV.wfs]; done) | trace_state
      | false =>
        rw [h1, Bool.false_or] at hh
        cases h2 : (lkI q k).isSome with
        | true =>
          rw [hh, h2, if_pos rfl] at hsk
          (conv=>whnf);repeat' (first|((with_reducible refine isV ?_);first|(refine ValX_lookB 1 (slOf m k) false rfl rfl rfl rfl h1 ?_; conv => whnf)|(refine ValX_lookP 2 (plOf q k) true rfl rfl rfl rfl h2 ?_; conv => whnf))|((with_reducible refine isO ?_);first|((refine OpX_append 3 tabOk rfl rfl rfl rfl (ArgSl.row 5 rfl) (by decide) ?_ ?_ ?_)<;>first|omega|(dsimp only;omega)|(intro A' c';conv=>whnf))|((first|(refine OpX_build0 tabOk rfl rfl rfl ?_);intro bN|(refine OpX_build tabOk rfl rfl rfl rfl rfl ?_);intro bN);conv=>whnf))|((with_reducible refine isW ?_;first|refine xwr_ok (by omega) (by omega) ?_|refine xwr_raw ?_);conv=>whnf)|with_reducible exact rfl|((with_reducible first|refine xif_kt (by assumption) ?_|refine xif_kf (by assumption) ?_);conv=>whnf)|((with_reducible refine xif_s ?_ ?_)<;>(intro hb;(try simp (disch:=omega) only [hbS] at hb)<;>conv=>whnf)))
          all_goals try (exfalso; omega)
          refine ⟨(k + 1, A', c'), [0, 1, 2, 3], by (try dsimp only); omega, ?_, by (try dsimp only); omega⟩
          dsimp only
          rw [hsk, List.length_append, List.map_append]
          ((refine ⟨?_, ?_, ?_, ?_⟩) <;> (repeat' ((conv => whnf); apply And.intro)) <;> (try (first | exact trivial | decide)))
          all_goals first | rfl | exact fun _ _ h => h | (simp [SV.wf, SV.wfs]; done) | trace_state
        | false =>
          rw [hh, h2, if_neg (by simp), List.append_nil] at hsk
          (conv=>whnf);repeat' (first|((with_reducible refine isV ?_);first|(refine ValX_lookB 1 (slOf m k) false rfl rfl rfl rfl h1 ?_; conv => whnf)|(refine ValX_lookP 2 (plOf q k) false rfl rfl rfl rfl h2 ?_; conv => whnf))|((with_reducible refine isO ?_);first|((first|(refine OpX_build0 tabOk rfl rfl rfl ?_);intro bN|(refine OpX_build tabOk rfl rfl rfl rfl rfl ?_);intro bN);conv=>whnf))|((with_reducible refine isW ?_;first|refine xwr_ok (by omega) (by omega) ?_|refine xwr_raw ?_);conv=>whnf)|with_reducible exact rfl|((with_reducible first|refine xif_kt (by assumption) ?_|refine xif_kf (by assumption) ?_);conv=>whnf)|((with_reducible refine xif_s ?_ ?_)<;>(intro hb;(try simp (disch:=omega) only [hbS] at hb)<;>conv=>whnf)))
          all_goals try (exfalso; omega)
          refine ⟨(k + 1, A, c), [0, 1, 2, 3], by (try dsimp only); omega, ?_, by (try dsimp only); omega⟩
          dsimp only
          rw [hsk]
          ((refine ⟨?_, ?_, ?_, ?_⟩) <;> (repeat' ((conv => whnf); apply And.intro)) <;> (try (first | exact trivial | decide)))
          all_goals first | rfl | exact fun _ _ h => h | (simp [SV.wf, SV.wfs]; done) | trace_state
    · obtain rfl : k = 64 := by omega
      have hl := idsF_len (hasM m q) 64
      (conv=>whnf);repeat' (first|((with_reducible refine isO ?_);first|((first|(refine OpX_build0 tabOk rfl rfl rfl ?_);intro bN|(refine OpX_build tabOk rfl rfl rfl rfl rfl ?_);intro bN);conv=>whnf))|((with_reducible refine isW ?_;first|refine xwr_ok (by omega) (by omega) ?_|refine xwr_raw ?_);conv=>whnf)|with_reducible exact rfl|((with_reducible first|refine xif_kt (by assumption) ?_|refine xif_kf (by assumption) ?_);conv=>whnf)|((with_reducible refine xif_s ?_ ?_)<;>(intro hb;(try simp (disch:=omega) only [hbS] at hb)<;>conv=>whnf)))
      all_goals try (exfalso; omega)
      exact Fin_m (A, c) [0, 1, 2, 3] ⟨rfl, by simp [SV.wf, SV.wfs]⟩ ⟨⟨rfl, rfl, by simp [SV.wf, SV.wfs]⟩, fun _ _ h => h, fun _ _ h => h, ⟨rfl, rfl, rfl, rfl, rfl, rfl⟩, trivial⟩ (by decide) rfl
end Go.Proofs.YtadichckbogcjaaGreatDoor.En
namespace Go.Proofs.YtadichckbogcjaaGreatDoor.En
open Go.RowKit
set_option maxRecDepth 100000
abbrev AOp := Bool × Int × SlT × PlT
def encOp (o : AOp) : List Value := [.bool o.1, .int .i64 o.2.1, .slice o.2.2.1.1 o.2.2.1.2.2.length o.2.2.1.2.1, .int .i64 o.2.2.2.1, .bool o.2.2.2.2.1, .int .i64 o.2.2.2.2.2.1, .int .i64 o.2.2.2.2.2.2.1, .int .i64 o.2.2.2.2.2.2.2]
def absO (o : AOp) : OpT := (o.1, o.2.1, o.2.2.1.2.2, o.2.2.2)
def op0 : AOp := (false, 0, (none, 0, []), (0, false, 0, 0, 0))
abbrev StT := List (Int × SlT) × List (Int × PlT)
def absM (r : StT) : AtT := (semS r.1, lkI r.2)
abbrev StI (a : AtT) := {r : StT // okS r.1 ∧ absM r = a}
def opN (w : World) (M : Nat → Prop) (o : AOp) : Prop := ArgN w M o.2.2.1.1 o.2.2.1.2.2.length 2 (o.2.2.1.2.2.map encBm)
def opsN (w : World) (M : Nat → Prop) (A : Option Addr) (n : Nat) (l : List AOp) : Prop := ArgN w M A n 8 (l.map encOp) ∧ ∀ o ∈ l, opN w M o ∧ o.2.2.1.2.2.length ≤ maxLen
theorem opN.on {C : Ctx} {ob : List OB} {o : AOp} (h : opN C.w0 C.M o) {m : Nat} {r : List Nat} (hr : ∀ j, j < m → r.getD j 0 < ob.length) : ∀ σ fp w, Mem C σ fp ob w → opN w (MOf m fun j => fp (r.getD j 0)) o :=
  ArgN.on h (by decide) hr
theorem opsN.on {C : Ctx} {ob : List OB} {A : Option Addr} {n : Nat} {l : List AOp} (h : opsN C.w0 C.M A n l) {m : Nat} {r : List Nat} (hr : ∀ j, j < m → r.getD j 0 < ob.length) : ∀ σ fp w, Mem C σ fp ob w → opsN w (MOf m fun j => fp (r.getD j 0)) A n l :=
  fun σ fp w hm => ⟨ArgN.on h.1 (by decide) hr σ fp w hm, fun o ho => ⟨opN.on (h.2 o ho).1 hr σ fp w hm, (h.2 o ho).2⟩⟩
def madeM (l : List AOp) : AtT := madeA (l.map absO)
theorem made_take {l : List AOp} {k : Nat} (hk : k < l.length) : madeM (l.take (k + 1)) = stepA (madeM (l.take k)) (absO (l.getD k op0)) := by
  unfold madeM madeA
  rw [List.map_take, List.map_take, fold_take stepA at0 (d := absO op0) (by simpa using hk)]
  congr 1
  simp [hk]
end Go.Proofs.YtadichckbogcjaaGreatDoor.En
end
