/- An atlas joined to itself; its copy; a nil atlas -/
import Derived.Test.YtodaijlclbngbaaGreatQf
set_option linter.all false
namespace Go.Proofs.YtodaijlclbngbaaGreat.En
open Go.RowKit
set_option maxRecDepth 100000

theorem opt_get {α : Type} {o : Option α} {v : α} (h : o = some v) : o.isSome = true := by rw [h]; rfl
set_option maxHeartbeats 2000000 in
/-- its own scan put again -/
theorem PutOwn_m (b1 b2 : Nat) (m : List (Int × SlT)) (p : List (Int × PlT)) (k : Int) (v : SlT) (hlk : lkI m k = some v) (hs : scanB v.2.2 = true) (hk : vId k = true) :
    CallM Tryz.prog 35 [.p 0 0, I k, .v (.slice v.1 v.2.2.length v.2.1)] (fun _ _ => True) [atB b1 b2, scO b1 m, plO b2 p] (fun _ : Unit => I 0) (fun _ => [atB b1 b2, scO b1 m, plO b2 p]) := by
  have hs32 : v.2.2.length ≤ 32 := by
    unfold scanB at hs
    simp only [Bool.and_eq_true, decide_eq_true_eq] at hs
    exact hs.1
  have kv := validScan_w v.1 v.2.1 v.2.2 rfl (by unfold maxLen; omega)
  have ki := validId_x k
  have kc := compareScans_w v.1 v.1 v.2.1 v.2.1 v.2.2 v.2.2 rfl rfl (by omega) (by omega)
  rw [lexC_self] at kc
  rw [hs] at kv
  rw [hk] at ki
  have hso : slOf m k = v := by unfold slOf; rw [hlk]; rfl
  have hargs : ∀ {C : Ctx} {ob : List OB}, nth ob 1 = some (scO b1 m) → ∀ σ fp w, Mem C σ fp ob w → ArgSl w v.1 v.2.2.length 2 (v.2.2.map encB) := by
    intro C ob h1 σ fp w hm
    have := ArgSl.sc 1 k h1 σ fp w hm
    rw [hso] at this
    exact this
  refine CallM.of (m := 3) Tryz.func35 rfl tabOk rfl rfl rfl rfl (by simp [SV.wfs, SV.wf]) fun w M π _ => ?_
  (conv => whnf); repeat' (first | ((with_reducible refine isC ?_); first | ((with_reducible refine isF 58 ?_); (with_reducible refine CallX_w (kv) ?_ ?_); (focus (exact hargs rfl)); conv => whnf) | ((with_reducible refine CallX_pure (ki) ?_) <;> first | omega | (with_reducible show (_ : Int) ≤ _) | (with_reducible show (_ : Int) < _) | (with_reducible show (_ : Nat) ≤ _) | (with_reducible show (_ : Nat) < _) | (conv => whnf)) | ((with_reducible refine isF 59 ?_); (refine CallX_w kc (fun σ fp w hm => ⟨hargs rfl σ fp w hm, hargs rfl σ fp w hm⟩) ?_); conv => whnf)) | ((with_reducible refine isV ?_); first | (refine ValX_lookS 1 rfl rfl Tryz.underlying68 Tryz.underlying3 (fun w => by kernel_rfl) rfl ?_; rw [hlk, hso]; conv => whnf)) | ((refine DrawX_s tabOk folOk ?_); conv => whnf) | ((refine DrawS_i (by kernel_rfl) ?_); conv => whnf) | ((with_reducible refine andX_i ?_ ?_) <;> (conv => whnf)) | (with_reducible exact rfl) | ((with_reducible refine xif_kt (by with_reducible assumption) ?_); conv => whnf) | ((with_reducible refine xif_kf (by with_reducible assumption) ?_); conv => whnf) | (((with_reducible refine xif_s ?_ ?_) <;> (intro hb; (try simp (disch := omega) only [hbS] at hb))) <;> (conv => whnf)))
  exact Fin_m () [0, 1, 2] ⟨rfl, by simp [SV.wf, SV.wfs]⟩ ⟨⟨rfl, rfl, by simp [SV.wf, SV.wfs]⟩, fun _ _ h => h, fun _ _ h => h, trivial⟩ (by decide) rfl
theorem plc_same {q : List (Int × PlT)} {k : Int} {p : PlT} (h : lkI q k = some p) (r : PlcI q k p) : lkI r.1 = lkI q := by
  rw [r.2]
  split
  · rw [h]
    have : mxO keyP (some p) p = some p := by
      unfold mxO
      dsimp only
      rw [lexC_self, if_neg (by omega)]
    rw [this, ← h, upd_self]
  · rfl
set_option maxHeartbeats 4000000 in
theorem JoinSelf_m (a1 a2 : Nat) (m : List (Int × SlT)) (q0 : List (Int × PlT)) (h1 : okS m) (hg : goodA (absM (m, q0))) :
    CallM Tryz.prog 22 [.p 0 0, .p 0 0] (fun _ _ => True) [atB a1 a2, scO a1 m, plO a2 q0]
      (fun _ : {q : List (Int × PlT) // lkI q = lkI q0} => I 0) (fun r => [atB a1 a2, scO a1 m, plO a2 r.1]) := by
  refine CallM.of (m := 3) Tryz.func22 rfl tabOk rfl rfl rfl rfl (by simp [SV.wfs, SV.wf]) fun w M π _ => ?_
  have k2 := Ids_m a1 a2 m q0
  have hlen := idsF_len (hasM m q0) 64
  generalize idsF (hasM m q0) 64 = L at *
  (conv => whnf); repeat' (first | ((with_reducible refine isC ?_); first | ((with_reducible refine isF 33 ?_); ((refine CallX_m k2 [0, 1, 2] rfl ⟨⟨rfl, rfl, by simp [SV.wf, SV.wfs]⟩, fun _ _ h => h, fun _ _ h => h, trivial⟩ (by decide) (fun _ _ _ _ => trivial) ?_; intro r2; obtain ⟨A2, c2⟩ := r2)); conv => whnf)) | ((with_reducible refine isW ?_); first | ((with_reducible refine xwr_ok (by omega) (by omega) ?_); conv => whnf) | ((with_reducible refine xwr_raw ?_); conv => whnf)) | (with_reducible exact rfl) | ((with_reducible refine xif_kt (by with_reducible assumption) ?_); conv => whnf) | ((with_reducible refine xif_kf (by with_reducible assumption) ?_); conv => whnf) | (((with_reducible refine xif_s ?_ ?_) <;> (intro hb; (try simp (disch := omega) only [hbS] at hb))) <;> (conv => whnf)))
  clear k2
  refine LoopX_inv tabOk (α := Nat × {q : List (Int × PlT) // lkI q = lkI q0}) (fun s => s.1 ≤ L.length) (fun s => [(0, .p 0 0), (1, .p 0 0), (18, .v (.slice A2 L.length c2)), (19, I L.length), (20, I s.1)])
    (fun s => [atB a1 a2, scO a1 m, plO a2 s.2.1, .row 3 1 A2 L.length c2 (L.map fun x => [encI x])]) (fun s => L.length - s.1) (0, ⟨q0, rfl⟩) [0, 1, 2, 3] (Nat.zero_le _) ?_ ?_
  · ((refine ⟨?_, ?_, ?_, ?_⟩) <;> (repeat' ((conv => whnf); apply And.intro)) <;> (try (first | exact trivial | decide)))
    all_goals first | rfl | exact fun _ _ h => h | (simp [SV.wf, SV.wfs]; done) | trace_state
  · rintro ⟨t, ⟨q, hq⟩⟩ ht
    dsimp only at ht ⊢
    by_cases hlt : t < L.length
    · have ho := h1.of (L.getD t 0)
      have hgk := hg (L.getD t 0)
      have hqi : lkI q (L.getD t 0) = lkI q0 (L.getD t 0) := by rw [hq]
      generalize hid : L.getD t 0 = id at *
      rcases opt_em (lkI m id) with hl | ⟨v, hl⟩
      · rcases opt_em (lkI q0 id) with hp | ⟨p, hp⟩
        · (conv => whnf); repeat' (first | ((with_reducible refine isV ?_); first | ((refine ValX_index tabOk rfl (ArgSl.row 3 rfl) rfl ?_ ?_ ?_) <;> first | omega | (with_reducible show (_ : Int) ≤ _) | (with_reducible show (_ : Int) < _) | (with_reducible show (_ : Nat) ≤ _) | (with_reducible show (_ : Nat) < _) | (conv => whnf)) | ((with_reducible refine nat_idx ?_); (refine ValX_load1n _ _ (0) tabOk rfl rfl rfl (ArgSl.row 3 rfl) ?_ ?_ ?_) <;> first | rfl | omega | (with_reducible show (_ : Int) ≤ _) | (with_reducible show (_ : Int) < _) | (with_reducible show (_ : Nat) ≤ _) | (with_reducible show (_ : Nat) < _) | (conv => whnf)) | ((refine ValX_load1 _ _ (0) tabOk rfl rfl rfl (ArgSl.row 3 rfl) ?_ ?_ ?_) <;> first | rfl | omega | (with_reducible show (_ : Int) ≤ _) | (with_reducible show (_ : Int) < _) | (with_reducible show (_ : Nat) ≤ _) | (with_reducible show (_ : Nat) < _) | (conv => whnf)) | (rw [hid]; refine ValX_lookB 1 (slOf m id) false rfl rfl rfl rfl (by rw [hl]; rfl) ?_; conv => whnf) | (refine ValX_lookP 2 (plOf q id) false rfl rfl rfl rfl (by rw [hqi, hp]; rfl) ?_; conv => whnf)) | ((with_reducible refine isW ?_); first | ((with_reducible refine xwr_ok (by omega) (by omega) ?_); conv => whnf) | ((with_reducible refine xwr_raw ?_); conv => whnf)) | (with_reducible exact rfl) | ((with_reducible refine xif_kt (by with_reducible assumption) ?_); conv => whnf) | ((with_reducible refine xif_kf (by with_reducible assumption) ?_); conv => whnf) | (((with_reducible refine xif_s ?_ ?_) <;> (intro hb; (try simp (disch := omega) only [hbS] at hb))) <;> (conv => whnf)))
          all_goals try (exfalso; omega)
          refine ⟨(t + 1, ⟨q, hq⟩), [0, 1, 2, 3], by (try dsimp only); omega, ?_, by (try dsimp only); omega⟩
          ((refine ⟨?_, ?_, ?_, ?_⟩) <;> (repeat' ((conv => whnf); apply And.intro)) <;> (try (first | exact trivial | decide)))
          all_goals first | rfl | exact fun _ _ h => h | (simp [SV.wf, SV.wfs]; done) | trace_state
        · have hpo : plOf q id = p := by unfold plOf; rw [hqi, hp]; rfl
          (conv => whnf); repeat' (first | ((with_reducible refine isC ?_); first | ((with_reducible refine isF 27 ?_); (refine CallX_m (Place_m a1 a2 m q id p) [0, 1, 2] rfl ⟨⟨rfl, rfl, by simp [SV.wf, SV.wfs]⟩, fun _ _ h => h, fun _ _ h => h, trivial⟩ (by decide) (fun _ _ _ _ => trivial) ?_; intro r3); conv => whnf)) | ((with_reducible refine isV ?_); first | ((refine ValX_index tabOk rfl (ArgSl.row 3 rfl) rfl ?_ ?_ ?_) <;> first | omega | (with_reducible show (_ : Int) ≤ _) | (with_reducible show (_ : Int) < _) | (with_reducible show (_ : Nat) ≤ _) | (with_reducible show (_ : Nat) < _) | (conv => whnf)) | ((with_reducible refine nat_idx ?_); (refine ValX_load1n _ _ (0) tabOk rfl rfl rfl (ArgSl.row 3 rfl) ?_ ?_ ?_) <;> first | rfl | omega | (with_reducible show (_ : Int) ≤ _) | (with_reducible show (_ : Int) < _) | (with_reducible show (_ : Nat) ≤ _) | (with_reducible show (_ : Nat) < _) | (conv => whnf)) | ((refine ValX_load1 _ _ (0) tabOk rfl rfl rfl (ArgSl.row 3 rfl) ?_ ?_ ?_) <;> first | rfl | omega | (with_reducible show (_ : Int) ≤ _) | (with_reducible show (_ : Int) < _) | (with_reducible show (_ : Nat) ≤ _) | (with_reducible show (_ : Nat) < _) | (conv => whnf)) | (rw [hid]; refine ValX_lookB 1 (slOf m id) false rfl rfl rfl rfl (by rw [hl]; rfl) ?_; conv => whnf) | (refine ValX_lookP 2 p true rfl rfl rfl hpo (by rw [hqi, hp]; rfl) ?_; conv => whnf)) | ((with_reducible refine isW ?_); first | ((with_reducible refine xwr_ok (by omega) (by omega) ?_); conv => whnf) | ((with_reducible refine xwr_raw ?_); conv => whnf)) | (with_reducible exact rfl) | ((with_reducible refine xif_kt (by with_reducible assumption) ?_); conv => whnf) | ((with_reducible refine xif_kf (by with_reducible assumption) ?_); conv => whnf) | (((with_reducible refine xif_s ?_ ?_) <;> (intro hb; (try simp (disch := omega) only [hbS] at hb))) <;> (conv => whnf)))
          all_goals try (exfalso; omega)
          refine ⟨(t + 1, ⟨r3.1, (plc_same (hqi.trans hp) r3).trans hq⟩), [0, 1, 2, 3], by (try dsimp only); omega, ?_, by (try dsimp only); omega⟩
          ((refine ⟨?_, ?_, ?_, ?_⟩) <;> (repeat' ((conv => whnf); apply And.intro)) <;> (try (first | exact trivial | decide)))
          all_goals first | rfl | exact fun _ _ h => h | (simp [SV.wf, SV.wfs]; done) | trace_state
      · have hso : slOf m id = v := by unfold slOf; rw [hl]; rfl
        have hsm : semS m id = some v.2.2 := by unfold semS; rw [hl]; rfl
        have hs := hgk.1 _ hsm
        have kput := fun q => PutOwn_m a1 a2 m q id v hl hs.1 hs.2
        rcases opt_em (lkI q0 id) with hp | ⟨p, hp⟩
        · (conv => whnf); repeat' (first | ((with_reducible refine isC ?_); first | ((with_reducible refine isF 35 ?_); (refine CallX_m (kput q) [0, 1, 2] rfl ⟨⟨rfl, rfl, by simp [SV.wf, SV.wfs]⟩, fun _ _ h => h, fun _ _ h => h, trivial⟩ (by decide) (fun _ _ _ _ => trivial) ?_; intro r1); conv => whnf)) | ((with_reducible refine isV ?_); first | ((refine ValX_index tabOk rfl (ArgSl.row 3 rfl) rfl ?_ ?_ ?_) <;> first | omega | (with_reducible show (_ : Int) ≤ _) | (with_reducible show (_ : Int) < _) | (with_reducible show (_ : Nat) ≤ _) | (with_reducible show (_ : Nat) < _) | (conv => whnf)) | ((with_reducible refine nat_idx ?_); (refine ValX_load1n _ _ (0) tabOk rfl rfl rfl (ArgSl.row 3 rfl) ?_ ?_ ?_) <;> first | rfl | omega | (with_reducible show (_ : Int) ≤ _) | (with_reducible show (_ : Int) < _) | (with_reducible show (_ : Nat) ≤ _) | (with_reducible show (_ : Nat) < _) | (conv => whnf)) | ((refine ValX_load1 _ _ (0) tabOk rfl rfl rfl (ArgSl.row 3 rfl) ?_ ?_ ?_) <;> first | rfl | omega | (with_reducible show (_ : Int) ≤ _) | (with_reducible show (_ : Int) < _) | (with_reducible show (_ : Nat) ≤ _) | (with_reducible show (_ : Nat) < _) | (conv => whnf)) | (rw [hid]; refine ValX_lookB 1 v true rfl rfl rfl hso (by rw [hl]; rfl) ?_; conv => whnf) | (refine ValX_lookP 2 (plOf q id) false rfl rfl rfl rfl (by rw [hqi, hp]; rfl) ?_; conv => whnf)) | ((with_reducible refine isW ?_); first | ((with_reducible refine xwr_ok (by omega) (by omega) ?_); conv => whnf) | ((with_reducible refine xwr_raw ?_); conv => whnf)) | (with_reducible exact rfl) | ((with_reducible refine xif_kt (by with_reducible assumption) ?_); conv => whnf) | ((with_reducible refine xif_kf (by with_reducible assumption) ?_); conv => whnf) | (((with_reducible refine xif_s ?_ ?_) <;> (intro hb; (try simp (disch := omega) only [hbS] at hb))) <;> (conv => whnf)))
          all_goals try (exfalso; omega)
          refine ⟨(t + 1, ⟨q, hq⟩), [0, 1, 2, 3], by (try dsimp only); omega, ?_, by (try dsimp only); omega⟩
          ((refine ⟨?_, ?_, ?_, ?_⟩) <;> (repeat' ((conv => whnf); apply And.intro)) <;> (try (first | exact trivial | decide)))
          all_goals first | rfl | exact fun _ _ h => h | (simp [SV.wf, SV.wfs]; done) | trace_state
        · have hpo : plOf q id = p := by unfold plOf; rw [hqi, hp]; rfl
          (conv => whnf); repeat' (first | ((with_reducible refine isC ?_); first | ((with_reducible refine isF 35 ?_); (refine CallX_m (kput q) [0, 1, 2] rfl ⟨⟨rfl, rfl, by simp [SV.wf, SV.wfs]⟩, fun _ _ h => h, fun _ _ h => h, trivial⟩ (by decide) (fun _ _ _ _ => trivial) ?_; intro r1); conv => whnf) | ((with_reducible refine isF 27 ?_); (refine CallX_m (Place_m a1 a2 m q id p) [0, 1, 2] rfl ⟨⟨rfl, rfl, by simp [SV.wf, SV.wfs]⟩, fun _ _ h => h, fun _ _ h => h, trivial⟩ (by decide) (fun _ _ _ _ => trivial) ?_; intro r3); conv => whnf)) | ((with_reducible refine isV ?_); first | ((refine ValX_index tabOk rfl (ArgSl.row 3 rfl) rfl ?_ ?_ ?_) <;> first | omega | (with_reducible show (_ : Int) ≤ _) | (with_reducible show (_ : Int) < _) | (with_reducible show (_ : Nat) ≤ _) | (with_reducible show (_ : Nat) < _) | (conv => whnf)) | ((with_reducible refine nat_idx ?_); (refine ValX_load1n _ _ (0) tabOk rfl rfl rfl (ArgSl.row 3 rfl) ?_ ?_ ?_) <;> first | rfl | omega | (with_reducible show (_ : Int) ≤ _) | (with_reducible show (_ : Int) < _) | (with_reducible show (_ : Nat) ≤ _) | (with_reducible show (_ : Nat) < _) | (conv => whnf)) | ((refine ValX_load1 _ _ (0) tabOk rfl rfl rfl (ArgSl.row 3 rfl) ?_ ?_ ?_) <;> first | rfl | omega | (with_reducible show (_ : Int) ≤ _) | (with_reducible show (_ : Int) < _) | (with_reducible show (_ : Nat) ≤ _) | (with_reducible show (_ : Nat) < _) | (conv => whnf)) | (rw [hid]; refine ValX_lookB 1 v true rfl rfl rfl hso (by rw [hl]; rfl) ?_; conv => whnf) | (refine ValX_lookP 2 p true rfl rfl rfl hpo (by rw [hqi, hp]; rfl) ?_; conv => whnf)) | ((with_reducible refine isW ?_); first | ((with_reducible refine xwr_ok (by omega) (by omega) ?_); conv => whnf) | ((with_reducible refine xwr_raw ?_); conv => whnf)) | (with_reducible exact rfl) | ((with_reducible refine xif_kt (by with_reducible assumption) ?_); conv => whnf) | ((with_reducible refine xif_kf (by with_reducible assumption) ?_); conv => whnf) | (((with_reducible refine xif_s ?_ ?_) <;> (intro hb; (try simp (disch := omega) only [hbS] at hb))) <;> (conv => whnf)))
          all_goals try (exfalso; omega)
          refine ⟨(t + 1, ⟨r3.1, (plc_same (hqi.trans hp) r3).trans hq⟩), [0, 1, 2, 3], by (try dsimp only); omega, ?_, by (try dsimp only); omega⟩
          ((refine ⟨?_, ?_, ?_, ?_⟩) <;> (repeat' ((conv => whnf); apply And.intro)) <;> (try (first | exact trivial | decide)))
          all_goals first | rfl | exact fun _ _ h => h | (simp [SV.wf, SV.wfs]; done) | trace_state
    · obtain rfl : t = L.length := by omega
      (conv => whnf); repeat' (first | ((with_reducible refine isW ?_); first | ((with_reducible refine xwr_ok (by omega) (by omega) ?_); conv => whnf) | ((with_reducible refine xwr_raw ?_); conv => whnf)) | (with_reducible exact rfl) | ((with_reducible refine xif_kt (by with_reducible assumption) ?_); conv => whnf) | ((with_reducible refine xif_kf (by with_reducible assumption) ?_); conv => whnf) | (((with_reducible refine xif_s ?_ ?_) <;> (intro hb; (try simp (disch := omega) only [hbS] at hb))) <;> (conv => whnf)))
      all_goals try (exfalso; omega)
      exact Fin_m ⟨q, hq⟩ [0, 1, 2] ⟨rfl, by simp [SV.wf, SV.wfs]⟩ ⟨⟨rfl, rfl, by simp [SV.wf, SV.wfs]⟩, fun _ _ h => h, fun _ _ h => h, trivial⟩ (by decide) rfl
theorem joinA_none (a : AtT) : joinA at0 a = a := by
  unfold joinA at0
  refine Prod.ext (funext fun k => ?_) (funext fun k => ?_)
  · dsimp only
    cases a.1 k <;> rfl
  · dsimp only
    cases a.2 k <;> rfl
set_option maxHeartbeats 2000000 in
theorem AClone_m (a1 a2 : Nat) (m : List (Int × SlT)) (q : List (Int × PlT)) (h1 : okS m) (hg : goodA (absM (m, q))) :
    CallM Tryz.prog 32 [.p 0 0] (fun _ _ => True) [atB a1 a2, scO a1 m, plO a2 q]
      (fun _ : (Nat × Nat) × StI (absM (m, q)) => .p 3 0) (fun r => [atB a1 a2, scO a1 m, plO a2 q, atB r.1.1 r.1.2, scO r.1.1 r.2.1.1, plO r.1.2 r.2.1.2]) := by
  have hok0 : okS [] := by intro e he; cases he
  refine CallM.of (m := 3) Tryz.func32 rfl tabOk rfl rfl rfl rfl (by simp [SV.wfs, SV.wf]) fun w M π _ => ?_
  (conv => whnf); repeat' (first | ((with_reducible refine isC ?_); first | ((with_reducible refine isF 10 ?_); (refine CallX_m New_m [] rfl trivial (by decide) (fun _ _ _ _ => trivial) ?_; intro b; obtain ⟨b1, b2⟩ := b); conv => whnf) | ((with_reducible refine isF 22 ?_); (refine CallX_m (Join_m b1 b2 a1 a2 [] m [] q hok0 h1 hg) [3, 4, 5, 0, 1, 2] rfl ⟨⟨rfl, rfl, by simp [SV.wf, SV.wfs]⟩, fun _ _ h => h, fun _ _ h => h, ⟨rfl, rfl, by simp [SV.wf, SV.wfs]⟩, fun _ _ h => h, fun _ _ h => h, trivial⟩ (by decide) (fun _ _ _ _ => trivial) ?_; intro r); conv => whnf)) | (with_reducible exact rfl) | ((with_reducible refine xif_kt (by with_reducible assumption) ?_); conv => whnf) | ((with_reducible refine xif_kf (by with_reducible assumption) ?_); conv => whnf) | (((with_reducible refine xif_s ?_ ?_) <;> (intro hb; (try simp (disch := omega) only [hbS] at hb))) <;> (conv => whnf)))
  exact Fin_m ⟨(b1, b2), r.1, r.2.1, r.2.2.trans (joinA_none _)⟩ [0, 1, 2, 3, 4, 5] ⟨rfl, by simp [SV.wf, SV.wfs]⟩ ⟨⟨rfl, rfl, by simp [SV.wf, SV.wfs]⟩, fun _ _ h => h, fun _ _ h => h, ⟨rfl, rfl, by simp [SV.wf, SV.wfs]⟩, fun _ _ h => h, fun _ _ h => h, trivial⟩ (by decide) rfl
/-! ### a nil atlas -/
abbrev nilP : SV := .v (.pointer none)
abbrev nilS : SV := .v (.slice none 0 0)
theorem nIds_x : PureX Tryz.prog 33 [nilP] nilS := by
  refine PureX.of Tryz.func33 rfl tabOk rfl rfl rfl (by simp [SV.wfs, SV.wf]) (by simp [SV.wfs, SV.wf]) fun w => ?_
  (conv => whnf); repeat' (first | ((with_reducible refine isO ?_); first | ((refine OpX_build0 tabOk rfl rfl rfl ?_); intro bN; conv => whnf) | ((refine OpX_build tabOk rfl rfl rfl rfl rfl ?_); intro bN; conv => whnf)) | ((with_reducible refine isW ?_); first | ((with_reducible refine xwr_ok (by omega) (by omega) ?_); conv => whnf) | ((with_reducible refine xwr_raw ?_); conv => whnf)) | (with_reducible exact rfl) | ((with_reducible refine xif_kt (by with_reducible assumption) ?_); conv => whnf) | ((with_reducible refine xif_kf (by with_reducible assumption) ?_); conv => whnf) | (((with_reducible refine xif_s ?_ ?_) <;> (intro hb; (try simp (disch := omega) only [hbS] at hb))) <;> (conv => whnf)))
  exact Fin_pure rfl rfl trivial
theorem nScan_x (k : Int) : PureX Tryz.prog 34 [nilP, I k] (.t [nilS, B false]) := by
  refine PureX.of Tryz.func34 rfl tabOk rfl rfl rfl (by simp [SV.wfs, SV.wf]) (by simp [SV.wfs, SV.wf]) fun w => ?_
  (conv => whnf); repeat' (first | (with_reducible exact rfl) | ((with_reducible refine xif_kt (by with_reducible assumption) ?_); conv => whnf) | ((with_reducible refine xif_kf (by with_reducible assumption) ?_); conv => whnf) | (((with_reducible refine xif_s ?_ ?_) <;> (intro hb; (try simp (disch := omega) only [hbS] at hb))) <;> (conv => whnf)))
  exact Fin_pure rfl rfl (by simp [SV.wf, SV.wfs])
theorem nWhere_x (k : Int) : PureX Tryz.prog 26 [nilP, I k] (.t [plX (0, false, 0, 0, 0), B false]) := by
  refine PureX.of Tryz.func26 rfl tabOk rfl rfl rfl (by simp [SV.wfs, SV.wf]) (by simp [SV.wfs, SV.wf]) fun w => ?_
  (conv => whnf); repeat' (first | (with_reducible exact rfl) | ((with_reducible refine xif_kt (by with_reducible assumption) ?_); conv => whnf) | ((with_reducible refine xif_kf (by with_reducible assumption) ?_); conv => whnf) | (((with_reducible refine xif_s ?_ ?_) <;> (intro hb; (try simp (disch := omega) only [hbS] at hb))) <;> (conv => whnf)))
  exact Fin_pure rfl rfl (by simp [SV.wf, SV.wfs])
theorem nPart_x (k : Int) : PureX Tryz.prog 18 [nilP, I k] nilS := by
  refine PureX.of Tryz.func18 rfl tabOk rfl rfl rfl (by simp [SV.wfs, SV.wf]) (by simp [SV.wfs, SV.wf]) fun w => ?_
  (conv => whnf); repeat' (first | ((with_reducible refine isC ?_); first | ((with_reducible refine CallX_pure (nScan_x _) ?_) <;> first | omega | (with_reducible show (_ : Int) ≤ _) | (with_reducible show (_ : Int) < _) | (with_reducible show (_ : Nat) ≤ _) | (with_reducible show (_ : Nat) < _) | (conv => whnf)) | ((with_reducible refine CallX_pure (nWhere_x _) ?_) <;> first | omega | (with_reducible show (_ : Int) ≤ _) | (with_reducible show (_ : Int) < _) | (with_reducible show (_ : Nat) ≤ _) | (with_reducible show (_ : Nat) < _) | (conv => whnf))) | (with_reducible exact rfl) | ((with_reducible refine xif_kt (by with_reducible assumption) ?_); conv => whnf) | ((with_reducible refine xif_kf (by with_reducible assumption) ?_); conv => whnf) | (((with_reducible refine xif_s ?_ ?_) <;> (intro hb; (try simp (disch := omega) only [hbS] at hb))) <;> (conv => whnf)))
  exact Fin_pure rfl rfl trivial
theorem nMap_x : PureX Tryz.prog 20 [nilP] nilS := by
  refine PureX.of Tryz.func20 rfl tabOk rfl rfl rfl (by simp [SV.wfs, SV.wf]) (by simp [SV.wfs, SV.wf]) fun w => ?_
  (conv => whnf); repeat' (first | ((with_reducible refine isC ?_); first | ((with_reducible refine CallX_pure (nIds_x) ?_) <;> first | omega | (with_reducible show (_ : Int) ≤ _) | (with_reducible show (_ : Int) < _) | (with_reducible show (_ : Nat) ≤ _) | (with_reducible show (_ : Nat) < _) | (conv => whnf))) | ((with_reducible refine isW ?_); first | ((with_reducible refine xwr_ok (by omega) (by omega) ?_); conv => whnf) | ((with_reducible refine xwr_raw ?_); conv => whnf)) | (with_reducible exact rfl) | ((with_reducible refine xif_kt (by with_reducible assumption) ?_); conv => whnf) | ((with_reducible refine xif_kf (by with_reducible assumption) ?_); conv => whnf) | (((with_reducible refine xif_s ?_ ?_) <;> (intro hb; (try simp (disch := omega) only [hbS] at hb))) <;> (conv => whnf)))
  refine LoopX_inv tabOk (α := Unit) (fun _ => True) (fun _ => [(0, nilP), (3, nilS), (7, nilS), (8, I 0), (9, I 0)]) (fun _ => []) (fun _ => 0) () [] trivial ?_ ?_
  · ((refine ⟨?_, ?_, ?_, ?_⟩) <;> (repeat' ((conv => whnf); apply And.intro)) <;> (try (first | exact trivial | decide)))
    all_goals first | rfl | exact fun _ _ h => h | (simp [SV.wf, SV.wfs]; done) | trace_state
  · intro _ _
    (conv => whnf); repeat' (first | ((with_reducible refine isW ?_); first | ((with_reducible refine xwr_ok (by omega) (by omega) ?_); conv => whnf) | ((with_reducible refine xwr_raw ?_); conv => whnf)) | (with_reducible exact rfl) | ((with_reducible refine xif_kt (by with_reducible assumption) ?_); conv => whnf) | ((with_reducible refine xif_kf (by with_reducible assumption) ?_); conv => whnf) | (((with_reducible refine xif_s ?_ ?_) <;> (intro hb; (try simp (disch := omega) only [hbS] at hb))) <;> (conv => whnf)))
    exact Fin_pure rfl rfl trivial
theorem nClone_x : PureX Tryz.prog 32 [nilP] nilP := by
  refine PureX.of Tryz.func32 rfl tabOk rfl rfl rfl (by simp [SV.wfs, SV.wf]) (by simp [SV.wfs, SV.wf]) fun w => ?_
  (conv => whnf); repeat' (first | (with_reducible exact rfl) | ((with_reducible refine xif_kt (by with_reducible assumption) ?_); conv => whnf) | ((with_reducible refine xif_kf (by with_reducible assumption) ?_); conv => whnf) | (((with_reducible refine xif_s ?_ ?_) <;> (intro hb; (try simp (disch := omega) only [hbS] at hb))) <;> (conv => whnf)))
  exact Fin_pure rfl rfl trivial
theorem nPut_x (k : Int) (s : Value) : PureX Tryz.prog 35 [nilP, I k, .v s] (I 1) := by
  refine PureX.of Tryz.func35 rfl tabOk rfl rfl rfl (by simp [SV.wfs, SV.wf]) (by simp [SV.wfs, SV.wf]) fun w => ?_
  (conv => whnf); repeat' (first | ((refine DrawX_s tabOk folOk ?_); conv => whnf) | ((refine DrawS_i (by kernel_rfl) ?_); conv => whnf) | ((with_reducible refine andX_i ?_ ?_) <;> (conv => whnf)) | (with_reducible exact rfl) | ((with_reducible refine xif_kt (by with_reducible assumption) ?_); conv => whnf) | ((with_reducible refine xif_kf (by with_reducible assumption) ?_); conv => whnf) | (((with_reducible refine xif_s ?_ ?_) <;> (intro hb; (try simp (disch := omega) only [hbS] at hb))) <;> (conv => whnf)))
  exact Fin_pure rfl rfl trivial
theorem nPlace_x (k : Int) (p : PlT) : PureX Tryz.prog 27 [nilP, I k, plX p] (I 1) := by
  refine PureX.of Tryz.func27 rfl tabOk rfl rfl rfl (by simp [SV.wfs, SV.wf]) (by simp [SV.wfs, SV.wf]) fun w => ?_
  (conv => whnf); repeat' (first | ((refine DrawX_s tabOk folOk ?_); conv => whnf) | ((refine DrawS_i (by kernel_rfl) ?_); conv => whnf) | ((with_reducible refine andX_i ?_ ?_) <;> (conv => whnf)) | (with_reducible exact rfl) | ((with_reducible refine xif_kt (by with_reducible assumption) ?_); conv => whnf) | ((with_reducible refine xif_kf (by with_reducible assumption) ?_); conv => whnf) | (((with_reducible refine xif_s ?_ ?_) <;> (intro hb; (try simp (disch := omega) only [hbS] at hb))) <;> (conv => whnf)))
  exact Fin_pure rfl rfl trivial
theorem nJoin_m (a1 a2 : Nat) : CallM Tryz.prog 22 [nilP, .p 0 0] (fun _ _ => True) [atB a1 a2] (fun _ : Unit => I 1) (fun _ => [atB a1 a2]) := by
  refine CallM.of (m := 1) Tryz.func22 rfl tabOk rfl rfl rfl rfl (by simp [SV.wfs, SV.wf]) fun w M π _ => ?_
  (conv => whnf); repeat' (first | ((with_reducible refine isW ?_); first | ((with_reducible refine xwr_ok (by omega) (by omega) ?_); conv => whnf) | ((with_reducible refine xwr_raw ?_); conv => whnf)) | (with_reducible exact rfl) | ((with_reducible refine xif_kt (by with_reducible assumption) ?_); conv => whnf) | ((with_reducible refine xif_kf (by with_reducible assumption) ?_); conv => whnf) | (((with_reducible refine xif_s ?_ ?_) <;> (intro hb; (try simp (disch := omega) only [hbS] at hb))) <;> (conv => whnf)))
  exact Fin_m () [0] ⟨rfl, by simp [SV.wf, SV.wfs]⟩ ⟨⟨rfl, rfl, by simp [SV.wf, SV.wfs]⟩, trivial⟩ (by decide) rfl
theorem Joinn_m (a1 a2 : Nat) : CallM Tryz.prog 22 [.p 0 0, nilP] (fun _ _ => True) [atB a1 a2] (fun _ : Unit => I 1) (fun _ => [atB a1 a2]) := by
  refine CallM.of (m := 1) Tryz.func22 rfl tabOk rfl rfl rfl rfl (by simp [SV.wfs, SV.wf]) fun w M π _ => ?_
  (conv => whnf); repeat' (first | ((with_reducible refine isW ?_); first | ((with_reducible refine xwr_ok (by omega) (by omega) ?_); conv => whnf) | ((with_reducible refine xwr_raw ?_); conv => whnf)) | (with_reducible exact rfl) | ((with_reducible refine xif_kt (by with_reducible assumption) ?_); conv => whnf) | ((with_reducible refine xif_kf (by with_reducible assumption) ?_); conv => whnf) | (((with_reducible refine xif_s ?_ ?_) <;> (intro hb; (try simp (disch := omega) only [hbS] at hb))) <;> (conv => whnf)))
  exact Fin_m () [0] ⟨rfl, by simp [SV.wf, SV.wfs]⟩ ⟨⟨rfl, rfl, by simp [SV.wf, SV.wfs]⟩, trivial⟩ (by decide) rfl
theorem empty_all {c : Nat} {A : Option Addr} {w : World} : ArgSl w (none : Option Addr) 0 1 (([] : List Int).map fun x => [encI x]) := ⟨rfl, by simp, by simp, fun h => (h rfl).elim⟩
/-- a nil atlas is the same as one without anything -/
theorem nSame_m (a1 a2 : Nat) (m : List (Int × SlT)) (q : List (Int × PlT)) : CallM Tryz.prog 23 [nilP, .p 0 0] (fun _ _ => True) [atB a1 a2, scO a1 m, plO a2 q] (fun _ : Unit => B (decide (([] : List Int) = idsF (hasM m q) 64))) (fun _ => [atB a1 a2, scO a1 m, plO a2 q]) := by
  refine CallM.of (m := 3) Tryz.func23 rfl tabOk rfl rfl rfl rfl (by simp [SV.wfs, SV.wf]) fun w M π _ => ?_
  have k2 := Ids_m a1 a2 m q
  have hlen := idsF_len (hasM m q) 64
  generalize idsF (hasM m q) 64 = L at *
  (conv => whnf); repeat' (first | ((with_reducible refine isC ?_); first | ((with_reducible refine CallX_pure (nIds_x) ?_) <;> first | omega | (with_reducible show (_ : Int) ≤ _) | (with_reducible show (_ : Int) < _) | (with_reducible show (_ : Nat) ≤ _) | (with_reducible show (_ : Nat) < _) | (conv => whnf)) | ((with_reducible refine isF 33 ?_); ((refine CallX_m k2 [0, 1, 2] rfl ⟨⟨rfl, rfl, by simp [SV.wf, SV.wfs]⟩, fun _ _ h => h, fun _ _ h => h, trivial⟩ (by decide) (fun _ _ _ _ => trivial) ?_; intro r2; obtain ⟨A2, c2⟩ := r2)); conv => whnf)) | ((with_reducible refine isW ?_); first | ((with_reducible refine xwr_ok (by omega) (by omega) ?_); conv => whnf) | ((with_reducible refine xwr_raw ?_); conv => whnf)) | (with_reducible exact rfl) | ((with_reducible refine xif_kt (by with_reducible assumption) ?_); conv => whnf) | ((with_reducible refine xif_kf (by with_reducible assumption) ?_); conv => whnf) | (((with_reducible refine xif_s ?_ ?_) <;> (intro hb; (try simp (disch := omega) only [hbS] at hb))) <;> (conv => whnf)))
  refine CallX_w (EqualI_g none A2 0 c2 [] L rfl rfl (by omega) (by omega)) (fun σ fp w hm => ⟨empty_all (c := 0) (A := none), ArgSl.row 3 rfl σ fp w hm⟩) ?_
  by_cases hL : ([] : List Int) = L
  rotate_left
  · rw [decide_eq_false hL]
    (conv => whnf); repeat' (first | ((with_reducible refine isW ?_); first | ((with_reducible refine xwr_ok (by omega) (by omega) ?_); conv => whnf) | ((with_reducible refine xwr_raw ?_); conv => whnf)) | (with_reducible exact rfl) | ((with_reducible refine xif_kt (by with_reducible assumption) ?_); conv => whnf) | ((with_reducible refine xif_kf (by with_reducible assumption) ?_); conv => whnf) | (((with_reducible refine xif_s ?_ ?_) <;> (intro hb; (try simp (disch := omega) only [hbS] at hb))) <;> (conv => whnf)))
    exact Fin_m () [0, 1, 2] ⟨rfl, by simp [SV.wf, SV.wfs]⟩ ⟨⟨rfl, rfl, by simp [SV.wf, SV.wfs]⟩, fun _ _ h => h, fun _ _ h => h, trivial⟩ (by decide) rfl
  · rw [decide_eq_true hL]
    (conv => whnf); repeat' (first | ((with_reducible refine isC ?_); first | ((with_reducible refine CallX_pure (nIds_x) ?_) <;> first | omega | (with_reducible show (_ : Int) ≤ _) | (with_reducible show (_ : Int) < _) | (with_reducible show (_ : Nat) ≤ _) | (with_reducible show (_ : Nat) < _) | (conv => whnf))) | ((with_reducible refine isW ?_); first | ((with_reducible refine xwr_ok (by omega) (by omega) ?_); conv => whnf) | ((with_reducible refine xwr_raw ?_); conv => whnf)) | (with_reducible exact rfl) | ((with_reducible refine xif_kt (by with_reducible assumption) ?_); conv => whnf) | ((with_reducible refine xif_kf (by with_reducible assumption) ?_); conv => whnf) | (((with_reducible refine xif_s ?_ ?_) <;> (intro hb; (try simp (disch := omega) only [hbS] at hb))) <;> (conv => whnf)))
    refine LoopX_inv tabOk (α := Unit) (fun _ => True) (fun _ => [(22, nilS), (23, I 0), (24, I 0)]) (fun _ => [atB a1 a2, scO a1 m, plO a2 q]) (fun _ => 0) () [0, 1, 2] trivial ?_ ?_
    · ((refine ⟨?_, ?_, ?_, ?_⟩) <;> (repeat' ((conv => whnf); apply And.intro)) <;> (try (first | exact trivial | decide)))
      all_goals first | rfl | exact fun _ _ h => h | (simp [SV.wf, SV.wfs]; done) | trace_state
    · intro _ _
      (conv => whnf); repeat' (first | ((with_reducible refine isW ?_); first | ((with_reducible refine xwr_ok (by omega) (by omega) ?_); conv => whnf) | ((with_reducible refine xwr_raw ?_); conv => whnf)) | (with_reducible exact rfl) | ((with_reducible refine xif_kt (by with_reducible assumption) ?_); conv => whnf) | ((with_reducible refine xif_kf (by with_reducible assumption) ?_); conv => whnf) | (((with_reducible refine xif_s ?_ ?_) <;> (intro hb; (try simp (disch := omega) only [hbS] at hb))) <;> (conv => whnf)))
      exact Fin_m () [0, 1, 2] ⟨rfl, by simp [SV.wf, SV.wfs]⟩ ⟨⟨rfl, rfl, by simp [SV.wf, SV.wfs]⟩, fun _ _ h => h, fun _ _ h => h, trivial⟩ (by decide) rfl
theorem Samen_m (a1 a2 : Nat) (m : List (Int × SlT)) (q : List (Int × PlT)) : CallM Tryz.prog 23 [.p 0 0, nilP] (fun _ _ => True) [atB a1 a2, scO a1 m, plO a2 q] (fun _ : Unit => B (decide (([] : List Int) = idsF (hasM m q) 64))) (fun _ => [atB a1 a2, scO a1 m, plO a2 q]) := by
  refine CallM.of (m := 3) Tryz.func23 rfl tabOk rfl rfl rfl rfl (by simp [SV.wfs, SV.wf]) fun w M π _ => ?_
  have k2 := Ids_m a1 a2 m q
  have hlen := idsF_len (hasM m q) 64
  generalize idsF (hasM m q) 64 = L at *
  (conv => whnf); repeat' (first | ((with_reducible refine isC ?_); first | ((with_reducible refine CallX_pure (nIds_x) ?_) <;> first | omega | (with_reducible show (_ : Int) ≤ _) | (with_reducible show (_ : Int) < _) | (with_reducible show (_ : Nat) ≤ _) | (with_reducible show (_ : Nat) < _) | (conv => whnf)) | ((with_reducible refine isF 33 ?_); ((refine CallX_m k2 [0, 1, 2] rfl ⟨⟨rfl, rfl, by simp [SV.wf, SV.wfs]⟩, fun _ _ h => h, fun _ _ h => h, trivial⟩ (by decide) (fun _ _ _ _ => trivial) ?_; intro r2; obtain ⟨A2, c2⟩ := r2)); conv => whnf)) | ((with_reducible refine isW ?_); first | ((with_reducible refine xwr_ok (by omega) (by omega) ?_); conv => whnf) | ((with_reducible refine xwr_raw ?_); conv => whnf)) | (with_reducible exact rfl) | ((with_reducible refine xif_kt (by with_reducible assumption) ?_); conv => whnf) | ((with_reducible refine xif_kf (by with_reducible assumption) ?_); conv => whnf) | (((with_reducible refine xif_s ?_ ?_) <;> (intro hb; (try simp (disch := omega) only [hbS] at hb))) <;> (conv => whnf)))
  refine CallX_w (EqualI_g A2 none c2 0 L [] rfl rfl (by omega) (by omega)) (fun σ fp w hm => ⟨ArgSl.row 3 rfl σ fp w hm, empty_all (c := 0) (A := none)⟩) ?_
  by_cases hL : ([] : List Int) = L
  rotate_left
  · rw [decide_eq_false hL, decide_eq_false (fun e => hL e.symm)]
    (conv => whnf); repeat' (first | ((with_reducible refine isW ?_); first | ((with_reducible refine xwr_ok (by omega) (by omega) ?_); conv => whnf) | ((with_reducible refine xwr_raw ?_); conv => whnf)) | (with_reducible exact rfl) | ((with_reducible refine xif_kt (by with_reducible assumption) ?_); conv => whnf) | ((with_reducible refine xif_kf (by with_reducible assumption) ?_); conv => whnf) | (((with_reducible refine xif_s ?_ ?_) <;> (intro hb; (try simp (disch := omega) only [hbS] at hb))) <;> (conv => whnf)))
    exact Fin_m () [0, 1, 2] ⟨rfl, by simp [SV.wf, SV.wfs]⟩ ⟨⟨rfl, rfl, by simp [SV.wf, SV.wfs]⟩, fun _ _ h => h, fun _ _ h => h, trivial⟩ (by decide) rfl
  · subst hL
    rw [decide_eq_true rfl]
    (conv => whnf); repeat' (first | ((with_reducible refine isC ?_); first | ((with_reducible refine isF 33 ?_); ((refine CallX_m k2 [0, 1, 2] rfl ⟨⟨rfl, rfl, by simp [SV.wf, SV.wfs]⟩, fun _ _ h => h, fun _ _ h => h, trivial⟩ (by decide) (fun _ _ _ _ => trivial) ?_; intro r3; obtain ⟨A3, c3⟩ := r3)); conv => whnf)) | ((with_reducible refine isW ?_); first | ((with_reducible refine xwr_ok (by omega) (by omega) ?_); conv => whnf) | ((with_reducible refine xwr_raw ?_); conv => whnf)) | (with_reducible exact rfl) | ((with_reducible refine xif_kt (by with_reducible assumption) ?_); conv => whnf) | ((with_reducible refine xif_kf (by with_reducible assumption) ?_); conv => whnf) | (((with_reducible refine xif_s ?_ ?_) <;> (intro hb; (try simp (disch := omega) only [hbS] at hb))) <;> (conv => whnf)))
    refine LoopX_inv tabOk (α := Unit) (fun _ => True) (fun _ => [(23, I 0), (24, I 0)]) (fun _ => [atB a1 a2, scO a1 m, plO a2 q]) (fun _ => 0) () [0, 1, 2] trivial ?_ ?_
    · ((refine ⟨?_, ?_, ?_, ?_⟩) <;> (repeat' ((conv => whnf); apply And.intro)) <;> (try (first | exact trivial | decide)))
      all_goals first | rfl | exact fun _ _ h => h | (simp [SV.wf, SV.wfs]; done) | trace_state
    · intro _ _
      (conv => whnf); repeat' (first | ((with_reducible refine isW ?_); first | ((with_reducible refine xwr_ok (by omega) (by omega) ?_); conv => whnf) | ((with_reducible refine xwr_raw ?_); conv => whnf)) | (with_reducible exact rfl) | ((with_reducible refine xif_kt (by with_reducible assumption) ?_); conv => whnf) | ((with_reducible refine xif_kf (by with_reducible assumption) ?_); conv => whnf) | (((with_reducible refine xif_s ?_ ?_) <;> (intro hb; (try simp (disch := omega) only [hbS] at hb))) <;> (conv => whnf)))
      exact Fin_m () [0, 1, 2] ⟨rfl, by simp [SV.wf, SV.wfs]⟩ ⟨⟨rfl, rfl, by simp [SV.wf, SV.wfs]⟩, fun _ _ h => h, fun _ _ h => h, trivial⟩ (by decide) rfl
end Go.Proofs.YtodaijlclbngbaaGreat.En
