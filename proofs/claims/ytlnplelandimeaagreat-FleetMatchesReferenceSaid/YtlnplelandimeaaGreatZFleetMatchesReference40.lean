import Derived.Test.YtlnplelandimeaaGreatZFleetMatchesReference39
import Derived.Test.YtlnplelandimeaaGreatZFleetMatchesReference36
import Derived.Test.YtlnplelandimeaaGreatZFleetMatchesReference20
import Derived.Test.YtlnplelandimeaaGreatZFleetMatchesReference23
set_option linter.all false
section
namespace Go.Proofs.YtlnplelandimeaaGreat.En
open Go.RowKit
set_option maxRecDepth 100000
end Go.Proofs.YtlnplelandimeaaGreat.En
end
section
namespace Go.Proofs.YtlnplelandimeaaGreat.En
open Go.RowKit
set_option maxRecDepth 100000
set_option maxHeartbeats 2000000 in
theorem rel34_w (A1 A2 : Option Addr) (d1 d2 : Nat) (L1 L2 : List RelT) (r : Bool) (hr : r = true ↔ L1 = L2) {n1 n2 : Nat} (h1 : L1.length = n1) (h2 : L2.length = n2) (hn : n1 ≤ 1000000) (hn2 : n2 ≤ 1000000) :
 CallW Tryz.prog 34 [.v (.slice A1 n1 d1), .v (.slice A2 n2 d2)] (fun w => ArgSl w A1 n1 5 (L1.map encR) ∧ ArgSl w A2 n2 5 (L2.map encR)) (B r) := by
 have hno : ¬ L1 = L2 → r = false := fun h => by
  rcases Bool.eq_false_or_eq_true r with e | e
  ·exact (h (hr.1 e)).elim
  ·exact e
 have hye : L1 = L2 → r = true := hr.2
 clear hr
 refine CallW.of Tryz.func34 rfl tabOk rfl rfl rfl (by simp [SV.wfs, SV.wf]) (by simp [SV.wfs, SV.wf]) fun w hpre => ?_
 obtain ⟨hA1, hA2⟩ := hpre
 (conv=>whnf);repeat' (first|((with_reducible refine isW ?_;first|refine xwr_ok (by omega) (by omega) ?_|refine xwr_raw ?_);conv=>whnf)|((first|refine DrawX_s tabOk folOk ?_|refine DrawS_i (by kernel_rfl) ?_|with_reducible refine andX_i ?_ ?_)<;>conv=>whnf)|with_reducible exact rfl|((with_reducible first|refine xif_kt (by assumption) ?_|refine xif_kf (by assumption) ?_);conv=>whnf)|((with_reducible refine xif_s ?_ ?_)<;>(intro hb;(try simp (disch:=omega) only [hbS] at hb)<;>conv=>whnf)))
 ·rw [hno (fun e => by rw [e] at h1; omega)]
  exact Fin_pure rfl rfl trivial
 have hb : n1 = n2 := by omega
 refine LoopX_inv tabOk (α := Nat) (fun k => k ≤ n1 ∧ ∀ j, j < k → L1.getD j r0 = L2.getD j r0) (fun k => [(0, .v (.slice A1 n1 d1)), (1, .v (.slice A2 n2 d2)), (5, I k)])
  (fun _ => []) (fun k => n1 - k) 0 [] ⟨Nat.zero_le _, fun j hj => by omega⟩ ?_ ?_
 ·((refine ⟨?_, ?_, ?_, ?_⟩) <;> (repeat' ((conv => whnf); apply And.intro)) <;> (try (first | exact trivial | decide)))
  all_goals first | rfl | exact fun _ _ h => h | (simp [SV.wf, SV.wfs]; done) | trace_state
 ·rintro k ⟨hk, hall⟩
  by_cases hlt : k < n1
  ·by_cases he : L1.getD k r0 = L2.getD k r0
   ·(conv=>whnf);repeat' (first|((with_reducible refine isV ?_);first|((first|refine ValX_index tabOk rfl (hA1.mem (by decide) rfl) rfl ?_ ?_ ?_|(with_reducible refine nat_idx ?_);refine ValX_loadEn _ _ (r0) tabOk rfl rfl rfl rfl (hA1.mem (by decide) rfl) ?_ ?_ ?_|refine ValX_loadE _ _ (r0) tabOk rfl rfl rfl rfl (hA1.mem (by decide) rfl) ?_ ?_ ?_|refine ValX_index tabOk rfl (hA2.mem (by decide) rfl) rfl ?_ ?_ ?_|(with_reducible refine nat_idx ?_);refine ValX_loadEn _ _ (r0) tabOk rfl rfl rfl rfl (hA2.mem (by decide) rfl) ?_ ?_ ?_|refine ValX_loadE _ _ (r0) tabOk rfl rfl rfl rfl (hA2.mem (by decide) rfl) ?_ ?_ ?_)<;>first|rfl|omega|with_reducible refine isP ?_|conv=>whnf))|((with_reducible refine isW ?_;first|refine xwr_ok (by omega) (by omega) ?_|refine xwr_raw ?_);conv=>whnf)|((first|refine DrawX_s tabOk folOk ?_|refine DrawS_i (by kernel_rfl) ?_|with_reducible refine andX_i ?_ ?_)<;>conv=>whnf)|with_reducible exact rfl|((with_reducible first|refine xif_kt (by assumption) ?_|refine xif_kf (by assumption) ?_);conv=>whnf)|((with_reducible refine xif_s ?_ ?_)<;>(intro hb;(try simp (disch:=omega) only [hbS] at hb)<;>conv=>whnf)))
    all_goals try (exfalso; omega)
    all_goals try (exfalso; rw [he] at hb; simp at hb; done)
    refine ⟨k + 1, [], ⟨by (try dsimp only); omega, fun j hj => ?_⟩, ?_, by (try dsimp only); omega⟩
    ·by_cases e : j = k
     ·rw [e]; exact he
     ·exact hall j (by omega)
    ·((refine ⟨?_, ?_, ?_, ?_⟩) <;> (repeat' ((conv => whnf); apply And.intro)) <;> (try (first | exact trivial | decide)))
     all_goals first | rfl | exact fun _ _ h => h | (simp [SV.wf, SV.wfs]; done) | trace_state
   ·have hne := hno (fun e => he (by rw [e]))
    (conv=>whnf);repeat' (first|((with_reducible refine isV ?_);first|((first|refine ValX_index tabOk rfl (hA1.mem (by decide) rfl) rfl ?_ ?_ ?_|(with_reducible refine nat_idx ?_);refine ValX_loadEn _ _ (r0) tabOk rfl rfl rfl rfl (hA1.mem (by decide) rfl) ?_ ?_ ?_|refine ValX_loadE _ _ (r0) tabOk rfl rfl rfl rfl (hA1.mem (by decide) rfl) ?_ ?_ ?_|refine ValX_index tabOk rfl (hA2.mem (by decide) rfl) rfl ?_ ?_ ?_|(with_reducible refine nat_idx ?_);refine ValX_loadEn _ _ (r0) tabOk rfl rfl rfl rfl (hA2.mem (by decide) rfl) ?_ ?_ ?_|refine ValX_loadE _ _ (r0) tabOk rfl rfl rfl rfl (hA2.mem (by decide) rfl) ?_ ?_ ?_)<;>first|rfl|omega|with_reducible refine isP ?_|conv=>whnf))|((with_reducible refine isW ?_;first|refine xwr_ok (by omega) (by omega) ?_|refine xwr_raw ?_);conv=>whnf)|((first|refine DrawX_s tabOk folOk ?_|refine DrawS_i (by kernel_rfl) ?_|with_reducible refine andX_i ?_ ?_)<;>conv=>whnf)|with_reducible exact rfl|((with_reducible first|refine xif_kt (by assumption) ?_|refine xif_kf (by assumption) ?_);conv=>whnf)|((with_reducible refine xif_s ?_ ?_)<;>(intro hb;(try simp (disch:=omega) only [hbS] at hb)<;>conv=>whnf)))
    all_goals try (exfalso; omega)
    all_goals first
     | (rw [hne]; exact Fin_pure rfl rfl trivial)
     | (exfalso; apply he; simp [Prod.ext_iff] at hb ⊢; exact hb; done)
     | trace_state
  ·obtain rfl : k = n1 := by omega
   have hL : L1 = L2 := ext_getD r0 h1 (by omega) hall
   rw [hye hL]
   (conv=>whnf);repeat' (first|((with_reducible refine isW ?_;first|refine xwr_ok (by omega) (by omega) ?_|refine xwr_raw ?_);conv=>whnf)|((first|refine DrawX_s tabOk folOk ?_|refine DrawS_i (by kernel_rfl) ?_|with_reducible refine andX_i ?_ ?_)<;>conv=>whnf)|with_reducible exact rfl|((with_reducible first|refine xif_kt (by assumption) ?_|refine xif_kf (by assumption) ?_);conv=>whnf)|((with_reducible refine xif_s ?_ ?_)<;>(intro hb;(try simp (disch:=omega) only [hbS] at hb)<;>conv=>whnf)))
   all_goals try (exfalso; omega)
   exact Fin_pure rfl rfl trivial
end Go.Proofs.YtlnplelandimeaaGreat.En
end
section
namespace Go.Proofs.YtlnplelandimeaaGreat.En
open Go.RowKit
set_option maxRecDepth 100000
section
variable {P : Program} {p : Nat → Nat} {R : Nat → RfT}
theorem CallM.ra0 {f : FuncId} {args : List SV} {i : Nat} {y : SV} (hy : ∀ σ σ' : Nat → Nat, y.val σ = y.val σ') (hyw : ∀ n, y.wf n) (hyr : ∀ (ρ : List Nat) (k : SV → Prop), renK ρ y k = k y) (ha : ∀ ρ, args = SV.rens ρ args) (hi : i < 8) (h : CallM P f args (fun _ _ => True) [rfO (p i) (R i)] (fun _ : Unit => y) (fun _ => [rfO (p i) (R i)])) :
 CallM P f args (fun _ _ => True) [raO p R allT] (fun _ : Unit => y) (fun _ => [raO p R allT]) := by
 have hw : SV.wfs 1 args := h.2.1
 refine ⟨h.1, hw, fun σ fp w hm _ => ?_⟩
 have key : CallX ⟨P, [], 0, w, MOf 1 fp, 1, σ, false⟩ f args [raO p R allT] (fun z ob => z = y ∧ ob = [raO p R allT, noO]) := by
  refine CallX_openR 0 i 1 h.1 rfl rfl hi (allT_at hi) hw ?_
  conv => whnf
  refine CallX_m h [1] (ha _) ⟨fun _ _ h => h, trivial⟩ (by decide) (fun _ _ _ _ => trivial) ?_
  intro q
  conv => whnf
  rw [hyr]
  conv => whnf
  refine ⟨R i, rfl, rfl, ?_⟩
  rw [updN_self]
  exact ⟨rfl, rfl⟩
 unfold CallX at key
 refine (key.2 σ fp w hm).mono ?_
 rintro e w' ⟨v, rfl, z, ob, σ', fp', ⟨rfl, rfl⟩, h1, h2, rfl, h4, h5, h6⟩
 exact ⟨(), _, _, congrArg _ (hy _ _), hyw _, Mem.ren (r := [0]) (ob' := [raO p R allT]) ⟨fun _ _ h => h, trivial⟩ (by decide) rfl h5⟩
theorem CallM.ra1 {f : FuncId} {args : List SV} {i e sz : Nat} {ι : Type} {A : ι → Option Addr} {n c : ι → Nat} {els : ι → List (List Value)} (ha : ∀ ρ, args = SV.rens ρ args) (hi : i < 8) (h : CallM P f args (fun _ _ => True) [rfO (p i) (R i)] (fun q : ι => .v (.slice (A q) (n q) (c q))) (fun q => [rfO (p i) (R i), .row e sz (A q) (n q) (c q) (els q)])) :
 CallM P f args (fun _ _ => True) [raO p R allT] (fun q : ι => .v (.slice (A q) (n q) (c q))) (fun q => [raO p R allT, .row e sz (A q) (n q) (c q) (els q)]) := by
 have hw : SV.wfs 1 args := h.2.1
 refine ⟨h.1, hw, fun σ fp w hm _ => ?_⟩
 have key : CallX ⟨P, [], 0, w, MOf 1 fp, 1, σ, false⟩ f args [raO p R allT] (fun z ob => ∃ q, z = .v (.slice (A q) (n q) (c q)) ∧ ob = [raO p R allT, noO, .row e sz (A q) (n q) (c q) (els q)]) := by
  refine CallX_openR 0 i 1 h.1 rfl rfl hi (allT_at hi) hw ?_
  conv => whnf
  refine CallX_m h [1] (ha _) ⟨fun _ _ h => h, trivial⟩ (by decide) (fun _ _ _ _ => trivial) ?_
  intro q
  conv => whnf
  refine ⟨R i, rfl, rfl, ?_⟩
  rw [updN_self]
  exact ⟨q, rfl, rfl⟩
 unfold CallX at key
 refine (key.2 σ fp w hm).mono ?_
 rintro e' w' ⟨v, rfl, z, ob, σ', fp', ⟨q, rfl, rfl⟩, h1, h2, rfl, h4, h5, h6⟩
 refine ⟨q, fun j => σ' ([0, 2].getD j 0), fun j => fp' ([0, 2].getD j 0), rfl, trivial, Mem.ren (r := [0, 2]) (ob' := [raO p R allT, .row e sz (A q) (n q) (c q) (els q)]) ?_ (by decide) rfl h5⟩
 exact ⟨fun _ _ h => h, ⟨rfl, rfl, rfl, rfl, rfl, rfl⟩, trivial⟩
theorem ra_read {C : Ctx} {ob : List OB} (j i : Nat) (k : Int) (hi : i < 8) (hr : okR (R i)) (h3 : nth ob j = some (raO p R allT)) : ∀ σ fp w, Mem C σ fp ob w → ArgSl w (rsOf (R i) k).1 (rsOf (R i) k).2.2.length 2 ((rsOf (R i) k).2.2.map encBm) := by
 intro σ fp w hm
 obtain ⟨⟨Fs, hs⟩, _⟩ := nth_ra hm h3
 have ha := (hs.ats i hi (allT_at hi)).2
 unfold rsOf
 rcases Bool.eq_false_or_eq_true ((R i).h k) with hh | hh
 ·have hv : vId k = true := by
   rcases Bool.eq_false_or_eq_true (vId k) with hv | hv
   ·exact hv
   ·rw [((hr k).2.2.2.2 hv).1] at hh
    cases hh
  simp only [vId, Bool.and_eq_true, decide_eq_true_eq] at hv
  obtain ⟨q, rfl⟩ := Int.eq_ofNat_of_zero_le hv.1
  rw [hh]
  exact (ha q (by omega)).1
 ·rw [hh]
  exact ⟨rfl, by simp, by simp, fun h => (h rfl).elim⟩
end
set_option maxHeartbeats 8000000 in
theorem same34_m (b : Nat) (cs : CoT) (c : RcT) (D : RdT) (S : SnT) (hD : okD S D) :
 CallM Tryz.prog 29 [pR b, pR c.b] (fun _ _ => True) [stO b cs S allT, rsB c D S, rsQ c, raO c.p D.R allT, rsR D S] (fun _ : Unit => B true) (fun _ => [stO b cs S allT, rsB c D S, rsQ c, raO c.p D.R allT, rsR D S]) := by
 have kme := fMe_m b cs S
 have krl := relations_m b cs S allT
 have hpl := pairsN_len S 64
 have e1 : pairsN S 64 = pairs S := rfl
 rw [e1] at hpl
 clear e1
 have kri := fun (i : Nat) (hi : i < 8) (L : List Int) (hL : idsF (hasR (D.R i)) 64 = L) => CallM.ra1 (p := c.p) (R := D.R) (fun _ => rfl) hi (rIds_m (c.p i) (D.R i) L hL)
 have krs := fun (i : Nat) (hi : i < 8) (k : Int) => CallM.ra0 (p := c.p) (R := D.R) (fun _ _ => rfl) (fun _ => by simp [SV.wf, SV.wfs]) (fun _ _ => rfl) (fun _ => rfl) hi (rScan_m (c.p i) (D.R i) k (hD i hi).1)
 have krw := fun (i : Nat) (hi : i < 8) (k : Int) => CallM.ra0 (p := c.p) (R := D.R) (fun _ _ => rfl) (fun _ => by simp [SV.wf, SV.wfs]) (fun _ _ => rfl) (fun _ => rfl) hi (rWhere_m (c.p i) (D.R i) k (hD i hi).1)
 have kat := fun (i : Nat) (hi : i < 8) => fAtlas_m b cs S i hi
 unfold rsB rsR
 generalize hL0 : pairs S = L0 at *
 refine CallM.of (m := 5) Tryz.func29 rfl tabOk rfl rfl rfl rfl (by simp [SV.wfs, SV.wf]) fun w M π _ => ?_
 (conv=>whnf);repeat' (first|((with_reducible refine isC ?_);first|((first|(with_reducible refine isF 35 ?_);((refine CallX_m krl [0] rfl ⟨fun _ _ h => h, trivial⟩ (by decide) (fun _ _ _ _ => trivial) ?_; intro q1; obtain ⟨A8, c8⟩ := q1))|(with_reducible refine isF 34 ?_);((refine CallX_w (rel34_w A8 D.P c8 D.d L0 L0 true (by simp) rfl rfl (by omega) (by omega)) (fun σ fp w hm => ⟨ArgSl.row 5 rfl σ fp w hm, ArgSl.row 4 rfl σ fp w hm⟩) ?_))|(with_reducible refine isF 39 ?_);((refine CallX_m kme [0] rfl ⟨fun _ _ h => h, trivial⟩ (by decide) (fun _ _ _ _ => trivial) ?_; intro q2)));conv=>whnf))|((with_reducible refine isV ?_);first|(refine ValX_rsP 1 tabOk rfl rfl rfl rfl ?_; conv => whnf)|(refine ValX_rsOwn 1 S.me tabOk rfl rfl rfl rfl rfl ?_; conv => whnf))|((with_reducible refine isW ?_;first|refine xwr_ok (by omega) (by omega) ?_|refine xwr_raw ?_);conv=>whnf)|((first|refine DrawX_s tabOk folOk ?_|refine DrawS_i (by kernel_rfl) ?_|with_reducible refine andX_i ?_ ?_)<;>conv=>whnf)|with_reducible exact rfl|((with_reducible first|refine xif_kt (by assumption) ?_|refine xif_kf (by assumption) ?_);conv=>whnf)|((with_reducible refine xif_s ?_ ?_)<;>(intro hb;(try simp (disch:=omega) only [hbS] at hb)<;>conv=>whnf)))
 all_goals try (exfalso; omega)
 refine LoopX_inv tabOk (α := Nat) (fun i => i ≤ 8) (fun i => [(0, pR b), (1, pR c.b), (5, I i)])
  (fun _ => [stO b cs S allT, rsO c.b S.me c.A 8 c.cA D.P L0.length D.d, rsQ c, raO c.p D.R allT, .row 39 5 D.P L0.length D.d (L0.map encR)]) (fun i => 8 - i) 0 [0, 1, 2, 3, 4] (Nat.zero_le _) ?_ ?_
 ·((refine ⟨?_, ?_, ?_, ?_⟩) <;> (repeat' ((conv => whnf); apply And.intro)) <;> (try (first | exact trivial | decide)))
  all_goals first | rfl | exact fun _ _ h => h | (simp [SV.wf, SV.wfs]; done) | trace_state
 ·intro i hi
  by_cases hlt : i < 8
  ·have ka := kat i hlt
   (conv=>whnf);repeat' (first|((with_reducible refine isC ?_);first|(((with_reducible refine isF 37 ?_);((refine CallX_m ka [0] rfl ⟨fun _ _ h => h, trivial⟩ (by decide) (fun _ _ _ _ => trivial) ?_; rintro ⟨⟨⟨a1, a2⟩, ⟨m, q⟩, hok, hab⟩, hg⟩; dsimp only; dsimp only at hok)));conv=>whnf))|((with_reducible refine isW ?_;first|refine xwr_ok (by omega) (by omega) ?_|refine xwr_raw ?_);conv=>whnf)|((first|refine DrawX_s tabOk folOk ?_|refine DrawS_i (by kernel_rfl) ?_|with_reducible refine andX_i ?_ ?_)<;>conv=>whnf)|with_reducible exact rfl|((with_reducible first|refine xif_kt (by assumption) ?_|refine xif_kf (by assumption) ?_);conv=>whnf)|((with_reducible refine xif_s ?_ ?_)<;>(intro hb;(try simp (disch:=omega) only [hbS] at hb)<;>conv=>whnf)))
   all_goals try (exfalso; omega)
   have hab : absM (m, q) = S.ats i := hab
   obtain ⟨hr, har⟩ := hD i hlt
   have habr : absM (m, q) = absR (D.R i) := hab.trans har.symm
   have ki := Ids_m a1 a2 m q
   have hL : idsF (hasR (D.R i)) 64 = idsF (hasM m q) 64 := by rw [hasR_abs hr, ← habr, has_sem]; rfl
   have kr := kri i hlt _ hL
   have hlen := idsF_len (hasM m q) 64
   have ksc := fun k => Scan_m a1 a2 m q k hok
   have kwh := fun k => Where_m a1 a2 m q k
   have ks2 := krs i hlt
   have kw2 := krw i hlt
   have habk := abs_ref hr habr
   have ho := hok.of
   clear kri krs krw kat ka hL
   generalize idsF (hasM m q) 64 = L at *
   (conv=>whnf);repeat' (first|((with_reducible refine isC ?_);first|((first|(with_reducible refine isF 45 ?_);((refine CallX_m ki [5, 6, 7] rfl ⟨⟨rfl, rfl, by simp [SV.wf, SV.wfs]⟩, fun _ _ h => h, fun _ _ h => h, trivial⟩ (by decide) (fun _ _ _ _ => trivial) ?_; intro q3; obtain ⟨A3, c3⟩ := q3))|(with_reducible refine isF 67 ?_);((refine CallX_m kr [3] rfl ⟨fun _ _ h => h, trivial⟩ (by decide) (fun _ _ _ _ => trivial) ?_; intro q4; obtain ⟨A4, c4⟩ := q4))|(with_reducible refine isF 26 ?_);((refine CallX_w (Ints_w A3 A4 c3 c4 L rfl (by omega)) (fun σ fp w hm => ⟨ArgSl.row 8 rfl σ fp w hm, ArgSl.row 9 rfl σ fp w hm⟩) ?_)));conv=>whnf))|((with_reducible refine isV ?_);first|(refine ValX_rsA 1 tabOk rfl rfl rfl rfl ?_; conv => whnf)|((first|refine ValX_index tabOk rfl (ArgSl.row 2 rfl) rfl ?_ ?_ ?_|(with_reducible refine nat_idx ?_);refine ValX_load1n _ _ (0) tabOk rfl rfl rfl (ArgSl.row 2 rfl) ?_ ?_ ?_|refine ValX_load1 _ _ (0) tabOk rfl rfl rfl (ArgSl.row 2 rfl) ?_ ?_ ?_)<;>first|rfl|omega|with_reducible refine isP ?_|conv=>whnf))|((with_reducible refine isW ?_;first|refine xwr_ok (by omega) (by omega) ?_|refine xwr_raw ?_);conv=>whnf)|(rw [pt8 c.p hlt]; conv => whnf)|((first|refine DrawX_s tabOk folOk ?_|refine DrawS_i (by kernel_rfl) ?_|with_reducible refine andX_i ?_ ?_)<;>conv=>whnf)|with_reducible exact rfl|((with_reducible first|refine xif_kt (by assumption) ?_|refine xif_kf (by assumption) ?_);conv=>whnf)|((with_reducible refine xif_s ?_ ?_)<;>(intro hb;(try simp (disch:=omega) only [hbS] at hb)<;>conv=>whnf)))
   all_goals try (exfalso; omega)
   all_goals try (rw [pt8 c.p hlt]; done)
   clear ki kr
   refine LoopX_inv tabOk (α := Nat) (fun k => k ≤ L.length) (fun k => [(0, pR b), (1, pR c.b), (5, I i), (6, .p 5 0), (7, .v (.slice A4 L.length c4)), (8, I k)])
    (fun _ => [stO b cs S allT, rsO c.b S.me c.A 8 c.cA D.P L0.length D.d, rsQ c, raO c.p D.R allT, .row 39 5 D.P L0.length D.d (L0.map encR), atB a1 a2, scO a1 m, plO a2 q, .row 3 1 A4 L.length c4 (L.map fun x => [encI x])]) (fun k => L.length - k) 0 [0, 1, 2, 3, 4, 5, 6, 7, 10] (Nat.zero_le _) ?_ ?_
   ·((refine ⟨?_, ?_, ?_, ?_⟩) <;> (repeat' ((conv => whnf); apply And.intro)) <;> (try (first | exact trivial | decide)))
    all_goals first | rfl | exact fun _ _ h => h | (simp [SV.wf, SV.wfs]; done) | trace_state
   ·intro k hk
    by_cases hlt2 : k < L.length
    ·obtain ⟨e1, e2, e3, e4⟩ := habk (L.getD k 0)
     have k1 := ksc (L.getD k 0)
     have k2 := kwh (L.getD k 0)
     have k3 := ks2 (L.getD k 0)
     have k4 := kw2 (L.getD k 0)
     have hl32 := ho (L.getD k 0)
     rw [e2] at k1
     rw [e3, e4] at k2
     have hrf := fun {C : Ctx} {ob : List OB} (h : nth ob 3 = some (raO c.p D.R allT)) => ra_read (C := C) (ob := ob) 3 i (L.getD k 0) hlt hr h
     rw [e1] at k1 hl32
     clear ksc kwh ks2 kw2 habk ho e1 e2 e3 e4 krl kme
     generalize rsOf (D.R i) (L.getD k 0) = s at *
     obtain ⟨A5, c5, bs⟩ := s
     dsimp only at *
     generalize (D.R i).h (L.getD k 0) = g1 at *
     generalize rpB (D.R i) (L.getD k 0) = g2 at *
     generalize (D.R i).p (L.getD k 0) = p at *
     (conv=>whnf);repeat' (first|((with_reducible refine isC ?_);first|((first|(with_reducible refine isF 68 ?_);((refine CallX_m k1 [5, 6, 7] rfl ⟨⟨rfl, rfl, by simp [SV.wf, SV.wfs]⟩, fun _ _ h => h, fun _ _ h => h, trivial⟩ (by decide) (fun _ _ _ _ => trivial) ?_; intro r6; obtain ⟨A6, c6⟩ := r6))|(with_reducible refine isF 70 ?_);((refine CallX_m k2 [5, 6, 7] rfl ⟨⟨rfl, rfl, by simp [SV.wf, SV.wfs]⟩, fun _ _ h => h, fun _ _ h => h, trivial⟩ (by decide) (fun _ _ _ _ => trivial) ?_; intro r7))|(with_reducible refine isF 69 ?_);((refine CallX_m k3 [3] rfl ⟨fun _ _ h => h, trivial⟩ (by decide) (fun _ _ _ _ => trivial) ?_; intro r8))|(with_reducible refine isF 71 ?_);((refine CallX_m k4 [3] rfl ⟨fun _ _ h => h, trivial⟩ (by decide) (fun _ _ _ _ => trivial) ?_; intro r9))|(with_reducible refine isF 72 ?_);((refine CallX_w (Beams_w A6 A5 c6 c5 bs rfl (by omega)) (fun σ fp w hm => ⟨ArgSl.bm (s := (A6, c6, bs)) 9 rfl σ fp w hm, hrf rfl σ fp w hm⟩) ?_)));conv=>whnf))|((with_reducible refine isV ?_);first|((first|refine ValX_index tabOk rfl (ArgSl.row 8 rfl) rfl ?_ ?_ ?_|(with_reducible refine nat_idx ?_);refine ValX_load1n _ _ (0) tabOk rfl rfl rfl (ArgSl.row 8 rfl) ?_ ?_ ?_|refine ValX_load1 _ _ (0) tabOk rfl rfl rfl (ArgSl.row 8 rfl) ?_ ?_ ?_)<;>first|rfl|omega|with_reducible refine isP ?_|conv=>whnf)|(refine ValX_rsA 1 tabOk rfl rfl rfl rfl ?_; conv => whnf)|((first|refine ValX_index tabOk rfl (ArgSl.row 2 rfl) rfl ?_ ?_ ?_|(with_reducible refine nat_idx ?_);refine ValX_load1n _ _ (0) tabOk rfl rfl rfl (ArgSl.row 2 rfl) ?_ ?_ ?_|refine ValX_load1 _ _ (0) tabOk rfl rfl rfl (ArgSl.row 2 rfl) ?_ ?_ ?_)<;>first|rfl|omega|with_reducible refine isP ?_|conv=>whnf))|((with_reducible refine isW ?_;first|refine xwr_ok (by omega) (by omega) ?_|refine xwr_raw ?_);conv=>whnf)|(rw [pt8 c.p hlt]; conv => whnf)|((first|refine DrawX_s tabOk folOk ?_|refine DrawS_i (by kernel_rfl) ?_|with_reducible refine andX_i ?_ ?_)<;>conv=>whnf)|with_reducible exact rfl|((with_reducible first|refine xif_kt (by assumption) ?_|refine xif_kf (by assumption) ?_);conv=>whnf)|((with_reducible refine xif_s ?_ ?_)<;>(intro hb;(try simp (disch:=omega) only [hbS] at hb)<;>conv=>whnf)))
     all_goals try (exfalso; omega)
     all_goals try (rw [pt8 c.p hlt]; done)
     all_goals try (exfalso; simp at hb; done)
     refine ⟨k + 1, [0, 1, 2, 3, 4, 5, 6, 7, 8], by (try dsimp only); omega, ?_, by (try dsimp only); omega⟩
     ((refine ⟨?_, ?_, ?_, ?_⟩) <;> (repeat' ((conv => whnf); apply And.intro)) <;> (try (first | exact trivial | decide)))
     all_goals first | rfl | exact fun _ _ h => h | (simp [SV.wf, SV.wfs]; done) | trace_state
    ·obtain rfl : k = L.length := by omega
     (conv=>whnf);repeat' (first|((with_reducible refine isW ?_;first|refine xwr_ok (by omega) (by omega) ?_|refine xwr_raw ?_);conv=>whnf)|((first|refine DrawX_s tabOk folOk ?_|refine DrawS_i (by kernel_rfl) ?_|with_reducible refine andX_i ?_ ?_)<;>conv=>whnf)|with_reducible exact rfl|((with_reducible first|refine xif_kt (by assumption) ?_|refine xif_kf (by assumption) ?_);conv=>whnf)|((with_reducible refine xif_s ?_ ?_)<;>(intro hb;(try simp (disch:=omega) only [hbS] at hb)<;>conv=>whnf)))
     all_goals try (exfalso; omega)
     refine ⟨i + 1, [0, 1, 2, 3, 4], by (try dsimp only); omega, ?_, by (try dsimp only); omega⟩
     ((refine ⟨?_, ?_, ?_, ?_⟩) <;> (repeat' ((conv => whnf); apply And.intro)) <;> (try (first | exact trivial | decide)))
     all_goals first | rfl | exact fun _ _ h => h | (simp [SV.wf, SV.wfs]; done) | trace_state
  ·obtain rfl : i = 8 := by omega
   (conv=>whnf);repeat' (first|((with_reducible refine isW ?_;first|refine xwr_ok (by omega) (by omega) ?_|refine xwr_raw ?_);conv=>whnf)|((first|refine DrawX_s tabOk folOk ?_|refine DrawS_i (by kernel_rfl) ?_|with_reducible refine andX_i ?_ ?_)<;>conv=>whnf)|with_reducible exact rfl|((with_reducible first|refine xif_kt (by assumption) ?_|refine xif_kf (by assumption) ?_);conv=>whnf)|((with_reducible refine xif_s ?_ ?_)<;>(intro hb;(try simp (disch:=omega) only [hbS] at hb)<;>conv=>whnf)))
   all_goals try (exfalso; omega)
   exact Fin_m () [0, 1, 2, 3, 4] ⟨rfl, by simp [SV.wf, SV.wfs]⟩ ⟨fun _ _ h => h, fun _ _ h => h, ⟨rfl, rfl, rfl, rfl, rfl, rfl⟩, fun _ _ h => h, ⟨rfl, rfl, rfl, rfl, rfl, rfl⟩, trivial⟩ (by decide) rfl
end Go.Proofs.YtlnplelandimeaaGreat.En
end
section
namespace Go.Proofs.YtlnplelandimeaaGreat.En
open Go.RowKit
set_option maxRecDepth 100000
set_option maxHeartbeats 16000000 in
theorem fmatch_x (A : Option Addr) (c : Nat) (l : List FOp) {n : Nat} (hl : l.length = n) (hn : n ≤ maxLen) :
 CallW Tryz.prog 6 [.v (.slice A n c)] (fun w => opsF w A n l) (B true) := by
 have kf := few34_w A c l hl hn
 rcases Bool.eq_false_or_eq_true (fewG l) with hf | hf
 rotate_left
 ·rw [hf] at kf
  refine CallW.of Tryz.func6 rfl tabOk rfl rfl rfl (by simp [SV.wfs, SV.wf]) (by simp [SV.wfs, SV.wf]) fun w hpre => ?_
  (conv=>whnf);repeat' (first|((with_reducible refine isC ?_);first|((with_reducible refine CallX_pure (awake34_x) ?_)<;>first|omega|with_reducible refine isP ?_|conv=>whnf)|(((with_reducible refine isF 12 ?_;refine CallX_w (kf) ?_ ?_);(focus exact hpre.few rfl));conv=>whnf))|((with_reducible refine isW ?_;first|refine xwr_ok (by omega) (by omega) ?_|refine xwr_raw ?_);conv=>whnf)|((first|refine DrawX_s tabOk folOk ?_|refine DrawS_i (by kernel_rfl) ?_|with_reducible refine andX_i ?_ ?_)<;>conv=>whnf)|with_reducible exact rfl|((with_reducible first|refine xif_kt (by assumption) ?_|refine xif_kf (by assumption) ?_);conv=>whnf)|((with_reducible refine xif_s ?_ ?_)<;>(intro hb;(try simp (disch:=omega) only [hbS] at hb)<;>conv=>whnf)))
  exact Fin_pure rfl rfl trivial
 ·rw [hf] at kf
  have hfl := fewG_len hf
  refine CallW.of Tryz.func6 rfl tabOk rfl rfl rfl (by simp [SV.wfs, SV.wf]) (by simp [SV.wfs, SV.wf]) fun w hpre => ?_
  (conv=>whnf);repeat' (first|((with_reducible refine isC ?_);first|((with_reducible refine CallX_pure (awake34_x) ?_)<;>first|omega|with_reducible refine isP ?_|conv=>whnf)|(((with_reducible refine isF 12 ?_;refine CallX_w (kf) ?_ ?_);(focus exact hpre.few rfl));conv=>whnf))|((with_reducible refine isW ?_;first|refine xwr_ok (by omega) (by omega) ?_|refine xwr_raw ?_);conv=>whnf)|((first|refine DrawX_s tabOk folOk ?_|refine DrawS_i (by kernel_rfl) ?_|with_reducible refine andX_i ?_ ?_)<;>conv=>whnf)|with_reducible exact rfl|((with_reducible first|refine xif_kt (by assumption) ?_|refine xif_kf (by assumption) ?_);conv=>whnf)|((with_reducible refine xif_s ?_ ?_)<;>(intro hb;(try simp (disch:=omega) only [hbS] at hb)<;>conv=>whnf)))
  refine CallX_m three_m [] rfl trivial (by decide) (fun _ _ _ _ => trivial) ?_
  rintro ⟨⟨b0, d0⟩, ⟨b1, d1⟩, ⟨b2, d2⟩, A1, e1⟩
  dsimp only
  (conv=>whnf);repeat' (first|((with_reducible refine isW ?_;first|refine xwr_ok (by omega) (by omega) ?_|refine xwr_raw ?_);conv=>whnf)|((first|refine DrawX_s tabOk folOk ?_|refine DrawS_i (by kernel_rfl) ?_|with_reducible refine andX_i ?_ ?_)<;>conv=>whnf)|with_reducible exact rfl|((with_reducible first|refine xif_kt (by assumption) ?_|refine xif_kf (by assumption) ?_);conv=>whnf)|((with_reducible refine xif_s ?_ ?_)<;>(intro hb;(try simp (disch:=omega) only [hbS] at hb)<;>conv=>whnf)))
  refine CallX_m rThree_m [] rfl trivial (by decide) (fun _ _ _ _ => trivial) ?_
  rintro ⟨⟨c0, c1, c2⟩, A2, e2⟩
  dsimp only
  (conv=>whnf);repeat' (first|((with_reducible refine isW ?_;first|refine xwr_ok (by omega) (by omega) ?_|refine xwr_raw ?_);conv=>whnf)|((first|refine DrawX_s tabOk folOk ?_|refine DrawS_i (by kernel_rfl) ?_|with_reducible refine andX_i ?_ ?_)<;>conv=>whnf)|with_reducible exact rfl|((with_reducible first|refine xif_kt (by assumption) ?_|refine xif_kf (by assumption) ?_);conv=>whnf)|((with_reducible refine xif_s ?_ ?_)<;>(intro hb;(try simp (disch:=omega) only [hbS] at hb)<;>conv=>whnf)))
  clear kf
  refine LoopX_inv tabOk (α := (k : Nat) × Co3 × {Q : Nat → SnT // Q = runQ Q0 (l.take k)} × Rd3) (fun s => s.1 ≤ n ∧ okD3 s.2.2.1.1 s.2.2.2) (fun s => [(0, .v (.slice A n c)), (3, .v (.slice A1 3 e1)), (4, .v (.slice A2 3 e2)), (5, I s.1)])
   (fun s => [stO b0 s.2.1.1 (s.2.2.1.1 0) allT, stO b1 s.2.1.2.1 (s.2.2.1.1 1) allT, stO b2 s.2.1.2.2 (s.2.2.1.1 2) allT, ptsO A1 e1 b0 b1 b2, rsB c0 s.2.2.2.1 (s.2.2.1.1 0), rsQ c0, raO c0.p s.2.2.2.1.R allT, rsR s.2.2.2.1 (s.2.2.1.1 0), rsB c1 s.2.2.2.2.1 (s.2.2.1.1 1), rsQ c1, raO c1.p s.2.2.2.2.1.R allT, rsR s.2.2.2.2.1 (s.2.2.1.1 1), rsB c2 s.2.2.2.2.2 (s.2.2.1.1 2), rsQ c2, raO c2.p s.2.2.2.2.2.R allT, rsR s.2.2.2.2.2 (s.2.2.1.1 2), rptsO A2 e2 c0.b c1.b c2.b]) (fun s => n - s.1) ⟨0, (d0, d1, d2), ⟨Q0, rfl⟩, (D0, D0, D0)⟩ [0, 1, 2, 3, 4, 5, 6, 7, 8, 9, 10, 11, 12, 13, 14, 15, 16] ⟨Nat.zero_le _, okD0 _, okD0 _, okD0 _⟩ ?_ ?_
  ·((refine ⟨?_, ?_, ?_, ?_⟩) <;> (repeat' ((conv => whnf); apply And.intro)) <;> (try (first | exact trivial | decide)))
   all_goals first | rfl | exact fun _ _ h => h | (simp [SV.wf, SV.wfs]; done) | trace_state
  ·rintro ⟨k, cs, ⟨Q, hQ⟩, D⟩ ⟨hk, hD⟩
   dsimp only at hk hQ hD ⊢
   have hokQ : okQ Q := by rw [hQ]; exact okQ_run _ okQ0
   have hgd : gdQ Q := by rw [hQ]; exact gdQ_run _ gdQ0
   by_cases hlt : k < n
   ·have hmem : l.getD k fo0 ∈ l := by simp [show k < l.length by omega]
    have hop := hpre.op hmem
    have hol := (hpre.2 _ hmem).2
    have hnx : doQ Q (l.getD k fo0) = runQ Q0 (l.take (k + 1)) := by rw [runQ_take (by omega), hQ]
    have hd := do3_m b0 b1 b2 cs Q hokQ A1 e1 (l.getD k fo0) hol
    have hr := rDo_m c0 c1 c2 D Q hD hokQ hgd A2 e2 (l.getD k fo0) hol
    (conv=>whnf);repeat' (first|((with_reducible refine isC ?_);first|((first|(with_reducible refine isF 15 ?_);(refine CallX_m hd [0, 1, 2, 3] rfl ⟨fun _ _ h => h, fun _ _ h => h, fun _ _ h => h, ⟨rfl, rfl, rfl, rfl, rfl, rfl⟩, trivial⟩ (by decide) (ArgN.on hop (by decide) (m := 4) (r := [0, 1, 2, 3]) (fun j hj => by rcases (by omega : j = 0 ∨ j = 1 ∨ j = 2 ∨ j = 3) with rfl | rfl | rfl | rfl <;> simp)) ?_; intro q)|(with_reducible refine isF 16 ?_);(refine CallX_m hr [4, 5, 6, 7, 8, 9, 10, 11, 12, 13, 14, 15, 16] rfl ⟨fun _ _ h => h, ⟨rfl, rfl, rfl, rfl, rfl, rfl⟩, fun _ _ h => h, ⟨rfl, rfl, rfl, rfl, rfl, rfl⟩, fun _ _ h => h, ⟨rfl, rfl, rfl, rfl, rfl, rfl⟩, fun _ _ h => h, ⟨rfl, rfl, rfl, rfl, rfl, rfl⟩, fun _ _ h => h, ⟨rfl, rfl, rfl, rfl, rfl, rfl⟩, fun _ _ h => h, ⟨rfl, rfl, rfl, rfl, rfl, rfl⟩, ⟨rfl, rfl, rfl, rfl, rfl, rfl⟩, trivial⟩ (by decide) (ArgN.on hop (by decide) (m := 13) (r := [4, 5, 6, 7, 8, 9, 10, 11, 12, 13, 14, 15, 16]) (fun j hj => by rcases (by omega : j = 0 ∨ j = 1 ∨ j = 2 ∨ j = 3 ∨ j = 4 ∨ j = 5 ∨ j = 6 ∨ j = 7 ∨ j = 8 ∨ j = 9 ∨ j = 10 ∨ j = 11 ∨ j = 12) with rfl | rfl | rfl | rfl | rfl | rfl | rfl | rfl | rfl | rfl | rfl | rfl | rfl <;> simp)) ?_; intro q2));conv=>whnf))|((with_reducible refine isV ?_);first|((first|refine ValX_index tabOk rfl (hpre.1.mem (by decide) rfl) rfl ?_ ?_ ?_|(with_reducible refine nat_idx ?_);refine ValX_loadEn _ _ (fo0) tabOk rfl rfl rfl rfl (hpre.1.mem (by decide) rfl) ?_ ?_ ?_|refine ValX_loadE _ _ (fo0) tabOk rfl rfl rfl rfl (hpre.1.mem (by decide) rfl) ?_ ?_ ?_)<;>first|rfl|omega|with_reducible refine isP ?_|conv=>whnf))|((with_reducible refine isW ?_;first|refine xwr_ok (by omega) (by omega) ?_|refine xwr_raw ?_);conv=>whnf)|((first|refine DrawX_s tabOk folOk ?_|refine DrawS_i (by kernel_rfl) ?_|with_reducible refine andX_i ?_ ?_)<;>conv=>whnf)|with_reducible exact rfl|((with_reducible first|refine xif_kt (by assumption) ?_|refine xif_kf (by assumption) ?_);conv=>whnf)|((with_reducible refine xif_s ?_ ?_)<;>(intro hb;(try simp (disch:=omega) only [hbS] at hb)<;>conv=>whnf)))
    all_goals try (exfalso; omega)
    all_goals try (exfalso; simp at hb; done)
    refine ⟨⟨k + 1, q, ⟨_, hnx⟩, q2.1⟩, [0, 1, 2, 3, 4, 5, 6, 7, 8, 9, 10, 11, 12, 13, 14, 15, 16], ⟨by (try dsimp only); omega, q2.2⟩, ?_, by (try dsimp only); omega⟩
    ((refine ⟨?_, ?_, ?_, ?_⟩) <;> (repeat' ((conv => whnf); apply And.intro)) <;> (try (first | exact trivial | decide)))
    all_goals first | rfl | exact fun _ _ h => h | (simp [SV.wf, SV.wfs]; done) | trace_state
   ·obtain rfl : k = n := by omega
    obtain ⟨r, hr⟩ : ∃ r : Bool, (r = true ↔ sameS (Q 0) (Q 1)) := by
     by_cases h : sameS (Q 0) (Q 1)
     ·exact ⟨true, ⟨fun _ => h, fun _ => rfl⟩⟩
     ·exact ⟨false, ⟨fun h' => (by cases h'), fun h' => (h h').elim⟩⟩
    have k0 := same34_m b0 cs.1 c0 D.1 (Q 0) hD.1
    have k1 := same34_m b1 cs.2.1 c1 D.2.1 (Q 1) hD.2.1
    have k2 := same34_m b2 cs.2.2 c2 D.2.2 (Q 2) hD.2.2
    have ks := fSame_m b0 b1 cs.1 cs.2.1 (Q 0) (Q 1) r hr
    have kt := rsSame_m c0 c1 D.1 D.2.1 (Q 0) (Q 1) hD.1 hD.2.1 r hr
    (conv=>whnf);repeat' (first|((with_reducible refine isC ?_);first|((first|(with_reducible refine isF 29 ?_;refine CallX_m (k0) [0, 4, 5, 6, 7] ?_ ?_ ?_ ?_ ?_);(focus exact rfl);(focus exact ⟨fun _ _ h => h, fun _ _ h => h, ⟨rfl, rfl, rfl, rfl, rfl, rfl⟩, fun _ _ h => h, ⟨rfl, rfl, rfl, rfl, rfl, rfl⟩, trivial⟩);(focus decide);(focus exact (fun _ _ _ _ => trivial));intro u0|(with_reducible refine isF 29 ?_;refine CallX_m (k1) [1, 8, 9, 10, 11] ?_ ?_ ?_ ?_ ?_);(focus exact rfl);(focus exact ⟨fun _ _ h => h, fun _ _ h => h, ⟨rfl, rfl, rfl, rfl, rfl, rfl⟩, fun _ _ h => h, ⟨rfl, rfl, rfl, rfl, rfl, rfl⟩, trivial⟩);(focus decide);(focus exact (fun _ _ _ _ => trivial));intro u1|(with_reducible refine isF 29 ?_;refine CallX_m (k2) [2, 12, 13, 14, 15] ?_ ?_ ?_ ?_ ?_);(focus exact rfl);(focus exact ⟨fun _ _ h => h, fun _ _ h => h, ⟨rfl, rfl, rfl, rfl, rfl, rfl⟩, fun _ _ h => h, ⟨rfl, rfl, rfl, rfl, rfl, rfl⟩, trivial⟩);(focus decide);(focus exact (fun _ _ _ _ => trivial));intro u2|(with_reducible refine isF 30 ?_;refine CallX_m (ks) [0, 1] ?_ ?_ ?_ ?_ ?_);(focus exact rfl);(focus exact ⟨fun _ _ h => h, fun _ _ h => h, trivial⟩);(focus decide);(focus exact (fun _ _ _ _ => trivial));intro u3|(with_reducible refine isF 31 ?_;refine CallX_m (kt) [4, 5, 6, 7, 8, 9, 10, 11] ?_ ?_ ?_ ?_ ?_);(focus exact rfl);(focus exact ⟨fun _ _ h => h, ⟨rfl, rfl, rfl, rfl, rfl, rfl⟩, fun _ _ h => h, ⟨rfl, rfl, rfl, rfl, rfl, rfl⟩, fun _ _ h => h, ⟨rfl, rfl, rfl, rfl, rfl, rfl⟩, fun _ _ h => h, ⟨rfl, rfl, rfl, rfl, rfl, rfl⟩, trivial⟩);(focus decide);(focus exact (fun _ _ _ _ => trivial));intro u4);conv=>whnf))|((with_reducible refine isV ?_);first|((first|refine ValX_index tabOk rfl (ArgSl.row 3 rfl) rfl ?_ ?_ ?_|(with_reducible refine nat_idx ?_);refine ValX_load1n _ _ (0) tabOk rfl rfl rfl (ArgSl.row 3 rfl) ?_ ?_ ?_|refine ValX_load1 _ _ (0) tabOk rfl rfl rfl (ArgSl.row 3 rfl) ?_ ?_ ?_|refine ValX_index tabOk rfl (ArgSl.row 16 rfl) rfl ?_ ?_ ?_|(with_reducible refine nat_idx ?_);refine ValX_load1n _ _ (0) tabOk rfl rfl rfl (ArgSl.row 16 rfl) ?_ ?_ ?_|refine ValX_load1 _ _ (0) tabOk rfl rfl rfl (ArgSl.row 16 rfl) ?_ ?_ ?_)<;>first|rfl|omega|with_reducible refine isP ?_|conv=>whnf))|((with_reducible refine isW ?_;first|refine xwr_ok (by omega) (by omega) ?_|refine xwr_raw ?_);conv=>whnf)|((first|refine DrawX_s tabOk folOk ?_|refine DrawS_i (by kernel_rfl) ?_|with_reducible refine andX_i ?_ ?_)<;>conv=>whnf)|with_reducible exact rfl|((with_reducible first|refine xif_kt (by assumption) ?_|refine xif_kf (by assumption) ?_);conv=>whnf)|((with_reducible refine xif_s ?_ ?_)<;>(intro hb;(try simp (disch:=omega) only [hbS] at hb)<;>conv=>whnf)))
    all_goals try (exfalso; omega)
    all_goals first | exact Fin_pure rfl rfl trivial | (rw [show (r == r) = true by simp]; exact Fin_pure rfl rfl trivial) | trace_state
theorem fmatch_walk (A0 : Option Addr) (n0 c0 : Nat) (l0 : List FOp) (w : World) (h0 : l0.length = n0) (o0 : opsF w A0 n0 l0) (g0 : n0 ≤ c0) (k0 : c0 ≤ maxLen) :
 Calls Tryz.prog 6 #[.slice A0 n0 c0] w fun e w' => e = .returned (.bool true) ∧ Below w.heap.size w w' :=
 (fmatch_x A0 c0 l0 h0 (by omega)).2.2 (fun _ => 0) w o0
end Go.Proofs.YtlnplelandimeaaGreat.En
end
