import Derived.Test.YtlnplelandimeaaGreatZFleetMatchesReference28
set_option linter.all false
section
namespace Go.Proofs.YtlnplelandimeaaGreat.En
open Go.RowKit
set_option maxRecDepth 100000
def subP (j b : Nat) : SV → SV
 | .p k off => match Nat.beq k j with
  | true => .v (.pointer (some ⟨b, off, none⟩))
  | false => .p k off
 | x => x
def subT (j b : Nat) : List (Nat × SV) → List (Nat × SV)
 | [] => []
 | (i, x) :: r => (i, subP j b x) :: subT j b r
theorem look_sub (j b t : Nat) : ∀ tm : List (Nat × SV), look (subT j b tm) t = (look tm t).map (subP j b)
 | [] => rfl
 | (i, x) :: r => by
  unfold subT look
  cases Nat.beq i t with
  | true => rfl
  | false => exact look_sub j b t r
theorem subP_val (j : Nat) (σ : Nat → Nat) (n : Nat) (x : SV) (hw : x.wf n) : (subP j (σ j) x).val σ = x.val σ ∧ (subP j (σ j) x).wf n := by
 unfold subP
 split
 ·rename_i k off
  split
  ·rename_i h
   rw [Nat.eq_of_beq_eq_true h]
   exact ⟨rfl, trivial⟩
  ·exact ⟨rfl, hw⟩
 ·exact ⟨rfl, hw⟩
section
variable {C : Ctx} {ob : List OB}
theorem LoopX_conv {cd : Code} {tm : List (Nat × SV)} {K : Exit → List (Nat × SV) → List OB → Prop} (j : Nat) (o : OB) (o' : Nat → OB) (hj : nth ob j = some o) (ho : ∀ σ fp w, Mem C σ fp ob w → (o' (σ j)).at σ ob.length w (σ j) (fp j))
 (h : ∀ b, force (subT j b tm) fun tm => force (setN ob j (o' b)) fun ob => LoopX C cd tm ob K) : LoopX C cd tm ob K := by
 unfold LoopX
 intro σ fp a w hr
 have hm := hr.mem
 rw [nth_eq] at hj
 have hjl := (List.getElem?_eq_some_iff.1 hj).1
 have h1 := h (σ j)
 rw [force_eq, force_eq, setN_eq] at h1
 unfold LoopX at h1
 have hM := hm.change (w' := w) hjl (o' (σ j)) (fp j) (ho σ fp w hm) (fun x hx => .inl hx) (fun x hx => hm.hi j hjl x hx) rfl rfl rfl (Nat.le_refl _) (fun _ _ _ => rfl) (fun _ => Nat.le_refl _)
 have hfp : (fun k => if k = j then fp j else fp k) = fp := by
  funext k
  by_cases e : k = j
  ·rw [if_pos e, e]
  ·rw [if_neg e]
 rw [hfp] at hM
 refine h1 σ fp a w ⟨⟨hr.tm.size, hr.tm.defers, fun t x hx => ?_⟩, hM⟩
 rw [look_sub] at hx
 cases hl : look tm t with
 | none => rw [hl] at hx; cases hx
 | some y =>
  rw [hl] at hx
  obtain rfl := Option.some.inj hx
  obtain ⟨v1, v2⟩ := hr.tm.val t y hl
  obtain ⟨s1, s2⟩ := subP_val j σ ob.length y v2
  exact ⟨v1.trans s1.symm, by simpa using s2⟩
end
def sn0 (me : Int) : SnT := ⟨me, fun _ _ => none, fun _ => at0⟩
def co0 : CoT := ⟨fun _ => none, fun _ _ => 0⟩
def noneT : Nat → Bool := fun i => decide (i < 0)
theorem st_new {C : Ctx} {ob : List OB} {σ : Nat → Nat} {fp : Nat → Nat → Prop} {w : World} (hm : Mem C σ fp ob w) {j : Nat} {me : Int} {cells : List SV} (hj : nth ob j = some (.box 99 cells)) (hc : cells = I me :: List.replicate 72 (.v (.pointer none))) : (stO (σ j) co0 (sn0 me) noneT).at σ ob.length w (σ j) (fp j) := by
 rw [nth_eq] at hj
 obtain ⟨h1, h2, h3⟩ := hm.at_ j _ hj
 refine stO_mk (Fs := fun i x => i = 8 ∧ x = σ j) ⟨⟨SV.vals σ cells, h1, ?_, fun k hk => ?_⟩, ⟨rfl, rfl⟩, fun x y f _ _ hf => (by cases hf), fun i hi hH => (by simp [noneT] at hH), ?_, ?_⟩
 ·rw [vals_length, hc]
  rfl
 ·rw [vals_get, hc]
  unfold stC
  cases k with
  | zero => rfl
  | succ k =>
   rw [List.getElem?_cons_succ, List.getElem?_replicate, if_pos (by omega), if_neg (by omega)]
   split <;> rfl
 ·rintro i k hi hk hne x ⟨rfl, _⟩ ⟨rfl, _⟩
  exact hne rfl
 ·rintro i hi x ⟨_, rfl⟩
  exact (h2 _).2 rfl
theorem stO_cast {w : World} {F : Nat → Prop} {b : Nat} {c : CoT} {S S' : SnT} {H H' : Nat → Bool} (hS : S = S') (hH : H = H') (h : ∃ Fs, StW w F b c S H Fs) : ∃ Fs, StW w F b c S' H' Fs := by
 subst hS hH
 exact h
theorem robot34_x (n : Int) : PureX Tryz.prog 51 [I n] (B (rbB n)) := by
 refine PureX.of Tryz.func51 rfl tabOk rfl rfl rfl (by simp [SV.wfs, SV.wf]) (by simp [SV.wfs, SV.wf]) fun w => ?_
 (conv=>whnf);repeat' (first|with_reducible exact rfl|((with_reducible first|refine xif_kt (by assumption) ?_|refine xif_kf (by assumption) ?_);conv=>whnf)|((with_reducible refine xif_s ?_ ?_)<;>(intro hb;(try simp (disch:=omega) only [hbS] at hb)<;>conv=>whnf)))
 all_goals refine Fin_pure rfl (B_eq ?_) trivial
 all_goals simp [rbB]
 all_goals omega
theorem size34_x (n : Int) : PureX Tryz.prog 83 [I n] (B (szB n 1024)) := by
 refine PureX.of Tryz.func83 rfl tabOk rfl rfl rfl (by simp [SV.wfs, SV.wf]) (by simp [SV.wfs, SV.wf]) fun w => ?_
 (conv=>whnf);repeat' (first|with_reducible exact rfl|((with_reducible first|refine xif_kt (by assumption) ?_|refine xif_kf (by assumption) ?_);conv=>whnf)|((with_reducible refine xif_s ?_ ?_)<;>(intro hb;(try simp (disch:=omega) only [hbS] at hb)<;>conv=>whnf)))
 all_goals refine Fin_pure rfl (B_eq ?_) trivial
 all_goals simp [szB]
 all_goals omega
def keyF (f : Fr) : List Int := [f.1, f.2.1, f.2.2]
theorem greater34_d (f g : Fr) : PureD Tryz.prog 112 [.a [I f.1, I f.2.1, I f.2.2], .a [I g.1, I g.2.1, I g.2.2]] (B (decide (0 < lexC (keyF f) (keyF g)))) := by
 have e : lexC (keyF f) (keyF g) = orI [cmpI f.1 g.1, cmpI f.2.1 g.2.1, cmpI f.2.2 g.2.2] := rfl
 rw [e]
 refine PureD.of Tryz.func112 rfl tabOk rfl rfl rfl (by simp [SV.wfs, SV.wf]) (by simp [SV.wfs, SV.wf]) fun w => ?_
 (conv=>whnf);repeat' (first|((with_reducible refine isC ?_);first|((with_reducible refine CallX_d (Compare_d _ _) ?_)<;>first|omega|with_reducible refine isP ?_|conv=>whnf)|(refine CallX_v (Or_v _ _ [cmpI f.1 g.1, cmpI f.2.1 g.2.1, cmpI f.2.2 g.2.2] rfl (by decide)) (ArgSl.row 2 rfl) ?_; conv => whnf))|((with_reducible refine isO ?_);first|((first|(refine OpX_build0 tabOk rfl rfl rfl ?_);intro bN|(refine OpX_build tabOk rfl rfl rfl rfl rfl ?_);intro bN);conv=>whnf))|((first|refine DrawX_s tabOk folOk ?_|refine DrawS_i (by kernel_rfl) ?_|with_reducible refine andX_i ?_ ?_)<;>conv=>whnf)|with_reducible exact rfl|((with_reducible first|refine xif_kt (by assumption) ?_|refine xif_kf (by assumption) ?_);conv=>whnf)|((with_reducible refine xif_s ?_ ?_)<;>(intro hb;(try simp (disch:=omega) only [hbS] at hb)<;>conv=>whnf)))
 exact Fin_d rfl rfl (B_eq rfl) trivial
set_option maxHeartbeats 2000000 in
theorem fNew_m (me : Nat) (hme : me < 8) : CallM Tryz.prog 40 [I me] (fun _ _ => True) [] (fun q : Nat × CoT => .t [pR q.1, I 0]) (fun q => [stO q.1 q.2 (sn0 me) allT]) := by
 have kr := robot34_x me
 rw [show rbB (me : Int) = true by unfold rbB; exact decide_eq_true (by omega)] at kr
 have hok0 : okS [] := by intro e he; cases he
 have hg0 : goodA (absM ([], [])) := by
  intro k
  exact ⟨fun s hs => (by cases hs), fun p hp => (by cases hp)⟩
 refine CallM.of (m := 0) Tryz.func40 rfl tabOk rfl rfl rfl rfl (by simp [SV.wfs, SV.wf]) fun w M π _ => ?_
 (conv=>whnf);repeat' (first|((with_reducible refine isC ?_);first|((with_reducible refine CallX_pure (kr) ?_)<;>first|omega|with_reducible refine isP ?_|conv=>whnf))|((with_reducible refine isW ?_;first|refine xwr_ok (by omega) (by omega) ?_|refine xwr_raw ?_);conv=>whnf)|((first|refine DrawX_s tabOk folOk ?_|refine DrawS_i (by kernel_rfl) ?_|with_reducible refine andX_i ?_ ?_)<;>conv=>whnf)|with_reducible exact rfl|((with_reducible first|refine xif_kt (by assumption) ?_|refine xif_kf (by assumption) ?_);conv=>whnf)|((with_reducible refine xif_s ?_ ?_)<;>(intro hb;(try simp (disch:=omega) only [hbS] at hb)<;>conv=>whnf)))
 refine LoopX_conv 0 _ (fun b => stO b co0 (sn0 me) noneT) rfl (fun σ fp w hm => st_new hm rfl rfl) ?_
 intro b
 conv => whnf
 refine LoopX_inv tabOk (α := (k : Nat) × CoT × {q : SnT × (Nat → Bool) // q.1 = sn0 me ∧ q.2 = fun i => decide (i < k)}) (fun s => s.1 ≤ 8) (fun s => [(4, pR b), (12, I s.1)]) (fun s => [stO b s.2.1 s.2.2.1.1 s.2.2.1.2]) (fun s => 8 - s.1) ⟨0, co0, ⟨(sn0 me, noneT), rfl, rfl⟩⟩ [0] (Nat.zero_le _) ?_ ?_
 ·((refine ⟨?_, ?_, ?_, ?_⟩) <;> (repeat' ((conv => whnf); apply And.intro)) <;> (try (first | exact trivial | decide)))
  all_goals first | rfl | exact fun _ _ h => h | (simp [SV.wf, SV.wfs]; done) | trace_state
 ·rintro ⟨k, c, ⟨⟨S, H⟩, hS, hH⟩⟩ hk
  dsimp only at hk hS hH ⊢
  by_cases hlt : k < 8
  ·(conv=>whnf);repeat' (first|((with_reducible refine isC ?_);first|(((with_reducible refine isF 82 ?_);(refine CallX_m New_m [] rfl trivial (by decide) (fun _ _ _ _ => trivial) ?_; intro q; obtain ⟨b1, b2⟩ := q));conv=>whnf))|((with_reducible refine isV ?_);first|((refine ValX_arr (n := 8) (sz := 1) tabOk rfl Tryz.underlying94 rfl rfl ?_ ?_ ?_) <;> first | omega | (conv => whnf))|((refine ValX_arr (n := 8) (sz := 8) tabOk rfl Tryz.underlying97 rfl rfl ?_ ?_ ?_) <;> first | omega | (conv => whnf))|((refine ValX_arr (n := 8) (sz := 1) tabOk rfl Tryz.underlying96 rfl rfl ?_ ?_ ?_) <;> first | omega | (conv => whnf)))|((with_reducible refine isO ?_);first|(refine OpX_stPt 0 1 2 3 k (by decide) (by decide) (by decide) (by decide) (by decide) (by decide) tabOk rfl rfl rfl rfl rfl rfl rfl hok0 hg0 hlt (by rw [hH]; exact decide_eq_false (by omega)) ?_; intro p; conv => whnf))|((with_reducible refine isW ?_;first|refine xwr_ok (by omega) (by omega) ?_|refine xwr_raw ?_);conv=>whnf)|((first|refine DrawX_s tabOk folOk ?_|refine DrawS_i (by kernel_rfl) ?_|with_reducible refine andX_i ?_ ?_)<;>conv=>whnf)|with_reducible exact rfl|((with_reducible first|refine xif_kt (by assumption) ?_|refine xif_kf (by assumption) ?_);conv=>whnf)|((with_reducible refine xif_s ?_ ?_)<;>(intro hb;(try simp (disch:=omega) only [hbS] at hb)<;>conv=>whnf)))
   all_goals try (exfalso; omega)
   refine ⟨⟨k + 1, { c with pt := updN c.pt k (some p) }, ⟨({ S with ats := updN S.ats k (absM ([], [])) }, onF H k), ?_, ?_⟩⟩, [0], by (try dsimp only); omega, ?_, by (try dsimp only); omega⟩
   ·rw [hS]
    unfold sn0
    dsimp only
    congr 1
    funext i
    unfold updN
    split <;> rfl
   ·rw [hH]
    funext i
    show (if i = k then true else decide (i < k)) = decide (i < k + 1)
    by_cases e : i = k
    ·rw [if_pos e, e]
     exact (decide_eq_true (by omega)).symm
    ·rw [if_neg e]
     exact decide_eq_decide.2 (by omega)
   ·((refine ⟨?_, ?_, ?_, ?_⟩) <;> (repeat' ((conv => whnf); apply And.intro)) <;> (try (first | exact trivial | decide)))
    all_goals first | rfl | exact fun _ _ h => h | (simp [SV.wf, SV.wfs]; done) | trace_state
  ·obtain rfl : k = 8 := by omega
   (conv=>whnf);repeat' (first|((with_reducible refine isW ?_;first|refine xwr_ok (by omega) (by omega) ?_|refine xwr_raw ?_);conv=>whnf)|((first|refine DrawX_s tabOk folOk ?_|refine DrawS_i (by kernel_rfl) ?_|with_reducible refine andX_i ?_ ?_)<;>conv=>whnf)|with_reducible exact rfl|((with_reducible first|refine xif_kt (by assumption) ?_|refine xif_kf (by assumption) ?_);conv=>whnf)|((with_reducible refine xif_s ?_ ?_)<;>(intro hb;(try simp (disch:=omega) only [hbS] at hb)<;>conv=>whnf)))
   all_goals try (exfalso; omega)
   exact Fin_m (b, c) [0] ⟨rfl, by simp [SV.wf, SV.wfs]⟩ ⟨fun _ _ h => stO_cast hS hH h, trivial⟩ (by decide) rfl
end Go.Proofs.YtlnplelandimeaaGreat.En
end
section
namespace Go.Proofs.YtlnplelandimeaaGreat.En
open Go.RowKit
set_option maxRecDepth 100000
theorem mxO_cases {α : Type} (key : α → List Int) (o : Option α) (v : α) : mxO key o v = some v ∨ mxO key o v = o := by
 cases o with
 | none => exact .inl rfl
 | some u =>
  unfold mxO
  dsimp only
  split
  ·exact .inl rfl
  ·exact .inr rfl
theorem goodA_put {a : AtT} (h : goodA a) (k : Int) (s : BmsT) : goodA (putA a k s) := by
 unfold putA
 split
 ·rename_i hc
  simp only [Bool.and_eq_true] at hc
  intro i
  refine ⟨fun t ht => ?_, (h i).2⟩
  unfold updF at ht
  dsimp only at ht
  by_cases e : i = k
  ·rw [if_pos e] at ht
   subst e
   rcases mxO_cases keyS (a.1 i) s with hm | hm
   ·rw [hm] at ht
    obtain rfl := Option.some.inj ht
    exact hc
   ·rw [hm] at ht
    exact (h i).1 t ht
  ·rw [if_neg e] at ht
   exact (h i).1 t ht
 ·exact h
theorem goodA_plc {a : AtT} (h : goodA a) (k : Int) (s : PlT) : goodA (plcA a k s) := by
 unfold plcA
 split
 ·rename_i hc
  simp only [Bool.and_eq_true] at hc
  intro i
  refine ⟨(h i).1, fun t ht => ?_⟩
  unfold updF at ht
  dsimp only at ht
  by_cases e : i = k
  ·rw [if_pos e] at ht
   subst e
   rcases mxO_cases keyP (a.2 i) s with hm | hm
   ·rw [hm] at ht
    obtain rfl := Option.some.inj ht
    exact hc
   ·rw [hm] at ht
    exact (h i).2 t ht
  ·rw [if_neg e] at ht
   exact (h i).2 t ht
 ·exact h
theorem joinO_cases {α : Type} (key : α → List Int) (o p : Option α) : joinO key o p = p ∨ joinO key o p = o := by
 cases p with
 | none => exact .inr rfl
 | some v => exact mxO_cases key o v
theorem goodA_joinA {a b : AtT} (h : goodA a) (h' : goodA b) : goodA (joinA a b) := by
 intro i
 constructor
 ·intro t ht
  have ht : joinO keyS (a.1 i) (b.1 i) = some t := ht
  rcases joinO_cases keyS (a.1 i) (b.1 i) with e | e <;> rw [e] at ht
  ·exact (h' i).1 t ht
  ·exact (h i).1 t ht
 ·intro t ht
  have ht : joinO keyP (a.2 i) (b.2 i) = some t := ht
  rcases joinO_cases keyP (a.2 i) (b.2 i) with e | e <;> rw [e] at ht
  ·exact (h' i).2 t ht
  ·exact (h i).2 t ht
theorem put_abs {m : List (Int × SlT)} {q : List (Int × PlT)} {k : Int} {s : BmsT} (r : PutI m k s) : absM (r.1, q) = putA (absM (m, q)) k s := by
 unfold absM putA
 dsimp only
 rw [r.2.2]
 split <;> rfl
theorem plc_abs {m : List (Int × SlT)} {q : List (Int × PlT)} {k : Int} {p : PlT} (r : PlcI q k p) : absM (m, r.1) = plcA (absM (m, q)) k p := by
 unfold absM plcA
 dsimp only
 rw [r.2]
 split <;> rfl
set_option maxHeartbeats 2000000 in
theorem fPut_m (b : Nat) (c : CoT) (S : SnT) (i : Nat) (hi : i < 8) (hme : S.me = i) (k : Int) (A : Option Addr) (cc : Nat) (s : BmsT) {n : Nat} (hl : s.length = n) (hn : n ≤ maxLen) :
 CallM Tryz.prog 42 [pR b, I k, .v (.slice A n cc)] (fun w M => ArgN w M A n 2 (s.map encBm)) [stO b c S allT] (fun _ : Unit => I (putC k s)) (fun _ => [stO b c { S with ats := updN S.ats i (putA (S.ats i) k s) } allT]) := by
 refine CallM.of (m := 1) Tryz.func42 rfl tabOk rfl rfl rfl rfl (by simp [SV.wfs, SV.wf]) fun w M π hpre => ?_
 (conv=>whnf);repeat' (first|((with_reducible refine isV ?_);first|((refine ValX_arr (n := 8) (sz := 1) tabOk rfl Tryz.underlying94 rfl rfl ?_ ?_ ?_) <;> first | omega | (conv => whnf))|((refine ValX_arr (n := 8) (sz := 8) tabOk rfl Tryz.underlying97 rfl rfl ?_ ?_ ?_) <;> first | omega | (conv => whnf))|((refine ValX_arr (n := 8) (sz := 1) tabOk rfl Tryz.underlying96 rfl rfl ?_ ?_ ?_) <;> first | omega | (conv => whnf))|(refine ValX_stMe 0 i tabOk rfl rfl rfl rfl hme ?_; conv => whnf)|(refine ValX_stPt 0 i _ tabOk rfl rfl rfl rfl hi rfl ?_; conv => whnf))|((first|refine DrawX_s tabOk folOk ?_|refine DrawS_i (by kernel_rfl) ?_|with_reducible refine andX_i ?_ ?_)<;>conv=>whnf)|with_reducible exact rfl|((with_reducible first|refine xif_kt (by assumption) ?_|refine xif_kf (by assumption) ?_);conv=>whnf)|((with_reducible refine xif_s ?_ ?_)<;>(intro hb;(try simp (disch:=omega) only [hbS] at hb)<;>conv=>whnf)))
 (refine CallX_open (b := b) (c := c) (S := S) [.p 1 0, I k, .v (.slice A n cc)] 0 i 1 ?_ ?_ ?_ hi (allT_at hi) ?_ ?_ ?_); (focus (exact Entr.of Tryz.func38 rfl rfl)); (focus rfl); (focus rfl); (focus (simp [SV.wf, SV.wfs])); (focus (intro σ h; simp [SV.vals, SV.val, ptP, h]))
 intro b1 b2 m q hok hab hg
 conv => whnf
 refine CallX_m (Put_m b1 b2 m q k A cc s hl hn hok) [1, 2, 3] rfl ⟨⟨rfl, rfl, by simp [SV.wf, SV.wfs]⟩, fun _ _ h => h, fun _ _ h => h, trivial⟩ (by decide) (ArgN.on hpre (by decide) (m := 3) (r := [1, 2, 3]) (fun j hj => by rcases (by omega : j = 0 ∨ j = 1 ∨ j = 2) with rfl | rfl | rfl <;> simp)) ?_
 intro r
 have e : absM (r.1, q) = putA (S.ats i) k s := (put_abs r).trans (by rw [hab])
 conv => whnf
 refine ⟨b1, b2, r.1, q, rfl, rfl, rfl, rfl, r.2.1, by rw [e]; exact goodA_put hg _ _, ?_⟩
 rw [e]
 (conv=>whnf);repeat' (first|((first|refine DrawX_s tabOk folOk ?_|refine DrawS_i (by kernel_rfl) ?_|with_reducible refine andX_i ?_ ?_)<;>conv=>whnf)|with_reducible exact rfl|((with_reducible first|refine xif_kt (by assumption) ?_|refine xif_kf (by assumption) ?_);conv=>whnf)|((with_reducible refine xif_s ?_ ?_)<;>(intro hb;(try simp (disch:=omega) only [hbS] at hb)<;>conv=>whnf)))
 exact Fin_m () [0] ⟨rfl, by simp [SV.wf, SV.wfs]⟩ ⟨fun _ _ h => h, trivial⟩ (by decide) rfl
set_option maxHeartbeats 2000000 in
theorem fPlace_m (b : Nat) (c : CoT) (S : SnT) (i : Nat) (hi : i < 8) (hme : S.me = i) (k : Int) (p : PlT) :
 CallM Tryz.prog 43 [pR b, I k, plX p] (fun _ _ => True) [stO b c S allT] (fun _ : Unit => I (plcC k p)) (fun _ => [stO b c { S with ats := updN S.ats i (plcA (S.ats i) k p) } allT]) := by
 refine CallM.of (m := 1) Tryz.func43 rfl tabOk rfl rfl rfl rfl (by simp [SV.wfs, SV.wf]) fun w M π _ => ?_
 (conv=>whnf);repeat' (first|((with_reducible refine isV ?_);first|((refine ValX_arr (n := 8) (sz := 1) tabOk rfl Tryz.underlying94 rfl rfl ?_ ?_ ?_) <;> first | omega | (conv => whnf))|((refine ValX_arr (n := 8) (sz := 8) tabOk rfl Tryz.underlying97 rfl rfl ?_ ?_ ?_) <;> first | omega | (conv => whnf))|((refine ValX_arr (n := 8) (sz := 1) tabOk rfl Tryz.underlying96 rfl rfl ?_ ?_ ?_) <;> first | omega | (conv => whnf))|(refine ValX_stMe 0 i tabOk rfl rfl rfl rfl hme ?_; conv => whnf)|(refine ValX_stPt 0 i _ tabOk rfl rfl rfl rfl hi rfl ?_; conv => whnf))|((first|refine DrawX_s tabOk folOk ?_|refine DrawS_i (by kernel_rfl) ?_|with_reducible refine andX_i ?_ ?_)<;>conv=>whnf)|with_reducible exact rfl|((with_reducible first|refine xif_kt (by assumption) ?_|refine xif_kf (by assumption) ?_);conv=>whnf)|((with_reducible refine xif_s ?_ ?_)<;>(intro hb;(try simp (disch:=omega) only [hbS] at hb)<;>conv=>whnf)))
 (refine CallX_open (b := b) (c := c) (S := S) [.p 2 0, I k, plX p] 0 i 2 ?_ ?_ ?_ hi (allT_at hi) ?_ ?_ ?_); (focus (exact Entr.of Tryz.func84 rfl rfl)); (focus rfl); (focus rfl); (focus (simp [SV.wf, SV.wfs])); (focus (intro σ h; simp [SV.vals, SV.val, ptP, h]))
 intro b1 b2 m q hok hab hg
 conv => whnf
 refine CallX_m (Place_m b1 b2 m q k p) [2, 3, 4] rfl ⟨⟨rfl, rfl, by simp [SV.wf, SV.wfs]⟩, fun _ _ h => h, fun _ _ h => h, trivial⟩ (by decide) (fun _ _ _ _ => trivial) ?_
 intro r
 have e : absM (m, r.1) = plcA (S.ats i) k p := (plc_abs r).trans (by rw [hab])
 conv => whnf
 refine ⟨b1, b2, m, r.1, rfl, rfl, rfl, rfl, hok, by rw [e]; exact goodA_plc hg _ _, ?_⟩
 rw [e]
 (conv=>whnf);repeat' (first|((first|refine DrawX_s tabOk folOk ?_|refine DrawS_i (by kernel_rfl) ?_|with_reducible refine andX_i ?_ ?_)<;>conv=>whnf)|with_reducible exact rfl|((with_reducible first|refine xif_kt (by assumption) ?_|refine xif_kf (by assumption) ?_);conv=>whnf)|((with_reducible refine xif_s ?_ ?_)<;>(intro hb;(try simp (disch:=omega) only [hbS] at hb)<;>conv=>whnf)))
 exact Fin_m () [0] ⟨rfl, by simp [SV.wf, SV.wfs]⟩ ⟨fun _ _ h => h, trivial⟩ (by decide) rfl
theorem fMe_m (b : Nat) (c : CoT) (S : SnT) : CallM Tryz.prog 39 [pR b] (fun _ _ => True) [stO b c S allT] (fun _ : Unit => I S.me) (fun _ => [stO b c S allT]) := by
 refine CallM.of (m := 1) Tryz.func39 rfl tabOk rfl rfl rfl rfl (by simp [SV.wfs, SV.wf]) fun w M π _ => ?_
 (conv=>whnf);repeat' (first|((with_reducible refine isV ?_);first|(refine ValX_stMe 0 _ tabOk rfl rfl rfl rfl rfl ?_; conv => whnf))|with_reducible exact rfl|((with_reducible first|refine xif_kt (by assumption) ?_|refine xif_kf (by assumption) ?_);conv=>whnf)|((with_reducible refine xif_s ?_ ?_)<;>(intro hb;(try simp (disch:=omega) only [hbS] at hb)<;>conv=>whnf)))
 exact Fin_m () [0] ⟨rfl, by simp [SV.wf, SV.wfs]⟩ ⟨fun _ _ h => h, trivial⟩ (by decide) rfl
def normR (x : RelT) : RelT := if x.2.1 < x.1 then (x.2.1, x.1, ((invF x.2.2).1 % 4, (invF x.2.2).2.1, (invF x.2.2).2.2)) else (x.1, x.2.1, (x.2.2.1 % 4, x.2.2.2.1, x.2.2.2.2))
def setR (S : SnT) (u v : Nat) (f : Fr) : SnT := { S with rel := upd2 S.rel u v (mxO keyF (S.rel u v) f) }
def takeS (S : SnT) (x : RelT) : SnT := setR S (normR x).1.toNat (normR x).2.1.toNat (normR x).2.2
theorem upd2_self {α : Type} (f : Nat → Nat → α) (x y : Nat) : upd2 f x y (f x y) = f := by
 funext i j
 unfold upd2
 split
 ·rename_i h
  rw [h.1, h.2]
 ·rfl
theorem setR_none {S : SnT} {u v : Nat} {f : Fr} (h : S.rel u v = none) : setR S u v f = { S with rel := upd2 S.rel u v (some f) } := by
 unfold setR
 rw [h]
 rfl
theorem setR_gt {S : SnT} {u v : Nat} {f g : Fr} (h : S.rel u v = some g) (hl : 0 < lexC (keyF f) (keyF g)) : setR S u v f = { S with rel := upd2 S.rel u v (some f) } := by
 unfold setR
 rw [h]
 unfold mxO
 dsimp only
 rw [if_pos hl]
theorem setR_le {S : SnT} {u v : Nat} {f g : Fr} (h : S.rel u v = some g) (hl : ¬ 0 < lexC (keyF f) (keyF g)) : setR S u v f = S := by
 unfold setR
 have : mxO keyF (S.rel u v) f = S.rel u v := by
  rw [h]
  unfold mxO
  dsimp only
  rw [if_neg hl]
 rw [this, upd2_self]
abbrev relX (x : RelT) : SV := .a [I x.1, I x.2.1, I x.2.2.1, I x.2.2.2.1, I x.2.2.2.2]
theorem addOk_bd {x : RelT} (h : addOk x = true) : (0 ≤ x.1 ∧ x.1 < 8) ∧ (0 ≤ x.2.1 ∧ x.2.1 < 8) ∧ x.1 ≠ x.2.1 ∧ (-1024 ≤ x.2.2.2.1 ∧ x.2.2.2.1 ≤ 1024) ∧ (-1024 ≤ x.2.2.2.2 ∧ x.2.2.2.2 ≤ 1024) := by
 unfold addOk rbB szB at h
 simp at h
 omega
set_option maxHeartbeats 4000000 in
theorem takeUp_m (b : Nat) (c : CoT) (S : SnT) (x : RelT) (hx : addOk x = true) :
 CallM Tryz.prog 76 [pR b, relX x] (fun _ _ => True) [stO b c S allT] (fun _ : Nat → Nat → Nat => .t []) (fun rp => [stO b { c with rp := rp } (takeS S x) allT]) := by
 obtain ⟨h1, h2, hne, h3, h4⟩ := addOk_bd hx
 obtain ⟨u, hu'⟩ := Int.eq_ofNat_of_zero_le h1.1
 obtain ⟨v, hv'⟩ := Int.eq_ofNat_of_zero_le h2.1
 obtain ⟨a, a2, qq, xx, yy⟩ := x
 dsimp only at h1 h2 hne h3 h4 hu' hv'
 subst hu' hv'
 have hu : u < 8 := by omega
 have hv : v < 8 := by omega
 have ki := Inverse_x 1024 (qq, xx, yy) (by dsimp only; omega) (by omega)
 unfold relX
 dsimp only at ki ⊢
 refine CallM.of (m := 1) Tryz.func76 rfl tabOk rfl rfl rfl rfl (by simp [SV.wfs, SV.wf]) fun w M π _ => ?_
 by_cases hgt : (v : Int) < u
 ·skip
  have hset : takeS S ((u : Int), (v : Int), qq, xx, yy) = setR S v u ((invF (qq, xx, yy)).1 % 4, (invF (qq, xx, yy)).2.1, (invF (qq, xx, yy)).2.2) := by unfold takeS normR; dsimp only; rw [if_pos (by omega)]; simp only [Int.toNat_natCast]
  rw [hset]
  clear hset
  rcases opt_em (S.rel v u) with hn | ⟨g, hs⟩
  ·rw [setR_none hn]
   (conv=>whnf);repeat' (first|((with_reducible refine isC ?_);first|((with_reducible refine CallX_pure (ki) ?_)<;>first|omega|with_reducible refine isP ?_|conv=>whnf))|((with_reducible refine isV ?_);first|((refine ValX_arr (n := 8) (sz := 1) tabOk rfl Tryz.underlying94 rfl rfl ?_ ?_ ?_) <;> first | omega | (conv => whnf))|((refine ValX_arr (n := 8) (sz := 8) tabOk rfl Tryz.underlying97 rfl rfl ?_ ?_ ?_) <;> first | omega | (conv => whnf))|((refine ValX_arr (n := 8) (sz := 1) tabOk rfl Tryz.underlying96 rfl rfl ?_ ?_ ?_) <;> first | omega | (conv => whnf))|(refine ValX_stRel 0 v u none tabOk rfl rfl rfl rfl hv hu (by unfold relP; rw [hn]; rfl) ?_; (try simp only [and3]); (try (conv => whnf))))|((with_reducible refine isO ?_);first|(refine OpX_stRel 0 1 v u ((invF (qq, xx, yy)).1 % 4, (invF (qq, xx, yy)).2.1, (invF (qq, xx, yy)).2.2) (by decide) tabOk rfl rfl rfl rfl rfl hv hu ?_; intro g; conv => whnf))|((first|refine DrawX_s tabOk folOk ?_|refine DrawS_i (by kernel_rfl) ?_|with_reducible refine andX_i ?_ ?_)<;>conv=>whnf)|with_reducible exact rfl|((with_reducible first|refine xif_kt (by assumption) ?_|refine xif_kf (by assumption) ?_);conv=>whnf)|((with_reducible refine xif_s ?_ ?_)<;>(intro hb;(try simp (disch:=omega) only [hbS] at hb)<;>conv=>whnf)))
   all_goals try (exfalso; omega)
   exact Fin_m _ [0] ⟨rfl, by simp [SV.wf, SV.wfs]⟩ ⟨fun _ _ h => h, trivial⟩ (by decide) rfl
  ·have kg := greater34_d ((invF (qq, xx, yy)).1 % 4, (invF (qq, xx, yy)).2.1, (invF (qq, xx, yy)).2.2) g
   have hcase : (0 < lexC (keyF ((invF (qq, xx, yy)).1 % 4, (invF (qq, xx, yy)).2.1, (invF (qq, xx, yy)).2.2)) (keyF g) → setR S v u ((invF (qq, xx, yy)).1 % 4, (invF (qq, xx, yy)).2.1, (invF (qq, xx, yy)).2.2) = { S with rel := upd2 S.rel v u (some ((invF (qq, xx, yy)).1 % 4, (invF (qq, xx, yy)).2.1, (invF (qq, xx, yy)).2.2)) }) ∧ (¬ 0 < lexC (keyF ((invF (qq, xx, yy)).1 % 4, (invF (qq, xx, yy)).2.1, (invF (qq, xx, yy)).2.2)) (keyF g) → setR S v u ((invF (qq, xx, yy)).1 % 4, (invF (qq, xx, yy)).2.1, (invF (qq, xx, yy)).2.2) = S) := ⟨setR_gt hs, setR_le hs⟩
   generalize lexC (keyF ((invF (qq, xx, yy)).1 % 4, (invF (qq, xx, yy)).2.1, (invF (qq, xx, yy)).2.2)) (keyF g) = L at *
   by_cases hL : 0 < L
   ·rw [hcase.1 hL]
    rw [decide_eq_true hL] at kg
    clear hcase
    (conv=>whnf);repeat' (first|((with_reducible refine isC ?_);first|((first|with_reducible refine CallX_pure (ki) ?_|with_reducible refine CallX_d (kg) ?_)<;>first|omega|with_reducible refine isP ?_|conv=>whnf))|((with_reducible refine isV ?_);first|((refine ValX_arr (n := 8) (sz := 1) tabOk rfl Tryz.underlying94 rfl rfl ?_ ?_ ?_) <;> first | omega | (conv => whnf))|((refine ValX_arr (n := 8) (sz := 8) tabOk rfl Tryz.underlying97 rfl rfl ?_ ?_ ?_) <;> first | omega | (conv => whnf))|((refine ValX_arr (n := 8) (sz := 1) tabOk rfl Tryz.underlying96 rfl rfl ?_ ?_ ?_) <;> first | omega | (conv => whnf))|(refine ValX_stRel 0 v u (some ⟨c.rp v u, 2, none⟩) tabOk rfl rfl rfl rfl hv hu (by unfold relP; rw [hs]; rfl) ?_; (try simp only [and3]); (try (conv => whnf)))|(refine ValX_stFr 0 v u g tabOk rfl rfl rfl rfl rfl hv hu hs ?_; conv => whnf))|((with_reducible refine isO ?_);first|(refine OpX_stRel 0 1 v u ((invF (qq, xx, yy)).1 % 4, (invF (qq, xx, yy)).2.1, (invF (qq, xx, yy)).2.2) (by decide) tabOk rfl rfl rfl rfl rfl hv hu ?_; intro g; conv => whnf))|((first|refine DrawX_s tabOk folOk ?_|refine DrawS_i (by kernel_rfl) ?_|with_reducible refine andX_i ?_ ?_)<;>conv=>whnf)|with_reducible exact rfl|((with_reducible first|refine xif_kt (by assumption) ?_|refine xif_kf (by assumption) ?_);conv=>whnf)|((with_reducible refine xif_s ?_ ?_)<;>(intro hb;(try simp (disch:=omega) only [hbS] at hb)<;>conv=>whnf)))
    all_goals try (exfalso; omega)
    exact Fin_m _ [0] ⟨rfl, by simp [SV.wf, SV.wfs]⟩ ⟨fun _ _ h => h, trivial⟩ (by decide) rfl
   ·rw [hcase.2 hL]
    rw [decide_eq_false hL] at kg
    clear hcase
    (conv=>whnf);repeat' (first|((with_reducible refine isC ?_);first|((first|with_reducible refine CallX_pure (ki) ?_|with_reducible refine CallX_d (kg) ?_)<;>first|omega|with_reducible refine isP ?_|conv=>whnf))|((with_reducible refine isV ?_);first|((refine ValX_arr (n := 8) (sz := 1) tabOk rfl Tryz.underlying94 rfl rfl ?_ ?_ ?_) <;> first | omega | (conv => whnf))|((refine ValX_arr (n := 8) (sz := 8) tabOk rfl Tryz.underlying97 rfl rfl ?_ ?_ ?_) <;> first | omega | (conv => whnf))|((refine ValX_arr (n := 8) (sz := 1) tabOk rfl Tryz.underlying96 rfl rfl ?_ ?_ ?_) <;> first | omega | (conv => whnf))|(refine ValX_stRel 0 v u (some ⟨c.rp v u, 2, none⟩) tabOk rfl rfl rfl rfl hv hu (by unfold relP; rw [hs]; rfl) ?_; (try simp only [and3]); (try (conv => whnf)))|(refine ValX_stFr 0 v u g tabOk rfl rfl rfl rfl rfl hv hu hs ?_; conv => whnf))|((first|refine DrawX_s tabOk folOk ?_|refine DrawS_i (by kernel_rfl) ?_|with_reducible refine andX_i ?_ ?_)<;>conv=>whnf)|with_reducible exact rfl|((with_reducible first|refine xif_kt (by assumption) ?_|refine xif_kf (by assumption) ?_);conv=>whnf)|((with_reducible refine xif_s ?_ ?_)<;>(intro hb;(try simp (disch:=omega) only [hbS] at hb)<;>conv=>whnf)))
    all_goals try (exfalso; omega)
    exact Fin_m c.rp [0] ⟨rfl, by simp [SV.wf, SV.wfs]⟩ ⟨fun _ _ h => h, trivial⟩ (by decide) rfl
 ·skip
  have hset : takeS S ((u : Int), (v : Int), qq, xx, yy) = setR S u v (qq % 4, xx, yy) := by unfold takeS normR; dsimp only; rw [if_neg (by omega)]; simp only [Int.toNat_natCast]
  rw [hset]
  clear hset
  rcases opt_em (S.rel u v) with hn | ⟨g, hs⟩
  ·rw [setR_none hn]
   (conv=>whnf);repeat' (first|((with_reducible refine isV ?_);first|((refine ValX_arr (n := 8) (sz := 1) tabOk rfl Tryz.underlying94 rfl rfl ?_ ?_ ?_) <;> first | omega | (conv => whnf))|((refine ValX_arr (n := 8) (sz := 8) tabOk rfl Tryz.underlying97 rfl rfl ?_ ?_ ?_) <;> first | omega | (conv => whnf))|((refine ValX_arr (n := 8) (sz := 1) tabOk rfl Tryz.underlying96 rfl rfl ?_ ?_ ?_) <;> first | omega | (conv => whnf))|(refine ValX_stRel 0 u v none tabOk rfl rfl rfl rfl hu hv (by unfold relP; rw [hn]; rfl) ?_; (try simp only [and3]); (try (conv => whnf))))|((with_reducible refine isO ?_);first|(refine OpX_stRel 0 1 u v (qq % 4, xx, yy) (by decide) tabOk rfl rfl rfl rfl rfl hu hv ?_; intro g; conv => whnf))|((first|refine DrawX_s tabOk folOk ?_|refine DrawS_i (by kernel_rfl) ?_|with_reducible refine andX_i ?_ ?_)<;>conv=>whnf)|with_reducible exact rfl|((with_reducible first|refine xif_kt (by assumption) ?_|refine xif_kf (by assumption) ?_);conv=>whnf)|((with_reducible refine xif_s ?_ ?_)<;>(intro hb;(try simp (disch:=omega) only [hbS] at hb)<;>conv=>whnf)))
   all_goals try (exfalso; omega)
   exact Fin_m _ [0] ⟨rfl, by simp [SV.wf, SV.wfs]⟩ ⟨fun _ _ h => h, trivial⟩ (by decide) rfl
  ·have kg := greater34_d (qq % 4, xx, yy) g
   have hcase : (0 < lexC (keyF (qq % 4, xx, yy)) (keyF g) → setR S u v (qq % 4, xx, yy) = { S with rel := upd2 S.rel u v (some (qq % 4, xx, yy)) }) ∧ (¬ 0 < lexC (keyF (qq % 4, xx, yy)) (keyF g) → setR S u v (qq % 4, xx, yy) = S) := ⟨setR_gt hs, setR_le hs⟩
   generalize lexC (keyF (qq % 4, xx, yy)) (keyF g) = L at *
   by_cases hL : 0 < L
   ·rw [hcase.1 hL]
    rw [decide_eq_true hL] at kg
    clear hcase
    (conv=>whnf);repeat' (first|((with_reducible refine isC ?_);first|((with_reducible refine CallX_d (kg) ?_)<;>first|omega|with_reducible refine isP ?_|conv=>whnf))|((with_reducible refine isV ?_);first|((refine ValX_arr (n := 8) (sz := 1) tabOk rfl Tryz.underlying94 rfl rfl ?_ ?_ ?_) <;> first | omega | (conv => whnf))|((refine ValX_arr (n := 8) (sz := 8) tabOk rfl Tryz.underlying97 rfl rfl ?_ ?_ ?_) <;> first | omega | (conv => whnf))|((refine ValX_arr (n := 8) (sz := 1) tabOk rfl Tryz.underlying96 rfl rfl ?_ ?_ ?_) <;> first | omega | (conv => whnf))|(refine ValX_stRel 0 u v (some ⟨c.rp u v, 2, none⟩) tabOk rfl rfl rfl rfl hu hv (by unfold relP; rw [hs]; rfl) ?_; (try simp only [and3]); (try (conv => whnf)))|(refine ValX_stFr 0 u v g tabOk rfl rfl rfl rfl rfl hu hv hs ?_; conv => whnf))|((with_reducible refine isO ?_);first|(refine OpX_stRel 0 1 u v (qq % 4, xx, yy) (by decide) tabOk rfl rfl rfl rfl rfl hu hv ?_; intro g; conv => whnf))|((first|refine DrawX_s tabOk folOk ?_|refine DrawS_i (by kernel_rfl) ?_|with_reducible refine andX_i ?_ ?_)<;>conv=>whnf)|with_reducible exact rfl|((with_reducible first|refine xif_kt (by assumption) ?_|refine xif_kf (by assumption) ?_);conv=>whnf)|((with_reducible refine xif_s ?_ ?_)<;>(intro hb;(try simp (disch:=omega) only [hbS] at hb)<;>conv=>whnf)))
    all_goals try (exfalso; omega)
    exact Fin_m _ [0] ⟨rfl, by simp [SV.wf, SV.wfs]⟩ ⟨fun _ _ h => h, trivial⟩ (by decide) rfl
   ·rw [hcase.2 hL]
    rw [decide_eq_false hL] at kg
    clear hcase
    (conv=>whnf);repeat' (first|((with_reducible refine isC ?_);first|((with_reducible refine CallX_d (kg) ?_)<;>first|omega|with_reducible refine isP ?_|conv=>whnf))|((with_reducible refine isV ?_);first|((refine ValX_arr (n := 8) (sz := 1) tabOk rfl Tryz.underlying94 rfl rfl ?_ ?_ ?_) <;> first | omega | (conv => whnf))|((refine ValX_arr (n := 8) (sz := 8) tabOk rfl Tryz.underlying97 rfl rfl ?_ ?_ ?_) <;> first | omega | (conv => whnf))|((refine ValX_arr (n := 8) (sz := 1) tabOk rfl Tryz.underlying96 rfl rfl ?_ ?_ ?_) <;> first | omega | (conv => whnf))|(refine ValX_stRel 0 u v (some ⟨c.rp u v, 2, none⟩) tabOk rfl rfl rfl rfl hu hv (by unfold relP; rw [hs]; rfl) ?_; (try simp only [and3]); (try (conv => whnf)))|(refine ValX_stFr 0 u v g tabOk rfl rfl rfl rfl rfl hu hv hs ?_; conv => whnf))|((first|refine DrawX_s tabOk folOk ?_|refine DrawS_i (by kernel_rfl) ?_|with_reducible refine andX_i ?_ ?_)<;>conv=>whnf)|with_reducible exact rfl|((with_reducible first|refine xif_kt (by assumption) ?_|refine xif_kf (by assumption) ?_);conv=>whnf)|((with_reducible refine xif_s ?_ ?_)<;>(intro hb;(try simp (disch:=omega) only [hbS] at hb)<;>conv=>whnf)))
    all_goals try (exfalso; omega)
    exact Fin_m c.rp [0] ⟨rfl, by simp [SV.wf, SV.wfs]⟩ ⟨fun _ _ h => h, trivial⟩ (by decide) rfl
theorem relate_m (b : Nat) (c : CoT) (S : SnT) (x : RelT) : CallM Tryz.prog 41 [pR b, relX x] (fun _ _ => True) [stO b c S allT] (fun _ : Nat → Nat → Nat => I (if addOk x then 0 else 1)) (fun rp => [stO b { c with rp := rp } (if addOk x then takeS S x else S) allT]) := by
 obtain ⟨a, a2, qq, xx, yy⟩ := x
 have k1 := robot34_x a
 have k2 := robot34_x a2
 have k3 := size34_x xx
 have k4 := size34_x yy
 have kt := takeUp_m b c S (a, a2, qq, xx, yy)
 unfold relX at kt ⊢
 dsimp only at kt ⊢
 have hao : addOk (a, a2, qq, xx, yy) = (rbB a && rbB a2 && !(a == a2) && szB xx 1024 && szB yy 1024) := rfl
 refine CallM.of (m := 1) Tryz.func41 rfl tabOk rfl rfl rfl rfl (by simp [SV.wfs, SV.wf]) fun w M π _ => ?_
 rcases Bool.eq_false_or_eq_true (addOk (a, a2, qq, xx, yy)) with h | h
 ·have kt := kt h
  rw [h]
  rw [hao] at h
  simp only [Bool.and_eq_true] at h
  obtain ⟨⟨⟨⟨e1, e2⟩, e3⟩, e4⟩, e5⟩ := h
  rw [e1] at k1
  rw [e2] at k2
  rw [e4] at k3
  rw [e5] at k4
  have e3 : ¬ a = a2 := by simpa using e3
  (conv=>whnf);repeat' (first|((with_reducible refine isC ?_);first|((first|with_reducible refine CallX_pure (k1) ?_|with_reducible refine CallX_pure (k2) ?_|with_reducible refine CallX_pure (k3) ?_|with_reducible refine CallX_pure (k4) ?_)<;>first|omega|with_reducible refine isP ?_|conv=>whnf)|(((with_reducible refine isF 76 ?_);(refine CallX_m kt [0] rfl ⟨fun _ _ h => h, trivial⟩ (by decide) (fun _ _ _ _ => trivial) ?_; intro rp));conv=>whnf))|with_reducible exact rfl|((with_reducible first|refine xif_kt (by assumption) ?_|refine xif_kf (by assumption) ?_);conv=>whnf)|((with_reducible refine xif_s ?_ ?_)<;>(intro hb;(try simp (disch:=omega) only [hbS] at hb)<;>conv=>whnf)))
  all_goals try (exfalso; omega)
  all_goals try (exfalso; exact e3 hb; done)
  exact Fin_m rp [0] ⟨rfl, by simp [SV.wf, SV.wfs]⟩ ⟨fun _ _ h => h, trivial⟩ (by decide) rfl
 ·rw [h]
  rw [hao] at h
  generalize rbB a = g1 at *
  generalize rbB a2 = g2 at *
  generalize szB xx 1024 = g3 at *
  generalize szB yy 1024 = g4 at *
  (conv=>whnf);repeat' (first|((with_reducible refine isC ?_);first|((first|with_reducible refine CallX_pure (k1) ?_|with_reducible refine CallX_pure (k2) ?_|with_reducible refine CallX_pure (k3) ?_|with_reducible refine CallX_pure (k4) ?_)<;>first|omega|with_reducible refine isP ?_|conv=>whnf))|with_reducible exact rfl|((with_reducible first|refine xif_kt (by assumption) ?_|refine xif_kf (by assumption) ?_);conv=>whnf)|((with_reducible refine xif_s ?_ ?_)<;>(intro hb;(try simp (disch:=omega) only [hbS] at hb)<;>conv=>whnf)))
  all_goals first
   | exact Fin_m c.rp [0] ⟨rfl, by simp [SV.wf, SV.wfs]⟩ ⟨fun _ _ h => h, trivial⟩ (by decide) rfl
   | (exfalso; simp_all; done)
end Go.Proofs.YtlnplelandimeaaGreat.En
end
