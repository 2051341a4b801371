/- The reference's Import. -/
import Derived.Test.YtadichckbogcjaaDoorNi
import Derived.Test.YtadichckbogcjaaDoorNe
set_option linter.all false
namespace Go.Proofs.YtadichckbogcjaaDoor.En
open Go.RowKit
set_option maxRecDepth 100000

/-- the parts of a string that end at blanks and line feeds -/
def tokF : List UInt8 → List UInt8 → List (List UInt8)
  | _, [] => []
  | cur, c :: r => if c = 32 ∨ c = 10 then cur :: tokF [] r else tokF (cur ++ [c]) r
def grpF : List Int → List EntT
  | a :: b :: c :: d :: r => (a, b, c, d) :: grpF r
  | _ => []
theorem tok_sep (c : UInt8) (hc : c = 32 ∨ c = 10) : ∀ (a cur r : List UInt8), 32 ∉ a → 10 ∉ a → tokF cur (a ++ c :: r) = (cur ++ a) :: tokF [] r
  | [], cur, r, _, _ => by simp [tokF, hc]
  | x :: a, cur, r, h1, h2 => by
    simp only [List.mem_cons, not_or] at h1 h2
    have ih := tok_sep c hc a (cur ++ [x]) r h1.2 h2.2
    rw [List.cons_append, tokF, if_neg (by rintro (h | h); exact h1.1 h.symm; exact h2.1 h.symm), ih]
    simp
theorem tok_line (e : EntT) (r : List UInt8) : tokF [] (lineE e ++ r) = Lib.itoa e.1 :: Lib.itoa e.2.1 :: Lib.itoa e.2.2.1 :: Lib.itoa e.2.2.2 :: tokF [] r := by
  have n32 : ∀ n : Int, (32 : UInt8) ∉ Lib.itoa n := fun n => itoa_no (by decide) (by decide)
  have n10 : ∀ n : Int, (10 : UInt8) ∉ Lib.itoa n := fun n => itoa_no (by decide) (by decide)
  have e1 : lineE e ++ r = Lib.itoa e.1 ++ 32 :: (Lib.itoa e.2.1 ++ 32 :: (Lib.itoa e.2.2.1 ++ 32 :: (Lib.itoa e.2.2.2 ++ 10 :: r))) := by simp [lineE]
  rw [e1, tok_sep 32 (.inl rfl) _ _ _ (n32 _) (n10 _), tok_sep 32 (.inl rfl) _ _ _ (n32 _) (n10 _), tok_sep 32 (.inl rfl) _ _ _ (n32 _) (n10 _), tok_sep 10 (.inr rfl) _ _ _ (n32 _) (n10 _)]
  rfl
theorem grp_export : ∀ l : List EntT, (∀ e ∈ l, goodB e = true) → grpF ((tokF [] (exportS l)).map rdF) = l
  | [], _ => rfl
  | e :: l, hg => by
    have h := hg e (by simp)
    simp only [goodB, countB, szB, Bool.and_eq_true, decide_eq_true_eq] at h
    rw [exportS_cons, tok_line]
    simp only [List.map_cons, grpF]
    rw [rdF_itoa (by omega) (by omega), rdF_itoa (by omega) (by omega), rdF_itoa (by omega) (by omega), rdF_itoa (by omega) (by omega), grp_export l fun x hx => hg x (by simp [hx])]
def rimF (s : List UInt8) : List EntT × Int :=
  if vE (grpF ((tokF [] s).map rdF)) = true ∧ exportS (grpF ((tokF [] s).map rdF)) = s then (grpF ((tokF [] s).map rdF), 0) else ([], 3)
theorem rim_eq (s : List UInt8) : rimF s = imF s := by
  unfold rimF
  rcases im_spec s with ⟨l, h1, h2, h3⟩ | ⟨h1, h2⟩
  · subst h2
    rw [grp_export l fun e he => vE_good h1 he, if_pos ⟨h1, rfl⟩, h3]
  · rw [if_neg (fun h => h1 _ h.1 h.2), h2]
theorem grp_next {L : List Int} {i : Nat} (h : i + 3 < L.length) : grpF (L.drop i) = (L.getD i 0, L.getD (i + 1) 0, L.getD (i + 2) 0, L.getD (i + 3) 0) :: grpF (L.drop (i + 4)) := by
  have e : L.drop i = L[i] :: L[i + 1] :: L[i + 2] :: L[i + 3] :: L.drop (i + 4) := by
    rw [List.drop_eq_getElem_cons (by omega), List.drop_eq_getElem_cons (by omega), List.drop_eq_getElem_cons (by omega), List.drop_eq_getElem_cons (by omega)]
  rw [e, grpF]
  simp [show i < L.length by omega, show i + 1 < L.length by omega, show i + 2 < L.length by omega, h]
theorem grp_end {L : List Int} {i : Nat} (h : L.length ≤ i + 3) : grpF (L.drop i) = [] := by
  have hl : (L.drop i).length ≤ 3 := by rw [List.length_drop]; omega
  match L.drop i, hl with
  | [], _ => rfl
  | [_], _ => rfl
  | [_, _], _ => rfl
  | [_, _, _], _ => rfl
  | _ :: _ :: _ :: _ :: _, h => simp at h
theorem ValX_sSubN {C : Ctx} {ob : List OB} {k : SV → Prop} {o : Oper} {x y z : Operand} {t : TypeId} {a : List UInt8} {i j : Nat} (ho : o.op = .slice t x (some y) (some z) none) (ht : C.P.underlying t = some .string) (h1 : i ≤ j) (h2 : j ≤ a.length) (hk : k (S ((a.drop i).take (j - i)))) : ValX C o [S a, I (i : Int), I (j : Int)] ob k := by
  refine ValX_sSub ho ht (by omega) (by omega) (by omega) ?_
  rwa [Int.toNat_natCast, Int.toNat_natCast]
/-- where the loop over the bytes stands -/
def rjJ (s : List UInt8) (i f : Nat) (L : List Int) : Prop := f ≤ i ∧ i ≤ s.length ∧ L.length ≤ i ∧ (tokF [] s).map rdF = L ++ (tokF ((s.drop f).take (i - f)) (s.drop i)).map rdF
theorem rjJ_next {s : List UInt8} {i f : Nat} {L : List Int} (h : rjJ s i f L) (hi : i < s.length) :
    (s.getD i 0 = 32 ∨ s.getD i 0 = 10 → rjJ s (i + 1) (i + 1) (L ++ [rdF ((s.drop f).take (i - f))])) ∧ (¬ (s.getD i 0 = 32 ∨ s.getD i 0 = 10) → rjJ s (i + 1) f L) := by
  obtain ⟨h1, h2, h3, h4⟩ := h
  have hd : s.drop i = s.getD i 0 :: s.drop (i + 1) := by
    rw [List.drop_eq_getElem_cons hi]
    simp [hi]
  rw [hd, tokF] at h4
  refine ⟨fun hc => ?_, fun hc => ?_⟩
  · rw [if_pos hc] at h4
    refine ⟨Nat.le_refl _, by omega, by rw [List.length_append]; simp; omega, ?_⟩
    rw [h4]
    simp
  · rw [if_neg hc] at h4
    refine ⟨by omega, by omega, by omega, ?_⟩
    rw [h4]
    congr 3
    rw [show i + 1 - f = (i - f) + 1 by omega, List.take_succ_eq_append_getElem (by rw [List.length_drop]; omega)]
    congr 1
    simp [hi, show f + (i - f) = i by omega]
set_option maxHeartbeats 8000000 in
theorem rImport_m (s : List UInt8) (hs : s.length ≤ 1048576) :
    CallM Tryd.prog 17 [S s] (fun _ _ => True) []
      (fun q : Option Addr × Nat => .t [.v (.slice q.1 (imF s).1.length q.2), I (imF s).2]) (fun q => [.row 44 4 q.1 (imF s).1.length q.2 ((imF s).1.map encE)]) := by
  rw [← rim_eq]
  refine CallM.of (m := 0) Tryd.func17 rfl tabOk rfl rfl rfl rfl (by simp [SV.wfs, SV.wf]) fun w M π hpre => ?_
  (conv=>whnf);repeat' (first|((with_reducible refine isV ?_);first|((refine ValX_sLen rfl Tryd.underlying9 ?_); conv => whnf))|((with_reducible refine isO ?_);first|((first|(refine OpX_build0 tabOk rfl rfl rfl ?_);intro bN|(refine OpX_build tabOk rfl rfl rfl rfl rfl ?_);intro bN);conv=>whnf))|((with_reducible refine isW ?_;first|refine xwr_ok (by omega) (by omega) ?_|refine xwr_raw ?_);conv=>whnf)|((first|refine DrawX_s tabOk folOk ?_|refine DrawS_i (by kernel_rfl) ?_|with_reducible refine andX_i ?_ ?_)<;>conv=>whnf)|with_reducible exact rfl|((with_reducible first|refine xif_kt (by assumption) ?_|refine xif_kf (by assumption) ?_);conv=>whnf)|((with_reducible refine xif_s ?_ ?_)<;>(intro hb;(try simp (disch:=omega) only [hbS] at hb)<;>conv=>whnf)))
  all_goals try (exfalso; omega)
  refine LoopX_addNil 3 1 ?_
  conv => whnf
  refine LoopX_inv tabOk (α := (Nat × Nat × List Int) × Option Addr × Nat) (fun z => rjJ s z.1.1 z.1.2.1 z.1.2.2) (fun z => [(0, S s), (4, .v (.slice z.2.1 z.1.2.2.length z.2.2)), (5, I z.1.2.1), (6, I z.1.1)])
    (fun z => [.row 3 1 z.2.1 z.1.2.2.length z.2.2 (z.1.2.2.map fun x => [encI x])]) (fun z => s.length - z.1.1) ((0, 0, []), none, 0) [0] ⟨Nat.le_refl _, Nat.zero_le _, Nat.le_refl _, by simp⟩ ?_ ?_
  · ((refine ⟨?_, ?_, ?_, ?_⟩) <;> (repeat' ((conv => whnf); apply And.intro)) <;> (try (first | exact trivial | decide)))
    all_goals first | rfl | exact fun _ _ h => h | (simp [SV.wf, SV.wfs]; done) | trace_state
  · rintro ⟨⟨i, f, L⟩, A, c⟩ hj
    dsimp only at hj ⊢
    have hfi := hj.1
    have hil := hj.2.1
    have hLl := hj.2.2.1
    by_cases hlt : i < s.length
    · obtain ⟨hn1, hn2⟩ := rjJ_next hj hlt
      have kr := read_x ((s.drop f).take (i - f))
      clear hj
      obtain ⟨ch, hch⟩ : ∃ ch, s.getD i 0 = ch := ⟨_, rfl⟩
      rw [hch] at hn1 hn2
      have c32 : ∀ n : Nat, n < 256 → ((ch.toNat : Int) = n ↔ ch = UInt8.ofNat n) := by
        intro n hn
        constructor
        · intro h
          apply UInt8.toNat_inj.1
          rw [UInt8.toNat_ofNat']
          omega
        · intro h
          rw [h, UInt8.toNat_ofNat']
          omega
      have e32 := c32 32 (by decide)
      have e10 := c32 10 (by decide)
      clear c32
      by_cases hsep : ch = 32 ∨ ch = 10
      · replace hn1 := hn1 hsep
        clear hn2
        generalize rdF ((s.drop f).take (i - f)) = rv at *
        have hsp2 : (ch.toNat : Int) = 32 ∨ (ch.toNat : Int) = 10 := hsep.imp (fun h => e32.2 h) (fun h => e10.2 h)
        clear e32 e10 hsep
        (conv=>whnf);repeat' (first|((with_reducible refine isC ?_);first|((with_reducible refine CallX_pure (kr) ?_)<;>first|omega|with_reducible refine isP ?_|conv=>whnf))|((with_reducible refine isV ?_);first|((refine ValX_sLen rfl Tryd.underlying9 ?_); conv => whnf)|((refine ValX_sIdxN rfl Tryd.underlying9 (by omega) ?_; rw [hch]); conv => whnf)|((refine ValX_sSubN rfl Tryd.underlying9 (by omega) (by omega) ?_); conv => whnf))|((with_reducible refine isO ?_);first|((refine OpX_append 0 tabOk rfl rfl rfl rfl (ArgSl.row 1 rfl) (by decide) ?_ ?_ ?_)<;>first|omega|(dsimp only;omega)|(intro A' c';conv=>whnf))|((first|(refine OpX_build0 tabOk rfl rfl rfl ?_);intro bN|(refine OpX_build tabOk rfl rfl rfl rfl rfl ?_);intro bN);conv=>whnf))|((with_reducible refine isW ?_;first|refine xwr_ok (by omega) (by omega) ?_|refine xwr_raw ?_);conv=>whnf)|((first|refine DrawX_s tabOk folOk ?_|refine DrawS_i (by kernel_rfl) ?_|with_reducible refine andX_i ?_ ?_)<;>conv=>whnf)|with_reducible exact rfl|((with_reducible first|refine xif_kt (by assumption) ?_|refine xif_kf (by assumption) ?_);conv=>whnf)|((with_reducible refine xif_s ?_ ?_)<;>(intro hb;(try simp (disch:=omega) only [hbS] at hb)<;>conv=>whnf)))
        all_goals try (exfalso; omega)
        all_goals
          refine ⟨((i + 1, i + 1, L ++ [rv]), A', c'), [0], hn1, ?_, by (try dsimp only); omega⟩
          dsimp only
          rw [List.length_append, List.map_append]
          ((refine ⟨?_, ?_, ?_, ?_⟩) <;> (repeat' ((conv => whnf); apply And.intro)) <;> (try (first | exact trivial | decide)))
          all_goals first | rfl | exact fun _ _ h => h | (simp [SV.wf, SV.wfs]; done) | trace_state
      · replace hn2 := hn2 hsep
        clear hn1
        have hsp2 : (ch.toNat : Int) ≠ 32 ∧ (ch.toNat : Int) ≠ 10 := ⟨fun h => hsep (.inl (e32.1 h)), fun h => hsep (.inr (e10.1 h))⟩
        clear e32 e10 hsep
        (conv=>whnf);repeat' (first|((with_reducible refine isV ?_);first|((refine ValX_sLen rfl Tryd.underlying9 ?_); conv => whnf)|((refine ValX_sIdxN rfl Tryd.underlying9 (by omega) ?_; rw [hch]); conv => whnf))|((with_reducible refine isO ?_);first|((first|(refine OpX_build0 tabOk rfl rfl rfl ?_);intro bN|(refine OpX_build tabOk rfl rfl rfl rfl rfl ?_);intro bN);conv=>whnf))|((with_reducible refine isW ?_;first|refine xwr_ok (by omega) (by omega) ?_|refine xwr_raw ?_);conv=>whnf)|((first|refine DrawX_s tabOk folOk ?_|refine DrawS_i (by kernel_rfl) ?_|with_reducible refine andX_i ?_ ?_)<;>conv=>whnf)|with_reducible exact rfl|((with_reducible first|refine xif_kt (by assumption) ?_|refine xif_kf (by assumption) ?_);conv=>whnf)|((with_reducible refine xif_s ?_ ?_)<;>(intro hb;(try simp (disch:=omega) only [hbS] at hb)<;>conv=>whnf)))
        all_goals try (exfalso; omega)
        refine ⟨((i + 1, f, L), A, c), [0], hn2, ?_, by (try dsimp only); omega⟩
        ((refine ⟨?_, ?_, ?_, ?_⟩) <;> (repeat' ((conv => whnf); apply And.intro)) <;> (try (first | exact trivial | decide)))
        all_goals first | rfl | exact fun _ _ h => h | (simp [SV.wf, SV.wfs]; done) | trace_state
    · obtain rfl : i = s.length := by omega
      have hL : (tokF [] s).map rdF = L := by
        have := hj.2.2.2
        rw [List.drop_length] at this
        simpa [tokF] using this
      have hF : rimF s = if vE (grpF L) = true ∧ exportS (grpF L) = s then (grpF L, 0) else ([], 3) := by
        unfold rimF
        rw [hL]
      clear hj hL
      generalize rimF s = R at *
      (conv=>whnf);repeat' (first|((with_reducible refine isV ?_);first|((refine ValX_sLen rfl Tryd.underlying9 ?_); conv => whnf))|((with_reducible refine isO ?_);first|((first|(refine OpX_build0 tabOk rfl rfl rfl ?_);intro bN|(refine OpX_build tabOk rfl rfl rfl rfl rfl ?_);intro bN);conv=>whnf))|((with_reducible refine isW ?_;first|refine xwr_ok (by omega) (by omega) ?_|refine xwr_raw ?_);conv=>whnf)|((first|refine DrawX_s tabOk folOk ?_|refine DrawS_i (by kernel_rfl) ?_|with_reducible refine andX_i ?_ ?_)<;>conv=>whnf)|with_reducible exact rfl|((with_reducible first|refine xif_kt (by assumption) ?_|refine xif_kf (by assumption) ?_);conv=>whnf)|((with_reducible refine xif_s ?_ ?_)<;>(intro hb;(try simp (disch:=omega) only [hbS] at hb)<;>conv=>whnf)))
      all_goals try (exfalso; omega)
      refine LoopX_addNil 44 4 ?_
      conv => whnf
      refine LoopX_inv tabOk (α := (Nat × List EntT) × Option Addr × Nat) (fun z => 4 * z.1.1 ≤ L.length + 3 ∧ z.1.2.length = z.1.1 ∧ grpF L = z.1.2 ++ grpF (L.drop (4 * z.1.1))) (fun z => [(0, S s), (4, .v (.slice A L.length c)), (7, .v (.slice z.2.1 z.1.2.length z.2.2)), (8, I ((4 * z.1.1 : Nat) : Int))])
        (fun z => [.row 3 1 A L.length c (L.map fun x => [encI x]), .row 44 4 z.2.1 z.1.2.length z.2.2 (z.1.2.map encE)]) (fun z => L.length + 4 - 4 * z.1.1) ((0, []), none, 0) [0, 1] ⟨by simp, rfl, rfl⟩ ?_ ?_
      · ((refine ⟨?_, ?_, ?_, ?_⟩) <;> (repeat' ((conv => whnf); apply And.intro)) <;> (try (first | exact trivial | decide)))
        all_goals first | rfl | exact fun _ _ h => h | (simp [SV.wf, SV.wfs]; done) | trace_state
      · rintro ⟨⟨j, O⟩, B, d⟩ ⟨h4, hO, hg⟩
        dsimp only at h4 hO hg ⊢
        by_cases hj : 4 * j + 3 < L.length
        · have hnx := grp_next hj
          rw [hnx, show 4 * j + 4 = 4 * (j + 1) by omega] at hg
          clear hF
          (conv=>whnf);repeat' (first|((with_reducible refine isV ?_);first|((first|refine ValX_index tabOk rfl (ArgSl.row 0 rfl) rfl ?_ ?_ ?_|(with_reducible refine nat_idx ?_);refine ValX_load1n _ _ (0) tabOk rfl rfl rfl (ArgSl.row 0 rfl) ?_ ?_ ?_|refine ValX_load1 _ _ (0) tabOk rfl rfl rfl (ArgSl.row 0 rfl) ?_ ?_ ?_)<;>first|rfl|omega|with_reducible refine isP ?_|conv=>whnf))|((with_reducible refine isO ?_);first|((refine OpX_append 1 tabOk rfl rfl rfl rfl (ArgSl.row 2 rfl) (by decide) ?_ ?_ ?_)<;>first|omega|(dsimp only;omega)|(intro A' c';conv=>whnf))|((first|(refine OpX_build0 tabOk rfl rfl rfl ?_);intro bN|(refine OpX_build tabOk rfl rfl rfl rfl rfl ?_);intro bN);conv=>whnf))|((with_reducible refine isW ?_;first|refine xwr_ok (by omega) (by omega) ?_|refine xwr_raw ?_);conv=>whnf)|((first|refine DrawX_s tabOk folOk ?_|refine DrawS_i (by kernel_rfl) ?_|with_reducible refine andX_i ?_ ?_)<;>conv=>whnf)|with_reducible exact rfl|((with_reducible first|refine xif_kt (by assumption) ?_|refine xif_kf (by assumption) ?_);conv=>whnf)|((with_reducible refine xif_s ?_ ?_)<;>(intro hb;(try simp (disch:=omega) only [hbS] at hb)<;>conv=>whnf)))
          all_goals try (exfalso; omega)
          refine ⟨((j + 1, O ++ [(L.getD (4 * j) 0, L.getD (4 * j + 1) 0, L.getD (4 * j + 2) 0, L.getD (4 * j + 3) 0)]), A', c'), [0, 1], ⟨by (try dsimp only); omega, by (try dsimp only); rw [List.length_append, hO]; rfl, by (try dsimp only); rw [hg, List.append_assoc]; rfl⟩, ?_, by (try dsimp only); omega⟩
          dsimp only
          rw [List.length_append, List.map_append]
          ((refine ⟨?_, ?_, ?_, ?_⟩) <;> (repeat' ((conv => whnf); apply And.intro)) <;> (try (first | exact trivial | decide)))
          all_goals first | rfl | exact fun _ _ h => h | (simp [SV.wf, SV.wfs]; done) | trace_state
        · have hge := grp_end (L := L) (i := 4 * j) (by omega)
          rw [hge, List.append_nil] at hg
          rw [hg] at hF
          have kv := fun A' c' => rVE_w A' c' O rfl (by unfold maxLen; omega)
          have kx := fun A' c' => rExport_w A' c' O rfl (by unfold maxLen; omega)
          clear hg hge
          cases hv : vE O with
          | false =>
            rw [hv] at hF kx kv
            rw [if_neg (by simp)] at hF
            rw [hF]
            dsimp only
            (conv=>whnf);repeat' (first|((with_reducible refine isC ?_);first|(((with_reducible refine isF 15 ?_;refine CallX_w (kv _ _) ?_ ?_);(focus exact ArgSl.row 1 rfl));conv=>whnf))|((with_reducible refine isO ?_);first|((first|(refine OpX_build0 tabOk rfl rfl rfl ?_);intro bN|(refine OpX_build tabOk rfl rfl rfl rfl rfl ?_);intro bN);conv=>whnf))|((with_reducible refine isW ?_;first|refine xwr_ok (by omega) (by omega) ?_|refine xwr_raw ?_);conv=>whnf)|((first|refine DrawX_s tabOk folOk ?_|refine DrawS_i (by kernel_rfl) ?_|with_reducible refine andX_i ?_ ?_)<;>conv=>whnf)|with_reducible exact rfl|((with_reducible first|refine xif_kt (by assumption) ?_|refine xif_kf (by assumption) ?_);conv=>whnf)|((with_reducible refine xif_s ?_ ?_)<;>(intro hb;(try simp (disch:=omega) only [hbS] at hb)<;>conv=>whnf)))
            all_goals try (exfalso; omega)
            refine Fin_addNil 44 4 ?_
            exact Fin_m (none, 0) [2] ⟨rfl, by simp [SV.wf, SV.wfs]⟩ ⟨⟨rfl, rfl, rfl, rfl, rfl, rfl⟩, trivial⟩ (by decide) rfl
          | true =>
            rw [hv] at hF kx kv
            rw [if_pos rfl] at kx
            generalize exportS O = X at *
            by_cases hX : X = s
            · rw [if_pos ⟨rfl, hX⟩] at hF
              rw [hF]
              dsimp only
              (conv=>whnf);repeat' (first|((with_reducible refine isC ?_);first|((first|(with_reducible refine isF 15 ?_;refine CallX_w (kv _ _) ?_ ?_);(focus exact ArgSl.row 1 rfl)|(with_reducible refine isF 14 ?_;refine CallX_w (kx _ _) ?_ ?_);(focus exact ArgSl.row 1 rfl));conv=>whnf))|((with_reducible refine isV ?_);first|(refine ValX_sNe (a := X) (b := s) (r := false) rfl Tryd.underlying9 (by simp [hX]) ?_; conv => whnf))|((with_reducible refine isO ?_);first|((first|(refine OpX_build0 tabOk rfl rfl rfl ?_);intro bN|(refine OpX_build tabOk rfl rfl rfl rfl rfl ?_);intro bN);conv=>whnf))|((with_reducible refine isW ?_;first|refine xwr_ok (by omega) (by omega) ?_|refine xwr_raw ?_);conv=>whnf)|((first|refine DrawX_s tabOk folOk ?_|refine DrawS_i (by kernel_rfl) ?_|with_reducible refine andX_i ?_ ?_)<;>conv=>whnf)|with_reducible exact rfl|((with_reducible first|refine xif_kt (by assumption) ?_|refine xif_kf (by assumption) ?_);conv=>whnf)|((with_reducible refine xif_s ?_ ?_)<;>(intro hb;(try simp (disch:=omega) only [hbS] at hb)<;>conv=>whnf)))
              all_goals try (exfalso; omega)
              exact Fin_m (B, d) [1] ⟨rfl, by simp [SV.wf, SV.wfs]⟩ ⟨⟨rfl, rfl, rfl, rfl, rfl, rfl⟩, trivial⟩ (by decide) rfl
            · rw [if_neg (fun h => hX h.2)] at hF
              rw [hF]
              dsimp only
              (conv=>whnf);repeat' (first|((with_reducible refine isC ?_);first|((first|(with_reducible refine isF 15 ?_;refine CallX_w (kv _ _) ?_ ?_);(focus exact ArgSl.row 1 rfl)|(with_reducible refine isF 14 ?_;refine CallX_w (kx _ _) ?_ ?_);(focus exact ArgSl.row 1 rfl));conv=>whnf))|((with_reducible refine isV ?_);first|(refine ValX_sNe (a := X) (b := s) (r := true) rfl Tryd.underlying9 (by simp [hX]) ?_; conv => whnf))|((with_reducible refine isO ?_);first|((first|(refine OpX_build0 tabOk rfl rfl rfl ?_);intro bN|(refine OpX_build tabOk rfl rfl rfl rfl rfl ?_);intro bN);conv=>whnf))|((with_reducible refine isW ?_;first|refine xwr_ok (by omega) (by omega) ?_|refine xwr_raw ?_);conv=>whnf)|((first|refine DrawX_s tabOk folOk ?_|refine DrawS_i (by kernel_rfl) ?_|with_reducible refine andX_i ?_ ?_)<;>conv=>whnf)|with_reducible exact rfl|((with_reducible first|refine xif_kt (by assumption) ?_|refine xif_kf (by assumption) ?_);conv=>whnf)|((with_reducible refine xif_s ?_ ?_)<;>(intro hb;(try simp (disch:=omega) only [hbS] at hb)<;>conv=>whnf)))
              all_goals try (exfalso; omega)
              refine Fin_addNil 44 4 ?_
              exact Fin_m (none, 0) [2] ⟨rfl, by simp [SV.wf, SV.wfs]⟩ ⟨⟨rfl, rfl, rfl, rfl, rfl, rfl⟩, trivial⟩ (by decide) rfl
end Go.Proofs.YtadichckbogcjaaDoor.En
