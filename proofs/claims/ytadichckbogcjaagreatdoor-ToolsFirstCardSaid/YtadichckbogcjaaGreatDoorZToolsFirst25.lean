import Derived.Test.YtadichckbogcjaaGreatDoorZToolsFirst24
import Derived.Test.YtadichckbogcjaaGreatDoorZToolsFirst08
import Derived.Laws.Concat
import Derived.Laws.Strings3
import Derived.Laws.BytesArg
import Derived.Lib.AppendStr
import Derived.Lib.ConvBytes
set_option linter.all false
section
namespace Go.Proofs.YtadichckbogcjaaGreatDoor.En
open Go.RowKit
set_option maxRecDepth 100000
theorem ArgSl.takeZ {w : World} {A : Option Addr} {n sz : Nat} {els : List (List Value)} (h : ArgSl w A n sz els) {m : Nat} (hm : m ≤ n) : ArgSl w A m sz (els.take m) := by
  refine ⟨by rw [List.length_take, h.len]; omega, fun e he => h.size e (List.mem_of_mem_take he), fun e he => h.one e (List.mem_of_mem_take he), fun hn => ?_⟩
  obtain ⟨b, o, hA, hc⟩ := h.at_ (by omega)
  refine ⟨b, o, hA, fun i e hi => hc i e ?_⟩
  rw [List.getElem?_take] at hi
  split at hi
  · exact hi
  · cases hi
theorem row_capZ {C : Ctx} {ob : List OB} {e sz : Nat} {A : Option Addr} {n c : Nat} {els : List (List Value)} (j : Nat) (hj : nth ob j = some (.row e sz A n c els)) : ∀ σ fp w, Mem C σ fp ob w → n ≤ c := by
  intro σ fp w hm
  obtain ⟨⟨hown, _⟩, _⟩ := nth_row hm hj
  rcases hown.2 with ⟨h, h0⟩ | ⟨g, cap, cur, hsl, _, _, hnc, _⟩
  · simp at h
    omega
  · simp at hsl
    omega
theorem ValX_sliceHiZ {C : Ctx} {ob : List OB} {e sz n c : Nat} {A : Option Addr} {o : Oper} {t : TypeId} {x y : Operand} {m : Nat} {k : SV → Prop} (hT : TabOk C.P C.T) (ho : o.op = .slice t x none (some y) none) (hs : slInfo C t = some (e, sz)) (hm : ∀ σ fp w, Mem C σ fp ob w → m ≤ c)
    (hk : k (.v (.slice A m c))) : ValX C o [.v (.slice A n c), .v (.int .i64 (m : Int))] ob k := by
  unfold ValX
  intro σ fp w ρ hM hx
  obtain ⟨hu, hz⟩ := slInfo_run hT hs w
  rw [ho] at hx
  simp [Op.operands, SV.vals, SV.val] at hx
  refine ⟨_, hk, ?_, trivial⟩
  simp [execOp, ho, hx.1, hx.2, Instr.sliceAt, run_underlying hu, run_slice_hi (w := w) hu hz (hm σ fp w hM), SV.val]
def esB (ps : List PoseT) (ss : List BmsT) (x : CellT) (n : Nat) : List EntT := (List.range n).map fun j : Nat => atE (ptBi ps ss j) x
theorem esB_len (ps : List PoseT) (ss : List BmsT) (x : CellT) (n : Nat) : (esB ps ss x n).length = n := by simp [esB]
theorem esB_succ (ps : List PoseT) (ss : List BmsT) (x : CellT) (n : Nat) : esB ps ss x (n + 1) = esB ps ss x n ++ [atE (ptBi ps ss n) x] := by
  unfold esB
  rw [List.range_succ, List.map_append]
  rfl
theorem ptBi_vE (ps : List PoseT) (ss : List BmsT) (k : Int) : vE (ptBi ps ss k) = true := (ofE_good _ _).1
theorem esB_get (ps : List PoseT) (ss : List BmsT) (x : CellT) {n i : Nat} (h : i < n) : (esB ps ss x n).getD i e0 = (x.1, x.2, (valT (ptBi ps ss i) x).1, (valT (ptBi ps ss i) x).2) := by
  have e : (esB ps ss x n).getD i e0 = atE (ptBi ps ss i) x := by simp [esB, h]
  rw [e, at_val (ptBi_vE ps ss i)]
set_option maxHeartbeats 1000000 in
theorem occ_m (x : CellT) (A : Option Addr) (c : Nat) (es : List EntT) {n : Nat} (hl : es.length = n) (hn : n ≤ 64) (S : Nat → Int × Int) (h0 : S 0 = (0, 0)) (hS : ∀ i, i < n → S (i + 1) = ((S i).1 + (es.getD i e0).2.2.1, (S i).2 + (es.getD i e0).2.2.2))
    (hb : ∀ i, i ≤ n → 0 ≤ (S i).1 ∧ (S i).1 ≤ 1000000000 ∧ 0 ≤ (S i).2 ∧ (S i).2 ≤ 1000000000) (k : Nat) (hk : k ≤ n) :
    CallM Tryz.prog 26 [I k, .p 0 0, .p 1 0] (fun _ _ => True) [.box 25 [I x.1, I x.2], .box 36 [.v (.slice A n c)], .row 34 4 A n c (es.map encE)]
      (fun _ : Nat => B (decide (128 ≤ valueF (x.1, x.2, (S k).1, (S k).2)))) (fun _ => [.box 25 [I x.1, I x.2], .box 36 [.v (.slice A n c)], .row 34 4 A n c (es.map encE)]) := by
  have ko := Occupied_x (x.1, x.2, (S k).1, (S k).2)
  generalize hv : decide (128 ≤ valueF (x.1, x.2, (S k).1, (S k).2)) = V at *
  clear hv
  refine CallM.of (m := 3) Tryz.func26 rfl tabOk rfl rfl rfl rfl (by simp [SV.wfs, SV.wf]) fun w M π _ => ?_
  (conv=>whnf);repeat' (first|((with_reducible refine isV ?_);first|(refine ValX_sliceHiZ (m := k) tabOk rfl rfl (fun σ fp w hm => Nat.le_trans hk (row_capZ 2 rfl σ fp w hm)) ?_; conv => whnf))|((with_reducible refine isW ?_;first|refine xwr_ok (by omega) (by omega) ?_|refine xwr_raw ?_);conv=>whnf)|with_reducible exact rfl|((with_reducible first|refine xif_kt (by assumption) ?_|refine xif_kf (by assumption) ?_);conv=>whnf)|((with_reducible refine xif_s ?_ ?_)<;>(intro hb;(try simp (disch:=omega) only [hbS] at hb)<;>conv=>whnf)))
  refine LoopX_inv tabOk (α := Nat) (fun i => i ≤ k) (fun i => [(5, .p 3 0), (12, .v (.slice A k c)), (13, I k), (14, I i)])
    (fun i => [.box 25 [I x.1, I x.2], .box 36 [.v (.slice A n c)], .row 34 4 A n c (es.map encE), .box 34 [I x.1, I x.2, I (S i).1, I (S i).2]]) (fun i => k - i) 0 [0, 1, 2, 3] (Nat.zero_le _) ?_ ?_
  · dsimp only
    rw [h0]
    ((refine ⟨?_, ?_, ?_, ?_⟩) <;> (repeat' ((conv => whnf); apply And.intro)) <;> (try (first | exact trivial | decide)))
    all_goals first | rfl | exact fun _ _ h => h | (simp [SV.wf, SV.wfs]; done) | trace_state
  · intro i hi
    by_cases hlt : i < k
    · have hs := hS i (by omega)
      have hb1 := hb i (by omega)
      have hb2 := hb (i + 1) (by omega)
      have hge : (es.take k).getD i e0 = es.getD i e0 := by simp [hlt]
      have htk : (es.map encE).take k = (es.take k).map encE := by rw [List.map_take]
      rw [← hge] at hs
      have e1 : (S (i + 1)).1 = (S i).1 + ((es.take k).getD i e0).2.2.1 := by rw [hs]
      have e2 : (S (i + 1)).2 = (S i).2 + ((es.take k).getD i e0).2.2.2 := by rw [hs]
      rw [e1, e2] at hb2
      have htl : (es.take k).length = k := by rw [List.length_take]; omega
      clear hS hb h0 hs hge
      have hA : ∀ {C : Ctx} {ob : List OB}, nth ob 2 = some (.row 34 4 A n c (es.map encE)) → ∀ σ fp w, Mem C σ fp ob w → ArgSl w A k 4 ((es.take k).map encE) := fun {C ob} h σ fp w hm => htk ▸ (ArgSl.row 2 h σ fp w hm).takeZ hk
      (conv=>whnf);repeat' (first|((with_reducible refine isV ?_);first|((first|refine ValX_index tabOk rfl (hA rfl) rfl ?_ ?_ ?_|(with_reducible refine nat_idx ?_);refine ValX_loadEn _ _ (e0) tabOk rfl rfl rfl rfl (hA rfl) ?_ ?_ ?_|refine ValX_loadE _ _ (e0) tabOk rfl rfl rfl rfl (hA rfl) ?_ ?_ ?_)<;>first|rfl|omega|with_reducible refine isP ?_|conv=>whnf))|((with_reducible refine isW ?_;first|refine xwr_ok (by omega) (by omega) ?_|refine xwr_raw ?_);conv=>whnf)|with_reducible exact rfl|((with_reducible first|refine xif_kt (by assumption) ?_|refine xif_kf (by assumption) ?_);conv=>whnf)|((with_reducible refine xif_s ?_ ?_)<;>(intro hb;(try simp (disch:=omega) only [hbS] at hb)<;>conv=>whnf)))
      all_goals try (exfalso; omega)
      refine ⟨i + 1, [0, 1, 2, 3], by (try dsimp only); omega, ?_, by (try dsimp only); omega⟩
      dsimp only
      rw [e1, e2]
      ((refine ⟨?_, ?_, ?_, ?_⟩) <;> (repeat' ((conv => whnf); apply And.intro)) <;> (try (first | exact trivial | decide)))
      all_goals first | rfl | exact fun _ _ h => h | (simp [SV.wf, SV.wfs]; done) | trace_state
    · obtain rfl : i = k := by omega
      (conv=>whnf);repeat' (first|((with_reducible refine isC ?_);first|((with_reducible refine CallX_pure (ko) ?_)<;>first|omega|with_reducible refine isP ?_|conv=>whnf))|((with_reducible refine isW ?_;first|refine xwr_ok (by omega) (by omega) ?_|refine xwr_raw ?_);conv=>whnf)|with_reducible exact rfl|((with_reducible first|refine xif_kt (by assumption) ?_|refine xif_kf (by assumption) ?_);conv=>whnf)|((with_reducible refine xif_s ?_ ?_)<;>(intro hb;(try simp (disch:=omega) only [hbS] at hb)<;>conv=>whnf)))
      all_goals try (exfalso; omega)
      exact Fin_m 0 [0, 1, 2] ⟨rfl, by simp [SV.wf, SV.wfs]⟩ ⟨⟨rfl, rfl, by simp [SV.wf, SV.wfs]⟩, ⟨rfl, rfl, by simp [SV.wf, SV.wfs]⟩, ⟨rfl, rfl, rfl, rfl, rfl, rfl⟩, trivial⟩ (by decide) rfl
def bisR (ps : List PoseT) (ss : List BmsT) (x : CellT) : Int × Int × Int :=
  if ps.length ≠ ss.length ∨ 64 < ss.length then (0, 0, 1)
  else if (List.range ss.length).any (fun i => decide ((ofE (ps.getD i p0B) (ss.getD i [])).2 ≠ 0)) then (0, 0, 1)
  else if ocB ps ss x ss.length then (((bisG (ocB ps ss x) ss.length 0 ss.length 0).1 : Int), ((bisG (ocB ps ss x) ss.length 0 ss.length 0).2 : Int), 0)
  else (0, 0, 7)
theorem bisR_ok {ps : List PoseT} {ss : List BmsT} {x : CellT} {n : Nat} (h1 : ps.length = n) (h2 : ss.length = n) (h3 : n ≤ 64) (h4 : ∀ j, j < n → (ofE (ps.getD j p0B) (ss.getD j [])).2 = 0) :
    bisR ps ss x = if ocB ps ss x n then (((bisG (ocB ps ss x) n 0 n 0).1 : Int), ((bisG (ocB ps ss x) n 0 n 0).2 : Int), 0) else (0, 0, 7) := by
  subst h2
  unfold bisR
  rw [if_neg (by omega), if_neg]
  rw [List.any_eq_true]
  rintro ⟨j, hj, h⟩
  rw [List.mem_range] at hj
  rw [h4 j hj] at h
  simp at h
theorem bisR_bad {ps : List PoseT} {ss : List BmsT} {x : CellT} {n k : Nat} (h1 : ps.length = n) (h2 : ss.length = n) (h3 : n ≤ 64) (hk : k < n) (h4 : (ofE (ps.getD k p0B) (ss.getD k [])).2 ≠ 0) : bisR ps ss x = (0, 0, 1) := by
  subst h2
  unfold bisR
  rw [if_neg (by omega), if_pos]
  rw [List.any_eq_true]
  exact ⟨k, List.mem_range.2 hk, by simpa using h4⟩
theorem bisG_succ (p : Nat → Bool) (f lo hi t : Nat) : bisG p (f + 1) lo hi t = if 1 < hi - lo then (if p ((lo + hi) / 2) then bisG p f lo ((lo + hi) / 2) (t + 1) else bisG p f ((lo + hi) / 2) hi (t + 1)) else (hi, t) := rfl
theorem sumB2_bd (ps : List PoseT) (ss : List BmsT) (x : CellT) (h : ∀ s ∈ ss, s.length ≤ 1000) : ∀ i, 0 ≤ (sumB2 ps ss x i).1 ∧ (sumB2 ps ss x i).1 ≤ 4000000 * i ∧ 0 ≤ (sumB2 ps ss x i).2 ∧ (sumB2 ps ss x i).2 ≤ 4000000 * i
  | 0 => by
    have h : sumB2 ps ss x 0 = (0, 0) := rfl
    rw [h]
    decide
  | i + 1 => by
    have ih := sumB2_bd ps ss x h i
    have hl : (ss.getD i []).length ≤ 1000 := by
      by_cases hi : i < ss.length
      · have e : ss.getD i [] = ss[i] := by simp [hi]
        rw [e]
        exact h _ (List.getElem_mem _)
      · simp [show ss.length ≤ i by omega]
    have hg := (ofE_good (ps.getD i p0B) (ss.getD i [])).2.2 x
    have hp : (ofE (ps.getD i p0B) (ss.getD i [])).1 = ptBi ps ss i := rfl
    rw [hp] at hg
    rw [sumB2_succ]
    dsimp only
    have : ((ss.getD i []).length * 4000 : Nat) ≤ 4000000 := by omega
    omega
set_option maxHeartbeats 8000000 in
theorem Bisect_m (A : Option Addr) (c : Nat) (ps : List PoseT) (A2 : Option Addr) (c2 : Nat) (ss : List SlT) {n m : Nat} (hl : ps.length = n) (hl2 : ss.length = m) (hn : n ≤ maxLen) (hm : m ≤ maxLen) (x : CellT) (hs : ∀ s ∈ bmsOf ss, s.length ≤ 1000) :
    CallM Tryz.prog 9 [.v (.slice A n c), .v (.slice A2 m c2), .a [I x.1, I x.2]] (fun w M => ArgN w M A n 3 (ps.map encPs) ∧ scsN w M A2 m ss) []
      (fun _ : Nat => .t [I (bisR ps (bmsOf ss) x).1, I (bisR ps (bmsOf ss) x).2.1, I (bisR ps (bmsOf ss) x).2.2]) (fun _ => []) := by
  have hbl : (bmsOf ss).length = m := by simp [bmsOf, hl2]
  unfold maxLen at hn hm
  by_cases hbad : n ≠ m ∨ 64 < m
  · have hr : bisR ps (bmsOf ss) x = (0, 0, 1) := by
      unfold bisR
      rw [if_pos (by rw [hl, hbl]; exact hbad)]
    rw [hr]
    refine CallM.of (m := 0) Tryz.func9 rfl tabOk rfl rfl rfl rfl (by simp [SV.wfs, SV.wf]) fun w M π hpre => ?_
    (conv=>whnf);repeat' (first|((with_reducible refine isO ?_);first|((first|(refine OpX_build0 tabOk rfl rfl rfl ?_);intro bN|(refine OpX_build tabOk rfl rfl rfl rfl rfl ?_);intro bN);conv=>whnf))|((with_reducible refine isW ?_;first|refine xwr_ok (by omega) (by omega) ?_|refine xwr_raw ?_);conv=>whnf)|((with_reducible refine isQ ?_;first|refine xquo_nn (by omega) (by omega) (by omega) ?_|refine xquo_ok (by omega) (by omega) (by omega) ?_|refine xquo_raw (by omega) ?_);conv=>whnf)|((with_reducible refine need_i ?_ ?_)<;>first|omega|conv=>whnf)|((first|refine DrawX_s tabOk folOk ?_|refine DrawS_i (by kernel_rfl) ?_|with_reducible refine andX_i ?_ ?_)<;>conv=>whnf)|with_reducible exact rfl|((with_reducible first|refine xif_kt (by assumption) ?_|refine xif_kf (by assumption) ?_);conv=>whnf)|((with_reducible refine xif_s ?_ ?_)<;>(intro hb;(try simp (disch:=omega) only [hbS] at hb)<;>conv=>whnf)))
    all_goals try (exfalso; omega)
    all_goals exact Fin_m 0 [] ⟨rfl, by simp [SV.wf, SV.wfs]⟩ trivial (by decide) rfl
  · obtain ⟨e, hm64⟩ : n = m ∧ m ≤ 64 := by omega
    subst e
    have h0 : esB ps (bmsOf ss) x 0 = [] := rfl
    have hsu := esB_succ ps (bmsOf ss) x
    have hln := esB_len ps (bmsOf ss) x
    have hget := fun i (hi : i < n) => esB_get ps (bmsOf ss) x hi
    have hok := bisR_ok (x := x) hl hbl hm64
    have hbd := fun k h4 => bisR_bad (x := x) (k := k) hl hbl hm64 h4
    have hsb := sumB2_bd ps (bmsOf ss) x hs
    have hsc := sumB2_succ ps (bmsOf ss) x
    have kcl := fun (B : Option Addr) (d : Nat) (k : Nat) (hk : k ≤ n) => occ_m x B d (esB ps (bmsOf ss) x n) (hln n) hm64 (sumB2 ps (bmsOf ss) x) rfl (fun i hi => by rw [hsc i, hget i hi]) (fun i hi => by have := hsb i; omega) k hk
    have hoc : ∀ k, decide (128 ≤ valueF (x.1, x.2, (sumB2 ps (bmsOf ss) x k).1, (sumB2 ps (bmsOf ss) x k).2)) = ocB ps (bmsOf ss) x k := fun k => rfl
    simp only [hoc] at kcl
    clear hoc hsc hsb hget hs
    generalize hR : bisR ps (bmsOf ss) x = R at *
    refine CallM.of (m := 0) Tryz.func9 rfl tabOk rfl rfl rfl rfl (by simp [SV.wfs, SV.wf]) fun w M π hpre => ?_
    obtain ⟨hp1, hp2, hp3⟩ := hpre
    (conv=>whnf);repeat' (first|((with_reducible refine isO ?_);first|((first|(refine OpX_build0 tabOk rfl rfl rfl ?_);intro bN|(refine OpX_build tabOk rfl rfl rfl rfl rfl ?_);intro bN);conv=>whnf))|((with_reducible refine isW ?_;first|refine xwr_ok (by omega) (by omega) ?_|refine xwr_raw ?_);conv=>whnf)|((with_reducible refine isQ ?_;first|refine xquo_nn (by omega) (by omega) (by omega) ?_|refine xquo_ok (by omega) (by omega) (by omega) ?_|refine xquo_raw (by omega) ?_);conv=>whnf)|((with_reducible refine need_i ?_ ?_)<;>first|omega|conv=>whnf)|((first|refine DrawX_s tabOk folOk ?_|refine DrawS_i (by kernel_rfl) ?_|with_reducible refine andX_i ?_ ?_)<;>conv=>whnf)|with_reducible exact rfl|((with_reducible first|refine xif_kt (by assumption) ?_|refine xif_kf (by assumption) ?_);conv=>whnf)|((with_reducible refine xif_s ?_ ?_)<;>(intro hb;(try simp (disch:=omega) only [hbS] at hb)<;>conv=>whnf)))
    all_goals try (exfalso; omega)
    refine LoopX_addNil 34 4 ?_
    conv => whnf
    refine LoopX_inv tabOk (α := Nat × Option Addr × Nat) (fun s => s.1 ≤ n ∧ ∀ j, j < s.1 → (ofE (ps.getD j p0B) ((bmsOf ss).getD j [])).2 = 0)
      (fun s => [(0, .v (.slice A n c)), (5, .p 0 0), (9, .p 1 0), (29, .v (.slice A2 n c2)), (30, I n), (31, I s.1)])
      (fun s => [.box 25 [I x.1, I x.2], .box 36 [.v (.slice s.2.1 (esB ps (bmsOf ss) x s.1).length s.2.2)], .row 34 4 s.2.1 (esB ps (bmsOf ss) x s.1).length s.2.2 ((esB ps (bmsOf ss) x s.1).map encE)]) (fun s => n - s.1) (0, none, 0) [0, 1, 2] ⟨Nat.zero_le _, fun j hj => by cases hj⟩ ?_ ?_
    · dsimp only
      rw [h0]
      ((refine ⟨?_, ?_, ?_, ?_⟩) <;> (repeat' ((conv => whnf); apply And.intro)) <;> (try (first | exact trivial | decide)))
      all_goals first | rfl | exact fun _ _ h => h | (simp [SV.wf, SV.wfs]; done) | trace_state
    · rintro ⟨i, B, d⟩ ⟨hi, hall⟩
      dsimp only at hi hall ⊢
      by_cases hlt : i < n
      · have hsc := hp3 (ss.getD i s0T) (by simp [show i < ss.length by omega])
        have ko := fun A' c' => ofE_m (ps.getD i p0B) A' c' (ss.getD i s0T).2.2 ((ss.getD i s0T).2.2.map encBm) rfl rfl hsc.2
        have hpi := ptBi_at ps (ss := ss) (k := i) (by omega)
        have hlo := ofE_len (ps.getD i p0B) (ss.getD i s0T).2.2
        have hbi : (bmsOf ss).getD i [] = (ss.getD i s0T).2.2 := bms_at (by omega)
        have hbdi := hbd i hlt
        have hsi := hsu i
        have hli := hln i
        rw [hpi] at hsi
        rw [hbi] at hbdi
        have hnx : (ofE (ps.getD i p0B) (ss.getD i s0T).2.2).2 = 0 → ∀ j, j < i + 1 → (ofE (ps.getD j p0B) ((bmsOf ss).getD j [])).2 = 0 := by
          intro h j hj
          rcases (by omega : j < i ∨ j = i) with h1 | rfl
          · exact hall j h1
          · rw [hbi]
            exact h
        clear hall hbd hok hsu kcl h0 hln hpi hbi
        generalize esB ps (bmsOf ss) x i = e at *
        generalize hoe : (ofE (ps.getD i p0B) (ss.getD i s0T).2.2) = oe at *
        obtain ⟨p, ec⟩ := oe
        dsimp only at ko hlo hsi hbdi hnx
        have ka := fun A' c' => At_v A' c' p x rfl (by omega)
        generalize atE p x = ae at *
        by_cases hec : ec = 0
        · subst hec
          (conv=>whnf);repeat' (first|((with_reducible refine isC ?_);first|((first|(with_reducible refine isF 24 ?_);((refine CallX_m (ko _ _) [] rfl trivial (by decide) (ArgN.on hsc.1 (by decide) (m := 0) (fun j hj => by omega)) ?_; intro r3; obtain ⟨A3, c3⟩ := r3; dsimp only))|(with_reducible refine isF 25 ?_);((refine CallX_v (ka A3 c3) (ArgSl.row 3 rfl) ?_)));conv=>whnf))|((with_reducible refine isV ?_);first|((first|refine ValX_index tabOk rfl (ArgN.mem hp1 (by decide)) rfl ?_ ?_ ?_|(with_reducible refine nat_idx ?_);refine ValX_loadEn _ _ (p0B) tabOk rfl rfl rfl rfl (ArgN.mem hp1 (by decide)) ?_ ?_ ?_|refine ValX_loadE _ _ (p0B) tabOk rfl rfl rfl rfl (ArgN.mem hp1 (by decide)) ?_ ?_ ?_|refine ValX_index tabOk rfl (ArgN.mem hp2 (by decide)) rfl ?_ ?_ ?_|(with_reducible refine nat_idx ?_);refine ValX_load1n _ _ (s0T) tabOk rfl rfl rfl (ArgN.mem hp2 (by decide)) ?_ ?_ ?_|refine ValX_load1 _ _ (s0T) tabOk rfl rfl rfl (ArgN.mem hp2 (by decide)) ?_ ?_ ?_)<;>first|rfl|omega|with_reducible refine isP ?_|conv=>whnf))|((with_reducible refine isO ?_);first|((refine OpX_append 2 tabOk rfl rfl rfl rfl (ArgSl.row 4 rfl) (by decide) ?_ ?_ ?_)<;>first|omega|(dsimp only;omega)|(intro A' c';conv=>whnf))|((first|(refine OpX_build0 tabOk rfl rfl rfl ?_);intro bN|(refine OpX_build tabOk rfl rfl rfl rfl rfl ?_);intro bN);conv=>whnf))|((with_reducible refine isW ?_;first|refine xwr_ok (by omega) (by omega) ?_|refine xwr_raw ?_);conv=>whnf)|((with_reducible refine isQ ?_;first|refine xquo_nn (by omega) (by omega) (by omega) ?_|refine xquo_ok (by omega) (by omega) (by omega) ?_|refine xquo_raw (by omega) ?_);conv=>whnf)|((with_reducible refine need_i ?_ ?_)<;>first|omega|conv=>whnf)|((first|refine DrawX_s tabOk folOk ?_|refine DrawS_i (by kernel_rfl) ?_|with_reducible refine andX_i ?_ ?_)<;>conv=>whnf)|with_reducible exact rfl|((with_reducible first|refine xif_kt (by assumption) ?_|refine xif_kf (by assumption) ?_);conv=>whnf)|((with_reducible refine xif_s ?_ ?_)<;>(intro hb;(try simp (disch:=omega) only [hbS] at hb)<;>conv=>whnf)))
          all_goals try (exfalso; omega)
          all_goals
            refine ⟨(i + 1, A', c'), [0, 1, 2], ⟨by (try dsimp only); omega, hnx rfl⟩, ?_, by (try dsimp only); omega⟩
            dsimp only
            rw [hsi, List.length_append, List.map_append]
            ((refine ⟨?_, ?_, ?_, ?_⟩) <;> (repeat' ((conv => whnf); apply And.intro)) <;> (try (first | exact trivial | decide)))
            all_goals first | rfl | exact fun _ _ h => h | (simp [SV.wf, SV.wfs]; done) | trace_state
        · have := hbdi hec
          subst this
          (conv=>whnf);repeat' (first|((with_reducible refine isC ?_);first|(((with_reducible refine isF 24 ?_);((refine CallX_m (ko _ _) [] rfl trivial (by decide) (ArgN.on hsc.1 (by decide) (m := 0) (fun j hj => by omega)) ?_; intro r3; obtain ⟨A3, c3⟩ := r3; dsimp only)));conv=>whnf))|((with_reducible refine isV ?_);first|((first|refine ValX_index tabOk rfl (ArgN.mem hp1 (by decide)) rfl ?_ ?_ ?_|(with_reducible refine nat_idx ?_);refine ValX_loadEn _ _ (p0B) tabOk rfl rfl rfl rfl (ArgN.mem hp1 (by decide)) ?_ ?_ ?_|refine ValX_loadE _ _ (p0B) tabOk rfl rfl rfl rfl (ArgN.mem hp1 (by decide)) ?_ ?_ ?_|refine ValX_index tabOk rfl (ArgN.mem hp2 (by decide)) rfl ?_ ?_ ?_|(with_reducible refine nat_idx ?_);refine ValX_load1n _ _ (s0T) tabOk rfl rfl rfl (ArgN.mem hp2 (by decide)) ?_ ?_ ?_|refine ValX_load1 _ _ (s0T) tabOk rfl rfl rfl (ArgN.mem hp2 (by decide)) ?_ ?_ ?_)<;>first|rfl|omega|with_reducible refine isP ?_|conv=>whnf))|((with_reducible refine isO ?_);first|((first|(refine OpX_build0 tabOk rfl rfl rfl ?_);intro bN|(refine OpX_build tabOk rfl rfl rfl rfl rfl ?_);intro bN);conv=>whnf))|((with_reducible refine isW ?_;first|refine xwr_ok (by omega) (by omega) ?_|refine xwr_raw ?_);conv=>whnf)|((with_reducible refine isQ ?_;first|refine xquo_nn (by omega) (by omega) (by omega) ?_|refine xquo_ok (by omega) (by omega) (by omega) ?_|refine xquo_raw (by omega) ?_);conv=>whnf)|((with_reducible refine need_i ?_ ?_)<;>first|omega|conv=>whnf)|((first|refine DrawX_s tabOk folOk ?_|refine DrawS_i (by kernel_rfl) ?_|with_reducible refine andX_i ?_ ?_)<;>conv=>whnf)|with_reducible exact rfl|((with_reducible first|refine xif_kt (by assumption) ?_|refine xif_kf (by assumption) ?_);conv=>whnf)|((with_reducible refine xif_s ?_ ?_)<;>(intro hb;(try simp (disch:=omega) only [hbS] at hb)<;>conv=>whnf)))
          all_goals try (exfalso; omega)
          all_goals try (exfalso; simp [hec] at hb; done)
          all_goals exact Fin_m 0 [] ⟨rfl, by simp [SV.wf, SV.wfs]⟩ trivial (by decide) rfl
      · obtain rfl : i = n := by omega
        have hR2 := hok hall
        have hlni := hln i
        have kc0 := kcl B d i (Nat.le_refl _)
        clear hok hbd hall hsu h0 hln
        generalize esB ps (bmsOf ss) x i = e at *
        rw [hlni]
        generalize ocB ps (bmsOf ss) x = oc at *
        rcases Bool.eq_false_or_eq_true (oc i) with ho | ho
        · rw [ho] at kc0
          rw [ho, if_pos rfl] at hR2
          (conv=>whnf);repeat' (first|((with_reducible refine isC ?_);first|(((with_reducible refine isF 26 ?_);((refine CallX_m kc0 [0, 1, 2] rfl ⟨⟨rfl, rfl, by simp [SV.wf, SV.wfs]⟩, ⟨rfl, rfl, by simp [SV.wf, SV.wfs]⟩, ⟨rfl, rfl, rfl, rfl, rfl, rfl⟩, trivial⟩ (by decide) (fun _ _ _ _ => trivial) ?_; intro q0)));conv=>whnf))|((with_reducible refine isO ?_);first|((first|(refine OpX_build0 tabOk rfl rfl rfl ?_);intro bN|(refine OpX_build tabOk rfl rfl rfl rfl rfl ?_);intro bN);conv=>whnf))|((with_reducible refine isW ?_;first|refine xwr_ok (by omega) (by omega) ?_|refine xwr_raw ?_);conv=>whnf)|((with_reducible refine isQ ?_;first|refine xquo_nn (by omega) (by omega) (by omega) ?_|refine xquo_ok (by omega) (by omega) (by omega) ?_|refine xquo_raw (by omega) ?_);conv=>whnf)|((with_reducible refine need_i ?_ ?_)<;>first|omega|conv=>whnf)|((first|refine DrawX_s tabOk folOk ?_|refine DrawS_i (by kernel_rfl) ?_|with_reducible refine andX_i ?_ ?_)<;>conv=>whnf)|with_reducible exact rfl|((with_reducible first|refine xif_kt (by assumption) ?_|refine xif_kf (by assumption) ?_);conv=>whnf)|((with_reducible refine xif_s ?_ ?_)<;>(intro hb;(try simp (disch:=omega) only [hbS] at hb)<;>conv=>whnf)))
          all_goals try (exfalso; omega)
          refine LoopX_inv tabOk (α := Nat × Nat × Nat) (fun s => s.1 ≤ s.2.1 ∧ s.2.1 ≤ i ∧ s.2.2 + (s.2.1 - s.1) ≤ i ∧ ∃ f, s.2.1 - s.1 ≤ f ∧ R = (((bisG oc f s.1 s.2.1 s.2.2).1 : Int), ((bisG oc f s.1 s.2.1 s.2.2).2 : Int), 0))
            (fun s => [(14, .fn 26 [.p 0 0, .p 1 0]), (15, I s.1), (16, I s.2.1), (17, I s.2.2)])
            (fun _ => [.box 25 [I x.1, I x.2], .box 36 [.v (.slice B i d)], .row 34 4 B i d (e.map encE)]) (fun s => s.2.1 - s.1) (0, i, 0) [0, 1, 2] ⟨Nat.zero_le _, Nat.le_refl _, by (try dsimp only); omega, i, by (try dsimp only); omega, hR2⟩ ?_ ?_
          · ((refine ⟨?_, ?_, ?_, ?_⟩) <;> (repeat' ((conv => whnf); apply And.intro)) <;> (try (first | exact trivial | decide)))
            all_goals first | rfl | exact fun _ _ h => h | (simp [SV.wf, SV.wfs]; done) | trace_state
          · rintro ⟨lo, hi', t⟩ ⟨j1, j2, j3, f, j4, hRf⟩
            dsimp only at j1 j2 j3 j4 hRf ⊢
            clear hR2 kc0
            by_cases hgt : 1 < hi' - lo
            · obtain ⟨f, rfl⟩ : ∃ g, f = g + 1 := ⟨f - 1, by omega⟩
              rw [bisG_succ, if_pos hgt] at hRf
              have kcm := kcl B d ((lo + hi') / 2) (by omega)
              have hmid : ((lo : Int) + hi') / 2 = (((lo + hi') / 2 : Nat) : Int) := by omega
              have hm1 : lo < (lo + hi') / 2 ∧ (lo + hi') / 2 < hi' := by omega
              generalize hmv : (lo + hi') / 2 = mid at *
              clear kcl
              rcases Bool.eq_false_or_eq_true (oc mid) with hom | hom
              · rw [hom] at kcm
                rw [hom, if_pos rfl] at hRf
                (conv=>whnf);repeat' (first|((with_reducible refine isC ?_);first|(((with_reducible refine isF 26 ?_);((rw [hmid]; refine CallX_m kcm [0, 1, 2] rfl ⟨⟨rfl, rfl, by simp [SV.wf, SV.wfs]⟩, ⟨rfl, rfl, by simp [SV.wf, SV.wfs]⟩, ⟨rfl, rfl, rfl, rfl, rfl, rfl⟩, trivial⟩ (by decide) (fun _ _ _ _ => trivial) ?_; intro q1)));conv=>whnf))|((with_reducible refine isO ?_);first|((first|(refine OpX_build0 tabOk rfl rfl rfl ?_);intro bN|(refine OpX_build tabOk rfl rfl rfl rfl rfl ?_);intro bN);conv=>whnf))|((with_reducible refine isW ?_;first|refine xwr_ok (by omega) (by omega) ?_|refine xwr_raw ?_);conv=>whnf)|((with_reducible refine isQ ?_;first|refine xquo_nn (by omega) (by omega) (by omega) ?_|refine xquo_ok (by omega) (by omega) (by omega) ?_|refine xquo_raw (by omega) ?_);conv=>whnf)|((with_reducible refine need_i ?_ ?_)<;>first|omega|conv=>whnf)|((first|refine DrawX_s tabOk folOk ?_|refine DrawS_i (by kernel_rfl) ?_|with_reducible refine andX_i ?_ ?_)<;>conv=>whnf)|with_reducible exact rfl|((with_reducible first|refine xif_kt (by assumption) ?_|refine xif_kf (by assumption) ?_);conv=>whnf)|((with_reducible refine xif_s ?_ ?_)<;>(intro hb;(try simp (disch:=omega) only [hbS] at hb)<;>conv=>whnf)))
                all_goals try (exfalso; omega)
                refine ⟨(lo, mid, t + 1), [0, 1, 2], ⟨by (try dsimp only); omega, by (try dsimp only); omega, by (try dsimp only); omega, f, by (try dsimp only); omega, hRf⟩, ?_, by (try dsimp only); omega⟩
                dsimp only
                ((refine ⟨?_, ?_, ?_, ?_⟩) <;> (repeat' ((conv => whnf); apply And.intro)) <;> (try (first | exact trivial | decide)))
                all_goals first | rfl | exact fun _ _ h => h | (simp [SV.wf, SV.wfs]; done) | trace_state
              · rw [hom] at kcm
                rw [hom, if_neg (by simp)] at hRf
                (conv=>whnf);repeat' (first|((with_reducible refine isC ?_);first|(((with_reducible refine isF 26 ?_);((rw [hmid]; refine CallX_m kcm [0, 1, 2] rfl ⟨⟨rfl, rfl, by simp [SV.wf, SV.wfs]⟩, ⟨rfl, rfl, by simp [SV.wf, SV.wfs]⟩, ⟨rfl, rfl, rfl, rfl, rfl, rfl⟩, trivial⟩ (by decide) (fun _ _ _ _ => trivial) ?_; intro q1)));conv=>whnf))|((with_reducible refine isO ?_);first|((first|(refine OpX_build0 tabOk rfl rfl rfl ?_);intro bN|(refine OpX_build tabOk rfl rfl rfl rfl rfl ?_);intro bN);conv=>whnf))|((with_reducible refine isW ?_;first|refine xwr_ok (by omega) (by omega) ?_|refine xwr_raw ?_);conv=>whnf)|((with_reducible refine isQ ?_;first|refine xquo_nn (by omega) (by omega) (by omega) ?_|refine xquo_ok (by omega) (by omega) (by omega) ?_|refine xquo_raw (by omega) ?_);conv=>whnf)|((with_reducible refine need_i ?_ ?_)<;>first|omega|conv=>whnf)|((first|refine DrawX_s tabOk folOk ?_|refine DrawS_i (by kernel_rfl) ?_|with_reducible refine andX_i ?_ ?_)<;>conv=>whnf)|with_reducible exact rfl|((with_reducible first|refine xif_kt (by assumption) ?_|refine xif_kf (by assumption) ?_);conv=>whnf)|((with_reducible refine xif_s ?_ ?_)<;>(intro hb;(try simp (disch:=omega) only [hbS] at hb)<;>conv=>whnf)))
                all_goals try (exfalso; omega)
                refine ⟨(mid, hi', t + 1), [0, 1, 2], ⟨by (try dsimp only); omega, by (try dsimp only); omega, by (try dsimp only); omega, f, by (try dsimp only); omega, hRf⟩, ?_, by (try dsimp only); omega⟩
                dsimp only
                ((refine ⟨?_, ?_, ?_, ?_⟩) <;> (repeat' ((conv => whnf); apply And.intro)) <;> (try (first | exact trivial | decide)))
                all_goals first | rfl | exact fun _ _ h => h | (simp [SV.wf, SV.wfs]; done) | trace_state
            · rw [bisG_end oc f lo hi' t (by omega)] at hRf
              dsimp only at hRf
              subst hRf
              (conv=>whnf);repeat' (first|((with_reducible refine isO ?_);first|((first|(refine OpX_build0 tabOk rfl rfl rfl ?_);intro bN|(refine OpX_build tabOk rfl rfl rfl rfl rfl ?_);intro bN);conv=>whnf))|((with_reducible refine isW ?_;first|refine xwr_ok (by omega) (by omega) ?_|refine xwr_raw ?_);conv=>whnf)|((with_reducible refine isQ ?_;first|refine xquo_nn (by omega) (by omega) (by omega) ?_|refine xquo_ok (by omega) (by omega) (by omega) ?_|refine xquo_raw (by omega) ?_);conv=>whnf)|((with_reducible refine need_i ?_ ?_)<;>first|omega|conv=>whnf)|((first|refine DrawX_s tabOk folOk ?_|refine DrawS_i (by kernel_rfl) ?_|with_reducible refine andX_i ?_ ?_)<;>conv=>whnf)|with_reducible exact rfl|((with_reducible first|refine xif_kt (by assumption) ?_|refine xif_kf (by assumption) ?_);conv=>whnf)|((with_reducible refine xif_s ?_ ?_)<;>(intro hb;(try simp (disch:=omega) only [hbS] at hb)<;>conv=>whnf)))
              all_goals try (exfalso; omega)
              all_goals exact Fin_m 0 [] ⟨rfl, by simp [SV.wf, SV.wfs]⟩ trivial (by decide) rfl
        · rw [ho] at kc0
          rw [ho, if_neg (by simp)] at hR2
          subst hR2
          (conv=>whnf);repeat' (first|((with_reducible refine isC ?_);first|(((with_reducible refine isF 26 ?_);((refine CallX_m kc0 [0, 1, 2] rfl ⟨⟨rfl, rfl, by simp [SV.wf, SV.wfs]⟩, ⟨rfl, rfl, by simp [SV.wf, SV.wfs]⟩, ⟨rfl, rfl, rfl, rfl, rfl, rfl⟩, trivial⟩ (by decide) (fun _ _ _ _ => trivial) ?_; intro q0)));conv=>whnf))|((with_reducible refine isO ?_);first|((first|(refine OpX_build0 tabOk rfl rfl rfl ?_);intro bN|(refine OpX_build tabOk rfl rfl rfl rfl rfl ?_);intro bN);conv=>whnf))|((with_reducible refine isW ?_;first|refine xwr_ok (by omega) (by omega) ?_|refine xwr_raw ?_);conv=>whnf)|((with_reducible refine isQ ?_;first|refine xquo_nn (by omega) (by omega) (by omega) ?_|refine xquo_ok (by omega) (by omega) (by omega) ?_|refine xquo_raw (by omega) ?_);conv=>whnf)|((with_reducible refine need_i ?_ ?_)<;>first|omega|conv=>whnf)|((first|refine DrawX_s tabOk folOk ?_|refine DrawS_i (by kernel_rfl) ?_|with_reducible refine andX_i ?_ ?_)<;>conv=>whnf)|with_reducible exact rfl|((with_reducible first|refine xif_kt (by assumption) ?_|refine xif_kf (by assumption) ?_);conv=>whnf)|((with_reducible refine xif_s ?_ ?_)<;>(intro hb;(try simp (disch:=omega) only [hbS] at hb)<;>conv=>whnf)))
          all_goals try (exfalso; omega)
          all_goals exact Fin_m 0 [] ⟨rfl, by simp [SV.wf, SV.wfs]⟩ trivial (by decide) rfl
end Go.Proofs.YtadichckbogcjaaGreatDoor.En
end
section
namespace Go.Proofs.YtadichckbogcjaaGreatDoor.En
open Go.RowKit
set_option maxRecDepth 100000
abbrev S (l : List UInt8) : SV := .v (.string ⟨l.toArray⟩)
def encU (x : UInt8) : List Value := [.int .u8 (x.toNat : Nat)]
theorem encU_flat : ∀ l : List UInt8, (l.map encU).flatten = l.map fun x => Value.int .u8 (x.toNat : Nat)
  | [] => rfl
  | x :: l => by simp [encU, encU_flat l]
section
variable {C : Ctx} {ob : List OB} {k : SV → Prop} {o : Oper} {x y : Operand} {t t' : TypeId}
theorem ValX_sAdd {a b : List UInt8} (ho : o.op = .binOp .add t x y t') (hl : a.length + b.length ≤ 1000000000000) (hk : k (S (a ++ b))) : ValX C o [S a, S b] ob k := by
  unfold ValX
  intro σ fp w ρ hm hx
  rw [ho] at hx
  simp [Op.operands, SV.vals, SV.val] at hx
  refine ⟨_, hk, ?_, by simp [SV.wf, SV.wfs]⟩
  have h := run_string_add_sum (P := C.P) w ⟨a.toArray⟩ ⟨b.toArray⟩ (by simp [ByteArray.size]; omega)
  rw [ByteArray.mk_append_mk] at h
  have hq : (eqGuard .add t x y (.string ⟨a.toArray⟩) (.string ⟨b.toArray⟩)).run C.P w = .ok () w := rfl
  simp only [execOp, ho, hx.1, hx.2, binOp_string_add, Sem.run_bind, hq, h, Result.andThen_ok, Sem.run_pure]
  rfl
theorem ValX_sEq {a b : List UInt8} {r : Bool} (ho : o.op = .binOp .eql t x y t') (ht : C.P.underlying t = some .string) (hr : decide (a = b) = r) (hk : k (.v (.bool r))) : ValX C o [S a, S b] ob k := by
  subst hr
  unfold ValX
  intro σ fp w ρ hm hx
  rw [ho] at hx
  simp [Op.operands, SV.vals, SV.val] at hx
  refine ⟨_, hk, ?_, by simp [SV.wf, SV.wfs]⟩
  have hc : (binOp .eql t (.string ⟨a.toArray⟩) (.string ⟨b.toArray⟩)).run C.P w = .ok (.bool (decide (a = b))) w := by
    rw [binOp_string_eql, ByteArray.toList_mk, ByteArray.toList_mk]
    show Result.ok (Value.bool (a == b)) w = _
    congr 2
    by_cases e : a = b <;> simp [e]
  have hq : (eqGuard .eql t x y (.string ⟨a.toArray⟩) (.string ⟨b.toArray⟩)).run C.P w = .ok () w := by
    unfold eqGuard
    rfl
  simp only [execOp, ho, hx.1, hx.2, Sem.run_bind, hq, hc, Result.andThen_ok, Sem.run_pure]
  rfl
theorem ValX_sLen {a : List UInt8} (ho : o.op = .call ⟨.builtin .len, #[x], #[t]⟩) (ht : C.P.underlying t = some .string) (hk : k (I a.length)) : ValX C o [S a] ob k := by
  unfold ValX
  intro σ fp w ρ hm hx
  rw [ho] at hx
  simp [Op.operands, Call.operands, SV.vals, SV.val] at hx
  refine ⟨_, hk, ?_, by simp [SV.wf, SV.wfs]⟩
  have h := run_len_string (P := C.P) w t o.type ⟨a.toArray⟩ ht
  simp [execOp, ho, resolve, invoke, builtin, hx, h, goInt, ByteArray.size, SV.val]
theorem ValX_sIdx {a : List UInt8} {kd : IntKind} {i : Int} (ho : o.op = .index t x y) (ht : C.P.underlying t = some .string) (h0 : 0 ≤ i) (h1 : i < a.length) (hk : k (.v (.int .u8 ((a.getD i.toNat 0).toNat : Nat)))) : ValX C o [S a, .v (.int kd i)] ob k := by
  unfold ValX
  intro σ fp w ρ hm hx
  rw [ho] at hx
  simp [Op.operands, SV.vals, SV.val] at hx
  refine ⟨_, hk, ?_, by simp [SV.wf, SV.wfs]⟩
  have h := run_index_string (P := C.P) w t ⟨a.toArray⟩ kd i ht
  rw [dif_pos ⟨h0, by simpa [ByteArray.size] using h1⟩] at h
  have e : (ByteArray.mk a.toArray)[i.toNat]'(by simp [ByteArray.size]; omega) = a.getD i.toNat 0 := by
    simp [show i.toNat < a.length by omega]
    rfl
  rw [e] at h
  simp only [execOp, ho, hx.1, hx.2, Sem.run_bind, h, Result.andThen_ok, Sem.run_pure]
  rfl
theorem ValX_toS {A : Option Addr} {n c : Nat} (bs : List UInt8) (ho : o.op = .convert t t' x) {e : TypeId} (ht : C.P.underlying t = some (.slice e)) (he : C.P.underlying e = some (.int .u8)) (ht' : C.P.underlying t' = some .string) (hl : bs.length = n)
    (hA : ∀ σ fp w, Mem C σ fp ob w → ArgSl w A n 1 (bs.map encU)) (hsp : ∀ σ fp w, Mem C σ fp ob w → ∀ a, A = some a → a.spot = none) (hk : k (S bs)) : ValX C o [.v (.slice A n c)] ob k := by
  unfold ValX
  intro σ fp w ρ hm hx
  rw [ho] at hx
  simp [Op.operands, SV.vals, SV.val] at hx
  refine ⟨_, hk, ?_, by simp [SV.wf, SV.wfs]⟩
  have hs : strOfNums (bs.map fun x => ((x.toNat : Nat) : Int)) = ⟨bs.toArray⟩ := by
    have e1 : ∀ x : UInt8, UInt8.ofNat ((x.toNat : Nat) : Int).toNat = x := fun x => by simp
    apply ByteArray.ext
    simp only [strOfNums, List.map_map, Function.comp_def, e1, List.map_id']
  have hc : (convert t t' (.slice A n c)).run C.P w = .ok (.string ⟨bs.toArray⟩) w := by
    by_cases hn : A = none
    · subst hn
      have h0 : n = 0 := by
        by_cases h0 : n = 0
        · exact h0
        · obtain ⟨b, off, h, _⟩ := (hA σ fp w hm).at_ h0
          cases h
      subst h0
      obtain rfl : bs = [] := List.eq_nil_of_length_eq_zero hl
      exact run_convert_bytes_nil w _ e ht he 0 c _ ht'
    · obtain ⟨ad, rfl⟩ := Option.ne_none_iff_exists'.1 hn
      have hspot := hsp σ fp w hm ad rfl
      obtain ⟨b, off, sp⟩ := ad
      simp only at hspot
      subst hspot
      rw [← hs]
      refine run_convert_bytes_arg w t e ht he b off n c _ (by simpa using hl) (fun i hi => ?_) _ ht'
      obtain ⟨b', off', h1, h2⟩ := (hA σ fp w hm).at_ (by omega)
      cases h1
      have := h2 i (encU (bs.getD i 0)) (by rw [List.getElem?_map]; simp [show i < bs.length by omega]) 0 _ rfl
      rw [Nat.mul_one, Nat.add_zero] at this
      rw [this]
      simp [show i < bs.length by omega]
  simp only [execOp, ho, hx, Sem.run_bind, hc, Result.andThen_ok, Sem.run_pure]
  rfl
end
end Go.Proofs.YtadichckbogcjaaGreatDoor.En
end
