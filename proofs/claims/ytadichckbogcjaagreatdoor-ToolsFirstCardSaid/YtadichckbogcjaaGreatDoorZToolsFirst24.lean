import Derived.Test.YtadichckbogcjaaGreatDoorZToolsFirst18
import Derived.Test.YtadichckbogcjaaGreatDoorZToolsFirst23
import Derived.Test.YtadichckbogcjaaGreatDoorZToolsFirst17
import Derived.Test.YtadichckbogcjaaGreatDoorZToolsFirst22
set_option linter.all false
section
namespace Go.Proofs.YtadichckbogcjaaGreatDoor.En
open Go.RowKit
set_option maxRecDepth 100000
end Go.Proofs.YtadichckbogcjaaGreatDoor.En
end
section
namespace Go.Proofs.YtadichckbogcjaaGreatDoor.En
open Go.RowKit
set_option maxRecDepth 100000
theorem ArgN.sc {C : Ctx} {ob : List OB} {b : Nat} {m : List (Int × SlT)} (j : Nat) (k : Int) (h : nth ob j = some (scO b m)) {n : Nat} {r : List Nat} (hr : ∀ i, i < n → r.getD i 0 < ob.length ∧ r.getD i 0 ≠ j) :
    ∀ σ fp w, Mem C σ fp ob w → ArgN w (MOf n fun i => fp (r.getD i 0)) (slOf m k).1 (slOf m k).2.2.length 2 ((slOf m k).2.2.map encBm) := by
  intro σ fp w hm
  refine ⟨ArgSl.sc j k h σ fp w hm, ?_⟩
  rintro hn c o hA ⟨i, hi, hb⟩
  obtain ⟨_, hs, hjl⟩ := nth_sc hm h
  obtain ⟨h6, h7⟩ := hr i hi
  unfold slOf at hn hA
  cases hl : lkI m k with
  | none => rw [hl] at hn; exact hn rfl
  | some v =>
    rw [hl] at hn hA
    exact hm.disj _ j h6 hjl h7 c hb ((hs _ (lkI_mem hl)).2 hn c o none hA)
end Go.Proofs.YtadichckbogcjaaGreatDoor.En
end
section
namespace Go.Proofs.YtadichckbogcjaaGreatDoor.En
open Go.RowKit
set_option maxRecDepth 100000
abbrev ShT := Int × Int × Int
def pick (c : CellT) (k : Int) (l : List EntT) : List ShT := (l.filter fun e => decide (e.cell = c)).map fun e => (k, e.2.2.1, e.2.2.2)
end Go.Proofs.YtadichckbogcjaaGreatDoor.En
end
section
namespace Go.Proofs.YtadichckbogcjaaGreatDoor.En
open Go.RowKit
set_option maxRecDepth 100000
theorem met_len4 {at_ : PoseT} {b : BeamT} (h3 : -1 ≤ b.2 ∧ b.2 ≤ 1024) : (metL (at_.1, at_.2.1) (beamF at_.2.2 b.1) b).length ≤ 4000 := by
  have hv := beam_vec at_.2.2 b.1
  have hr : 0 ≤ reachB b ∧ reachB b ≤ 1024 := by
    unfold reachB
    split <;> omega
  simp only [vecB, Bool.and_eq_true, vecIn_iff] at hv
  generalize beamF at_.2.2 b.1 = v at *
  have b1 := reach_bd (a := at_.1) (b := at_.1) (n := v.1) (d := v.2.2) (lo := 0) (hi := reachB b) (by omega) (by omega) (by omega) (by omega) (by omega)
  have b2 := reach_bd (a := at_.2.1) (b := at_.2.1) (n := v.2.1) (d := v.2.2) (lo := 0) (hi := reachB b) (by omega) (by omega) (by omega) (by omega) (by omega)
  unfold metL tracedL sweepL
  have hx : (swX (ptR (at_.1, at_.2.1)) v 0 (reachB b)).2 - (swX (ptR (at_.1, at_.2.1)) v 0 (reachB b)).1 + 1 ≤ 40 := by
    unfold swX spanF ptR
    dsimp only
    omega
  have hy : (swY (ptR (at_.1, at_.2.1)) v 0 (reachB b)).2 - (swY (ptR (at_.1, at_.2.1)) v 0 (reachB b)).1 + 1 ≤ 40 := by
    unfold swY spanF ptR
    dsimp only
    omega
  have := outK_len (hitR (ptR (at_.1, at_.2.1)) v 0 (reachB b)) (swX (ptR (at_.1, at_.2.1)) v 0 (reachB b)).1 (swY (ptR (at_.1, at_.2.1)) v 0 (reachB b)).1 ((swX (ptR (at_.1, at_.2.1)) v 0 (reachB b)).2 - (swX (ptR (at_.1, at_.2.1)) v 0 (reachB b)).1 + 1).toNat (by omega) ((swY (ptR (at_.1, at_.2.1)) v 0 (reachB b)).2 - (swY (ptR (at_.1, at_.2.1)) v 0 (reachB b)).1 + 1).toNat
  omega
theorem of_okT4 {at_ : PoseT} {s : List BeamT} (hs : scanB s = true) : ∀ k, k ≤ s.length → OkT (k * 4000) ((s.take k).foldl (beamT at_) [])
  | 0, _ => by simpa using OkT.nil
  | k + 1, hk => by
    have ih := of_okT4 (at_ := at_) hs k (by omega)
    rw [fold_take (d := b0) _ _ (by omega)]
    obtain ⟨_, _, _, q1, q2⟩ := scan_ok hs (k := k) (by omega)
    have hl := met_len4 (at_ := at_) (b := s.getD k b0) ⟨q1, q2⟩
    exact (ih.steps _ _).mono (by omega)
def GoodN (N : Nat) (l : List EntT) : Prop := vE l = true ∧ l.length ≤ N ∧ ∀ c, (0 ≤ (valT l c).1 ∧ (valT l c).1 ≤ N) ∧ 0 ≤ (valT l c).2 ∧ (valT l c).2 ≤ N
theorem GoodN.nil (N : Nat) : GoodN N [] := by
  refine ⟨vE_nil, by simp, fun c => ?_⟩
  rw [valT_none (L := []) (by simp)]
  dsimp only
  omega
theorem ofE_good (at_ : PoseT) (s : List BeamT) : GoodN (s.length * 4000) (ofE at_ s).1 := by
  cases hk : ofOk at_ s with
  | false =>
    have : (ofE at_ s).1 = [] := by
      unfold ofE
      rw [hk]
      rfl
    rw [this]
    exact GoodN.nil _
  | true =>
    obtain ⟨hr, hv⟩ := ofE_rep hk
    obtain ⟨_, _, hs⟩ := ofOk_bd hk
    have ho := of_okT4 (at_ := at_) hs s.length (Nat.le_refl _)
    rw [List.take_length] at ho
    have ho : OkT (s.length * 4000) (ofL at_ s) := ho
    refine ⟨hv, ?_, fun c => ?_⟩
    · have e : (ofE at_ s).1 = lstF (ofL at_ s) := by
        unfold ofE
        rw [hk]
        rfl
      rw [e]
      unfold lstF
      rw [List.length_mergeSort]
      exact Nat.le_trans (List.length_filter_le _ _) ho.len
    · rw [hr.val c, ← of_val]
      have := bd_get (K := ((s.length * 4000 : Nat) : Int)) (by omega) ho.bd c
      unfold valT
      dsimp only
      omega
theorem addT_len (L : List EntT) (c : CellT) (a p : Int) : (addT L c a p).length ≤ L.length + 1 := setT_len _ _
theorem combL_len (f : Int) (a b : List EntT) : (combL f a b).length ≤ a.length + b.length := by
  unfold combL
  have h1 : ∀ (a L : List EntT), (a.foldl addE L).length ≤ L.length + a.length := by
    intro a
    induction a with
    | nil => intro L; simp
    | cons e a ih =>
      intro L
      have h2 := ih (addE L e)
      have h3 := addT_len L e.cell e.2.2.1 e.2.2.2
      have h4 : (addE L e).length ≤ L.length + 1 := h3
      simp only [List.foldl_cons, List.length_cons]
      omega
  have h2 : ∀ (b L : List EntT), (b.foldl (adF f) L).length ≤ L.length + b.length := by
    intro b
    induction b with
    | nil => intro L; simp
    | cons e b ih =>
      intro L
      have h2 := ih (adF f L e)
      have h3 := addT_len L e.cell (f * e.2.2.1) (f * e.2.2.2)
      have h4 : (adF f L e).length ≤ L.length + 1 := h3
      simp only [List.foldl_cons, List.length_cons]
      omega
  have h3 := h1 a []
  have h4 := h2 b (a.foldl addE [])
  simp only [List.length_nil] at h3
  omega
theorem GoodN.comb {N M : Nat} {a b : List EntT} (ha : GoodN N a) (hb : GoodN M b) (h : N + M ≤ 1048576) : (combE 1 a b).2 = 0 ∧ GoodN (N + M) (combE 1 a b).1 ∧ ∀ c, valT (combE 1 a b).1 c = ((valT a c).1 + (valT b c).1, (valT a c).2 + (valT b c).2) := by
  have hr := rep_comb 1 ha.1 hb.1
  have hlen : (lstF (combL 1 a b)).length ≤ N + M := by
    unfold lstF
    rw [List.length_mergeSort]
    have h1 := combL_len 1 a b
    have h2 := List.length_filter_le (fun e => !zeroE e) (combL 1 a b)
    have h3 := ha.2.1
    have h4 := hb.2.1
    omega
  have hcode : (combE 1 a b).2 = 0 := by
    rw [comb_def ha.1 hb.1]
    have h1 : ((lstF (combL 1 a b)).any fun e => !countB e) = false := by
      rw [List.any_eq_false]
      intro x hx
      obtain ⟨_, hv⟩ := (hr.2 x).1 hx
      have h1 := ha.2.2 x.cell
      have h2 := hb.2.2 x.cell
      unfold sumV at hv
      simp only [Prod.mk.injEq, Int.one_mul] at hv
      simp only [countB, szB, Bool.not_eq_true', Bool.and_eq_false_iff, decide_eq_false_iff_not]
      omega
    rw [h1, if_neg (by simp), if_neg (by omega)]
  have hv : ∀ c, valT (combE 1 a b).1 c = ((valT a c).1 + (valT b c).1, (valT a c).2 + (valT b c).2) := by
    intro c
    rw [comb_val hcode]
    unfold sumV
    simp only [Int.one_mul]
  refine ⟨hcode, ⟨comb_vE hcode, by rw [(comb_code hcode).2.2.1]; exact hlen, fun c => ?_⟩, hv⟩
  rw [hv]
  have h1 := ha.2.2 c
  have h2 := hb.2.2 c
  dsimp only
  omega
theorem GoodN.mono {N M : Nat} {a : List EntT} (h : GoodN N a) (hm : N ≤ M) : GoodN M a :=
  ⟨h.1, Nat.le_trans h.2.1 hm, fun c => by have := h.2.2 c; omega⟩
section
variable (pt : Int → List EntT) (wt : Int → Nat)
def mapG (ids : List Int) (o : List EntT) : List EntT := ids.foldl (fun o k => (combE 1 o (pt k)).1) o
def valG (ids : List Int) (c : CellT) : Int × Int := ((ids.map fun k => (valT (pt k) c).1).sum, (ids.map fun k => (valT (pt k) c).2).sum)
def wG (ids : List Int) : Nat := (ids.map wt).sum
theorem mapG_good (hp : ∀ k, GoodN (wt k) (pt k)) : ∀ (ids : List Int) {N : Nat} {o : List EntT}, GoodN N o → N + wG wt ids ≤ 1048576 →
    GoodN (N + wG wt ids) (mapG pt ids o) ∧ ∀ c, valT (mapG pt ids o) c = ((valT o c).1 + (valG pt ids c).1, (valT o c).2 + (valG pt ids c).2)
  | [], N, o, ho, _ => by
    refine ⟨by simpa [wG, mapG] using ho, fun c => ?_⟩
    simp [valG, mapG]
  | k :: ids, N, o, ho, h => by
    have hw : wG wt (k :: ids) = wt k + wG wt ids := by simp [wG]
    rw [hw] at h ⊢
    obtain ⟨_, h2, h3⟩ := ho.comb (hp k) (by omega)
    obtain ⟨h4, h5⟩ := mapG_good hp ids h2 (by omega)
    refine ⟨by rw [← Nat.add_assoc]; exact h4, fun c => ?_⟩
    have e : mapG pt (k :: ids) o = mapG pt ids (combE 1 o (pt k)).1 := rfl
    rw [e, h5, h3]
    unfold valG
    simp only [List.map_cons, List.sum_cons]
    refine Prod.ext ?_ ?_ <;> (dsimp only; omega)
variable {pt wt}
theorem sum_sub {f : Int → Nat} {l m : List Int} (h : l.Sublist m) : (l.map f).sum ≤ (m.map f).sum := by
  induction h with
  | slnil => simp
  | cons _ _ ih => simp only [List.map_cons, List.sum_cons]; omega
  | cons_cons _ _ ih => simp only [List.map_cons, List.sum_cons]; omega
end
end Go.Proofs.YtadichckbogcjaaGreatDoor.En
end
section
namespace Go.Proofs.YtadichckbogcjaaGreatDoor.En
open Go.RowKit
set_option maxRecDepth 100000
theorem at_val {l : List EntT} (h : vE l = true) (c : CellT) : atE l c = (c.1, c.2, (valT l c).1, (valT l c).2) := by
  rw [atE_eq, if_pos h]
  rcases getF_mem l c with ⟨h1, h2⟩ | ⟨h1, h2⟩
  · have hv := mem_val (asc_ne (vE_pairwise h)) h1
    rw [h2] at hv
    rw [hv]
    have e1 : (getF l c).1 = c.1 := congrArg Prod.fst h2
    have e2 : (getF l c).2.1 = c.2 := congrArg Prod.snd h2
    rw [← e1, ← e2]
  · rw [h1, valT_none h2]
end Go.Proofs.YtadichckbogcjaaGreatDoor.En
end
section
namespace Go.Proofs.YtadichckbogcjaaGreatDoor.En
open Go.RowKit
set_option maxRecDepth 100000
def p0B : PoseT := (0, 0, 0)
def ptBi (ps : List PoseT) (ss : List BmsT) (k : Int) : List EntT := (ofE (ps.getD k.toNat p0B) (ss.getD k.toNat [])).1
def wtBi (ss : List BmsT) (k : Int) : Nat := (ss.getD k.toNat []).length * 4000
def rngI (n : Nat) : List Int := (List.range n).map fun i : Nat => (i : Int)
def totB (ps : List PoseT) (ss : List BmsT) (n : Nat) : List EntT := mapG (ptBi ps ss) (rngI n) []
theorem totB_succ (ps : List PoseT) (ss : List BmsT) (n : Nat) : totB ps ss (n + 1) = (combE 1 (totB ps ss n) (ptBi ps ss n)).1 := by
  unfold totB mapG rngI
  rw [List.range_succ, List.map_append, List.foldl_append]
  rfl
def sumB2 (ps : List PoseT) (ss : List BmsT) (c : CellT) (n : Nat) : Int × Int := valG (ptBi ps ss) (rngI n) c
theorem sumB2_succ (ps : List PoseT) (ss : List BmsT) (c : CellT) (n : Nat) : sumB2 ps ss c (n + 1) = ((sumB2 ps ss c n).1 + (valT (ptBi ps ss n) c).1, (sumB2 ps ss c n).2 + (valT (ptBi ps ss n) c).2) := by
  unfold sumB2 valG rngI
  rw [List.range_succ, List.map_append, List.map_append, List.sum_append, List.map_append, List.sum_append]
  simp
theorem tot_spec {ps : List PoseT} {ss : List BmsT} {N : Nat} (hw : wG (wtBi ss) (rngI N) ≤ 1048576) {n : Nat} (hn : n ≤ N) :
    GoodN 1048576 (totB ps ss n) ∧ ∀ c, valT (totB ps ss n) c = sumB2 ps ss c n := by
  have hs : wG (wtBi ss) (rngI n) ≤ wG (wtBi ss) (rngI N) := by
    unfold wG rngI
    exact sum_sub ((List.range_sublist.2 hn).map _)
  obtain ⟨h1, h2⟩ := mapG_good (ptBi ps ss) (wtBi ss) (fun k => ofE_good _ _) (rngI n) (GoodN.nil 0) (by omega)
  refine ⟨h1.mono (by omega), fun c => ?_⟩
  have := h2 c
  rw [valT_none (L := []) (by simp)] at this
  unfold totB sumB2
  rw [this]
  simp
def ocB (ps : List PoseT) (ss : List BmsT) (c : CellT) (n : Nat) : Bool := decide (128 ≤ valueF (c.1, c.2, (sumB2 ps ss c n).1, (sumB2 ps ss c n).2))
theorem at_tot {ps : List PoseT} {ss : List BmsT} {N : Nat} (hw : wG (wtBi ss) (rngI N) ≤ 1048576) {n : Nat} (hn : n ≤ N) (c : CellT) :
    atE (totB ps ss n) c = (c.1, c.2, (sumB2 ps ss c n).1, (sumB2 ps ss c n).2) := by
  obtain ⟨h1, h2⟩ := tot_spec (ps := ps) hw hn
  rw [at_val h1.1, h2]
def bisG (p : Nat → Bool) : Nat → Nat → Nat → Nat → Nat × Nat
  | 0, _, hi, t => (hi, t)
  | f + 1, lo, hi, t => if 1 < hi - lo then (if p ((lo + hi) / 2) then bisG p f lo ((lo + hi) / 2) (t + 1) else bisG p f ((lo + hi) / 2) hi (t + 1)) else (hi, t)
theorem bisG_end (p : Nat → Bool) (f lo hi t : Nat) (h : hi - lo ≤ 1) : bisG p f lo hi t = (hi, t) := by
  cases f with
  | zero => rfl
  | succ f => rw [bisG, if_neg (by omega)]
theorem bisG_ok (p : Nat → Bool) : ∀ (f lo hi t : Nat), hi - lo ≤ f → lo < hi → p hi = true → (lo = 0 ∨ p lo = false) →
    p (bisG p f lo hi t).1 = true ∧ lo < (bisG p f lo hi t).1 ∧ (bisG p f lo hi t).1 ≤ hi ∧ ((bisG p f lo hi t).1 = 1 ∨ p ((bisG p f lo hi t).1 - 1) = false)
  | 0, lo, hi, t, h, h1, _, _ => by omega
  | f + 1, lo, hi, t, h, h1, h2, h3 => by
    rw [bisG]
    split
    · split
      · rename_i hp
        obtain ⟨a, b, c, d⟩ := bisG_ok p f lo ((lo + hi) / 2) (t + 1) (by omega) (by omega) hp h3
        exact ⟨a, b, by omega, d⟩
      · rename_i hp
        obtain ⟨a, b, c, d⟩ := bisG_ok p f ((lo + hi) / 2) hi (t + 1) (by omega) (by omega) h2 (.inr (by simpa using hp))
        exact ⟨a, by omega, c, d⟩
    · refine ⟨h2, h1, Nat.le_refl _, ?_⟩
      have e : lo = hi - 1 := by omega
      rcases h3 with h3 | h3
      · left; dsimp only; omega
      · right; dsimp only; rw [← e]; exact h3
theorem bisG_turns (p : Nat → Bool) : ∀ (f lo hi t d : Nat), hi - lo ≤ 2 ^ d → (bisG p f lo hi t).2 ≤ t + d
  | 0, lo, hi, t, d, _ => Nat.le_add_right _ _
  | f + 1, lo, hi, t, d, h => by
    rw [bisG]
    split
    · obtain ⟨e, rfl⟩ : ∃ e, d = e + 1 := by
        cases d with
        | zero => simp at h; omega
        | succ e => exact ⟨e, rfl⟩
      rw [Nat.pow_succ] at h
      split
      · have := bisG_turns p f lo ((lo + hi) / 2) (t + 1) e (by omega)
        omega
      · have := bisG_turns p f ((lo + hi) / 2) hi (t + 1) e (by omega)
        omega
    · exact Nat.le_add_right _ _
end Go.Proofs.YtadichckbogcjaaGreatDoor.En
end
section
namespace Go.Proofs.YtadichckbogcjaaGreatDoor.En
open Go.RowKit
set_option maxRecDepth 100000
def s0T : SlT := (none, 0, [])
def lenS (s : SlT) : Int := min (s.2.2.length : Int) 1000
def shortB (l : List SlT) : Bool := decide (l.length ≤ 70) && decide (((l.take 100).map lenS).sum ≤ 80)
theorem short_next {l : List SlT} {k : Nat} (hk : k < l.length) : ((l.take (k + 1)).map lenS).sum = ((l.take k).map lenS).sum + lenS (l.getD k s0T) := by
  have e : l.getD k s0T = l[k] := by simp [hk]
  rw [List.take_succ_eq_append_getElem hk, e, List.map_append, List.sum_append]
  simp only [List.map_cons, List.map_nil, List.sum_cons, List.sum_nil, Int.add_zero]
theorem short_bd (l : List SlT) : ∀ k : Nat, 0 ≤ ((l.take k).map lenS).sum ∧ ((l.take k).map lenS).sum ≤ 1000 * k := by
  intro k
  induction k with
  | zero => simp
  | succ k ih =>
    by_cases hk : k < l.length
    · rw [short_next hk]
      unfold lenS at *
      omega
    · rw [List.take_of_length_le (by omega)]
      rw [List.take_of_length_le (by omega)] at ih
      omega
theorem short_w (A : Option Addr) (c : Nat) (l : List SlT) {n : Nat} (hl : l.length = n) (hn : n ≤ maxLen) :
    CallW Tryz.prog 8 [.v (.slice A n c)] (fun w => ArgSl w A n 1 (l.map fun s => [encS s]) ∧ ∀ o ∈ l, o.2.2.length ≤ maxLen) (B (shortB l)) := by
  unfold maxLen at hn
  refine CallW.of Tryz.func8 rfl tabOk rfl rfl rfl (by simp [SV.wfs, SV.wf]) (by simp [SV.wfs, SV.wf]) fun w hpre => ?_
  obtain ⟨hpre, hlen⟩ := hpre
  (conv=>whnf);repeat' (first|((with_reducible refine isW ?_;first|refine xwr_ok (by omega) (by omega) ?_|refine xwr_raw ?_);conv=>whnf)|with_reducible exact rfl|((with_reducible first|refine xif_kt (by assumption) ?_|refine xif_kf (by assumption) ?_);conv=>whnf)|((with_reducible refine xif_s ?_ ?_)<;>(intro hb;(try simp (disch:=omega) only [hbS] at hb)<;>conv=>whnf)))
  refine LoopX_inv tabOk (α := Nat) (fun k => k ≤ n ∧ k ≤ 100) (fun k => [(0, .v (.slice A n c)), (3, I ((l.take k).map lenS).sum), (4, I k)]) (fun _ => []) (fun k => n - k) 0 [] ⟨Nat.zero_le _, Nat.zero_le _⟩ ?_ ?_
  · ((refine ⟨?_, ?_, ?_, ?_⟩) <;> (repeat' ((conv => whnf); apply And.intro)) <;> (try (first | exact trivial | decide)))
    all_goals first | rfl | exact fun _ _ h => h | (simp [SV.wf, SV.wfs]; done) | trace_state
  · rintro k ⟨hk, hk2⟩
    have hbk := short_bd l k
    by_cases hlt : k < n
    · by_cases hlt2 : k < 100
      · have hnx := short_next (l := l) (k := k) (by omega)
        have hol := hlen (l.getD k s0T) (by simp [show k < l.length by omega])
        unfold maxLen at hol
        have hlf : lenS (l.getD k s0T) = min ((l.getD k s0T).2.2.length : Int) 1000 := rfl
        rw [hlf] at hnx
        generalize ((l.take k).map lenS).sum = u at *
        (conv=>whnf);repeat' (first|((with_reducible refine isV ?_);first|((first|refine ValX_index tabOk rfl (hpre.mem (by decide) rfl) rfl ?_ ?_ ?_|(with_reducible refine nat_idx ?_);refine ValX_load1n _ _ (s0T) tabOk rfl rfl rfl (hpre.mem (by decide) rfl) ?_ ?_ ?_|refine ValX_load1 _ _ (s0T) tabOk rfl rfl rfl (hpre.mem (by decide) rfl) ?_ ?_ ?_)<;>first|rfl|omega|with_reducible refine isP ?_|conv=>whnf))|((with_reducible refine isW ?_;first|refine xwr_ok (by omega) (by omega) ?_|refine xwr_raw ?_);conv=>whnf)|with_reducible exact rfl|((with_reducible first|refine xif_kt (by assumption) ?_|refine xif_kf (by assumption) ?_);conv=>whnf)|((with_reducible refine xif_s ?_ ?_)<;>(intro hb;(try simp (disch:=omega) only [hbS] at hb)<;>conv=>whnf)))
        all_goals try (exfalso; omega)
        refine ⟨k + 1, [], ⟨by (try dsimp only); omega, by (try dsimp only); omega⟩, ?_, by (try dsimp only); omega⟩
        dsimp only
        rw [hnx]
        ((refine ⟨?_, ?_, ?_, ?_⟩) <;> (repeat' ((conv => whnf); apply And.intro)) <;> (try (first | exact trivial | decide)))
        all_goals first | rfl | exact fun _ _ h => h | (simp [SV.wf, SV.wfs]; done) | trace_state
      · obtain rfl : k = 100 := by omega
        have hf : shortB l = (decide (l.length ≤ 70) && decide (((l.take 100).map lenS).sum ≤ 80)) := rfl
        rw [hf]
        generalize ((l.take 100).map lenS).sum = u at *
        (conv=>whnf);repeat' (first|((with_reducible refine isW ?_;first|refine xwr_ok (by omega) (by omega) ?_|refine xwr_raw ?_);conv=>whnf)|with_reducible exact rfl|((with_reducible first|refine xif_kt (by assumption) ?_|refine xif_kf (by assumption) ?_);conv=>whnf)|((with_reducible refine xif_s ?_ ?_)<;>(intro hb;(try simp (disch:=omega) only [hbS] at hb)<;>conv=>whnf)))
        all_goals try (exfalso; omega)
        all_goals refine Fin_pure rfl (B_eq ?_) trivial
        all_goals simp
        all_goals omega
    · obtain rfl : k = n := by omega
      by_cases h100 : k ≤ 100
      · have hf : shortB l = (decide (l.length ≤ 70) && decide (((l.take k).map lenS).sum ≤ 80)) := by
          unfold shortB
          rw [List.take_of_length_le (show l.length ≤ 100 by omega), List.take_of_length_le (by omega)]
        rw [hf]
        generalize ((l.take k).map lenS).sum = u at *
        (conv=>whnf);repeat' (first|((with_reducible refine isW ?_;first|refine xwr_ok (by omega) (by omega) ?_|refine xwr_raw ?_);conv=>whnf)|with_reducible exact rfl|((with_reducible first|refine xif_kt (by assumption) ?_|refine xif_kf (by assumption) ?_);conv=>whnf)|((with_reducible refine xif_s ?_ ?_)<;>(intro hb;(try simp (disch:=omega) only [hbS] at hb)<;>conv=>whnf)))
        all_goals try (exfalso; omega)
        all_goals refine Fin_pure rfl (B_eq ?_) trivial
        all_goals simp
        all_goals omega
      · omega
end Go.Proofs.YtadichckbogcjaaGreatDoor.En
end
section
namespace Go.Proofs.YtadichckbogcjaaGreatDoor.En
open Go.RowKit
set_option maxRecDepth 100000
def encPs (p : PoseT) : List Value := [.int .i64 p.1, .int .i64 p.2.1, .int .i64 p.2.2]
def scsN (w : World) (M : Nat → Prop) (A : Option Addr) (n : Nat) (ss : List SlT) : Prop := ArgN w M A n 1 (ss.map fun s => [encS s]) ∧ ∀ s ∈ ss, ArgN w M s.1 s.2.2.length 2 (s.2.2.map encBm) ∧ s.2.2.length ≤ maxLen
abbrev bmsOf (ss : List SlT) : List BmsT := ss.map fun s => s.2.2
theorem bms_at {ss : List SlT} {k : Nat} (hk : k < ss.length) : (bmsOf ss).getD k [] = (ss.getD k s0T).2.2 := by simp [bmsOf, hk]
theorem ptBi_at (ps : List PoseT) {ss : List SlT} {k : Nat} (hk : k < ss.length) : ptBi ps (bmsOf ss) k = (ofE (ps.getD k p0B) (ss.getD k s0T).2.2).1 := by
  unfold ptBi
  rw [show ((k : Int)).toNat = k by omega, bms_at hk]
theorem totB_len (ps : List PoseT) (ss : List BmsT) (n : Nat) : (totB ps ss n).length ≤ 1048576 := by
  cases n with
  | zero => exact Nat.zero_le _
  | succ n =>
    rw [totB_succ]
    exact comb_len _ _ _
set_option maxHeartbeats 4000000 in
theorem totalL_m (A : Option Addr) (c : Nat) (ps : List PoseT) (A2 : Option Addr) (c2 : Nat) (ss : List SlT) {n : Nat} (hl : ps.length = n) (hl2 : ss.length = n) (hn : n ≤ maxLen) (k : Nat) (hk : k ≤ n) :
    CallM Tryz.prog 13 [.v (.slice A n c), .v (.slice A2 n c2), I k] (fun w M => ArgN w M A n 3 (ps.map encPs) ∧ scsN w M A2 n ss) []
      (fun q : Option Addr × Nat => .v (.slice q.1 (totB ps (bmsOf ss) k).length q.2)) (fun q => [.row 34 4 q.1 (totB ps (bmsOf ss) k).length q.2 ((totB ps (bmsOf ss) k).map encE)]) := by
  have h0 : totB ps (bmsOf ss) 0 = [] := rfl
  have hml : ∀ t, (totB ps (bmsOf ss) t).length ≤ 1048576 := fun t => totB_len _ _ _
  have hnx := totB_succ ps (bmsOf ss)
  unfold maxLen at hn
  refine CallM.of (m := 0) Tryz.func13 rfl tabOk rfl rfl rfl rfl (by simp [SV.wfs, SV.wf]) fun w M π hpre => ?_
  obtain ⟨hp1, hp2, hp3⟩ := hpre
  generalize hT : totB ps (bmsOf ss) = T at *
  (conv=>whnf);repeat' (first|((with_reducible refine isW ?_;first|refine xwr_ok (by omega) (by omega) ?_|refine xwr_raw ?_);conv=>whnf)|((first|refine DrawX_s tabOk folOk ?_|refine DrawS_i (by kernel_rfl) ?_|with_reducible refine andX_i ?_ ?_)<;>conv=>whnf)|with_reducible exact rfl|((with_reducible first|refine xif_kt (by assumption) ?_|refine xif_kf (by assumption) ?_);conv=>whnf)|((with_reducible refine xif_s ?_ ?_)<;>(intro hb;(try simp (disch:=omega) only [hbS] at hb)<;>conv=>whnf)))
  refine LoopX_addNil 34 4 ?_
  conv => whnf
  refine LoopX_inv tabOk (α := Nat × Option Addr × Nat) (fun s => s.1 ≤ k) (fun s => [(0, .v (.slice A n c)), (1, .v (.slice A2 n c2)), (2, I k), (7, .v (.slice s.2.1 (T s.1).length s.2.2)), (8, I s.1)])
    (fun s => [.row 34 4 s.2.1 (T s.1).length s.2.2 ((T s.1).map encE)]) (fun s => k - s.1) (0, none, 0) [0] (Nat.zero_le _) ?_ ?_
  · dsimp only
    rw [h0]
    ((refine ⟨?_, ?_, ?_, ?_⟩) <;> (repeat' ((conv => whnf); apply And.intro)) <;> (try (first | exact trivial | decide)))
    all_goals first | rfl | exact fun _ _ h => h | (simp [SV.wf, SV.wfs]; done) | trace_state
  · rintro ⟨i, B, d⟩ hi
    dsimp only at hi ⊢
    by_cases hlt : i < k
    · have hsc := hp3 (ss.getD i s0T) (by simp [show i < ss.length by omega])
      have ko := rOf_m (ps.getD i p0B) (ss.getD i s0T).1 (ss.getD i s0T).2.1 (ss.getD i s0T).2.2 rfl hsc.2
      have hni := hnx i
      have hpi := ptBi_at ps (ss := ss) (k := i) (by omega)
      rw [hpi] at hni
      have hmt := hml i
      have hlo := ofE_len (ps.getD i p0B) (ss.getD i s0T).2.2
      clear hml hnx h0 hpi
      generalize T i = o at *
      generalize hoe : (ofE (ps.getD i p0B) (ss.getD i s0T).2.2) = oe at *
      obtain ⟨p, ec⟩ := oe
      dsimp only at ko hlo hni
      (conv=>whnf);repeat' (first|((with_reducible refine isC ?_);first|((first|(with_reducible refine isF 28 ?_);((refine CallX_m ko [] rfl trivial (by decide) (ArgN.on hsc.1 (by decide) (m := 0) (fun j hj => by omega)) ?_; intro r3; obtain ⟨A3, c3⟩ := r3; dsimp only))|(with_reducible refine isF 34 ?_);((refine CallX_m (rAdd_m B A3 d c3 o p rfl rfl (by unfold maxLen; omega) (by unfold maxLen; omega)) [] rfl trivial (by decide) (fun σ fp w hm => ⟨ArgN.row 0 rfl (m := 0) (fun j hj => by omega) σ fp w hm, ArgN.row 1 rfl (m := 0) (fun j hj => by omega) σ fp w hm⟩) ?_; intro r4; obtain ⟨A4, c4⟩ := r4; dsimp only)));conv=>whnf))|((with_reducible refine isV ?_);first|((first|refine ValX_index tabOk rfl (ArgN.mem hp1 (by decide)) rfl ?_ ?_ ?_|(with_reducible refine nat_idx ?_);refine ValX_loadEn _ _ (p0B) tabOk rfl rfl rfl rfl (ArgN.mem hp1 (by decide)) ?_ ?_ ?_|refine ValX_loadE _ _ (p0B) tabOk rfl rfl rfl rfl (ArgN.mem hp1 (by decide)) ?_ ?_ ?_|refine ValX_index tabOk rfl (ArgN.mem hp2 (by decide)) rfl ?_ ?_ ?_|(with_reducible refine nat_idx ?_);refine ValX_load1n _ _ (s0T) tabOk rfl rfl rfl (ArgN.mem hp2 (by decide)) ?_ ?_ ?_|refine ValX_load1 _ _ (s0T) tabOk rfl rfl rfl (ArgN.mem hp2 (by decide)) ?_ ?_ ?_)<;>first|rfl|omega|with_reducible refine isP ?_|conv=>whnf))|((with_reducible refine isW ?_;first|refine xwr_ok (by omega) (by omega) ?_|refine xwr_raw ?_);conv=>whnf)|((first|refine DrawX_s tabOk folOk ?_|refine DrawS_i (by kernel_rfl) ?_|with_reducible refine andX_i ?_ ?_)<;>conv=>whnf)|with_reducible exact rfl|((with_reducible first|refine xif_kt (by assumption) ?_|refine xif_kf (by assumption) ?_);conv=>whnf)|((with_reducible refine xif_s ?_ ?_)<;>(intro hb;(try simp (disch:=omega) only [hbS] at hb)<;>conv=>whnf)))
      all_goals try (exfalso; omega)
      refine ⟨(i + 1, A4, c4), [2], by (try dsimp only); omega, ?_, by (try dsimp only); omega⟩
      dsimp only
      rw [hni]
      ((refine ⟨?_, ?_, ?_, ?_⟩) <;> (repeat' ((conv => whnf); apply And.intro)) <;> (try (first | exact trivial | decide)))
      all_goals first | rfl | exact fun _ _ h => h | (simp [SV.wf, SV.wfs]; done) | trace_state
    · obtain rfl : i = k := by omega
      (conv=>whnf);repeat' (first|((with_reducible refine isW ?_;first|refine xwr_ok (by omega) (by omega) ?_|refine xwr_raw ?_);conv=>whnf)|((first|refine DrawX_s tabOk folOk ?_|refine DrawS_i (by kernel_rfl) ?_|with_reducible refine andX_i ?_ ?_)<;>conv=>whnf)|with_reducible exact rfl|((with_reducible first|refine xif_kt (by assumption) ?_|refine xif_kf (by assumption) ?_);conv=>whnf)|((with_reducible refine xif_s ?_ ?_)<;>(intro hb;(try simp (disch:=omega) only [hbS] at hb)<;>conv=>whnf)))
      all_goals try (exfalso; omega)
      exact Fin_m (B, d) [0] ⟨rfl, by simp [SV.wf, SV.wfs]⟩ ⟨⟨rfl, rfl, rfl, rfl, rfl, rfl⟩, trivial⟩ (by decide) rfl
end Go.Proofs.YtadichckbogcjaaGreatDoor.En
end
