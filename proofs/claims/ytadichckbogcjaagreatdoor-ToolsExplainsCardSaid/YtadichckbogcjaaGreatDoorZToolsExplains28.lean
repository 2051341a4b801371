import Derived.Test.YtadichckbogcjaaGreatDoorZToolsExplains22
import Derived.Test.YtadichckbogcjaaGreatDoorZToolsExplains27
import Derived.Test.YtadichckbogcjaaGreatDoorZToolsExplains19
import Derived.Test.YtadichckbogcjaaGreatDoorZToolsExplains20
set_option linter.all false
section
namespace Go.Proofs.YtadichckbogcjaaGreatDoor.En
open Go.RowKit
set_option maxRecDepth 100000
set_option maxHeartbeats 2000000 in
theorem rPart_m (b : Nat) (r : RfT) (k : Int) (hok : okR r) :
    CallM Tryz.prog 41 [pR b, I k] (fun _ _ => True) [rfO b r]
      (fun q : Option Addr × Nat => .v (.slice q.1 (partA (absR r) k).length q.2)) (fun q => [rfO b r, .row 34 4 q.1 (partA (absR r) k).length q.2 ((partA (absR r) k).map encE)]) := by
  have ks := rScan_m b r k hok
  have kw := rWhere_m b r k hok
  have hread := fun {C : Ctx} {ob : List OB} (h : nth ob 0 = some (rfO b r)) => rs_read hok (C := C) (ob := ob) 0 k h
  have h32 : (rsOf r k).2.2.length ≤ 32 := by
    unfold rsOf
    split
    · have := (hok k).1
      unfold scanB at this
      simp only [Bool.and_eq_true, decide_eq_true_eq] at this
      omega
    · simp
  have hp : partA (absR r) k = if r.h k && rpB r k && !(r.p k).2.1 then (ofE (r.p k).2.2 (rsOf r k).2.2).1 else [] := by
    unfold partA absR rpB rsOf
    dsimp only
    cases hh : r.h k with
    | false => rfl
    | true =>
      by_cases h0 : (r.p k).1 = 0
      · rw [if_pos h0, decide_eq_true h0]
        rfl
      · rw [if_neg h0, decide_eq_false h0]
        show (if (r.p k).2.1 = true then [] else (ofE (r.p k).2.2 (r.s k).2.2).1) = if (true && !false && !(r.p k).2.1) = true then (ofE (r.p k).2.2 (r.s k).2.2).1 else []
        rcases Bool.eq_false_or_eq_true (r.p k).2.1 with hg | hg <;> rw [hg] <;> rfl
  have hl := ofE_len (r.p k).2.2 (rsOf r k).2.2
  rw [hp]
  have hof := fun (A : Option Addr) (c : Nat) => rOf_m (r.p k).2.2 A c (rsOf r k).2.2 rfl (by unfold maxLen; omega)
  clear hp
  generalize rpB r k = had at *
  generalize r.h k = has at *
  generalize hsv : rsOf r k = s at *
  obtain ⟨A0, c0, bs⟩ := s
  generalize r.p k = p at *
  obtain ⟨v, g, pose⟩ := p
  dsimp only at *
  refine CallM.of (m := 1) Tryz.func41 rfl tabOk rfl rfl rfl rfl (by simp [SV.wfs, SV.wf]) fun w M π _ => ?_
  generalize ofE pose bs = e at *
  rcases Bool.eq_false_or_eq_true has with h1 | h1
  rotate_left
  · subst h1
    (conv=>whnf);repeat' (first|((with_reducible refine isC ?_);first|((first|(with_reducible refine isF 81 ?_);((refine CallX_m ks [0] rfl ⟨fun _ _ h => h, trivial⟩ (by decide) (fun _ _ _ _ => trivial) ?_; intro r1))|(with_reducible refine isF 82 ?_);((refine CallX_m kw [0] rfl ⟨fun _ _ h => h, trivial⟩ (by decide) (fun _ _ _ _ => trivial) ?_; intro r3)));conv=>whnf))|with_reducible exact rfl|((with_reducible first|refine xif_kt (by assumption) ?_|refine xif_kf (by assumption) ?_);conv=>whnf)|((with_reducible refine xif_s ?_ ?_)<;>(intro hb;(try simp (disch:=omega) only [hbS] at hb)<;>conv=>whnf)))
    refine Fin_addNil 34 4 ?_
    exact Fin_m (none, 0) [0, 2] ⟨rfl, by simp [SV.wf, SV.wfs]⟩ ⟨fun _ _ h => h, ⟨rfl, rfl, rfl, rfl, rfl, rfl⟩, trivial⟩ (by decide) rfl
  · subst h1
    rcases Bool.eq_false_or_eq_true had with h2 | h2
    rotate_left
    · subst h2
      (conv=>whnf);repeat' (first|((with_reducible refine isC ?_);first|((first|(with_reducible refine isF 81 ?_);((refine CallX_m ks [0] rfl ⟨fun _ _ h => h, trivial⟩ (by decide) (fun _ _ _ _ => trivial) ?_; intro r1))|(with_reducible refine isF 82 ?_);((refine CallX_m kw [0] rfl ⟨fun _ _ h => h, trivial⟩ (by decide) (fun _ _ _ _ => trivial) ?_; intro r3)));conv=>whnf))|with_reducible exact rfl|((with_reducible first|refine xif_kt (by assumption) ?_|refine xif_kf (by assumption) ?_);conv=>whnf)|((with_reducible refine xif_s ?_ ?_)<;>(intro hb;(try simp (disch:=omega) only [hbS] at hb)<;>conv=>whnf)))
      refine Fin_addNil 34 4 ?_
      exact Fin_m (none, 0) [0, 2] ⟨rfl, by simp [SV.wf, SV.wfs]⟩ ⟨fun _ _ h => h, ⟨rfl, rfl, rfl, rfl, rfl, rfl⟩, trivial⟩ (by decide) rfl
    · subst h2
      rcases Bool.eq_false_or_eq_true g with h3 | h3
      · subst h3
        (conv=>whnf);repeat' (first|((with_reducible refine isC ?_);first|((first|(with_reducible refine isF 81 ?_);((refine CallX_m ks [0] rfl ⟨fun _ _ h => h, trivial⟩ (by decide) (fun _ _ _ _ => trivial) ?_; intro r1))|(with_reducible refine isF 82 ?_);((refine CallX_m kw [0] rfl ⟨fun _ _ h => h, trivial⟩ (by decide) (fun _ _ _ _ => trivial) ?_; intro r3)));conv=>whnf))|with_reducible exact rfl|((with_reducible first|refine xif_kt (by assumption) ?_|refine xif_kf (by assumption) ?_);conv=>whnf)|((with_reducible refine xif_s ?_ ?_)<;>(intro hb;(try simp (disch:=omega) only [hbS] at hb)<;>conv=>whnf)))
        refine Fin_addNil 34 4 ?_
        exact Fin_m (none, 0) [0, 2] ⟨rfl, by simp [SV.wf, SV.wfs]⟩ ⟨fun _ _ h => h, ⟨rfl, rfl, rfl, rfl, rfl, rfl⟩, trivial⟩ (by decide) rfl
      · subst h3
        (conv=>whnf);repeat' (first|((with_reducible refine isC ?_);first|((first|(with_reducible refine isF 81 ?_);((refine CallX_m ks [0] rfl ⟨fun _ _ h => h, trivial⟩ (by decide) (fun _ _ _ _ => trivial) ?_; intro r1))|(with_reducible refine isF 82 ?_);((refine CallX_m kw [0] rfl ⟨fun _ _ h => h, trivial⟩ (by decide) (fun _ _ _ _ => trivial) ?_; intro r3))|(with_reducible refine isF 28 ?_);((refine CallX_m (hof A0 c0) [] rfl trivial (by decide) (fun σ fp w hm => ArgN.of0 (hread rfl σ fp w hm) _) ?_; intro r4; obtain ⟨B2, d2⟩ := r4)));conv=>whnf))|with_reducible exact rfl|((with_reducible first|refine xif_kt (by assumption) ?_|refine xif_kf (by assumption) ?_);conv=>whnf)|((with_reducible refine xif_s ?_ ?_)<;>(intro hb;(try simp (disch:=omega) only [hbS] at hb)<;>conv=>whnf)))
        exact Fin_m (B2, d2) [0, 2] ⟨rfl, by simp [SV.wf, SV.wfs]⟩ ⟨fun _ _ h => h, ⟨rfl, rfl, rfl, rfl, rfl, rfl⟩, trivial⟩ (by decide) rfl
end Go.Proofs.YtadichckbogcjaaGreatDoor.En
end
section
namespace Go.Proofs.YtadichckbogcjaaGreatDoor.En
open Go.RowKit
set_option maxRecDepth 100000
theorem ArgN.sc {C : Ctx} {ob : List OB} {b : Nat} {m : List (Int × SlT)} (j : Nat) (k : Int) (h : nth ob j = some (scO b m)) {n : Nat} {r : List Nat} (hr : ∀ i, i < n → r.getD i 0 < ob.length ∧ r.getD i 0 ≠ j) :
    ∀ σ fp w, Mem C σ fp ob w → ArgN w (MOf n fun i => fp (r.getD i 0)) (slOf m k).1 (slOf m k).2.2.length 2 ((slOf m k).2.2.map encBm) := by
  intro σ fp w hm
  refine ⟨ArgSl.sc j k h σ fp w hm, ?_⟩
  rintro hn c o hA ⟨i, hi, hb⟩
  obtain ⟨_, hs, hjl⟩ := nth_sc hm h
  obtain ⟨h6, h7⟩ := hr i hi
  unfold slOf at hn hA
  cases hl : lkI m k with
  | none => rw [hl] at hn; exact hn rfl
  | some v =>
    rw [hl] at hn hA
    exact hm.disj _ j h6 hjl h7 c hb ((hs _ (lkI_mem hl)).2 hn c o none hA)
end Go.Proofs.YtadichckbogcjaaGreatDoor.En
end
section
namespace Go.Proofs.YtadichckbogcjaaGreatDoor.En
open Go.RowKit
set_option maxRecDepth 100000
abbrev ShT := Int × Int × Int
def encSh (s : ShT) : List Value := [.int .i64 s.1, .int .i64 s.2.1, .int .i64 s.2.2]
def sh0 : ShT := (0, 0, 0)
def shV (k : Int) (e : EntT) : List ShT := if e.2.2.1 = 0 ∧ e.2.2.2 = 0 then [] else [(k, e.2.2.1, e.2.2.2)]
def shE (a : AtT) (c : CellT) (k : Int) : List ShT := shV k (atE (partA a k) c)
def shL (a : AtT) (c : CellT) (ids : List Int) : List ShT := ids.flatMap (shE a c)
def shF (a : AtT) (c : CellT) : List ShT := shL a c (idsF (hasA a) 64)
theorem shE_len (a : AtT) (c : CellT) (k : Int) : (shE a c k).length ≤ 1 := by
  unfold shE shV
  split <;> simp
theorem shL_next (a : AtT) (c : CellT) {ids : List Int} {k : Nat} (hk : k < ids.length) : shL a c (ids.take (k + 1)) = shL a c (ids.take k) ++ shE a c (ids.getD k 0) := by
  unfold shL
  rw [List.take_succ_eq_append_getElem hk, List.flatMap_append]
  simp [hk]
theorem shL_len (a : AtT) (c : CellT) : ∀ ids : List Int, (shL a c ids).length ≤ ids.length
  | [] => by simp [shL]
  | k :: ids => by
    have h1 := shL_len a c ids
    have h2 := shE_len a c k
    unfold shL at *
    rw [List.flatMap_cons, List.length_append, List.length_cons]
    omega
theorem part_vE (a : AtT) (k : Int) : vE (partA a k) = true := by
  unfold partA
  split
  · rename_i s p _ _
    split
    · exact vE_nil
    · by_cases h : ofOk p.2.2 s = true
      · exact (ofE_rep h).2
      · have := (ofE_bad (at_ := p.2.2) (s := s) (fun e => h (ofE_ok.1 e))).1
        rw [this]
        exact vE_nil
  · exact vE_nil
def pick (c : CellT) (k : Int) (l : List EntT) : List ShT := (l.filter fun e => decide (e.cell = c)).map fun e => (k, e.2.2.1, e.2.2.2)
theorem pick_next (c : CellT) (k : Int) {l : List EntT} {i : Nat} (hi : i < l.length) : pick c k (l.take (i + 1)) = pick c k (l.take i) ++ if (l.getD i e0).cell = c then [(k, (l.getD i e0).2.2.1, (l.getD i e0).2.2.2)] else [] := by
  unfold pick
  have e : l.getD i e0 = l[i] := by simp [hi]
  rw [List.take_succ_eq_append_getElem hi, List.filter_append, List.map_append, e]
  by_cases h : l[i].cell = c <;> simp [h]
theorem pick_none {c : CellT} {k : Int} {l : List EntT} (h : ∀ e ∈ l, e.cell ≠ c) : pick c k l = [] := by
  unfold pick
  rw [List.filter_eq_nil_iff.2 (fun e he => by simp [h e he])]
  rfl
theorem pick_at {c : CellT} {k : Int} {l : List EntT} (h : vE l = true) : pick c k l = shV k (atE l c) := by
  rw [atE_eq, if_pos h]
  have hp := vE_pairwise h
  have hg : ∀ e ∈ l, ¬ (e.2.2.1 = 0 ∧ e.2.2.2 = 0) := fun e he => by
    have := vE_good h he
    unfold goodB at this
    simp only [Bool.and_eq_true, Bool.not_eq_true', Bool.and_eq_false_iff, decide_eq_true_eq, decide_eq_false_iff_not] at this
    omega
  clear h
  induction l with
  | nil => simp [pick, getF, shV]
  | cons x l ih =>
    obtain ⟨h1, h2⟩ := List.pairwise_cons.1 hp
    by_cases hx : x.cell = c
    · have hn : ∀ e ∈ l, e.cell ≠ c := fun e he hc => by
        have := h1 e he
        rw [hx, hc, befB_irr] at this
        cases this
      have e1 : getF (x :: l) c = x := by
        unfold getF
        rw [List.find?_cons]
        simp [hx]
      have e2 : pick c k (x :: l) = (k, x.2.2.1, x.2.2.2) :: pick c k l := by
        unfold pick
        rw [List.filter_cons, if_pos (by simp [hx])]
        rfl
      rw [e1, e2, pick_none hn]
      unfold shV
      rw [if_neg (hg x (by simp))]
    · have e1 : getF (x :: l) c = getF l c := by
        unfold getF
        rw [List.find?_cons]
        simp [hx]
      have e2 : pick c k (x :: l) = pick c k l := by
        unfold pick
        rw [List.filter_cons, if_neg (by simp [hx])]
      rw [e1, e2]
      exact ih h2 (fun e he => hg e (by simp [he]))
def blF (l : List ShT) : ShT := l.foldl (fun b s => if b.2.1 < s.2.1 then s else b) sh0
theorem blF_next {l : List ShT} {k : Nat} (hk : k < l.length) : blF (l.take (k + 1)) = if (blF (l.take k)).2.1 < (l.getD k sh0).2.1 then l.getD k sh0 else blF (l.take k) := by
  unfold blF
  rw [List.take_succ_eq_append_getElem hk, List.foldl_append]
  simp [hk]
end Go.Proofs.YtadichckbogcjaaGreatDoor.En
end
section
namespace Go.Proofs.YtadichckbogcjaaGreatDoor.En
open Go.RowKit
set_option maxRecDepth 100000
set_option maxHeartbeats 4000000 in
theorem Explain_m (b1 b2 : Nat) (m : List (Int × SlT)) (q : List (Int × PlT)) (hok : okS m) (c : CellT) :
    CallM Tryz.prog 15 [.p 0 0, .a [I c.1, I c.2]] (fun _ _ => True) [atB b1 b2, scO b1 m, plO b2 q]
      (fun r : Option Addr × Nat => .v (.slice r.1 (shF (absM (m, q)) c).length r.2)) (fun r => [atB b1 b2, scO b1 m, plO b2 q, .row 51 3 r.1 (shF (absM (m, q)) c).length r.2 ((shF (absM (m, q)) c).map encSh)]) := by
  have ki := Ids_m b1 b2 m q
  have kp := fun k => Part_m b1 b2 m q k hok
  rw [has_sem] at ki
  unfold shF
  have hab : (semS m, lkI q) = absM (m, q) := rfl
  rw [hab] at ki
  clear hab
  generalize absM (m, q) = a at *
  have hli := idsF_len (hasA a) 64
  have hpl := fun k => part_len a k
  have hat := fun (A : Option Addr) (c' : Nat) (k : Int) => At_v A c' (partA a k) c rfl (by have := hpl k; omega)
  generalize idsF (hasA a) 64 = L at *
  refine CallM.of (m := 3) Tryz.func15 rfl tabOk rfl rfl rfl rfl (by simp [SV.wfs, SV.wf]) fun w M π _ => ?_
  (conv=>whnf);repeat' (first|((with_reducible refine isC ?_);first|(((with_reducible refine isF 35 ?_);((refine CallX_m ki [0, 1, 2] rfl ⟨⟨rfl, rfl, by simp [SV.wf, SV.wfs]⟩, fun _ _ h => h, fun _ _ h => h, trivial⟩ (by decide) (fun _ _ _ _ => trivial) ?_; intro r1; obtain ⟨A1, c1⟩ := r1; dsimp only)));conv=>whnf))|((with_reducible refine isO ?_);first|((first|(refine OpX_build0 tabOk rfl rfl rfl ?_);intro bN|(refine OpX_build tabOk rfl rfl rfl rfl rfl ?_);intro bN);conv=>whnf))|((with_reducible refine isW ?_;first|refine xwr_ok (by omega) (by omega) ?_|refine xwr_raw ?_);conv=>whnf)|((first|refine DrawX_s tabOk folOk ?_|refine DrawS_i (by kernel_rfl) ?_|with_reducible refine andX_i ?_ ?_)<;>conv=>whnf)|with_reducible exact rfl|((with_reducible first|refine xif_kt (by assumption) ?_|refine xif_kf (by assumption) ?_);conv=>whnf)|((with_reducible refine xif_s ?_ ?_)<;>(intro hb;(try simp (disch:=omega) only [hbS] at hb)<;>conv=>whnf)))
  refine LoopX_addNil 51 3 ?_
  conv => whnf
  refine LoopX_inv tabOk (α := Nat × Option Addr × Nat) (fun s => s.1 ≤ L.length) (fun s => [(0, .p 0 0), (3, .p 3 0), (5, .v (.slice s.2.1 (shL a c (L.take s.1)).length s.2.2)), (9, .p 0 0), (10, .v (.slice A1 L.length c1)), (11, I L.length), (12, I s.1)])
    (fun s => [atB b1 b2, scO b1 m, plO b2 q, .box 25 [I c.1, I c.2], .row 3 1 A1 L.length c1 (L.map fun x => [encI x]), .row 51 3 s.2.1 (shL a c (L.take s.1)).length s.2.2 ((shL a c (L.take s.1)).map encSh)]) (fun s => L.length - s.1) (0, none, 0) [0, 1, 2, 3, 4, 5] (Nat.zero_le _) ?_ ?_
  · ((refine ⟨?_, ?_, ?_, ?_⟩) <;> (repeat' ((conv => whnf); apply And.intro)) <;> (try (first | exact trivial | decide)))
    all_goals first | rfl | exact fun _ _ h => h | (simp [SV.wf, SV.wfs]; done) | trace_state
  · rintro ⟨k, A, c0⟩ hk
    dsimp only at hk ⊢
    by_cases hlt : k < L.length
    · have hnx := shL_next a c hlt
      have hsl := shL_len a c (L.take k)
      have htl : (L.take k).length = k := by simp; omega
      have kpk := kp (L.getD k 0)
      have hak := fun A c1 => hat A c1 (L.getD k 0)
      have hlk := hpl (L.getD k 0)
      unfold shE at hnx
      generalize shL a c (L.take k) = O at *
      generalize partA a (L.getD k 0) = pt at *
      obtain ⟨e, he⟩ : ∃ e, atE pt c = e := ⟨_, rfl⟩
      simp only [he] at hak hnx
      obtain ⟨ex, ey, eh, ep⟩ := e
      by_cases hz : eh = 0 ∧ ep = 0
      · obtain ⟨rfl, rfl⟩ := hz
        (conv=>whnf);repeat' (first|((with_reducible refine isC ?_);first|((first|(with_reducible refine isF 36 ?_);((refine CallX_m kpk [0, 1, 2] rfl ⟨⟨rfl, rfl, by simp [SV.wf, SV.wfs]⟩, fun _ _ h => h, fun _ _ h => h, trivial⟩ (by decide) (fun _ _ _ _ => trivial) ?_; intro r1; obtain ⟨A2, c2⟩ := r1; dsimp only))|(with_reducible refine isF 25 ?_);((refine CallX_v (hak A2 c2) (ArgSl.row 6 rfl) ?_)));conv=>whnf))|((with_reducible refine isV ?_);first|((first|refine ValX_index tabOk rfl (ArgSl.row 4 rfl) rfl ?_ ?_ ?_|(with_reducible refine nat_idx ?_);refine ValX_load1n _ _ (0) tabOk rfl rfl rfl (ArgSl.row 4 rfl) ?_ ?_ ?_|refine ValX_load1 _ _ (0) tabOk rfl rfl rfl (ArgSl.row 4 rfl) ?_ ?_ ?_)<;>first|rfl|omega|with_reducible refine isP ?_|conv=>whnf))|((with_reducible refine isO ?_);first|((first|(refine OpX_build0 tabOk rfl rfl rfl ?_);intro bN|(refine OpX_build tabOk rfl rfl rfl rfl rfl ?_);intro bN);conv=>whnf))|((with_reducible refine isW ?_;first|refine xwr_ok (by omega) (by omega) ?_|refine xwr_raw ?_);conv=>whnf)|((first|refine DrawX_s tabOk folOk ?_|refine DrawS_i (by kernel_rfl) ?_|with_reducible refine andX_i ?_ ?_)<;>conv=>whnf)|with_reducible exact rfl|((with_reducible first|refine xif_kt (by assumption) ?_|refine xif_kf (by assumption) ?_);conv=>whnf)|((with_reducible refine xif_s ?_ ?_)<;>(intro hb;(try simp (disch:=omega) only [hbS] at hb)<;>conv=>whnf)))
        all_goals try (exfalso; omega)
        refine ⟨(k + 1, A, c0), [0, 1, 2, 3, 4, 5], by (try dsimp only); omega, ?_, by (try dsimp only); omega⟩
        dsimp only
        rw [hnx, show shV (L.getD k 0) (ex, ey, 0, 0) = [] by simp [shV], List.append_nil]
        ((refine ⟨?_, ?_, ?_, ?_⟩) <;> (repeat' ((conv => whnf); apply And.intro)) <;> (try (first | exact trivial | decide)))
        all_goals first | rfl | exact fun _ _ h => h | (simp [SV.wf, SV.wfs]; done) | trace_state
      · (conv=>whnf);repeat' (first|((with_reducible refine isC ?_);first|((first|(with_reducible refine isF 36 ?_);((refine CallX_m kpk [0, 1, 2] rfl ⟨⟨rfl, rfl, by simp [SV.wf, SV.wfs]⟩, fun _ _ h => h, fun _ _ h => h, trivial⟩ (by decide) (fun _ _ _ _ => trivial) ?_; intro r1; obtain ⟨A2, c2⟩ := r1; dsimp only))|(with_reducible refine isF 25 ?_);((refine CallX_v (hak A2 c2) (ArgSl.row 6 rfl) ?_)));conv=>whnf))|((with_reducible refine isV ?_);first|((first|refine ValX_index tabOk rfl (ArgSl.row 4 rfl) rfl ?_ ?_ ?_|(with_reducible refine nat_idx ?_);refine ValX_load1n _ _ (0) tabOk rfl rfl rfl (ArgSl.row 4 rfl) ?_ ?_ ?_|refine ValX_load1 _ _ (0) tabOk rfl rfl rfl (ArgSl.row 4 rfl) ?_ ?_ ?_)<;>first|rfl|omega|with_reducible refine isP ?_|conv=>whnf))|((with_reducible refine isO ?_);first|((refine OpX_append 5 tabOk rfl rfl rfl rfl (ArgSl.row 8 rfl) (by decide) ?_ ?_ ?_)<;>first|omega|(dsimp only;omega)|(intro A' c';conv=>whnf))|((first|(refine OpX_build0 tabOk rfl rfl rfl ?_);intro bN|(refine OpX_build tabOk rfl rfl rfl rfl rfl ?_);intro bN);conv=>whnf))|((with_reducible refine isW ?_;first|refine xwr_ok (by omega) (by omega) ?_|refine xwr_raw ?_);conv=>whnf)|((first|refine DrawX_s tabOk folOk ?_|refine DrawS_i (by kernel_rfl) ?_|with_reducible refine andX_i ?_ ?_)<;>conv=>whnf)|with_reducible exact rfl|((with_reducible first|refine xif_kt (by assumption) ?_|refine xif_kf (by assumption) ?_);conv=>whnf)|((with_reducible refine xif_s ?_ ?_)<;>(intro hb;(try simp (disch:=omega) only [hbS] at hb)<;>conv=>whnf)))
        all_goals try (exfalso; omega)
        all_goals
          refine ⟨(k + 1, A', c'), [0, 1, 2, 3, 4, 5], by (try dsimp only); omega, ?_, by (try dsimp only); omega⟩
          dsimp only
          rw [hnx, show shV (L.getD k 0) (ex, ey, eh, ep) = [(L.getD k 0, eh, ep)] by simp only [shV]; rw [if_neg hz], List.length_append, List.map_append]
          ((refine ⟨?_, ?_, ?_, ?_⟩) <;> (repeat' ((conv => whnf); apply And.intro)) <;> (try (first | exact trivial | decide)))
          all_goals first | rfl | exact fun _ _ h => h | (simp [SV.wf, SV.wfs]; done) | trace_state
    · obtain rfl : k = L.length := by omega
      rw [List.take_length]
      have hsl := shL_len a c L
      (conv=>whnf);repeat' (first|((with_reducible refine isO ?_);first|((first|(refine OpX_build0 tabOk rfl rfl rfl ?_);intro bN|(refine OpX_build tabOk rfl rfl rfl rfl rfl ?_);intro bN);conv=>whnf))|((with_reducible refine isW ?_;first|refine xwr_ok (by omega) (by omega) ?_|refine xwr_raw ?_);conv=>whnf)|((first|refine DrawX_s tabOk folOk ?_|refine DrawS_i (by kernel_rfl) ?_|with_reducible refine andX_i ?_ ?_)<;>conv=>whnf)|with_reducible exact rfl|((with_reducible first|refine xif_kt (by assumption) ?_|refine xif_kf (by assumption) ?_);conv=>whnf)|((with_reducible refine xif_s ?_ ?_)<;>(intro hb;(try simp (disch:=omega) only [hbS] at hb)<;>conv=>whnf)))
      all_goals try (exfalso; omega)
      exact Fin_m (A, c0) [0, 1, 2, 5] ⟨rfl, by simp [SV.wf, SV.wfs]⟩ ⟨⟨rfl, rfl, by simp [SV.wf, SV.wfs]⟩, fun _ _ h => h, fun _ _ h => h, ⟨rfl, rfl, rfl, rfl, rfl, rfl⟩, trivial⟩ (by decide) rfl
end Go.Proofs.YtadichckbogcjaaGreatDoor.En
end
