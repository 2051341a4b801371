import Derived.Test.YtadichckbogcjaaGreatDoorZToolsFirst09
import Derived.Test.YtadichckbogcjaaGreatDoorZToolsFirst08
import Derived.Test.YtadichckbogcjaaGreatDoorZToolsFirst01
import Derived.Shelf.SlSortCmp.WholeK
import Derived.Shelf.SlSortCmp.NoneTotal
set_option linter.all false
section
namespace Go.Proofs.YtadichckbogcjaaGreatDoor.En
open Go.RowKit Go.MapKept
open Go.ChangeMaps (setBlock)
set_option maxRecDepth 100000
def talO (b : Nat) (L : List EntT) : OB := .res fun w F => TalAt w b L ∧ ∀ i, F i ↔ i = b
theorem talO_mk {w : World} {b : Nat} {L : List EntT} (h : TalAt w b L) {σ : Nat → Nat} {n q : Nat} {F : Nat → Prop} (hF : ∀ i, F i ↔ i = b) : (talO b L).at σ n w q F :=
  ⟨⟨h, hF⟩, fun w' hw => ⟨h.ext (hw b ((hF b).2 rfl)), hF⟩⟩
theorem nth_tal {C : Ctx} {σ : Nat → Nat} {fp : Nat → Nat → Prop} {ob : List OB} {w : World} {j b : Nat} {L : List EntT} (hm : Mem C σ fp ob w) (h : nth ob j = some (talO b L)) : TalAt w b L ∧ (∀ i, fp j i ↔ i = b) ∧ j < ob.length := by
  rw [nth_eq] at h
  have := hm.at_ j _ h
  exact ⟨this.1.1, this.1.2, (List.getElem?_eq_some_iff.1 h).1⟩
def idxT (L : List EntT) (c : CellT) : Option Nat := L.findIdx? fun e => decide (e.cell = c)
def getT (L : List EntT) (c : CellT) : EntT := match idxT L c with
  | some i => L.getD i e0
  | none => e0
def setT (L : List EntT) (e : EntT) : List EntT := match idxT L e.cell with
  | some i => L.set i e
  | none => L ++ [e]
theorem cell_equal (a b : CellT) (w : World) : (Op.equal 25 (keyC a) (keyC b)).run Tryz.prog w = .ok (decide (b = a)) w := by
  have h := (tabOk 25 _ rfl).2.eq (fun _ => 0) [I a.1, I a.2] [I b.1, I b.2] _ rfl w
  have e : (a.1 == b.1 && (a.2 == b.2 && true)) = decide (b = a) := by
    rw [Bool.eq_iff_iff]
    simp only [Bool.and_true, Bool.and_eq_true, beq_iff_eq, decide_eq_true_eq]
    constructor
    · rintro ⟨h1, h2⟩
      exact Prod.ext h1.symm h2.symm
    · rintro rfl
      exact ⟨rfl, rfl⟩
  rw [e] at h
  exact h
theorem cell_check (a : CellT) (x : Bool) (w : World) : (Instr.checkKey x 10000 25 (keyC a)).run Tryz.prog w = .ok () w := by kernel_rfl
theorem run_findAsking (c : CellT) (w : World) : ∀ (L : List EntT) (s i : Nat), (Instr.findAsking 25 (keyC c) (tEs L s) i).run Tryz.prog w = .ok ((idxT L c).map fun k => (i + k, encA (L.getD k e0))) w
  | [], s, i => by simp [tEs, Instr.findAsking, idxT]
  | e :: r, s, i => by
    have ih := run_findAsking c w r (s + 1) (i + 1)
    have hs : Instr.findAsking 25 (keyC c) (tEs (e :: r) s) i = (do if ← Op.equal 25 (keyC c) (keyC e.cell) then pure (some (i, encA e)) else Instr.findAsking 25 (keyC c) (tEs r (s + 1)) (i + 1)) := rfl
    rw [hs, Sem.run_bind, cell_equal, Result.andThen_ok]
    cases h : decide (e.cell = c) with
    | true => simp [idxT, List.findIdx?_cons, h]
    | false =>
      simp only [Bool.false_eq_true, if_false]
      rw [ih]
      unfold idxT
      rw [List.findIdx?_cons, h]
      simp only [Bool.false_eq_true, if_false]
      cases List.findIdx? (fun e => decide (e.cell = c)) r with
      | none => rfl
      | some k => simp [Nat.add_assoc, Nat.add_comm 1 k]
theorem run_findKey_T (c : CellT) (L : List EntT) (w : World) : (Instr.findKey 25 (keyC c) (tEs L 0)).run Tryz.prog w = .ok ((idxT L c).map fun k => (k, encA (L.getD k e0))) w := by
  unfold Instr.findKey
  simp only [Sem.run_bind, run_underlying Tryz.underlying25, Result.andThen_ok]
  cases L with
  | nil => simp [tEs, Instr.findNow, idxT]
  | cons e r =>
    have := run_findAsking c w (e :: r) 0 0
    simp only [Nat.zero_add] at this
    simp only [tEs, tE1, Instr.findNow, Instr.sameNow]
    simpa [tEs, tE1] using this
theorem idxT_lt {L : List EntT} {c : CellT} {i : Nat} (h : idxT L c = some i) : i < L.length ∧ (L.getD i e0).cell = c := by
  unfold idxT at h
  rw [List.findIdx?_eq_some_iff_getElem] at h
  obtain ⟨h1, h2, _⟩ := h
  refine ⟨h1, ?_⟩
  simpa [h1] using h2
theorem run_lookup_T {w : World} {b : Nat} {L : List EntT} (h : TalAt w b L) (c : CellT) :
    (Instr.lookup 95 (.map (some b)) (keyC c) false).run Tryz.prog w = .ok (encA (getT L c)) w := by
  have hgo := MapKept.run_getObj_map (P := Tryz.prog) h
  have hz : (zeroValue 34).run Tryz.prog w = .ok (encA e0) w := by kernel_rfl
  simp only [Instr.lookup, Sem.run_bind, run_underlying Tryz.underlying95, Result.andThen_ok, hgo, Sem.run_pure, cell_check, run_findKey_T]
  unfold getT
  cases idxT L c with
  | none => simp [hz]
  | some i => simp
theorem sameBits_key (c : CellT) : Instr.sameBits 10000 (keyC c) (keyC c) = true := by
  simp [Instr.sameBits]
theorem run_update_T {w : World} {b : Nat} {L : List EntT} (h : TalAt w b L) (e : EntT) :
    (Instr.mapUpdate 95 (.map (some b)) (keyC e.cell) (encA e)).run Tryz.prog w = .ok () (setBlock w b (.map (tEs (setT L e) 0).toArray (setT L e).length)) := by
  have hgo := MapKept.run_getObj_map (P := Tryz.prog) h
  have hso := fun o => MapKept.run_setObj_map (P := Tryz.prog) o h
  simp only [Instr.mapUpdate, Sem.run_bind, run_underlying Tryz.underlying95, Result.andThen_ok, hgo, cell_check, run_findKey_T]
  cases hi : idxT L e.cell with
  | none =>
    simp only [Option.map_none, hso, setBlock]
    simp only [setT, hi, tEs_append, List.length_append]
    simp [tEs, tE1]
  | some i =>
    obtain ⟨hlt, hc⟩ := idxT_lt hi
    have hg := tEs_get L 0 i
    rw [List.getElem?_eq_getElem hlt] at hg
    have hLi : L.getD i e0 = L[i] := by simp [hlt]
    rw [hLi] at hc
    have hkey : (((tEs L 0).toArray[i]?).map (·.key)).getD (keyC e.cell) = keyC e.cell := by
      simp only [List.getElem?_toArray, hg]
      simp [tE1, hc]
    simp only [Option.map_some, Sem.run_bind, hkey, Instr.keyThatStays, sameBits_key, if_true, Sem.run_pure, Result.andThen_ok, hso, setBlock]
    simp only [setT, hi, tEs_set, List.length_set]
    congr 5
    apply Array.ext_getElem?
    intro j
    rw [Array.getElem?_modify]
    simp only [List.getElem?_toArray, List.getElem?_set, tEs_len, hlt, if_true, Nat.zero_add]
    by_cases hj : i = j
    · subst hj
      simp [hg, tE1]
    · simp [hj]
section
variable {C : Ctx} {ob : List OB}
theorem OpX_makeT {o : Oper} {t : TypeId} {k : SV → List OB → Prop} (ho : o.op = .makeMap t none) (hk : ∀ b, force (ob ++ [talO b []]) fun ob => k (.v (.map (some b))) ob) : OpX C o [] ob k := by
  unfold OpX
  intro σ fp w ρ hm hx
  have hex : (execOp ρ o).run C.P w = .ok (.value (.map (some w.heap.size))) (w.alloc (.map #[] 0)) := by
    simp [execOp, ho, Instr.makeMap, run_newObj_alloc]
  rw [hex]
  have hT : TalAt (w.alloc (.map #[] 0)) w.heap.size [] := World.alloc_heap_new w _
  have hb : Below w.heap.size w (w.alloc (.map #[] 0)) := (Below.refl _ w).alloc (Nat.le_refl _) _
  have hk := hk w.heap.size
  rw [force_eq] at hk
  refine ⟨.v (.map (some w.heap.size)), _, _, _, hk, fun j hj => by simp [show j ≠ ob.length by omega], by simp, rfl, trivial, hm.pushO hb (talO w.heap.size []) 0 (fun i => i = w.heap.size) (talO_mk hT fun i => Iff.rfl) (fun i hi => by subst hi; simp) (fun _ => Nat.le_refl _), Frm.pushed hb (by simp) fun i hi => by omega⟩
theorem ValX_lookT {o : Oper} {x y : Operand} {b : Nat} {L : List EntT} {c : CellT} {k : SV → Prop} (j : Nat) (hP : C.P = Tryz.prog) (ho : o.op = .lookup 95 x y false) (hj : nth ob j = some (talO b L))
    (hk : k (.a [I (getT L c).1, I (getT L c).2.1, I (getT L c).2.2.1, I (getT L c).2.2.2])) : ValX C o [.v (.map (some b)), .a [I c.1, I c.2]] ob k := by
  unfold ValX
  intro σ fp w ρ hm hx
  obtain ⟨hT, _⟩ := nth_tal hm hj
  rw [ho] at hx
  simp [Op.operands, SV.vals, SV.val] at hx
  refine ⟨_, hk, ?_, by simp [SV.wf, SV.wfs]⟩
  have := run_lookup_T hT c
  rw [hP]
  simp only [execOp, ho, hx.1, hx.2, Sem.run_bind, this, Result.andThen_ok, Sem.run_pure]
  rfl
theorem OpX_updT {o : Oper} {x y z : Operand} {b : Nat} {L : List EntT} {e : EntT} {k : SV → List OB → Prop} (j : Nat) (hP : C.P = Tryz.prog) (ho : o.op = .mapUpdate 95 x y z) (hj : nth ob j = some (talO b L))
    (hk : force (setN ob j (talO b (setT L e))) fun ob => k (.v undef) ob) : OpX C o [.v (.map (some b)), .a [I e.1, I e.2.1], .a [I e.1, I e.2.1, I e.2.2.1, I e.2.2.2]] ob k := by
  unfold OpX
  intro σ fp w ρ hm hx
  obtain ⟨hT, hF, hjl⟩ := nth_tal hm hj
  rw [ho] at hx
  simp [Op.operands, SV.vals, SV.val] at hx
  have hu := run_update_T hT e
  have hex : (execOp ρ o).run C.P w = .ok .skip (setBlock w b (.map (tEs (setT L e) 0).toArray (setT L e).length)) := by
    rw [hP]
    simp only [execOp, ho, hx.1, hx.2.1, hx.2.2, Sem.run_bind]
    have hu' : (Instr.mapUpdate 95 (.map (some b)) (.agg #[.int .i64 e.1, .int .i64 e.2.1]) (.agg #[.int .i64 e.1, .int .i64 e.2.1, .int .i64 e.2.2.1, .int .i64 e.2.2.2])).run Tryz.prog w = .ok () (setBlock w b (.map (tEs (setT L e) 0).toArray (setT L e).length)) := hu
    rw [hu']
    rfl
  rw [hex]
  have hset := heap_set (o' := .map (tEs (setT L e) 0).toArray (setT L e).length) hT
  have hT' : TalAt (setBlock w b (.map (tEs (setT L e) 0).toArray (setT L e).length)) b (setT L e) := hset.1
  have hsz : (setBlock w b (.map (tEs (setT L e) 0).toArray (setT L e).length)).heap.size = w.heap.size := by simp [setBlock]
  have hsame : ∀ q, q < w.heap.size → ¬ fp j q → (setBlock w b (.map (tEs (setT L e) 0).toArray (setT L e).length)).heap[q]? = w.heap[q]? := by
    intro q hq hnq
    exact hset.2 q fun e' => hnq ((hF q).2 e')
  have hM := hm.change (w' := setBlock w b (.map (tEs (setT L e) 0).toArray (setT L e).length)) hjl (talO b (setT L e)) (fp j) (talO_mk hT' hF) (fun i hi => .inl hi) (by
      intro q hq
      have := hm.hi j hjl q hq
      rw [hsz]
      exact this) rfl rfl rfl (by rw [hsz]; exact Nat.le_refl _) hsame (fun _ => Nat.le_refl _)
  rw [force_eq, setN_eq] at hk
  exact ⟨.v undef, _, σ, _, hk, fun _ _ => rfl, by simp, rfl, trivial, hM, Frm.changed hjl (by simp) (fun i hi => .inl hi) (by rw [hsz]; exact Nat.le_refl _) hsame⟩
theorem CallX_collect {k : SV → List OB → Prop} {b : Nat} {L : List EntT} {j q : Nat} (hP : C.P = Tryz.prog) (hj : nth ob j = some (.box 95 [.v (.map (some b))])) (hq : nth ob q = some (talO b L)) (hL : L.length ≤ 1000000000)
    (hk : ∀ (ys : List EntT) (A : Option Addr) (c : Nat), ys.Perm L → ys.length ≤ c → force (ob ++ [.row 34 4 A ys.length c (ys.map encE)]) fun ob => k (.v (.slice A ys.length c)) ob) (hd : C.d = false := by rfl) :
    CallX C 101 [.fn 140 [.p j 0]] ob k := by
  unfold CallX
  rw [hP]
  refine ⟨Entr.of Tryz.func101 rfl rfl, fun σ fp w hm => ?_⟩
  obtain ⟨hT, _, _⟩ := nth_tal hm hq
  obtain ⟨hb, _, _, _⟩ := nth_box hm hj
  have hlt : σ j < w.heap.size := (Array.getElem?_eq_some_iff.1 hb).1
  have hc : w.cell? ⟨σ j, 0, none⟩ = some (.map (some b)) := by
    unfold World.cell?
    rw [hb]
    rfl
  refine (collect_any (σ j) b L hL w hlt hc hT).mono ?_
  rintro e w' ⟨v, ys, rfl, hp, hown, _, hbl⟩
  obtain ⟨A, c, rfl⟩ := ownsRow_slice (owns_mono hown (Nat.zero_le _))
  refine ⟨_, rfl, Goes.pushRow hm hbl hown (by simp) (fun x hx => ?_) (fun x hx => ?_) (.v (.slice A ys.length c)) (fun _ => rfl) trivial ?_ (fun h => by rw [hd] at h; cases h)⟩
  · obtain ⟨e, _, rfl⟩ := List.mem_map.1 hx
    rfl
  · obtain ⟨l, hl, hx⟩ := List.mem_flatten.1 hx
    obtain ⟨e, _, rfl⟩ := List.mem_map.1 hl
    simp [encE] at hx
    rcases hx with rfl | rfl | rfl | rfl <;> rfl
  · have hlc : ys.length ≤ c := by
      rcases hown.2 with ⟨h, h0⟩ | ⟨g, cap, cur, h, _, _, h1, _⟩
      · omega
      · simp at h
        omega
    have := hk ys A c hp hlc
    rwa [force_eq] at this
end
end Go.Proofs.YtadichckbogcjaaGreatDoor.En
end
section
namespace Go.Proofs.YtadichckbogcjaaGreatDoor.En
open Go.RowKit
set_option maxRecDepth 100000
end Go.Proofs.YtadichckbogcjaaGreatDoor.En
namespace Go.Proofs.YtadichckbogcjaaGreatDoor.En
open Go.RowKit
set_option maxRecDepth 100000
theorem PureX.mk' {P : Program} {f : FuncId} {args : List SV} {x : SV} (hen : Entr P f) (hx : x.wf 0) (hw : SV.wfs 0 args) (h : ∀ w, Calls P f (SV.vals (fun _ => 0) args).toArray w fun e w' => e = .returned (x.val fun _ => 0) ∧ Below w.heap.size w w') : PureX P f args x := by
  refine ⟨hen, hx, fun σ w => ?_⟩
  have h1 := h w
  rw [SV.vals_ext (n := 0) (σ := σ) (σ' := fun _ => 0) (by simp) args hw] at h1
  rw [SV.val_ext (n := 0) (σ := σ) (σ' := fun _ => 0) (by simp) x hx] at h1
  exact h1
theorem mod_x (n m : Int) (h1 : 1 ≤ m) (h2 : m ≤ 1000000000000) : PureX Tryz.prog 147 [I n, I m] (I (n % m)) :=
  PureX.mk' (Entr.of Tryz.func147 rfl rfl) trivial ⟨trivial, trivial, trivial⟩ fun w => (mod_any n m w h1 h2).mono fun e w' ⟨he, hw⟩ => ⟨he, hw ▸ Below.refl _ _⟩
theorem Size_x (n m : Int) (h0 : 0 ≤ m) (h1 : m ≤ 9000000000000000000) : PureX Tryz.prog 64 [I n, I m] (B (szB n m)) := by
  refine PureX.of Tryz.func64 rfl tabOk rfl rfl rfl (by simp [SV.wfs, SV.wf]) (by simp [SV.wfs, SV.wf]) fun w => ?_
  (conv=>whnf);repeat' (first|((with_reducible refine isW ?_;first|refine xwr_ok (by omega) (by omega) ?_|refine xwr_raw ?_);conv=>whnf)|with_reducible exact rfl|((with_reducible first|refine xif_kt (by assumption) ?_|refine xif_kf (by assumption) ?_);conv=>whnf)|((with_reducible refine xif_s ?_ ?_)<;>(intro hb;(try simp (disch:=omega) only [hbS] at hb)<;>conv=>whnf)))
  all_goals refine Fin_pure rfl ?_ trivial
  all_goals simp [szB]
  all_goals omega
abbrev FrT := Int × Int × Int
def cellR (f : FrT) (c : CellT) : CellT × Int :=
  if szB f.2.1 8192 && szB f.2.2 8192 && szB c.1 16384 && szB c.2 16384 then
    if szB (min (tX (f.1 % 4) c.1 c.2) (tX (f.1 % 4) (c.1 + 1) (c.2 + 1)) + f.2.1) 16384 && szB (min (tY (f.1 % 4) c.1 c.2) (tY (f.1 % 4) (c.1 + 1) (c.2 + 1)) + f.2.2) 16384 then
      ((min (tX (f.1 % 4) c.1 c.2) (tX (f.1 % 4) (c.1 + 1) (c.2 + 1)) + f.2.1, min (tY (f.1 % 4) c.1 c.2) (tY (f.1 % 4) (c.1 + 1) (c.2 + 1)) + f.2.2), 0)
    else ((0, 0), 2)
  else ((0, 0), 1)
theorem szB_bd {n m : Int} (h : szB n m = true) : -m ≤ n ∧ n ≤ m := by simpa [szB] using h
theorem tXY_bd {q x y m : Int} (h : -m ≤ x ∧ x ≤ m ∧ -m ≤ y ∧ y ≤ m) : -m ≤ tX q x y ∧ tX q x y ≤ m ∧ -m ≤ tY q x y ∧ tY q x y ≤ m := by
  unfold tX tY
  repeat' split
  all_goals omega
end Go.Proofs.YtadichckbogcjaaGreatDoor.En
end
section
namespace Go.Proofs.YtadichckbogcjaaGreatDoor.En
open Go.RowKit
set_option maxRecDepth 100000
theorem Before_x (a b : CellT) : PureX Tryz.prog 71 [.a [I a.1, I a.2], .a [I b.1, I b.2]] (B (befB a b)) := by
  refine PureX.of Tryz.func71 rfl tabOk rfl rfl rfl (by simp [SV.wfs, SV.wf]) (by simp [SV.wfs, SV.wf]) fun w => ?_
  (conv=>whnf);repeat' (first|with_reducible exact rfl|((with_reducible first|refine xif_kt (by assumption) ?_|refine xif_kf (by assumption) ?_);conv=>whnf)|((with_reducible refine xif_s ?_ ?_)<;>(intro hb;(try simp (disch:=omega) only [hbS] at hb)<;>conv=>whnf)))
  all_goals refine Fin_pure rfl ?_ trivial
  all_goals refine congrArg (fun b => SV.v (Value.bool b)) ?_
  all_goals rw [Bool.eq_iff_iff, befB_iff]
  all_goals try simp only [decide_eq_true_eq, Bool.false_eq_true, true_iff, false_iff]
  all_goals omega
theorem rV_bad {l : List EntT} {k : Nat} (hk : k < l.length) (h : goodB (l.getD k e0) = false ∨ (k ≠ 0 ∧ befB (l.getD (k - 1) e0).cell (l.getD k e0).cell = false)) : B false = B (vE l) := by
  rw [vE_bad hk]
  rcases h with h | ⟨h1, h2⟩
  · simp only [okAt, h, Bool.false_and]
  · simp only [okAt, h2, h1, decide_false, Bool.or_self, Bool.and_false]
theorem step_ok {l : List EntT} {k : Nat} (hz : ∀ j, j < k → okAt l j = true) (h : goodB (l.getD k e0) = true ∧ (k ≠ 0 → befB (l.getD (k - 1) e0).cell (l.getD k e0).cell = true)) : ∀ j, j < k + 1 → okAt l j = true := by
  intro j hj
  by_cases e : j = k
  · subst e
    by_cases h0 : j = 0
    · simp only [okAt, h.1, h0, decide_true, Bool.true_or, Bool.and_true]
      rw [← h0]
      exact h.1
    · simp only [okAt, h.1, h.2 h0, Bool.or_true, Bool.and_self]
  · exact hz j (by omega)
theorem rV_end {l : List EntT} (h : l.length ≤ 1048576) (hz : ∀ j, j < l.length → okAt l j = true) : B true = B (vE l) := by
  rw [vE_end hz, decide_eq_true h]
theorem rVE_w (A : Option Addr) (c : Nat) (l : List EntT) {n : Nat} (hl : l.length = n) (hn : n ≤ maxLen) :
    CallW Tryz.prog 32 [.v (.slice A n c)] (fun w => ArgSl w A n 4 (l.map encE)) (B (vE l)) := by
  unfold maxLen at hn
  refine CallW.of Tryz.func32 rfl tabOk rfl rfl rfl (by simp [SV.wfs, SV.wf]) (by simp [SV.wfs, SV.wf]) fun w hpre => ?_
  (conv=>whnf);repeat' (first|((with_reducible refine isW ?_;first|refine xwr_ok (by omega) (by omega) ?_|refine xwr_raw ?_);conv=>whnf)|((first|refine DrawX_s tabOk folOk ?_|refine DrawS_i (by kernel_rfl) ?_|with_reducible refine andX_i ?_ ?_)<;>conv=>whnf)|with_reducible exact rfl|((with_reducible first|refine xif_kt (by assumption) ?_|refine xif_kf (by assumption) ?_);conv=>whnf)|((with_reducible refine xif_s ?_ ?_)<;>(intro hb;(try simp (disch:=omega) only [hbS] at hb)<;>conv=>whnf)))
  · refine Fin_pure rfl ?_ trivial
    rw [vE_long (by omega)]
  refine LoopX_inv tabOk (α := Nat) (fun k => k ≤ n ∧ ∀ j, j < k → okAt l j = true) (fun k => [(3, I k), (0, .v (.slice A n c))]) (fun _ => []) (fun k => n - k) 0 [] ⟨Nat.zero_le _, fun i hi => by omega⟩ ?_ ?_
  · ((refine ⟨?_, ?_, ?_, ?_⟩) <;> (repeat' ((conv => whnf); apply And.intro)) <;> (try (first | exact trivial | decide)))
    all_goals first | rfl | exact fun _ _ h => h | simp [SV.wf, SV.wfs]
  · rintro k ⟨hk, hz⟩
    have bad : goodB (l.getD k e0) = false → k < n → vE l = false := fun h hk' => vE_bad (k := k) (by omega) (by simp only [okAt, h, Bool.false_and])
    (conv=>whnf);repeat' (first|((with_reducible refine isC ?_);first|((first|with_reducible refine CallX_pure (Size_x _ _ ?_ ?_) ?_|with_reducible refine CallX_pure (Before_x (_, _) (_, _)) ?_)<;>first|omega|with_reducible refine isP ?_|conv=>whnf))|((with_reducible refine isV ?_);first|((first|refine ValX_index tabOk rfl (hpre.mem (by decide) rfl) rfl ?_ ?_ ?_|(with_reducible refine nat_idx ?_);refine ValX_loadEn _ _ (e0) tabOk rfl rfl rfl rfl (hpre.mem (by decide) rfl) ?_ ?_ ?_|refine ValX_loadE _ _ (e0) tabOk rfl rfl rfl rfl (hpre.mem (by decide) rfl) ?_ ?_ ?_)<;>first|rfl|omega|with_reducible refine isP ?_|conv=>whnf)|((first|(with_reducible refine nat_idxF ?_);refine ValX_loadGn _ _ (e0) _ tabOk rfl rfl rfl (hpre.mem (by decide) rfl) ?_ ?_ rfl rfl ?_|refine ValX_loadG _ _ (e0) _ tabOk rfl rfl rfl (hpre.mem (by decide) rfl) ?_ ?_ rfl rfl ?_)<;>first|omega|with_reducible refine isP ?_|conv=>whnf))|((with_reducible refine isW ?_;first|refine xwr_ok (by omega) (by omega) ?_|refine xwr_raw ?_);conv=>whnf)|((first|refine DrawX_s tabOk folOk ?_|refine DrawS_i (by kernel_rfl) ?_|with_reducible refine andX_i ?_ ?_)<;>conv=>whnf)|with_reducible exact rfl|((with_reducible first|refine xif_kt (by assumption) ?_|refine xif_kf (by assumption) ?_);conv=>whnf)|((with_reducible refine xif_s ?_ ?_)<;>(intro hb;(try simp (disch:=omega) only [hbS] at hb)<;>conv=>whnf)))
    all_goals try rw [show ((k : Int) - 1).toNat = k - 1 by omega] at hb
    all_goals try (refine Fin_pure rfl (rV_bad (k := k) (l := l) ?_ ?_) trivial <;> first | omega | (left; simp only [goodB, countB, *]; simp; done) | (right; exact ⟨by omega, hb⟩))
    all_goals try (refine Fin_pure rfl (rV_end (l := l) ?_ ?_) trivial <;> first | omega | (intro j hj; exact hz j (by omega)))
    all_goals
      refine ⟨k + 1, [], ⟨?_, step_ok hz ⟨?_, ?_⟩⟩, ?_, ?_⟩
    all_goals first
      | omega
      | (dsimp only; omega)
      | (((refine ⟨?_, ?_, ?_, ?_⟩) <;> (repeat' ((conv => whnf); apply And.intro)) <;> (try (first | exact trivial | decide))) <;> first | rfl | exact fun _ _ h => h | simp [SV.wf, SV.wfs])
      | (intro h0; first | (exfalso; omega) | exact hb)
      | (simp only [goodB, countB, *]; simp; done)
      | (simp_all [goodB, countB]; done)
end Go.Proofs.YtadichckbogcjaaGreatDoor.En
end
section
namespace Go.Proofs.YtadichckbogcjaaGreatDoor.En
open Go.RowKit Go.Sort Go.Shelf
section
variable {α : Type} [Inhabited α]
theorem flat_div {sz : Nat} {enc : α → List Value} (henc : ∀ x, (enc x).length = sz) (hsz : 0 < sz) (xs : List α) {t : Nat} (ht : t < xs.length * sz) : (xs.map enc).flatten[t]? = (enc (xs.toArray[t / sz]!))[t % sz]? := by
  have h1 : t / sz < xs.length := by rw [Nat.div_lt_iff_lt_mul hsz]; exact ht
  have h2 : t % sz < sz := Nat.mod_lt _ hsz
  have hx : xs.toArray[t / sz]! = xs[t / sz] := by simp [h1]
  have h3 := flat_get (sz := sz) (els := xs.map enc) (i := t / sz) (j := t % sz) (e := enc xs[t / sz]) (v := (enc xs[t / sz])[t % sz]'(by rw [henc]; exact h2)) (by
    intro e he
    obtain ⟨x, _, rfl⟩ := List.mem_map.1 he
    exact henc x) (by simp [h1]) (by simp)
  rw [show t / sz * sz + t % sz = t by rw [Nat.mul_comm]; exact Nat.div_add_mod t sz] at h3
  rw [h3, hx]
  simp
theorem get_bang {l : List Value} {i : Nat} (h : i < l.length) : l[i]! = l[i] := by simp [h]
theorem holdsK_row {sz : Nat} {enc : α → List Value} (henc : ∀ x, (enc x).length = sz) (hsz : 0 < sz) {w : World} {g : Nat} {cur : Array Value} {e : TypeId} {xs : List α} (hb : w.heap[g]? = some (.cells cur e (0, 0))) (ht : cur.toList.take (xs.length * sz) = (xs.map enc).flatten) : HoldsK enc sz w g 0 xs.toArray := by
  intro t h
  have h' : t < xs.length * sz := by simpa using h
  refine ⟨?_, by simp [World.frozen?, hb]⟩
  have h1 : (cur.toList.take (xs.length * sz))[t]? = (xs.map enc).flatten[t]? := by rw [ht]
  rw [List.getElem?_take_of_lt h', flat_div henc hsz xs h'] at h1
  rw [get_flatK _ _ _ _ (by simpa using h')]
  simp only [World.cell?, hb, Nat.zero_add, Option.isSome_none, Bool.false_eq_true, if_false, id]
  rw [← Array.getElem?_toList, h1]
  have h2 : t % sz < (enc (xs.toArray[t / sz]!)).length := by rw [henc]; exact Nat.mod_lt _ hsz
  rw [List.getElem?_eq_getElem h2]
  exact congrArg some (get_bang h2).symm
theorem heap_sortedK {sz : Nat} {enc : α → List Value} {w : World} {g n : Nat} {os : Array Obj} {cur : Array Value} {e : TypeId} {fr : Nat × Nat} (d : Array α) (hb : w.heap[g]? = some (.cells cur e fr)) :
    (sortWorldK enc sz w g 0 n d os).heap[g]? = some (.cells (putCells id 0 (flatK enc sz d) cur) e fr) := by
  have hg : g < w.heap.size := (Array.getElem?_eq_some_iff.1 hb).1
  unfold sortWorldK putRowK
  rw [heap_grow_old _ _ (by simpa [putRow, mapBlock, Sort.ahead] using hg)]
  simp [putRow, mapBlock, Sort.ahead, Array.getElem?_modify, hb, onCells]
theorem heap_sortedK_old {sz : Nat} {enc : α → List Value} {w : World} {g n : Nat} {os : Array Obj} (d : Array α) {i : Nat} (hi : i < w.heap.size) (hne : i ≠ g) : (sortWorldK enc sz w g 0 n d os).heap[i]? = w.heap[i]? := by
  unfold sortWorldK putRowK
  rw [heap_grow_old _ _ (by simpa [putRow, mapBlock, Sort.ahead] using hi)]
  simp [putRow, mapBlock, Sort.ahead, Array.getElem?_modify, hne.symm]
theorem size_sortedK {sz : Nat} {enc : α → List Value} {w : World} {g n : Nat} {os : Array Obj} (d : Array α) : w.heap.size ≤ (sortWorldK enc sz w g 0 n d os).heap.size := by
  simp [sortWorldK, putRowK, putRow, mapBlock, Sort.ahead, Sort.grow]
theorem take_sortedK {sz : Nat} {enc : α → List Value} (henc : ∀ x, (enc x).length = sz) (hsz : 0 < sz) (cur : Array Value) (ys : List α) (h : ys.length * sz ≤ cur.size) : (putCells id 0 (flatK enc sz ys.toArray) cur).toList.take (ys.length * sz) = (ys.map enc).flatten := by
  have hfl : ((ys.map enc).flatten).length = ys.length * sz := by
    rw [flat_len (sz := sz) (by
      intro e he
      obtain ⟨x, _, rfl⟩ := List.mem_map.1 he
      exact henc x)]
    simp
  apply List.ext_getElem?
  intro t
  by_cases ht : t < ys.length * sz
  · rw [List.getElem?_take_of_lt ht, Array.getElem?_toList, flat_div henc hsz ys ht]
    have h2 : t % sz < (enc (ys.toArray[t / sz]!)).length := by rw [henc]; exact Nat.mod_lt _ hsz
    have hg := get_flatK enc sz ys.toArray t (by simpa using ht)
    rw [List.getElem?_eq_getElem h2]
    simp only [putCells, Array.getElem?_mapIdx]
    rw [Array.getElem?_eq_getElem (show t < cur.size by omega)]
    simp only [Option.map_some, Nat.zero_le, true_and, Nat.zero_add, size_flatK, List.size_toArray, ht, if_true, Nat.sub_zero, id, hg]
    simp
    rw [List.getElem?_eq_getElem (by rw [henc]; exact Nat.mod_lt _ hsz)]
    rfl
  · rw [List.getElem?_take_eq_none (by omega), List.getElem?_eq_none (by omega)]
theorem CallX_sortK {C : Ctx} {ob : List OB} {k : SV → List OB → Prop} {ρ : Ren} (L : SlLaysF0.n6 C.P ρ) {sz : Nat} (hsz : 0 < sz) (enc : α → List Value) (henc : ∀ x, (enc x).length = sz) (h1 : ∀ x, ∀ v ∈ enc x, v.oneCell' = true)
    (aE : ∀ w, (isAgg (ρ.t 24)).run C.P w = .ok true w) (zE : ∀ w, (Go.sizeOf (ρ.t 24)).run C.P w = .ok sz w) (cf : α → α → Int) (hO : SWO (ltOf cf)) (g : Nat) (eg : ∀ args w, (callFunc g args).run C.P w = .ok (.enter g args) w)
    (hcmp : ∀ (W : World) (x y : α), Calls C.P g #[.agg (enc x).toArray, .agg (enc y).toArray] W fun e w' => e = .returned (.int .i64 (cf x y)) ∧ ∃ q os', w' = grow (W.drewN q) os')
    (hent : Entr C.P (ρ.f 6)) (j : Nat) (xs : List α) {A : Option Addr} {n c e : Nat} (hj : nth ob j = some (.row e sz A n c (xs.map enc))) (hx : xs.length = n) (hn : n < 4611686018427387904)
    (hk : ∀ ys : List α, ys.Perm xs → (∀ i k, i < k → k < n → ltOf cf (ys.getD k default) (ys.getD i default) = false) → force (setN ob j (.row e sz A n c (ys.map enc))) fun ob => k (.t []) ob) :
    CallX C (ρ.f 6) [.v (.slice A n c), .fn g []] ob k := by
  unfold CallX
  refine ⟨hent, fun σ fp w hm => ?_⟩
  obtain ⟨⟨hown, hlen, hsize, hone, hF⟩, hjl⟩ := nth_row hm hj
  simp only [SV.vals, SV.val]
  have hset : ob.set j (.row e sz A n c (xs.map enc)) = ob := by
    rw [nth_eq] at hj
    apply List.ext_getElem?
    intro i
    rw [List.getElem?_set]
    by_cases e : j = i
    · subst e
      simp [hjl, hj]
      exact (List.getElem?_eq_some_iff.1 hj).2.symm
    · simp [e]
  by_cases h0 : n = 0
  · subst h0
    have hxs : xs = [] := List.eq_nil_of_length_eq_zero hx
    refine (AnyF.slices_SortFunc_none L A c (.func (.func g) #[] #[]) w).mono ?_
    rintro e' w' ⟨rfl, rfl⟩
    have hk' := hk xs (List.Perm.refl _) (fun i k h1 h2 => by omega)
    rw [force_eq, setN_eq, hset] at hk'
    exact ⟨_, rfl, .t [], ob, σ, fp, hk', fun _ _ => rfl, Nat.le_refl _, rfl, trivial, hm, Frm.below (Below.refl _ _)⟩
  · rcases hown.2 with ⟨_, h⟩ | ⟨blk, cap, cur, hsl, hbg, hg, hnc, hcm, hcs, htake⟩
    · exact (h0 h).elim
    simp at hsl
    obtain ⟨rfl, rfl⟩ := hsl
    subst hx
    have hlt : blk < w.heap.size := (Array.getElem?_eq_some_iff.1 hg).1
    have hH := holdsK_row henc hsz hg htake
    have hcon := AnyQ.slices_SortFunc L sz aE zE enc henc h1 cf hO g #[] blk 0 c xs.toArray w eg (fun m os dk _ x y => by simpa using hcmp _ x y) hH hlt (by simpa using hn)
    simp only [List.size_toArray] at hcon
    refine hcon.mono ?_
    rintro e' w' ⟨rfl, d', m, os, ⟨hsz', _, hperm⟩, hsort, rfl⟩
    obtain ⟨ys, rfl⟩ : ∃ ys : List α, ys.toArray = d' := ⟨d'.toList, by simp⟩
    have hyl : ys.length = xs.length := by simpa using hsz'
    have hp : ys.Perm xs := by
      have := hperm
      simp only [List.extract_toArray, List.extract_eq_drop_take, Nat.sub_zero, List.drop_zero] at this
      rwa [← hyl, List.take_length, hyl, List.take_length] at this
    have hk' := hk ys hp (fun i k hik hkn => by
      have := hsort i k (Nat.zero_le _) hik hkn
      have e1 : ys.toArray[k]! = ys.getD k default := by simp [show k < ys.length by omega]
      have e2 : ys.toArray[i]! = ys.getD i default := by simp [show i < ys.length by omega]
      rwa [e1, e2] at this)
    rw [force_eq, setN_eq] at hk'
    have hcsz : ys.length * sz ≤ cur.size := by
      rw [hcs, hyl]
      exact Nat.mul_le_mul_right _ hnc
    have hown' : (sortWorldK enc sz w blk 0 m ys.toArray os).ownsRow 0 e sz (.slice (some ⟨blk, 0, none⟩) xs.length c) xs.length (ys.map enc).flatten := by
      refine ⟨?_, .inr ⟨blk, c, _, rfl, Nat.zero_le _, heap_sortedK _ hg, hnc, hcm, by simp [putCells, hcs], ?_⟩⟩
      · rw [flat_len (sz := sz) (by
          intro q hq
          obtain ⟨x, _, rfl⟩ := List.mem_map.1 hq
          exact henc x)]
        simp [hyl]
      · rw [← hyl]
        exact take_sortedK henc hsz cur ys hcsz
    have hsame : ∀ i, i < w.heap.size → ¬ fp j i → (sortWorldK enc sz w blk 0 m ys.toArray os).heap[i]? = w.heap[i]? := by
      intro i hi hni
      exact heap_sortedK_old _ hi fun e' => hni ((hF i).2 (by simp [Value.ownBlock, e']))
    have hszw : w.heap.size ≤ (sortWorldK enc sz w blk 0 m ys.toArray os).heap.size := size_sortedK _
    have hM := hm.change (w' := sortWorldK enc sz w blk 0 m ys.toArray os) hjl (.row e sz (some ⟨blk, 0, none⟩) xs.length c (ys.map enc)) (fp j) ⟨hown', by simp [hyl], (by
        intro q hq
        obtain ⟨x, _, rfl⟩ := List.mem_map.1 hq
        exact henc x), (by
        intro q hq
        obtain ⟨l, hl, hql⟩ := List.mem_flatten.1 hq
        obtain ⟨x, _, rfl⟩ := List.mem_map.1 hl
        exact h1 x q hql), hF⟩ (fun i hi => .inl hi) (fun i hi => Nat.lt_of_lt_of_le (hm.hi j hjl i hi) hszw) rfl rfl rfl hszw hsame (fun _ => by simp [sortWorldK, putRowK, putRow, mapBlock, Sort.ahead, Sort.grow])
    exact ⟨_, rfl, .t [], _, σ, _, hk', fun _ _ => rfl, by simp, rfl, trivial, hM, Frm.changed hjl (by simp) (fun i hi => .inl hi) hszw hsame⟩
end
end Go.Proofs.YtadichckbogcjaaGreatDoor.En
end
