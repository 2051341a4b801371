/- The tally as an object of the executor: made, looked up, updated. -/
import Derived.Test.YtodaijlclbngbaaGreatTa
import Derived.Test.YtodaijlclbngbaaGreatEnE
import Derived.Test.YtodaijlclbngbaaGreatEp
set_option linter.all false
namespace Go.Proofs.YtodaijlclbngbaaGreat.En
open Go.RowKit Go.MapKept
open Go.ChangeMaps (setBlock)
set_option maxRecDepth 100000

def talO (b : Nat) (L : List EntT) : OB := .res fun w F => TalAt w b L ∧ ∀ i, F i ↔ i = b
theorem talO_mk {w : World} {b : Nat} {L : List EntT} (h : TalAt w b L) {σ : Nat → Nat} {n q : Nat} {F : Nat → Prop} (hF : ∀ i, F i ↔ i = b) : (talO b L).at σ n w q F :=
  ⟨⟨h, hF⟩, fun w' hw => ⟨h.ext (hw b ((hF b).2 rfl)), hF⟩⟩
theorem nth_tal {C : Ctx} {σ : Nat → Nat} {fp : Nat → Nat → Prop} {ob : List OB} {w : World} {j b : Nat} {L : List EntT} (hm : Mem C σ fp ob w) (h : nth ob j = some (talO b L)) : TalAt w b L ∧ (∀ i, fp j i ↔ i = b) ∧ j < ob.length := by
  rw [nth_eq] at h
  have := hm.at_ j _ h
  exact ⟨this.1.1, this.1.2, (List.getElem?_eq_some_iff.1 h).1⟩

def idxT (L : List EntT) (c : CellT) : Option Nat := L.findIdx? fun e => decide (e.cell = c)
def getT (L : List EntT) (c : CellT) : EntT := match idxT L c with
  | some i => L.getD i e0
  | none => e0
def setT (L : List EntT) (e : EntT) : List EntT := match idxT L e.cell with
  | some i => L.set i e
  | none => L ++ [e]

theorem cell_equal (a b : CellT) (w : World) : (Op.equal 79 (keyC a) (keyC b)).run Tryz.prog w = .ok (decide (b = a)) w := by
  have h := (tabOk 79 _ rfl).2.eq (fun _ => 0) [I a.1, I a.2] [I b.1, I b.2] _ rfl w
  have e : (a.1 == b.1 && (a.2 == b.2 && true)) = decide (b = a) := by
    rw [Bool.eq_iff_iff]
    simp only [Bool.and_true, Bool.and_eq_true, beq_iff_eq, decide_eq_true_eq]
    constructor
    · rintro ⟨h1, h2⟩
      exact Prod.ext h1.symm h2.symm
    · rintro rfl
      exact ⟨rfl, rfl⟩
  rw [e] at h
  exact h
theorem cell_check (a : CellT) (x : Bool) (w : World) : (Instr.checkKey x 10000 79 (keyC a)).run Tryz.prog w = .ok () w := by kernel_rfl
theorem run_findAsking (c : CellT) (w : World) : ∀ (L : List EntT) (s i : Nat), (Instr.findAsking 79 (keyC c) (tEs L s) i).run Tryz.prog w = .ok ((idxT L c).map fun k => (i + k, encA (L.getD k e0))) w
  | [], s, i => by simp [tEs, Instr.findAsking, idxT]
  | e :: r, s, i => by
    have ih := run_findAsking c w r (s + 1) (i + 1)
    have hs : Instr.findAsking 79 (keyC c) (tEs (e :: r) s) i = (do if ← Op.equal 79 (keyC c) (keyC e.cell) then pure (some (i, encA e)) else Instr.findAsking 79 (keyC c) (tEs r (s + 1)) (i + 1)) := rfl
    rw [hs, Sem.run_bind, cell_equal, Result.andThen_ok]
    cases h : decide (e.cell = c) with
    | true => simp [idxT, List.findIdx?_cons, h]
    | false =>
      simp only [Bool.false_eq_true, if_false]
      rw [ih]
      unfold idxT
      rw [List.findIdx?_cons, h]
      simp only [Bool.false_eq_true, if_false]
      cases List.findIdx? (fun e => decide (e.cell = c)) r with
      | none => rfl
      | some k => simp [Nat.add_assoc, Nat.add_comm 1 k]
theorem run_findKey_T (c : CellT) (L : List EntT) (w : World) : (Instr.findKey 79 (keyC c) (tEs L 0)).run Tryz.prog w = .ok ((idxT L c).map fun k => (k, encA (L.getD k e0))) w := by
  unfold Instr.findKey
  simp only [Sem.run_bind, run_underlying Tryz.underlying79, Result.andThen_ok]
  cases L with
  | nil => simp [tEs, Instr.findNow, idxT]
  | cons e r =>
    have := run_findAsking c w (e :: r) 0 0
    simp only [Nat.zero_add] at this
    simp only [tEs, tE1, Instr.findNow, Instr.sameNow]
    simpa [tEs, tE1] using this
theorem idxT_lt {L : List EntT} {c : CellT} {i : Nat} (h : idxT L c = some i) : i < L.length ∧ (L.getD i e0).cell = c := by
  unfold idxT at h
  rw [List.findIdx?_eq_some_iff_getElem] at h
  obtain ⟨h1, h2, _⟩ := h
  refine ⟨h1, ?_⟩
  simpa [h1] using h2

theorem run_lookup_T {w : World} {b : Nat} {L : List EntT} (h : TalAt w b L) (c : CellT) :
    (Instr.lookup 94 (.map (some b)) (keyC c) false).run Tryz.prog w = .ok (encA (getT L c)) w := by
  have hgo := MapKept.run_getObj_map (P := Tryz.prog) h
  have hz : (zeroValue 81).run Tryz.prog w = .ok (encA e0) w := by kernel_rfl
  simp only [Instr.lookup, Sem.run_bind, run_underlying Tryz.underlying94, Result.andThen_ok, hgo, Sem.run_pure, cell_check, run_findKey_T]
  unfold getT
  cases idxT L c with
  | none => simp [hz]
  | some i => simp
theorem sameBits_key (c : CellT) : Instr.sameBits 10000 (keyC c) (keyC c) = true := by
  simp [Instr.sameBits]
theorem run_update_T {w : World} {b : Nat} {L : List EntT} (h : TalAt w b L) (e : EntT) :
    (Instr.mapUpdate 94 (.map (some b)) (keyC e.cell) (encA e)).run Tryz.prog w = .ok () (setBlock w b (.map (tEs (setT L e) 0).toArray (setT L e).length)) := by
  have hgo := MapKept.run_getObj_map (P := Tryz.prog) h
  have hso := fun o => MapKept.run_setObj_map (P := Tryz.prog) o h
  simp only [Instr.mapUpdate, Sem.run_bind, run_underlying Tryz.underlying94, Result.andThen_ok, hgo, cell_check, run_findKey_T]
  cases hi : idxT L e.cell with
  | none =>
    simp only [Option.map_none, hso, setBlock]
    simp only [setT, hi, tEs_append, List.length_append]
    simp [tEs, tE1]
  | some i =>
    obtain ⟨hlt, hc⟩ := idxT_lt hi
    have hg := tEs_get L 0 i
    rw [List.getElem?_eq_getElem hlt] at hg
    have hLi : L.getD i e0 = L[i] := by simp [hlt]
    rw [hLi] at hc
    have hkey : (((tEs L 0).toArray[i]?).map (·.key)).getD (keyC e.cell) = keyC e.cell := by
      simp only [List.getElem?_toArray, hg]
      simp [tE1, hc]
    simp only [Option.map_some, Sem.run_bind, hkey, Instr.keyThatStays, sameBits_key, if_true, Sem.run_pure, Result.andThen_ok, hso, setBlock]
    simp only [setT, hi, tEs_set, List.length_set]
    congr 5
    apply Array.ext_getElem?
    intro j
    rw [Array.getElem?_modify]
    simp only [List.getElem?_toArray, List.getElem?_set, tEs_len, hlt, if_true, Nat.zero_add]
    by_cases hj : i = j
    · subst hj
      simp [hg, tE1]
    · simp [hj]

section
variable {C : Ctx} {ob : List OB}
theorem OpX_makeT {o : Oper} {t : TypeId} {k : SV → List OB → Prop} (ho : o.op = .makeMap t none) (hk : ∀ b, force (ob ++ [talO b []]) fun ob => k (.v (.map (some b))) ob) : OpX C o [] ob k := by
  unfold OpX
  intro σ fp w ρ hm hx
  have hex : (execOp ρ o).run C.P w = .ok (.value (.map (some w.heap.size))) (w.alloc (.map #[] 0)) := by
    simp [execOp, ho, Instr.makeMap, run_newObj_alloc]
  rw [hex]
  have hT : TalAt (w.alloc (.map #[] 0)) w.heap.size [] := World.alloc_heap_new w _
  have hb : Below w.heap.size w (w.alloc (.map #[] 0)) := (Below.refl _ w).alloc (Nat.le_refl _) _
  have hk := hk w.heap.size
  rw [force_eq] at hk
  refine ⟨.v (.map (some w.heap.size)), _, _, _, hk, fun j hj => by simp [show j ≠ ob.length by omega], by simp, rfl, trivial, hm.pushO hb (talO w.heap.size []) 0 (fun i => i = w.heap.size) (talO_mk hT fun i => Iff.rfl) (fun i hi => by subst hi; simp) (fun _ => Nat.le_refl _), Frm.pushed hb (by simp) fun i hi => by omega⟩
theorem ValX_lookT {o : Oper} {x y : Operand} {b : Nat} {L : List EntT} {c : CellT} {k : SV → Prop} (j : Nat) (hP : C.P = Tryz.prog) (ho : o.op = .lookup 94 x y false) (hj : nth ob j = some (talO b L))
    (hk : k (.a [I (getT L c).1, I (getT L c).2.1, I (getT L c).2.2.1, I (getT L c).2.2.2])) : ValX C o [.v (.map (some b)), .a [I c.1, I c.2]] ob k := by
  unfold ValX
  intro σ fp w ρ hm hx
  obtain ⟨hT, _⟩ := nth_tal hm hj
  rw [ho] at hx
  simp [Op.operands, SV.vals, SV.val] at hx
  refine ⟨_, hk, ?_, by simp [SV.wf, SV.wfs]⟩
  have := run_lookup_T hT c
  rw [hP]
  simp only [execOp, ho, hx.1, hx.2, Sem.run_bind, this, Result.andThen_ok, Sem.run_pure]
  rfl
theorem OpX_updT {o : Oper} {x y z : Operand} {b : Nat} {L : List EntT} {e : EntT} {k : SV → List OB → Prop} (j : Nat) (hP : C.P = Tryz.prog) (ho : o.op = .mapUpdate 94 x y z) (hj : nth ob j = some (talO b L))
    (hk : force (setN ob j (talO b (setT L e))) fun ob => k (.v undef) ob) : OpX C o [.v (.map (some b)), .a [I e.1, I e.2.1], .a [I e.1, I e.2.1, I e.2.2.1, I e.2.2.2]] ob k := by
  unfold OpX
  intro σ fp w ρ hm hx
  obtain ⟨hT, hF, hjl⟩ := nth_tal hm hj
  rw [ho] at hx
  simp [Op.operands, SV.vals, SV.val] at hx
  have hu := run_update_T hT e
  have hex : (execOp ρ o).run C.P w = .ok .skip (setBlock w b (.map (tEs (setT L e) 0).toArray (setT L e).length)) := by
    rw [hP]
    simp only [execOp, ho, hx.1, hx.2.1, hx.2.2, Sem.run_bind]
    have hu' : (Instr.mapUpdate 94 (.map (some b)) (.agg #[.int .i64 e.1, .int .i64 e.2.1]) (.agg #[.int .i64 e.1, .int .i64 e.2.1, .int .i64 e.2.2.1, .int .i64 e.2.2.2])).run Tryz.prog w = .ok () (setBlock w b (.map (tEs (setT L e) 0).toArray (setT L e).length)) := hu
    rw [hu']
    rfl
  rw [hex]
  have hset := heap_set (o' := .map (tEs (setT L e) 0).toArray (setT L e).length) hT
  have hT' : TalAt (setBlock w b (.map (tEs (setT L e) 0).toArray (setT L e).length)) b (setT L e) := hset.1
  have hsz : (setBlock w b (.map (tEs (setT L e) 0).toArray (setT L e).length)).heap.size = w.heap.size := by simp [setBlock]
  have hsame : ∀ q, q < w.heap.size → ¬ fp j q → (setBlock w b (.map (tEs (setT L e) 0).toArray (setT L e).length)).heap[q]? = w.heap[q]? := by
    intro q hq hnq
    exact hset.2 q fun e' => hnq ((hF q).2 e')
  have hM := hm.change (w' := setBlock w b (.map (tEs (setT L e) 0).toArray (setT L e).length)) hjl (talO b (setT L e)) (fp j) (talO_mk hT' hF) (fun i hi => .inl hi) (by
      intro q hq
      have := hm.hi j hjl q hq
      rw [hsz]
      exact this) rfl rfl rfl (by rw [hsz]; exact Nat.le_refl _) hsame (fun _ => Nat.le_refl _)
  rw [force_eq, setN_eq] at hk
  exact ⟨.v undef, _, σ, _, hk, fun _ _ => rfl, by simp, rfl, trivial, hM, Frm.changed hjl (by simp) (fun i hi => .inl hi) (by rw [hsz]; exact Nat.le_refl _) hsame⟩
/-- slices.Collect of what maps.Values has made -/
theorem CallX_collect {k : SV → List OB → Prop} {b : Nat} {L : List EntT} {j q : Nat} (hP : C.P = Tryz.prog) (hj : nth ob j = some (.box 94 [.v (.map (some b))])) (hq : nth ob q = some (talO b L)) (hL : L.length ≤ 1000000000)
    (hk : ∀ (ys : List EntT) (A : Option Addr) (c : Nat), ys.Perm L → ys.length ≤ c → force (ob ++ [.row 81 4 A ys.length c (ys.map encE)]) fun ob => k (.v (.slice A ys.length c)) ob) (hd : C.d = false := by rfl) :
    CallX C 94 [.fn 122 [.p j 0]] ob k := by
  unfold CallX
  rw [hP]
  refine ⟨Entr.of Tryz.func94 rfl rfl, fun σ fp w hm => ?_⟩
  obtain ⟨hT, _, _⟩ := nth_tal hm hq
  obtain ⟨hb, _, _, _⟩ := nth_box hm hj
  have hlt : σ j < w.heap.size := (Array.getElem?_eq_some_iff.1 hb).1
  have hc : w.cell? ⟨σ j, 0, none⟩ = some (.map (some b)) := by
    unfold World.cell?
    rw [hb]
    rfl
  refine (collect_any (σ j) b L hL w hlt hc hT).mono ?_
  rintro e w' ⟨v, ys, rfl, hp, hown, _, hbl⟩
  obtain ⟨A, c, rfl⟩ := ownsRow_slice (owns_mono hown (Nat.zero_le _))
  refine ⟨_, rfl, Goes.pushRow hm hbl hown (by simp) (fun x hx => ?_) (fun x hx => ?_) (.v (.slice A ys.length c)) (fun _ => rfl) trivial ?_ (fun h => by rw [hd] at h; cases h)⟩
  · obtain ⟨e, _, rfl⟩ := List.mem_map.1 hx
    rfl
  · obtain ⟨l, hl, hx⟩ := List.mem_flatten.1 hx
    obtain ⟨e, _, rfl⟩ := List.mem_map.1 hl
    simp [encE] at hx
    rcases hx with rfl | rfl | rfl | rfl <;> rfl
  · have hlc : ys.length ≤ c := by
      rcases hown.2 with ⟨h, h0⟩ | ⟨g, cap, cur, h, _, _, h1, _⟩
      · omega
      · simp at h
        omega
    have := hk ys A c hp hlc
    rwa [force_eq] at this
end
end Go.Proofs.YtodaijlclbngbaaGreat.En
