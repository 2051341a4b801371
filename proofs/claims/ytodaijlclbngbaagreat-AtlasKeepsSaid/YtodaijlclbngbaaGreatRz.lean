/- The reference's atlas as an object of the executor: arrays of scans, of marks and of placements; its rules -/
import Derived.Test.YtodaijlclbngbaaGreatAb
import Derived.Test.YtodaijlclbngbaaGreatRl
set_option linter.all false
namespace Go.Proofs.YtodaijlclbngbaaGreat.En
open Go.RowKit
set_option maxRecDepth 100000

/-- marks, scans, placements by id -/
structure RfT where
  h : Int → Bool
  s : Int → SlT
  p : Int → PlT
def setF {α : Type} (f : Int → α) (k : Int) (v : α) : Int → α := fun i => if i = k then v else f i
def plC (p : PlT) : Nat → Value
  | 0 => .int .i64 p.1
  | 1 => .bool p.2.1
  | 2 => .int .i64 p.2.2.1
  | 3 => .int .i64 p.2.2.2.1
  | _ => .int .i64 p.2.2.2.2
/-- the cells of an atlas of the reference -/
def rfC (r : RfT) (k : Nat) : Value := if k < 64 then encS (r.s k) else if k < 128 then .bool (r.h ((k - 64 : Nat) : Int)) else plC (r.p (((k - 128) / 5 : Nat) : Int)) ((k - 128) % 5)
def RfAt (w : World) (b : Nat) (r : RfT) : Prop := ∃ L : List Value, w.heap[b]? = some (.cells L.toArray 76 (0, 0)) ∧ L.length = 448 ∧ ∀ k, k < 448 → L[k]? = some (rfC r k)
def rfO (b : Nat) (r : RfT) : OB := .res fun w F => (RfAt w b r ∧ F b) ∧ ∀ i : Nat, i < 64 → InF w (fun a => F a ∧ a ≠ b) (r.s i)
theorem RfAt.get {w : World} {b : Nat} {r : RfT} (h : RfAt w b r) {k : Nat} (hk : k < 448) : w.cell? ⟨b, k, none⟩ = some (rfC r k) := by
  obtain ⟨L, h1, h2, h3⟩ := h
  rw [cell_of_row w b k L.toArray _ (0, 0) h1]
  simpa using h3 k hk
theorem RfAt.ext {w w' : World} {b : Nat} {r : RfT} (h : RfAt w b r) (hw : w'.heap[b]? = w.heap[b]?) : RfAt w' b r := by
  obtain ⟨L, h1, h2, h3⟩ := h
  exact ⟨L, hw.trans h1, h2, h3⟩
theorem rfO_mk {w : World} {b : Nat} {r : RfT} {F : Nat → Prop} (h : RfAt w b r) (hF : F b) (hs : ∀ i : Nat, i < 64 → InF w (fun a => F a ∧ a ≠ b) (r.s i)) {σ : Nat → Nat} {n q : Nat} : (rfO b r).at σ n w q F :=
  ⟨⟨⟨h, hF⟩, hs⟩, fun w' hw => ⟨⟨h.ext (hw b hF), hF⟩, fun i hi => (hs i hi).ext (fun _ h => h) fun a ha => hw a ha.1⟩⟩
section
variable {C : Ctx} {ob : List OB} {b : Nat} {r : RfT}
theorem nth_rf {σ : Nat → Nat} {fp : Nat → Nat → Prop} {w : World} {j : Nat} (hm : Mem C σ fp ob w) (h : nth ob j = some (rfO b r)) : (RfAt w b r ∧ fp j b) ∧ (∀ i : Nat, i < 64 → InF w (fun a => fp j a ∧ a ≠ b) (r.s i)) ∧ j < ob.length := by
  rw [nth_eq] at h
  have := hm.at_ j _ h
  exact ⟨this.1.1, this.1.2, (List.getElem?_eq_some_iff.1 h).1⟩
/-- the address of an element of an array -/
theorem ValX_arr {o : Oper} {t e : TypeId} {x ix : Operand} {i : Int} {n sz : Nat} {te : TI} {ad : Addr} {K : SV → Prop} (hT : TabOk C.P C.T) (ho : o.op = .indexAddr t x ix) (ht : C.P.underlying t = some (.array n e)) (hte : lookT C.T e = some te) (hz : te.zero.length = sz)
    (h0 : 0 ≤ i) (h1 : i < n) (hK : K (.v (.pointer (some (ad.add (i.toNat * sz)))))) : ValX C o [.v (.pointer (some ad)), I i] ob K := by
  unfold ValX
  intro σ fp w ρ hm hx
  obtain ⟨hid, hti⟩ := hT e te hte
  refine ⟨_, hK, ?_, trivial⟩
  rw [ho] at hx
  simp [Op.operands, SV.vals, SV.val] at hx
  have hsz := hti.run_size w
  rw [hid, hz] at hsz
  obtain ⟨dst, op, ty, pos, after, guard⟩ := o
  simp only at ho
  subst ho
  have hc : (0 ≤ i ∧ i < (n : Int)) := ⟨h0, h1⟩
  simp only [execOp, hx, Instr.indexAt, asIntOf, Instr.sureAddr, Sem.run_bind, Sem.run_pure, Result.andThen_ok, run_underlying ht, hc, and_self, if_true, hsz, SV.val]
/-- a cell is read -/
theorem ValX_rf1 {o : Oper} {t : TypeId} {x : Operand} {te : TI} {ad : Addr} (j k : Nat) (v : Value) {K : SV → Prop} (hT : TabOk C.P C.T) (ho : o.op = .load t x) (hte : lookT C.T t = some te) (hagg : te.agg = false) (had : ad = ⟨b, k, none⟩) (hk : k < 448)
    (hj : nth ob j = some (rfO b r)) (hv : rfC r k = v) (hK : K (.v v)) : ValX C o [.v (.pointer (some ad))] ob K := by
  subst had hv
  unfold ValX
  intro σ fp w ρ hm hx
  obtain ⟨hid, hti⟩ := hT t te hte
  obtain ⟨⟨hR, _⟩, _⟩ := nth_rf hm hj
  have hl := load_one (w := w) hti hagg (hR.get hk)
  rw [hid] at hl
  refine ⟨_, hK, ?_, trivial⟩
  rw [ho] at hx
  simp [Op.operands, SV.vals, SV.val] at hx
  obtain ⟨dst, op, ty, pos, after, guard⟩ := o
  simp only at ho
  subst ho
  simp only [execOp, hx, Instr.loadAt, Instr.sureAddr, Sem.run_bind, Sem.run_pure, Result.andThen_ok, hl, SV.val]
theorem rfC_pl (r : RfT) {i j : Nat} (hi : i < 64) (hj : j < 5) : rfC r (128 + 5 * i + j) = plC (r.p i) j := by
  unfold rfC
  rw [if_neg (by omega), if_neg (by omega), show (128 + 5 * i + j - 128) / 5 = i by omega, show (128 + 5 * i + j - 128) % 5 = j by omega]
def plL (p : PlT) : List Value := [.int .i64 p.1, .bool p.2.1, .int .i64 p.2.2.1, .int .i64 p.2.2.2.1, .int .i64 p.2.2.2.2]
theorem plL_at (p : PlT) {j : Nat} (hj : j < 5) : (plL p)[j]? = some (plC p j) := by
  rcases (by omega : j = 0 ∨ j = 1 ∨ j = 2 ∨ j = 3 ∨ j = 4) with rfl | rfl | rfl | rfl | rfl <;> rfl
/-- a placement is read -/
theorem ValX_rfP {o : Oper} {t : TypeId} {x : Operand} {te : TI} {ad : Addr} (j i : Nat) {K : SV → Prop} (hT : TabOk C.P C.T) (ho : o.op = .load t x) (hte : lookT C.T t = some te) (hagg : te.agg = true) (hz : te.zero.length = 5) (had : ad = ⟨b, 128 + 5 * i, none⟩) (hi : i < 64)
    (hj : nth ob j = some (rfO b r)) (hK : K (plX (r.p i))) : ValX C o [.v (.pointer (some ad))] ob K := by
  subst had
  unfold ValX
  intro σ fp w ρ hm hx
  obtain ⟨hid, hti⟩ := hT t te hte
  obtain ⟨⟨hR, _⟩, _⟩ := nth_rf hm hj
  obtain ⟨d, hd, hrow⟩ := hti.under
  rw [hagg] at hrow
  have hcs : w.rangeAt b (128 + 5 * i) (plL (r.p i)) := by
    intro q v hv
    have hq : q < 5 := by
      have := (List.getElem?_eq_some_iff.1 hv).1
      simpa [plL] using this
    rw [hR.get (by omega), rfC_pl r hi hq, ← plL_at _ hq, hv]
  have hl := run_loadVar_mid (P := C.P) w b (128 + 5 * i) te.id (plL (r.p i)) d hcs hd hrow (by rw [hti.info, hz]; rfl)
  rw [hid] at hl
  refine ⟨_, hK, ?_, by simp [SV.wf, SV.wfs]⟩
  rw [ho] at hx
  simp [Op.operands, SV.vals, SV.val] at hx
  obtain ⟨dst, op, ty, pos, after, guard⟩ := o
  simp only at ho
  subst ho
  simp only [execOp, hx, Instr.loadAt, Instr.sureAddr, Sem.run_bind, Sem.run_pure, Result.andThen_ok, hl, SV.val, SV.vals]
  rfl
/-- what the slice of an id reads as -/
theorem ArgSl.rf (j i : Nat) (hi : i < 64) (h : nth ob j = some (rfO b r)) : ∀ σ fp w, Mem C σ fp ob w → ArgSl w (r.s i).1 (r.s i).2.2.length 2 ((r.s i).2.2.map encBm) := by
  intro σ fp w hm
  obtain ⟨_, hs, _⟩ := nth_rf hm h
  exact (hs i hi).1
/-! ### stores -/
theorem rf_store {L : List Value} {f : Nat → Value} (hl : L.length = 448) (hf : ∀ k, k < 448 → L[k]? = some (f k)) {off : Nat} {vs : List Value} (ho : off + vs.length ≤ 448) :
    (L.take off ++ vs ++ L.drop (off + vs.length)).length = 448 ∧ ∀ k, k < 448 → (L.take off ++ vs ++ L.drop (off + vs.length))[k]? = some (if off ≤ k ∧ k < off + vs.length then vs.getD (k - off) undef else f k) := by
  refine ⟨by simp; omega, fun k hk => ?_⟩
  have h1 : (L.take off).length = off := by simp; omega
  by_cases c1 : k < off
  · rw [if_neg (by omega), List.append_assoc, List.getElem?_append_left (by omega), List.getElem?_take, if_pos c1, hf k hk]
  · by_cases c2 : k < off + vs.length
    · rw [if_pos ⟨by omega, c2⟩, List.getElem?_append_left (by simp; omega), List.getElem?_append_right (by omega), h1]
      simp [show k - off < vs.length by omega]
    · rw [if_neg (by omega), List.getElem?_append_right (by simp; omega)]
      simp only [List.length_append, h1, List.getElem?_drop]
      rw [show off + vs.length + (k - (off + vs.length)) = k by omega, hf k hk]
/-- cells go into the atlas: the object j; what q holds goes with it -/
theorem rf_set {o : Oper} {t : TypeId} {x y : Operand} {te : TI} {ad : Addr} {v : SV} {off : Nat} {vs : List Value} {r' : RfT} (hT : TabOk C.P C.T) (ho : o.op = .store t x y) (hte : lookT C.T t = some te) (had : ad = ⟨b, off, none⟩) (hoff : off + vs.length ≤ 448)
    (hz : te.zero.length = vs.length) (hvs : ∀ σ, v.val σ = .agg vs.toArray ∨ ∃ u, vs = [u] ∧ v.val σ = u) (hone : ∀ u ∈ vs, Value.oneCell' u = true) (hr : ∀ k, k < 448 → rfC r' k = if off ≤ k ∧ k < off + vs.length then vs.getD (k - off) undef else rfC r k)
    {σ : Nat → Nat} {w : World} (hR : RfAt w b r) {ρ : Operand → Value} (hx : o.op.operands.toList.map ρ = SV.vals σ [.v (.pointer (some ad)), v]) :
    ∃ w', (execOp ρ o).run C.P w = .ok .skip w' ∧ RfAt w' b r' ∧ (∀ i, i ≠ b → w'.heap[i]? = w.heap[i]?) ∧ w'.heap.size = w.heap.size ∧ w'.os = w.os ∧ w'.tape = w.tape ∧ w'.output = w.output ∧ w'.drawn = w.drawn := by
  subst had
  obtain ⟨hid, hti⟩ := hT t te hte
  obtain ⟨L, h1, h2, h3⟩ := hR
  rw [ho] at hx
  simp [Op.operands, SV.vals, SV.val] at hx
  have hst := run_storeCells_at (P := C.P) b off 76 vs 0 L.toArray w h1 (by simp; omega) hone
  simp only [Nat.add_zero] at hst
  have hsz := hti.run_size w
  rw [hid, hz] at hsz
  have hcv : (v.val σ).cells = vs.toArray := by
    rcases hvs σ with h | ⟨u, rfl, h⟩
    · rw [h]; rfl
    · rw [h]
      have := hone u (by simp)
      cases u <;> first | rfl | cases this
  obtain ⟨dst, op, ty, pos, after, guard⟩ := o
  simp only at ho
  subst ho
  refine ⟨w.setRow b (L.take off ++ vs ++ L.drop (off + vs.length)).toArray, ?_, ?_, ?_, ?_, rfl, rfl, rfl, rfl⟩
  · simp only [execOp, Instr.storeAt, hx.1, hx.2, Instr.sureAddr, Sem.run_bind, Sem.run_pure, Result.andThen_ok, storeVar, hsz, hcv, List.size_toArray, ne_eq, not_true, if_false, Nat.zero_add]
    simp only [hst, Result.andThen_ok]
  · obtain ⟨g1, g2⟩ := rf_store h2 h3 hoff
    exact ⟨_, setRow_heap w b L.toArray _ _ (0, 0) h1, g1, fun k hk => by rw [g2 k hk, hr k hk]⟩
  · intro i hi
    simp [World.setRow, Array.getElem?_modify, Ne.symm hi]
  · simp [World.setRow]
theorem rfC_setH (r : RfT) (i : Nat) (hi : i < 64) (v : Bool) (k : Nat) (hk : k < 448) : rfC { r with h := setF r.h i v } k = if 64 + i ≤ k ∧ k < 64 + i + [Value.bool v].length then [Value.bool v].getD (k - (64 + i)) undef else rfC r k := by
  unfold rfC setF
  simp only [List.length_cons, List.length_nil, Nat.zero_add]
  by_cases c1 : k < 64
  · rw [if_pos c1, if_neg (by omega), if_pos c1]
  · by_cases c2 : k < 128
    · rw [if_neg c1, if_pos c2]
      by_cases c3 : k = 64 + i
      · rw [if_pos (by omega), if_pos (by omega), c3, Nat.sub_self]
        rfl
      · rw [if_neg (by omega), if_neg (by omega), if_neg c1, if_pos c2]
    · rw [if_neg c1, if_neg c2, if_neg (by omega), if_neg c1, if_neg c2]
theorem rfC_setS (r : RfT) (i : Nat) (hi : i < 64) (v : SlT) (k : Nat) (hk : k < 448) : rfC { r with s := setF r.s i v } k = if i ≤ k ∧ k < i + [encS v].length then [encS v].getD (k - i) undef else rfC r k := by
  unfold rfC setF
  simp only [List.length_cons, List.length_nil, Nat.zero_add]
  by_cases c1 : k < 64
  · rw [if_pos c1]
    by_cases c3 : k = i
    · rw [if_pos (by omega), if_pos (by omega), c3, Nat.sub_self]
      rfl
    · rw [if_neg (by omega), if_neg (by omega), if_pos c1]
  · rw [if_neg c1, if_neg (c := i ≤ k ∧ k < i + 1) (by omega), if_neg c1]
theorem rfC_setP (r : RfT) (i : Nat) (hi : i < 64) (v : PlT) (k : Nat) (hk : k < 448) : rfC { r with p := setF r.p i v } k = if 128 + 5 * i ≤ k ∧ k < 128 + 5 * i + (plL v).length then (plL v).getD (k - (128 + 5 * i)) undef else rfC r k := by
  have hl : (plL v).length = 5 := rfl
  rw [hl]
  unfold rfC setF
  dsimp only
  by_cases c1 : k < 64
  · rw [if_pos c1, if_neg (by omega), if_pos c1]
  · by_cases c2 : k < 128
    · rw [if_neg c1, if_pos c2, if_neg (by omega), if_neg c1, if_pos c2]
    · rw [if_neg c1, if_neg c2]
      by_cases c3 : (k - 128) / 5 = i
      · rw [if_pos (by omega), if_pos (by omega)]
        have := plL_at v (j := k - (128 + 5 * i)) (by omega)
        rw [List.getD_eq_getElem?_getD, this]
        rw [show (k - 128) % 5 = k - (128 + 5 * i) by omega]
        rfl
      · rw [if_neg (by omega), if_neg (by omega), if_neg c1, if_neg c2]
/-- cells go in; the scans stay -/
theorem OpX_rf {o : Oper} {t : TypeId} {x y : Operand} {te : TI} {ad : Addr} {v : SV} {off : Nat} {vs : List Value} {K : SV → List OB → Prop} (j : Nat) (r' : RfT) (hT : TabOk C.P C.T) (ho : o.op = .store t x y) (hte : lookT C.T t = some te) (had : ad = ⟨b, off, none⟩) (hoff : off + vs.length ≤ 448)
    (hz : te.zero.length = vs.length) (hvs : ∀ σ, v.val σ = .agg vs.toArray ∨ ∃ u, vs = [u] ∧ v.val σ = u) (hone : ∀ u ∈ vs, Value.oneCell' u = true) (hr : ∀ k, k < 448 → rfC r' k = if off ≤ k ∧ k < off + vs.length then vs.getD (k - off) undef else rfC r k) (hs : r'.s = r.s)
    (hj : nth ob j = some (rfO b r)) (hK : force (setN ob j (rfO b r')) fun ob => K (.v undef) ob) : OpX C o [.v (.pointer (some ad)), v] ob K := by
  unfold OpX
  intro σ fp w ρ hm hx
  obtain ⟨⟨hR, hF⟩, hS, hjl⟩ := nth_rf hm hj
  obtain ⟨w', hex, hR', s2, s3, q1, q2, q3, q4⟩ := rf_set hT ho hte had hoff hz hvs hone hr hR hx
  rw [hex]
  have hsame : ∀ q, q < w.heap.size → ¬ fp j q → w'.heap[q]? = w.heap[q]? := fun q hq hnq => s2 q fun e => hnq (e ▸ hF)
  have hM := hm.change (w' := w') hjl (rfO b r') (fp j) (rfO_mk hR' hF (fun i hi => by
      rw [hs]
      exact (hS i hi).ext (fun _ h => h) fun a ha => s2 a ha.2)) (fun i hi => .inl hi) (by
      intro q hq
      have := hm.hi j hjl q hq
      rw [s3]
      exact this) q1 q2 q3 (by rw [s3]; exact Nat.le_refl _) hsame (fun _ => by rw [q4]; exact Nat.le_refl _)
  rw [force_eq, setN_eq] at hK
  exact ⟨.v undef, _, σ, _, hK, fun _ _ => rfl, by simp, rfl, trivial, hM, Frm.changed hjl (by simp) (fun i hi => .inl hi) (by rw [s3]; exact Nat.le_refl _) hsame⟩
/-- a slice of the call's own goes in -/
theorem OpX_rfS {o : Oper} {t : TypeId} {x y : Operand} {te : TI} {ad : Addr} {e : Nat} {s : SlT} {K : SV → List OB → Prop} (j q i : Nat) (hjq : j ≠ q) (hi : i < 64) (hT : TabOk C.P C.T) (ho : o.op = .store t x y) (hte : lookT C.T t = some te) (had : ad = ⟨b, i, none⟩) (hz : te.zero.length = 1)
    (hj : nth ob j = some (rfO b r)) (hq : nth ob q = some (.row e 2 s.1 s.2.2.length s.2.1 (s.2.2.map encBm))) (hK : force (setN (setN ob j (rfO b { r with s := setF r.s i s })) q noO) fun ob => K (.v undef) ob) : OpX C o [.v (.pointer (some ad)), .v (.slice s.1 s.2.2.length s.2.1)] ob K := by
  unfold OpX
  intro σ fp w ρ hm hx
  obtain ⟨⟨hR, hF⟩, hS, hjl⟩ := nth_rf hm hj
  obtain ⟨hb, hql⟩ := nth_row hm hq
  obtain ⟨w', hex, hR', s2, s3, q1, q2, q3, q4⟩ := rf_set (vs := [encS s]) (v := .v (encS s)) hT ho hte had (by simp; omega) (by rw [hz]; rfl) (fun σ => .inr ⟨_, rfl, rfl⟩) (by simp [encS, Value.oneCell']) (rfC_setS r i hi s) hR hx
  rw [hex]
  have hsame : ∀ q, q < w.heap.size → ¬ fp j q → w'.heap[q]? = w.heap[q]? := fun q hq hnq => s2 q fun e => hnq (e ▸ hF)
  have hnb : ¬ fp q b := fun h => hm.disj j q hjl hql hjq b hF h
  have hrow : InF w (fp q) s := by
    obtain ⟨h1, h2, h3, h4, h5⟩ := hb
    exact ⟨ArgSl.of_owns h1 h2 h3 h4, fun _ a o q hA => (h5 a).2 (by rw [hA]; rfl)⟩
  have hrow' : InF w' (fun a => (fp j a ∨ fp q a) ∧ a ≠ b) s := hrow.ext (fun a ha => ⟨.inr ha, fun e => hnb (e ▸ ha)⟩) fun a ha => s2 a fun e => hnb (e ▸ ha)
  have hM := hm.merge (w' := w') hjl hql hjq (rfO b { r with s := setF r.s i s }) noO (rfO_mk hR' (.inl hF) (by
      intro k hk
      dsimp only
      unfold setF
      split
      · exact hrow'
      · exact (hS k hk).ext (fun a ha => ⟨.inl ha.1, ha.2⟩) fun a ha => s2 a ha.2)) ⟨trivial, fun _ _ => trivial⟩ q1 q2 q3 s3 hsame q4
  rw [force_eq, setN_eq, setN_eq] at hK
  refine ⟨.v undef, _, σ, _, hK, fun _ _ => rfl, by simp, rfl, trivial, hM, ⟨fun i _ hi hno => hsame i hi (hno j hjl), fun k' hk' i hi _ hlt => ?_, by rw [s3]; exact Nat.le_refl _⟩⟩
  simp at hk'
  by_cases e1 : k' = j
  · rw [if_pos e1] at hi
    rcases hi with hi | hi
    · exact ⟨j, hjl, hi⟩
    · exact ⟨q, hql, hi⟩
  · rw [if_neg e1] at hi
    by_cases e2 : k' = q
    · rw [if_pos e2] at hi
      exact hi.elim
    · rw [if_neg e2] at hi
      exact ⟨k', hk', hi⟩
/-- a new box that is an atlas -/
def rf0 : RfT := ⟨fun _ => false, fun _ => (none, 0, []), fun _ => (0, false, 0, 0, 0)⟩
end
end Go.Proofs.YtodaijlclbngbaaGreat.En
