import Derived.Test.YtadichckbogcjaaGreatDoorZToolsExplains18
import Derived.Test.YtadichckbogcjaaGreatDoorZToolsExplains20
import Derived.Test.YtadichckbogcjaaGreatDoorZToolsExplains19
set_option linter.all false
section
namespace Go.Proofs.YtadichckbogcjaaGreatDoor.En
open Go.RowKit
set_option maxRecDepth 100000
structure RfT where
  h : Int → Bool
  s : Int → SlT
  p : Int → PlT
def setF {α : Type} (f : Int → α) (k : Int) (v : α) : Int → α := fun i => if i = k then v else f i
def plC (p : PlT) : Nat → Value
  | 0 => .int .i64 p.1
  | 1 => .bool p.2.1
  | 2 => .int .i64 p.2.2.1
  | 3 => .int .i64 p.2.2.2.1
  | _ => .int .i64 p.2.2.2.2
def rfC (r : RfT) (k : Nat) : Value := if k < 64 then encS (r.s k) else if k < 128 then .bool (r.h ((k - 64 : Nat) : Int)) else plC (r.p (((k - 128) / 5 : Nat) : Int)) ((k - 128) % 5)
def RfAt (w : World) (b : Nat) (r : RfT) : Prop := ∃ L : List Value, w.heap[b]? = some (.cells L.toArray 135 (0, 0)) ∧ L.length = 448 ∧ ∀ k, k < 448 → L[k]? = some (rfC r k)
def rfO (b : Nat) (r : RfT) : OB := .res fun w F => (RfAt w b r ∧ F b) ∧ ∀ i : Nat, i < 64 → InF w (fun a => F a ∧ a ≠ b) (r.s i)
theorem RfAt.get {w : World} {b : Nat} {r : RfT} (h : RfAt w b r) {k : Nat} (hk : k < 448) : w.cell? ⟨b, k, none⟩ = some (rfC r k) := by
  obtain ⟨L, h1, h2, h3⟩ := h
  rw [cell_of_row w b k L.toArray _ (0, 0) h1]
  simpa using h3 k hk
theorem RfAt.ext {w w' : World} {b : Nat} {r : RfT} (h : RfAt w b r) (hw : w'.heap[b]? = w.heap[b]?) : RfAt w' b r := by
  obtain ⟨L, h1, h2, h3⟩ := h
  exact ⟨L, hw.trans h1, h2, h3⟩
theorem rfO_mk {w : World} {b : Nat} {r : RfT} {F : Nat → Prop} (h : RfAt w b r) (hF : F b) (hs : ∀ i : Nat, i < 64 → InF w (fun a => F a ∧ a ≠ b) (r.s i)) {σ : Nat → Nat} {n q : Nat} : (rfO b r).at σ n w q F :=
  ⟨⟨⟨h, hF⟩, hs⟩, fun w' hw => ⟨⟨h.ext (hw b hF), hF⟩, fun i hi => (hs i hi).ext (fun _ h => h) fun a ha => hw a ha.1⟩⟩
section
variable {C : Ctx} {ob : List OB} {b : Nat} {r : RfT}
theorem nth_rf {σ : Nat → Nat} {fp : Nat → Nat → Prop} {w : World} {j : Nat} (hm : Mem C σ fp ob w) (h : nth ob j = some (rfO b r)) : (RfAt w b r ∧ fp j b) ∧ (∀ i : Nat, i < 64 → InF w (fun a => fp j a ∧ a ≠ b) (r.s i)) ∧ j < ob.length := by
  rw [nth_eq] at h
  have := hm.at_ j _ h
  exact ⟨this.1.1, this.1.2, (List.getElem?_eq_some_iff.1 h).1⟩
theorem ValX_arr {o : Oper} {t e : TypeId} {x ix : Operand} {i : Int} {n sz : Nat} {te : TI} {ad : Addr} {K : SV → Prop} (hT : TabOk C.P C.T) (ho : o.op = .indexAddr t x ix) (ht : C.P.underlying t = some (.array n e)) (hte : lookT C.T e = some te) (hz : te.zero.length = sz)
    (h0 : 0 ≤ i) (h1 : i < n) (hK : K (.v (.pointer (some (ad.add (i.toNat * sz)))))) : ValX C o [.v (.pointer (some ad)), I i] ob K := by
  unfold ValX
  intro σ fp w ρ hm hx
  obtain ⟨hid, hti⟩ := hT e te hte
  refine ⟨_, hK, ?_, trivial⟩
  rw [ho] at hx
  simp [Op.operands, SV.vals, SV.val] at hx
  have hsz := hti.run_size w
  rw [hid, hz] at hsz
  obtain ⟨dst, op, ty, pos, after, guard⟩ := o
  simp only at ho
  subst ho
  have hc : (0 ≤ i ∧ i < (n : Int)) := ⟨h0, h1⟩
  simp only [execOp, hx, Instr.indexAt, asIntOf, Instr.sureAddr, Sem.run_bind, Sem.run_pure, Result.andThen_ok, run_underlying ht, hc, and_self, if_true, hsz, SV.val]
theorem ValX_rf1 {o : Oper} {t : TypeId} {x : Operand} {te : TI} {ad : Addr} (j k : Nat) (v : Value) {K : SV → Prop} (hT : TabOk C.P C.T) (ho : o.op = .load t x) (hte : lookT C.T t = some te) (hagg : te.agg = false) (had : ad = ⟨b, k, none⟩) (hk : k < 448)
    (hj : nth ob j = some (rfO b r)) (hv : rfC r k = v) (hK : K (.v v)) : ValX C o [.v (.pointer (some ad))] ob K := by
  subst had hv
  unfold ValX
  intro σ fp w ρ hm hx
  obtain ⟨hid, hti⟩ := hT t te hte
  obtain ⟨⟨hR, _⟩, _⟩ := nth_rf hm hj
  have hl := load_one (w := w) hti hagg (hR.get hk)
  rw [hid] at hl
  refine ⟨_, hK, ?_, trivial⟩
  rw [ho] at hx
  simp [Op.operands, SV.vals, SV.val] at hx
  obtain ⟨dst, op, ty, pos, after, guard⟩ := o
  simp only at ho
  subst ho
  simp only [execOp, hx, Instr.loadAt, Instr.sureAddr, Sem.run_bind, Sem.run_pure, Result.andThen_ok, hl, SV.val]
theorem rfC_pl (r : RfT) {i j : Nat} (hi : i < 64) (hj : j < 5) : rfC r (128 + 5 * i + j) = plC (r.p i) j := by
  unfold rfC
  rw [if_neg (by omega), if_neg (by omega), show (128 + 5 * i + j - 128) / 5 = i by omega, show (128 + 5 * i + j - 128) % 5 = j by omega]
def plL (p : PlT) : List Value := [.int .i64 p.1, .bool p.2.1, .int .i64 p.2.2.1, .int .i64 p.2.2.2.1, .int .i64 p.2.2.2.2]
theorem plL_at (p : PlT) {j : Nat} (hj : j < 5) : (plL p)[j]? = some (plC p j) := by
  rcases (by omega : j = 0 ∨ j = 1 ∨ j = 2 ∨ j = 3 ∨ j = 4) with rfl | rfl | rfl | rfl | rfl <;> rfl
theorem ValX_rfP {o : Oper} {t : TypeId} {x : Operand} {te : TI} {ad : Addr} (j i : Nat) {K : SV → Prop} (hT : TabOk C.P C.T) (ho : o.op = .load t x) (hte : lookT C.T t = some te) (hagg : te.agg = true) (hz : te.zero.length = 5) (had : ad = ⟨b, 128 + 5 * i, none⟩) (hi : i < 64)
    (hj : nth ob j = some (rfO b r)) (hK : K (plX (r.p i))) : ValX C o [.v (.pointer (some ad))] ob K := by
  subst had
  unfold ValX
  intro σ fp w ρ hm hx
  obtain ⟨hid, hti⟩ := hT t te hte
  obtain ⟨⟨hR, _⟩, _⟩ := nth_rf hm hj
  obtain ⟨d, hd, hrow⟩ := hti.under
  rw [hagg] at hrow
  have hcs : w.rangeAt b (128 + 5 * i) (plL (r.p i)) := by
    intro q v hv
    have hq : q < 5 := by
      have := (List.getElem?_eq_some_iff.1 hv).1
      simpa [plL] using this
    rw [hR.get (by omega), rfC_pl r hi hq, ← plL_at _ hq, hv]
  have hl := run_loadVar_mid (P := C.P) w b (128 + 5 * i) te.id (plL (r.p i)) d hcs hd hrow (by rw [hti.info, hz]; rfl)
  rw [hid] at hl
  refine ⟨_, hK, ?_, by simp [SV.wf, SV.wfs]⟩
  rw [ho] at hx
  simp [Op.operands, SV.vals, SV.val] at hx
  obtain ⟨dst, op, ty, pos, after, guard⟩ := o
  simp only at ho
  subst ho
  simp only [execOp, hx, Instr.loadAt, Instr.sureAddr, Sem.run_bind, Sem.run_pure, Result.andThen_ok, hl, SV.val, SV.vals]
  rfl
theorem ArgSl.rf (j i : Nat) (hi : i < 64) (h : nth ob j = some (rfO b r)) : ∀ σ fp w, Mem C σ fp ob w → ArgSl w (r.s i).1 (r.s i).2.2.length 2 ((r.s i).2.2.map encBm) := by
  intro σ fp w hm
  obtain ⟨_, hs, _⟩ := nth_rf hm h
  exact (hs i hi).1
theorem rf_store {L : List Value} {f : Nat → Value} (hl : L.length = 448) (hf : ∀ k, k < 448 → L[k]? = some (f k)) {off : Nat} {vs : List Value} (ho : off + vs.length ≤ 448) :
    (L.take off ++ vs ++ L.drop (off + vs.length)).length = 448 ∧ ∀ k, k < 448 → (L.take off ++ vs ++ L.drop (off + vs.length))[k]? = some (if off ≤ k ∧ k < off + vs.length then vs.getD (k - off) undef else f k) := by
  refine ⟨by simp; omega, fun k hk => ?_⟩
  have h1 : (L.take off).length = off := by simp; omega
  by_cases c1 : k < off
  · rw [if_neg (by omega), List.append_assoc, List.getElem?_append_left (by omega), List.getElem?_take, if_pos c1, hf k hk]
  · by_cases c2 : k < off + vs.length
    · rw [if_pos ⟨by omega, c2⟩, List.getElem?_append_left (by simp; omega), List.getElem?_append_right (by omega), h1]
      simp [show k - off < vs.length by omega]
    · rw [if_neg (by omega), List.getElem?_append_right (by simp; omega)]
      simp only [List.length_append, h1, List.getElem?_drop]
      rw [show off + vs.length + (k - (off + vs.length)) = k by omega, hf k hk]
theorem rf_set {o : Oper} {t : TypeId} {x y : Operand} {te : TI} {ad : Addr} {v : SV} {off : Nat} {vs : List Value} {r' : RfT} (hT : TabOk C.P C.T) (ho : o.op = .store t x y) (hte : lookT C.T t = some te) (had : ad = ⟨b, off, none⟩) (hoff : off + vs.length ≤ 448)
    (hz : te.zero.length = vs.length) (hvs : ∀ σ, v.val σ = .agg vs.toArray ∨ ∃ u, vs = [u] ∧ v.val σ = u) (hone : ∀ u ∈ vs, Value.oneCell' u = true) (hr : ∀ k, k < 448 → rfC r' k = if off ≤ k ∧ k < off + vs.length then vs.getD (k - off) undef else rfC r k)
    {σ : Nat → Nat} {w : World} (hR : RfAt w b r) {ρ : Operand → Value} (hx : o.op.operands.toList.map ρ = SV.vals σ [.v (.pointer (some ad)), v]) :
    ∃ w', (execOp ρ o).run C.P w = .ok .skip w' ∧ RfAt w' b r' ∧ (∀ i, i ≠ b → w'.heap[i]? = w.heap[i]?) ∧ w'.heap.size = w.heap.size ∧ w'.os = w.os ∧ w'.tape = w.tape ∧ w'.output = w.output ∧ w'.drawn = w.drawn := by
  subst had
  obtain ⟨hid, hti⟩ := hT t te hte
  obtain ⟨L, h1, h2, h3⟩ := hR
  rw [ho] at hx
  simp [Op.operands, SV.vals, SV.val] at hx
  have hst := run_storeCells_at (P := C.P) b off 135 vs 0 L.toArray w h1 (by simp; omega) hone
  simp only [Nat.add_zero] at hst
  have hsz := hti.run_size w
  rw [hid, hz] at hsz
  have hcv : (v.val σ).cells = vs.toArray := by
    rcases hvs σ with h | ⟨u, rfl, h⟩
    · rw [h]; rfl
    · rw [h]
      have := hone u (by simp)
      cases u <;> first | rfl | cases this
  obtain ⟨dst, op, ty, pos, after, guard⟩ := o
  simp only at ho
  subst ho
  refine ⟨w.setRow b (L.take off ++ vs ++ L.drop (off + vs.length)).toArray, ?_, ?_, ?_, ?_, rfl, rfl, rfl, rfl⟩
  · simp only [execOp, Instr.storeAt, hx.1, hx.2, Instr.sureAddr, Sem.run_bind, Sem.run_pure, Result.andThen_ok, storeVar, hsz, hcv, List.size_toArray, ne_eq, not_true, if_false, Nat.zero_add]
    simp only [hst, Result.andThen_ok]
  · obtain ⟨g1, g2⟩ := rf_store h2 h3 hoff
    exact ⟨_, setRow_heap w b L.toArray _ _ (0, 0) h1, g1, fun k hk => by rw [g2 k hk, hr k hk]⟩
  · intro i hi
    simp [World.setRow, Array.getElem?_modify, Ne.symm hi]
  · simp [World.setRow]
theorem rfC_setH (r : RfT) (i : Nat) (hi : i < 64) (v : Bool) (k : Nat) (hk : k < 448) : rfC { r with h := setF r.h i v } k = if 64 + i ≤ k ∧ k < 64 + i + [Value.bool v].length then [Value.bool v].getD (k - (64 + i)) undef else rfC r k := by
  unfold rfC setF
  simp only [List.length_cons, List.length_nil, Nat.zero_add]
  by_cases c1 : k < 64
  · rw [if_pos c1, if_neg (by omega), if_pos c1]
  · by_cases c2 : k < 128
    · rw [if_neg c1, if_pos c2]
      by_cases c3 : k = 64 + i
      · rw [if_pos (by omega), if_pos (by omega), c3, Nat.sub_self]
        rfl
      · rw [if_neg (by omega), if_neg (by omega), if_neg c1, if_pos c2]
    · rw [if_neg c1, if_neg c2, if_neg (by omega), if_neg c1, if_neg c2]
theorem rfC_setS (r : RfT) (i : Nat) (hi : i < 64) (v : SlT) (k : Nat) (hk : k < 448) : rfC { r with s := setF r.s i v } k = if i ≤ k ∧ k < i + [encS v].length then [encS v].getD (k - i) undef else rfC r k := by
  unfold rfC setF
  simp only [List.length_cons, List.length_nil, Nat.zero_add]
  by_cases c1 : k < 64
  · rw [if_pos c1]
    by_cases c3 : k = i
    · rw [if_pos (by omega), if_pos (by omega), c3, Nat.sub_self]
      rfl
    · rw [if_neg (by omega), if_neg (by omega), if_pos c1]
  · rw [if_neg c1, if_neg (c := i ≤ k ∧ k < i + 1) (by omega), if_neg c1]
theorem rfC_setP (r : RfT) (i : Nat) (hi : i < 64) (v : PlT) (k : Nat) (hk : k < 448) : rfC { r with p := setF r.p i v } k = if 128 + 5 * i ≤ k ∧ k < 128 + 5 * i + (plL v).length then (plL v).getD (k - (128 + 5 * i)) undef else rfC r k := by
  have hl : (plL v).length = 5 := rfl
  rw [hl]
  unfold rfC setF
  dsimp only
  by_cases c1 : k < 64
  · rw [if_pos c1, if_neg (by omega), if_pos c1]
  · by_cases c2 : k < 128
    · rw [if_neg c1, if_pos c2, if_neg (by omega), if_neg c1, if_pos c2]
    · rw [if_neg c1, if_neg c2]
      by_cases c3 : (k - 128) / 5 = i
      · rw [if_pos (by omega), if_pos (by omega)]
        have := plL_at v (j := k - (128 + 5 * i)) (by omega)
        rw [List.getD_eq_getElem?_getD, this]
        rw [show (k - 128) % 5 = k - (128 + 5 * i) by omega]
        rfl
      · rw [if_neg (by omega), if_neg (by omega), if_neg c1, if_neg c2]
theorem OpX_rf {o : Oper} {t : TypeId} {x y : Operand} {te : TI} {ad : Addr} {v : SV} {off : Nat} {vs : List Value} {K : SV → List OB → Prop} (j : Nat) (r' : RfT) (hT : TabOk C.P C.T) (ho : o.op = .store t x y) (hte : lookT C.T t = some te) (had : ad = ⟨b, off, none⟩) (hoff : off + vs.length ≤ 448)
    (hz : te.zero.length = vs.length) (hvs : ∀ σ, v.val σ = .agg vs.toArray ∨ ∃ u, vs = [u] ∧ v.val σ = u) (hone : ∀ u ∈ vs, Value.oneCell' u = true) (hr : ∀ k, k < 448 → rfC r' k = if off ≤ k ∧ k < off + vs.length then vs.getD (k - off) undef else rfC r k) (hs : r'.s = r.s)
    (hj : nth ob j = some (rfO b r)) (hK : force (setN ob j (rfO b r')) fun ob => K (.v undef) ob) : OpX C o [.v (.pointer (some ad)), v] ob K := by
  unfold OpX
  intro σ fp w ρ hm hx
  obtain ⟨⟨hR, hF⟩, hS, hjl⟩ := nth_rf hm hj
  obtain ⟨w', hex, hR', s2, s3, q1, q2, q3, q4⟩ := rf_set hT ho hte had hoff hz hvs hone hr hR hx
  rw [hex]
  have hsame : ∀ q, q < w.heap.size → ¬ fp j q → w'.heap[q]? = w.heap[q]? := fun q hq hnq => s2 q fun e => hnq (e ▸ hF)
  have hM := hm.change (w' := w') hjl (rfO b r') (fp j) (rfO_mk hR' hF (fun i hi => by
      rw [hs]
      exact (hS i hi).ext (fun _ h => h) fun a ha => s2 a ha.2)) (fun i hi => .inl hi) (by
      intro q hq
      have := hm.hi j hjl q hq
      rw [s3]
      exact this) q1 q2 q3 (by rw [s3]; exact Nat.le_refl _) hsame (fun _ => by rw [q4]; exact Nat.le_refl _)
  rw [force_eq, setN_eq] at hK
  exact ⟨.v undef, _, σ, _, hK, fun _ _ => rfl, by simp, rfl, trivial, hM, Frm.changed hjl (by simp) (fun i hi => .inl hi) (by rw [s3]; exact Nat.le_refl _) hsame⟩
theorem OpX_rfS {o : Oper} {t : TypeId} {x y : Operand} {te : TI} {ad : Addr} {e : Nat} {s : SlT} {K : SV → List OB → Prop} (j q i : Nat) (hjq : j ≠ q) (hi : i < 64) (hT : TabOk C.P C.T) (ho : o.op = .store t x y) (hte : lookT C.T t = some te) (had : ad = ⟨b, i, none⟩) (hz : te.zero.length = 1)
    (hj : nth ob j = some (rfO b r)) (hq : nth ob q = some (.row e 2 s.1 s.2.2.length s.2.1 (s.2.2.map encBm))) (hK : force (setN (setN ob j (rfO b { r with s := setF r.s i s })) q noO) fun ob => K (.v undef) ob) : OpX C o [.v (.pointer (some ad)), .v (.slice s.1 s.2.2.length s.2.1)] ob K := by
  unfold OpX
  intro σ fp w ρ hm hx
  obtain ⟨⟨hR, hF⟩, hS, hjl⟩ := nth_rf hm hj
  obtain ⟨hb, hql⟩ := nth_row hm hq
  obtain ⟨w', hex, hR', s2, s3, q1, q2, q3, q4⟩ := rf_set (vs := [encS s]) (v := .v (encS s)) hT ho hte had (by simp; omega) (by rw [hz]; rfl) (fun σ => .inr ⟨_, rfl, rfl⟩) (by simp [encS, Value.oneCell']) (rfC_setS r i hi s) hR hx
  rw [hex]
  have hsame : ∀ q, q < w.heap.size → ¬ fp j q → w'.heap[q]? = w.heap[q]? := fun q hq hnq => s2 q fun e => hnq (e ▸ hF)
  have hnb : ¬ fp q b := fun h => hm.disj j q hjl hql hjq b hF h
  have hrow : InF w (fp q) s := by
    obtain ⟨h1, h2, h3, h4, h5⟩ := hb
    exact ⟨ArgSl.of_owns h1 h2 h3 h4, fun _ a o q hA => (h5 a).2 (by rw [hA]; rfl)⟩
  have hrow' : InF w' (fun a => (fp j a ∨ fp q a) ∧ a ≠ b) s := hrow.ext (fun a ha => ⟨.inr ha, fun e => hnb (e ▸ ha)⟩) fun a ha => s2 a fun e => hnb (e ▸ ha)
  have hM := hm.merge (w' := w') hjl hql hjq (rfO b { r with s := setF r.s i s }) noO (rfO_mk hR' (.inl hF) (by
      intro k hk
      dsimp only
      unfold setF
      split
      · exact hrow'
      · exact (hS k hk).ext (fun a ha => ⟨.inl ha.1, ha.2⟩) fun a ha => s2 a ha.2)) ⟨trivial, fun _ _ => trivial⟩ q1 q2 q3 s3 hsame q4
  rw [force_eq, setN_eq, setN_eq] at hK
  refine ⟨.v undef, _, σ, _, hK, fun _ _ => rfl, by simp, rfl, trivial, hM, ⟨fun i _ hi hno => hsame i hi (hno j hjl), fun k' hk' i hi _ hlt => ?_, by rw [s3]; exact Nat.le_refl _⟩⟩
  simp at hk'
  by_cases e1 : k' = j
  · rw [if_pos e1] at hi
    rcases hi with hi | hi
    · exact ⟨j, hjl, hi⟩
    · exact ⟨q, hql, hi⟩
  · rw [if_neg e1] at hi
    by_cases e2 : k' = q
    · rw [if_pos e2] at hi
      exact hi.elim
    · rw [if_neg e2] at hi
      exact ⟨k', hk', hi⟩
def rf0 : RfT := ⟨fun _ => false, fun _ => (none, 0, []), fun _ => (0, false, 0, 0, 0)⟩
end
end Go.Proofs.YtadichckbogcjaaGreatDoor.En
namespace Go.Proofs.YtadichckbogcjaaGreatDoor.En
open Go.RowKit
set_option maxRecDepth 100000
def rf0L : List SV := (List.range 448).map fun k => .v (rfC rf0 k)
theorem vals_mapv {α : Type} (σ : Nat → Nat) (f : α → Value) : ∀ l : List α, SV.vals σ (l.map fun k => .v (f k)) = l.map f
  | [] => rfl
  | x :: l => by simp [SV.vals, SV.val, vals_mapv σ f l]
theorem Fin_rf0 {P : Program} {T : List TI} {n : Nat} {w : World} {M : Nat → Prop} {π : Nat → Nat} {cells : List SV} (hc : cells = rf0L) :
    Fin ⟨P, T, n, w, M, 0, π, false⟩ (RetM P w M 0 π (fun b : Nat => .v (.pointer (some ⟨b, 0, none⟩))) fun b => [rfO b rf0]) (.p 0 0) [.box 135 cells] := by
  unfold Fin
  intro σ fp w' hm _
  have hb := hm.at_ 0 _ rfl
  obtain ⟨h1, h2, h3⟩ := hb
  have hv : SV.vals σ cells = (List.range 448).map (rfC rf0) := by
    rw [hc]
    exact vals_mapv σ (rfC rf0) (List.range 448)
  rw [hv] at h1
  refine ⟨σ 0, σ, fp, rfl, trivial, ⟨?_, hm.disj, hm.lo, hm.hi, hm.kept, ⟨Nat.zero_le _, fun j hj => by cases hj⟩, fun h => by cases h⟩⟩
  intro k o hk
  match k, hk with
  | 0, hk =>
    cases hk
    refine rfO_mk ⟨_, h1, by simp, fun k hk => ?_⟩ ((h2 _).2 rfl) (fun i hi => ?_)
    · rw [List.getElem?_map, List.getElem?_range hk]
      rfl
    · exact ⟨⟨rfl, by simp [rf0], by simp [rf0], fun h => (h rfl).elim⟩, fun h => (h rfl).elim⟩
  | k + 1, hk => cases hk
abbrev pR (b : Nat) : SV := .v (.pointer (some ⟨b, 0, none⟩))
theorem rNew_m : CallM Tryz.prog 42 [] (fun _ _ => True) [] (fun b : Nat => pR b) (fun b => [rfO b rf0]) := by
  refine CallM.of (m := 0) Tryz.func42 rfl tabOk rfl rfl rfl rfl (by simp [SV.wfs, SV.wf]) fun w M π _ => ?_
  conv => whnf
  exact Fin_rf0 (by kernel_rfl)
theorem rId_x (k : Int) : PureX Tryz.prog 84 [I k] (B (vId k)) := by
  refine PureX.of Tryz.func84 rfl tabOk rfl rfl rfl (by simp [SV.wfs, SV.wf]) (by simp [SV.wfs, SV.wf]) fun w => ?_
  (conv=>whnf);repeat' (first|with_reducible exact rfl|((with_reducible first|refine xif_kt (by assumption) ?_|refine xif_kf (by assumption) ?_);conv=>whnf)|((with_reducible refine xif_s ?_ ?_)<;>(intro hb;(try simp (disch:=omega) only [hbS] at hb)<;>conv=>whnf)))
  all_goals refine Fin_pure rfl (B_eq ?_) trivial
  all_goals first | (simp [vId, hb]; done) | (simp [vId]; omega)
theorem scan_sm {s : BmsT} (h : scanB s = true) {k : Nat} (hk : k < s.length) : s.length ≤ 32 ∧ (-10 ≤ (s.getD k b0).1 ∧ (s.getD k b0).1 ≤ 10000) ∧ -10 ≤ (s.getD k b0).2 ∧ (s.getD k b0).2 ≤ 10000 := by
  obtain ⟨h1, h2, h3, h4, h5⟩ := scan_ok h hk
  omega
set_option maxHeartbeats 1000000 in
theorem rCompare_w (A1 A2 : Option Addr) (c1 c2 : Nat) (a b : List BeamT) {n m : Nat} (ha : a.length = n) (hb0 : b.length = m) (hsa : scanB a = true) (hsb : scanB b = true) :
    CallW Tryz.prog 86 [.v (.slice A1 n c1), .v (.slice A2 m c2)] (fun w => ArgSl w A1 n 2 (a.map encB) ∧ ArgSl w A2 m 2 (b.map encB)) (I (lexC (keyS a) (keyS b))) := by
  have hla : n ≤ 32 := by
    unfold scanB at hsa
    simp only [Bool.and_eq_true, decide_eq_true_eq] at hsa
    omega
  have hlb : m ≤ 32 := by
    unfold scanB at hsb
    simp only [Bool.and_eq_true, decide_eq_true_eq] at hsb
    omega
  have e : lexC (keyS a) (keyS b) = if cmpI n m = 0 then lexC (flatB a) (flatB b) else cmpI n m := by
    rw [← ha, ← hb0]
    rfl
  rw [e]
  by_cases h : n = m
  · subst h
    rw [if_pos (cmpI_zero.2 rfl)]
    refine CallW.of Tryz.func86 rfl tabOk rfl rfl rfl (by simp [SV.wfs, SV.wf]) (by simp [SV.wfs, SV.wf]) fun w hpre => ?_
    obtain ⟨h1, h2⟩ := hpre
    (conv=>whnf);repeat' (first|((with_reducible refine isO ?_);first|((first|(refine OpX_build0 tabOk rfl rfl rfl ?_);intro bN|(refine OpX_build tabOk rfl rfl rfl rfl rfl ?_);intro bN);conv=>whnf))|((with_reducible refine isW ?_;first|refine xwr_ok (by omega) (by omega) ?_|refine xwr_raw ?_);conv=>whnf)|((first|refine DrawX_s tabOk folOk ?_|refine DrawS_i (by kernel_rfl) ?_|with_reducible refine andX_i ?_ ?_)<;>conv=>whnf)|with_reducible exact rfl|((with_reducible first|refine xif_kt (by assumption) ?_|refine xif_kf (by assumption) ?_);conv=>whnf)|((with_reducible refine xif_s ?_ ?_)<;>(intro hb;(try simp (disch:=omega) only [hbS] at hb)<;>conv=>whnf)))
    all_goals try (exfalso; omega)
    refine LoopX_inv tabOk (α := Nat) (fun k => k ≤ n ∧ lexC (flatB a) (flatB b) = lexC (flatB (a.drop k)) (flatB (b.drop k))) (fun k => [(0, .v (.slice A1 n c1)), (1, .v (.slice A2 n c2)), (5, I k)]) (fun _ => []) (fun k => n - k) 0 [] ⟨Nat.zero_le _, by simp⟩ ?_ ?_
    · ((refine ⟨?_, ?_, ?_, ?_⟩) <;> (repeat' ((conv => whnf); apply And.intro)) <;> (try (first | exact trivial | decide)))
      all_goals first | rfl | exact fun _ _ h => h | simp [SV.wf, SV.wfs]
    · rintro k ⟨hk, hlx⟩
      by_cases hlt : k < n
      · have sa := scan_sm hsa (k := k) (by omega)
        have sb := scan_sm hsb (k := k) (by omega)
        have o1 := PureD.pure (order_d (a.getD k b0).1 (b.getD k b0).1 (by omega) (by omega))
        have o2 := PureD.pure (order_d (a.getD k b0).2 (b.getD k b0).2 (by omega) (by omega))
        have da : a.drop k = a.getD k b0 :: a.drop (k + 1) := by
          rw [List.drop_eq_getElem_cons (show k < a.length by omega)]
          simp [show k < a.length by omega]
        have db : b.drop k = b.getD k b0 :: b.drop (k + 1) := by
          rw [List.drop_eq_getElem_cons (show k < b.length by omega)]
          simp [show k < b.length by omega]
        rw [da, db, lexC_cons2] at hlx
        have kf := fun (A : Option Addr) (c : Nat) => first_v A c [cmpI (a.getD k b0).1 (b.getD k b0).1, cmpI (a.getD k b0).2 (b.getD k b0).2] (n := 2) rfl (by decide)
        generalize cmpI (a.getD k b0).1 (b.getD k b0).1 = x1 at *
        generalize cmpI (a.getD k b0).2 (b.getD k b0).2 = x2 at *
        generalize orI [x1, x2] = O at *
        (conv=>whnf);repeat' (first|((with_reducible refine isC ?_);first|((first|with_reducible refine CallX_pure (o1) ?_|with_reducible refine CallX_pure (o2) ?_)<;>first|omega|with_reducible refine isP ?_|conv=>whnf)|(((with_reducible refine isF 120 ?_);(refine CallX_v (kf _ _) (ArgSl.row 0 rfl) ?_));conv=>whnf))|((with_reducible refine isV ?_);first|((first|refine ValX_index tabOk rfl (h1.mem (by decide) rfl) rfl ?_ ?_ ?_|refine ValX_index tabOk rfl (h2.mem (by decide) rfl) rfl ?_ ?_ ?_)<;>first|rfl|omega|with_reducible refine isP ?_|conv=>whnf)|((first|(with_reducible refine nat_idxF ?_);refine ValX_loadFn _ _ (b0) _ tabOk rfl rfl rfl (h1.mem (by decide) rfl) ?_ ?_ rfl ?_|refine ValX_loadF _ _ (b0) _ tabOk rfl rfl rfl (h1.mem (by decide) rfl) ?_ ?_ rfl ?_|(with_reducible refine nat_idxF ?_);refine ValX_loadFn _ _ (b0) _ tabOk rfl rfl rfl (h2.mem (by decide) rfl) ?_ ?_ rfl ?_|refine ValX_loadF _ _ (b0) _ tabOk rfl rfl rfl (h2.mem (by decide) rfl) ?_ ?_ rfl ?_)<;>first|omega|(simp;omega)|with_reducible refine isP ?_|conv=>whnf))|((with_reducible refine isO ?_);first|((first|(refine OpX_build0 tabOk rfl rfl rfl ?_);intro bN|(refine OpX_build tabOk rfl rfl rfl rfl rfl ?_);intro bN);conv=>whnf))|((with_reducible refine isW ?_;first|refine xwr_ok (by omega) (by omega) ?_|refine xwr_raw ?_);conv=>whnf)|((first|refine DrawX_s tabOk folOk ?_|refine DrawS_i (by kernel_rfl) ?_|with_reducible refine andX_i ?_ ?_)<;>conv=>whnf)|with_reducible exact rfl|((with_reducible first|refine xif_kt (by assumption) ?_|refine xif_kf (by assumption) ?_);conv=>whnf)|((with_reducible refine xif_s ?_ ?_)<;>(intro hb;(try simp (disch:=omega) only [hbS] at hb)<;>conv=>whnf)))
        all_goals try (exfalso; omega)
        · rw [if_neg hb] at hlx
          rw [hlx]
          exact Fin_pure rfl rfl trivial
        · rw [if_pos hb] at hlx
          refine ⟨k + 1, [], ⟨by omega, hlx⟩, ?_, by (try dsimp only); omega⟩
          ((refine ⟨?_, ?_, ?_, ?_⟩) <;> (repeat' ((conv => whnf); apply And.intro)) <;> (try (first | exact trivial | decide)))
          all_goals first | rfl | exact fun _ _ h => h | (simp [SV.wf, SV.wfs]; done) | trace_state
      · obtain rfl : k = n := by omega
        rw [List.drop_of_length_le (by omega), List.drop_of_length_le (by omega)] at hlx
        (conv=>whnf);repeat' (first|((with_reducible refine isO ?_);first|((first|(refine OpX_build0 tabOk rfl rfl rfl ?_);intro bN|(refine OpX_build tabOk rfl rfl rfl rfl rfl ?_);intro bN);conv=>whnf))|((with_reducible refine isW ?_;first|refine xwr_ok (by omega) (by omega) ?_|refine xwr_raw ?_);conv=>whnf)|((first|refine DrawX_s tabOk folOk ?_|refine DrawS_i (by kernel_rfl) ?_|with_reducible refine andX_i ?_ ?_)<;>conv=>whnf)|with_reducible exact rfl|((with_reducible first|refine xif_kt (by assumption) ?_|refine xif_kf (by assumption) ?_);conv=>whnf)|((with_reducible refine xif_s ?_ ?_)<;>(intro hb;(try simp (disch:=omega) only [hbS] at hb)<;>conv=>whnf)))
        all_goals try (exfalso; omega)
        rw [hlx]
        exact Fin_pure rfl rfl trivial
  · have hne : cmpI (n : Int) (m : Int) ≠ 0 := fun hc => h (by have := cmpI_zero.1 hc; omega)
    rw [if_neg hne]
    have o1 := PureD.pure (order_d (n : Int) (m : Int) (by omega) (by omega))
    generalize cmpI (n : Int) (m : Int) = O at *
    refine CallW.of Tryz.func86 rfl tabOk rfl rfl rfl (by simp [SV.wfs, SV.wf]) (by simp [SV.wfs, SV.wf]) fun w hpre => ?_
    (conv=>whnf);repeat' (first|((with_reducible refine isC ?_);first|((with_reducible refine CallX_pure (o1) ?_)<;>first|omega|with_reducible refine isP ?_|conv=>whnf))|((with_reducible refine isO ?_);first|((first|(refine OpX_build0 tabOk rfl rfl rfl ?_);intro bN|(refine OpX_build tabOk rfl rfl rfl rfl rfl ?_);intro bN);conv=>whnf))|((with_reducible refine isW ?_;first|refine xwr_ok (by omega) (by omega) ?_|refine xwr_raw ?_);conv=>whnf)|((first|refine DrawX_s tabOk folOk ?_|refine DrawS_i (by kernel_rfl) ?_|with_reducible refine andX_i ?_ ?_)<;>conv=>whnf)|with_reducible exact rfl|((with_reducible first|refine xif_kt (by assumption) ?_|refine xif_kf (by assumption) ?_);conv=>whnf)|((with_reducible refine xif_s ?_ ?_)<;>(intro hb;(try simp (disch:=omega) only [hbS] at hb)<;>conv=>whnf)))
    all_goals try (exfalso; omega)
    exact Fin_pure rfl rfl trivial
end Go.Proofs.YtadichckbogcjaaGreatDoor.En
namespace Go.Proofs.YtadichckbogcjaaGreatDoor.En
open Go.RowKit
set_option maxRecDepth 100000
theorem rf_ad (b off i sz : Nat) : ((⟨b, 0, none⟩ : Addr).add off).add ((i : Int).toNat * sz) = ⟨b, off + sz * i, none⟩ := by
  rw [Addr.add_mid, Addr.add_mid, Int.toNat_natCast, Nat.zero_add, Nat.mul_comm]
theorem rf_ad0 (b off i sz : Nat) : (((⟨b, 0, none⟩ : Addr).add off).add ((i : Int).toNat * sz)).add 0 = ⟨b, off + sz * i, none⟩ := by
  rw [rf_ad, Addr.add_mid, Nat.add_zero]
section
variable {C : Ctx} {ob : List OB} {b : Nat} {r : RfT} {o : Oper} {t : TypeId} {x y : Operand} {te : TI}
theorem ValX_rfH (j i : Nat) (v : Bool) {K : SV → Prop} (hT : TabOk C.P C.T) (ho : o.op = .load t x) (hte : lookT C.T t = some te) (hagg : te.agg = false) (hj : nth ob j = some (rfO b r)) (hi : i < 64) (hv : r.h i = v) (hK : K (B v)) :
    ValX C o [.v (.pointer (some (((⟨b, 0, none⟩ : Addr).add 64).add ((i : Int).toNat * 1))))] ob K := by
  subst hv
  refine ValX_rf1 j (64 + i) _ hT ho hte hagg (by rw [rf_ad, Nat.one_mul]) (by omega) hj ?_ hK
  unfold rfC
  rw [if_neg (by omega), if_pos (by omega), Nat.add_sub_cancel_left]
theorem ValX_rfS (j i : Nat) (v : SlT) {K : SV → Prop} (hT : TabOk C.P C.T) (ho : o.op = .load t x) (hte : lookT C.T t = some te) (hagg : te.agg = false) (hj : nth ob j = some (rfO b r)) (hi : i < 64) (hv : r.s i = v) (hK : K (.v (.slice v.1 v.2.2.length v.2.1))) :
    ValX C o [.v (.pointer (some (((⟨b, 0, none⟩ : Addr).add 0).add ((i : Int).toNat * 1))))] ob K := by
  subst hv
  refine ValX_rf1 j i _ hT ho hte hagg (by rw [rf_ad, Nat.one_mul, Nat.zero_add]) (by omega) hj ?_ hK
  unfold rfC
  rw [if_pos hi]
  rfl
theorem ValX_rfV (j i : Nat) (v : Int) {K : SV → Prop} (hT : TabOk C.P C.T) (ho : o.op = .load t x) (hte : lookT C.T t = some te) (hagg : te.agg = false) (hj : nth ob j = some (rfO b r)) (hi : i < 64) (hv : (r.p i).1 = v) (hK : K (I v)) :
    ValX C o [.v (.pointer (some ((((⟨b, 0, none⟩ : Addr).add 128).add ((i : Int).toNat * 5)).add 0)))] ob K := by
  subst hv
  refine ValX_rf1 j (128 + 5 * i + 0) _ hT ho hte hagg (by rw [rf_ad0]; rfl) (by omega) hj (rfC_pl r hi (by omega)) hK
theorem ValX_rfQ (j i : Nat) (v : PlT) {K : SV → Prop} (hT : TabOk C.P C.T) (ho : o.op = .load t x) (hte : lookT C.T t = some te) (hagg : te.agg = true) (hz : te.zero.length = 5) (hj : nth ob j = some (rfO b r)) (hi : i < 64) (hv : r.p i = v) (hK : K (plX v)) :
    ValX C o [.v (.pointer (some (((⟨b, 0, none⟩ : Addr).add 128).add ((i : Int).toNat * 5))))] ob K := by
  subst hv
  exact ValX_rfP j i hT ho hte hagg hz (rf_ad b 128 i 5) hi hj hK
theorem OpX_rfH (j i : Nat) (v : Bool) {K : SV → List OB → Prop} (hT : TabOk C.P C.T) (ho : o.op = .store t x y) (hte : lookT C.T t = some te) (hz : te.zero.length = 1) (hj : nth ob j = some (rfO b r)) (hi : i < 64) (hK : force (setN ob j (rfO b { r with h := setF r.h i v })) fun ob => K (.v undef) ob) :
    OpX C o [.v (.pointer (some (((⟨b, 0, none⟩ : Addr).add 64).add ((i : Int).toNat * 1)))), .v (.bool v)] ob K :=
  OpX_rf (off := 64 + i) (vs := [.bool v]) j _ hT ho hte (by rw [rf_ad, Nat.one_mul]) (by simp; omega) (by rw [hz]; rfl) (fun σ => .inr ⟨_, rfl, rfl⟩) (by simp [Value.oneCell']) (rfC_setH r i hi v) rfl hj hK
theorem OpX_rfQ (j i : Nat) (v : PlT) {K : SV → List OB → Prop} (hT : TabOk C.P C.T) (ho : o.op = .store t x y) (hte : lookT C.T t = some te) (hz : te.zero.length = 5) (hj : nth ob j = some (rfO b r)) (hi : i < 64) (hK : force (setN ob j (rfO b { r with p := setF r.p i v })) fun ob => K (.v undef) ob) :
    OpX C o [.v (.pointer (some (((⟨b, 0, none⟩ : Addr).add 128).add ((i : Int).toNat * 5)))), plX v] ob K :=
  OpX_rf (off := 128 + 5 * i) (vs := plL v) j _ hT ho hte (rf_ad b 128 i 5) (by simp [plL]; omega) (by rw [hz]; rfl) (fun σ => .inl rfl) (by simp [plL, Value.oneCell']) (rfC_setP r i hi v) rfl hj hK
theorem OpX_rfT {e m : Nat} {els : List (List Value)} (j q i : Nat) (s : SlT) {K : SV → List OB → Prop} (hjq : j ≠ q) (hT : TabOk C.P C.T) (ho : o.op = .store t x y) (hte : lookT C.T t = some te) (hz : te.zero.length = 1) (hj : nth ob j = some (rfO b r)) (hi : i < 64)
    (hm : m = s.2.2.length) (he : els = s.2.2.map encBm) (hq : nth ob q = some (.row e 2 s.1 m s.2.1 els)) (hK : force (setN (setN ob j (rfO b { r with s := setF r.s i s })) q noO) fun ob => K (.v undef) ob) :
    OpX C o [.v (.pointer (some (((⟨b, 0, none⟩ : Addr).add 0).add ((i : Int).toNat * 1)))), .v (.slice s.1 m s.2.1)] ob K := by
  subst hm he
  exact OpX_rfS j q i hjq hi hT ho hte (by rw [rf_ad, Nat.one_mul, Nat.zero_add]) hz hj hq hK
end
def okR (r : RfT) : Prop := ∀ k, scanB (r.s k).2.2 = true ∧ smP (r.p k) ∧ 0 ≤ (r.p k).1 ∧ ((r.p k).1 = 0 → r.p k = (0, false, 0, 0, 0)) ∧ (vId k = false → r.h k = false ∧ (r.p k).1 = 0)
def absR (r : RfT) : AtT := (fun k => if r.h k then some (r.s k).2.2 else none, fun k => if (r.p k).1 = 0 then none else some (r.p k))
abbrev RfI (a : AtT) := {r : RfT // okR r ∧ absR r = a}
theorem okR0 : okR rf0 := fun _ => ⟨(by decide : scanB [] = true), smP0, Int.le_refl _, fun _ => rfl, fun _ => ⟨rfl, rfl⟩⟩
theorem putR_ok {r : RfT} (hok : okR r) {i : Nat} (hi : i < 64) {s : BmsT} (hs : scanB s = true) {A : Option Addr} {c : Nat} (hm : mxO keyS ((absR r).1 i) s = some s) :
    okR { r with h := setF r.h i true, s := setF r.s i (A, c, s) } ∧ absR { r with h := setF r.h i true, s := setF r.s i (A, c, s) } = putA (absR r) i s := by
  have hv : vId (i : Int) = true := by
    simp only [vId, Bool.and_eq_true, decide_eq_true_eq]
    omega
  constructor
  · intro k
    obtain ⟨h1, h2, h3, h4, h5⟩ := hok k
    refine ⟨?_, h2, h3, h4, fun hk => ⟨?_, (h5 hk).2⟩⟩
    · show scanB (setF r.s i (A, c, s) k).2.2 = true
      unfold setF
      split
      · exact hs
      · exact h1
    · show setF r.h i true k = false
      unfold setF
      rw [if_neg (by rintro rfl; rw [hv] at hk; cases hk)]
      exact (h5 hk).1
  · unfold putA
    rw [hs, hv]
    refine Prod.ext ?_ rfl
    funext k
    show (if setF r.h i true k then some (setF r.s i (A, c, s) k).2.2 else none) = updF (absR r).1 i (mxO keyS ((absR r).1 i) s) k
    rw [hm]
    unfold setF updF
    split
    · rfl
    · rfl
theorem plcR_ok {r : RfT} (hok : okR r) {i : Nat} (hi : i < 64) {p : PlT} (hp : vPl p = true) (hm : mxO keyP ((absR r).2 i) p = some p) :
    okR { r with p := setF r.p i p } ∧ absR { r with p := setF r.p i p } = plcA (absR r) i p := by
  have hv : vId (i : Int) = true := by
    simp only [vId, Bool.and_eq_true, decide_eq_true_eq]
    omega
  have h1p : 1 ≤ p.1 := by
    unfold vPl at hp
    simp only [Bool.and_eq_true, decide_eq_true_eq] at hp
    omega
  constructor
  · intro k
    obtain ⟨h1, h2, h3, h4, h5⟩ := hok k
    by_cases e : k = (i : Int)
    · have e2 : setF r.p i p k = p := by unfold setF; rw [if_pos e]
      refine ⟨h1, ?_, ?_, ?_, fun hk => by rw [e, hv] at hk; cases hk⟩
      · show smP (setF r.p i p k)
        rw [e2]
        exact vPl_sm hp
      · show 0 ≤ (setF r.p i p k).1
        rw [e2]
        omega
      · show (setF r.p i p k).1 = 0 → _
        rw [e2]
        omega
    · have e2 : setF r.p i p k = r.p k := by unfold setF; rw [if_neg e]
      refine ⟨h1, ?_, ?_, ?_, fun hk => ⟨(h5 hk).1, ?_⟩⟩
      · show smP (setF r.p i p k)
        rw [e2]
        exact h2
      · show 0 ≤ (setF r.p i p k).1
        rw [e2]
        exact h3
      · show (setF r.p i p k).1 = 0 → setF r.p i p k = _
        rw [e2]
        exact h4
      · show (setF r.p i p k).1 = 0
        rw [e2]
        exact (h5 hk).2
  · unfold plcA
    rw [hp, hv]
    refine Prod.ext rfl ?_
    funext k
    show (if (setF r.p i p k).1 = 0 then none else some (setF r.p i p k)) = updF (absR r).2 i (mxO keyP ((absR r).2 i) p) k
    rw [hm]
    unfold setF updF
    split
    · rw [if_neg (by omega)]
    · rfl
set_option maxHeartbeats 2000000 in
theorem rPut_m (b : Nat) (r : RfT) (k : Int) (A : Option Addr) (c : Nat) (s : BmsT) {n : Nat} (hl : s.length = n) (hn : n ≤ maxLen) (hok : okR r) :
    CallM Tryz.prog 44 [pR b, I k, .v (.slice A n c)] (fun w M => ArgN w M A n 2 (s.map encBm)) [rfO b r] (fun _ : RfI (putA (absR r) k s) => I (putC k s)) (fun q => [rfO b q.1]) := by
  have hn' := hn
  unfold maxLen at hn'
  subst hl
  have kv := bScan_w A c s rfl hn
  have ki := rId_x k
  refine CallM.of (m := 1) Tryz.func44 rfl tabOk rfl rfl rfl rfl (by simp [SV.wfs, SV.wf]) fun w M π hpre => ?_
  rcases Bool.eq_false_or_eq_true (scanB s) with hv | hv
  rotate_left
  · rw [hv] at kv
    (conv=>whnf);repeat' (first|((with_reducible refine isC ?_);first|(((with_reducible refine isF 65 ?_;refine CallX_w (kv) ?_ ?_);(focus exact ArgN.mem hpre (by decide)));conv=>whnf))|((with_reducible refine isO ?_);first|((first|(refine OpX_build0 tabOk rfl rfl rfl ?_);intro bN|(refine OpX_build tabOk rfl rfl rfl rfl rfl ?_);intro bN);conv=>whnf))|((first|refine DrawX_s tabOk folOk ?_|refine DrawS_i (by kernel_rfl) ?_|with_reducible refine andX_i ?_ ?_)<;>conv=>whnf)|with_reducible exact rfl|((with_reducible first|refine xif_kt (by assumption) ?_|refine xif_kf (by assumption) ?_);conv=>whnf)|((with_reducible refine xif_s ?_ ?_)<;>(intro hb;(try simp (disch:=omega) only [hbS] at hb)<;>conv=>whnf)))
    exact Fin_m ⟨r, hok, by unfold putA; rw [hv]; rfl⟩ [0] ⟨by unfold putC; rw [hv]; rfl, by simp [SV.wf, SV.wfs]⟩ ⟨fun _ _ h => h, trivial⟩ (by decide) rfl
  · rw [hv] at kv
    rcases Bool.eq_false_or_eq_true (vId k) with hi | hi
    rotate_left
    · rw [hi] at ki
      (conv=>whnf);repeat' (first|((with_reducible refine isC ?_);first|(((with_reducible refine isF 65 ?_;refine CallX_w (kv) ?_ ?_);(focus exact ArgN.mem hpre (by decide)));conv=>whnf)|((with_reducible refine CallX_pure (ki) ?_)<;>first|omega|with_reducible refine isP ?_|conv=>whnf))|((with_reducible refine isO ?_);first|((first|(refine OpX_build0 tabOk rfl rfl rfl ?_);intro bN|(refine OpX_build tabOk rfl rfl rfl rfl rfl ?_);intro bN);conv=>whnf))|((first|refine DrawX_s tabOk folOk ?_|refine DrawS_i (by kernel_rfl) ?_|with_reducible refine andX_i ?_ ?_)<;>conv=>whnf)|with_reducible exact rfl|((with_reducible first|refine xif_kt (by assumption) ?_|refine xif_kf (by assumption) ?_);conv=>whnf)|((with_reducible refine xif_s ?_ ?_)<;>(intro hb;(try simp (disch:=omega) only [hbS] at hb)<;>conv=>whnf)))
      exact Fin_m ⟨r, hok, by unfold putA; rw [hv, hi]; rfl⟩ [0] ⟨by unfold putC; rw [hv, hi]; rfl, by simp [SV.wf, SV.wfs]⟩ ⟨fun _ _ h => h, trivial⟩ (by decide) rfl
    · rw [hi] at ki
      have hcode : putC k s = 0 := by unfold putC; rw [hv, hi]; rfl
      rw [hcode]
      have hs32 : s.length ≤ 32 := by
        unfold scanB at hv
        simp only [Bool.and_eq_true, decide_eq_true_eq] at hv
        exact hv.1
      have hi' := hi
      simp only [vId, Bool.and_eq_true, decide_eq_true_eq] at hi'
      obtain ⟨i, rfl⟩ := Int.eq_ofNat_of_zero_le hi'.1
      have hi64 : i < 64 := by omega
      have hput := fun (A1 : Option Addr) (c1 : Nat) (hm : mxO keyS ((absR r).1 i) s = some s) => putR_ok (A := A1) (c := c1) hok hi64 hv hm
      rcases Bool.eq_false_or_eq_true (r.h i) with hh | hh
      rotate_left
      · have hm : mxO keyS ((absR r).1 i) s = some s := by
          have : (absR r).1 (i : Int) = none := by unfold absR; dsimp only; rw [hh]; rfl
          rw [this]
          rfl
        (conv=>whnf);repeat' (first|((with_reducible refine isC ?_);first|(((with_reducible refine isF 65 ?_;refine CallX_w (kv) ?_ ?_);(focus exact ArgN.mem hpre (by decide)));conv=>whnf)|((with_reducible refine CallX_pure (ki) ?_)<;>first|omega|with_reducible refine isP ?_|conv=>whnf))|((with_reducible refine isV ?_);first|((refine ValX_arr (n := 64) (sz := 1) tabOk rfl Tryz.underlying132 rfl rfl ?_ ?_ ?_) <;> first | omega | (conv => whnf))|((refine ValX_arr (n := 64) (sz := 1) tabOk rfl Tryz.underlying131 rfl rfl ?_ ?_ ?_) <;> first | omega | (conv => whnf))|((refine ValX_arr (n := 64) (sz := 5) tabOk rfl Tryz.underlying133 rfl rfl ?_ ?_ ?_) <;> first | omega | (conv => whnf))|(refine ValX_rfH 0 i false tabOk rfl rfl rfl rfl hi64 hh ?_; conv => whnf))|((with_reducible refine isO ?_);first|(refine OpX_rfH 0 i true tabOk rfl rfl rfl rfl hi64 ?_; conv => whnf)|((refine OpX_append 1 tabOk rfl rfl rfl rfl (ArgN.mem hpre (by decide)) (by decide) ?_ ?_ ?_)<;>first|omega|(dsimp only;omega)|(intro A' c';conv=>whnf))|(refine OpX_rfT 0 1 i (A', c', s) (by decide) tabOk rfl rfl rfl rfl hi64 (Nat.zero_add _) (List.nil_append _) rfl ?_; conv => whnf)|((first|(refine OpX_build0 tabOk rfl rfl rfl ?_);intro bN|(refine OpX_build tabOk rfl rfl rfl rfl rfl ?_);intro bN);conv=>whnf))|((first|refine DrawX_s tabOk folOk ?_|refine DrawS_i (by kernel_rfl) ?_|with_reducible refine andX_i ?_ ?_)<;>conv=>whnf)|with_reducible exact rfl|((with_reducible first|refine xif_kt (by assumption) ?_|refine xif_kf (by assumption) ?_);conv=>whnf)|((with_reducible refine xif_s ?_ ?_)<;>(intro hb;(try simp (disch:=omega) only [hbS] at hb)<;>conv=>whnf)))
        exact Fin_m ⟨_, hput A' c' hm⟩ [0] ⟨rfl, by simp [SV.wf, SV.wfs]⟩ ⟨fun _ _ h => h, trivial⟩ (by decide) rfl
      · have hsm : (absR r).1 (i : Int) = some (r.s i).2.2 := by unfold absR; dsimp only; rw [hh]; rfl
        have kc := rCompare_w A (r.s i).1 c (r.s i).2.1 s (r.s i).2.2 rfl rfl hv (hok i).1
        have hsl : r.s (i : Int) = r.s i := rfl
        generalize hL : lexC (keyS s) (keyS (r.s i).2.2) = L at *
        (conv=>whnf);repeat' (first|((with_reducible refine isC ?_);first|(((with_reducible refine isF 65 ?_;refine CallX_w (kv) ?_ ?_);(focus exact ArgN.mem hpre (by decide)));conv=>whnf)|((with_reducible refine CallX_pure (ki) ?_)<;>first|omega|with_reducible refine isP ?_|conv=>whnf)|(((with_reducible refine isF 86 ?_);(refine CallX_w kc (fun σ fp w hm => ⟨ArgN.mem hpre (by decide) σ fp w hm, ArgSl.rf 0 i hi64 rfl σ fp w hm⟩) ?_));conv=>whnf))|((with_reducible refine isV ?_);first|((refine ValX_arr (n := 64) (sz := 1) tabOk rfl Tryz.underlying132 rfl rfl ?_ ?_ ?_) <;> first | omega | (conv => whnf))|((refine ValX_arr (n := 64) (sz := 1) tabOk rfl Tryz.underlying131 rfl rfl ?_ ?_ ?_) <;> first | omega | (conv => whnf))|((refine ValX_arr (n := 64) (sz := 5) tabOk rfl Tryz.underlying133 rfl rfl ?_ ?_ ?_) <;> first | omega | (conv => whnf))|(refine ValX_rfH 0 i true tabOk rfl rfl rfl rfl hi64 hh ?_; conv => whnf)|(refine ValX_rfS 0 i (r.s i) tabOk rfl rfl rfl rfl hi64 rfl ?_; conv => whnf))|((with_reducible refine isO ?_);first|(refine OpX_rfH 0 i true tabOk rfl rfl rfl rfl hi64 ?_; conv => whnf)|((refine OpX_append 1 tabOk rfl rfl rfl rfl (ArgN.mem hpre (by decide)) (by decide) ?_ ?_ ?_)<;>first|omega|(dsimp only;omega)|(intro A' c';conv=>whnf))|(refine OpX_rfT 0 1 i (A', c', s) (by decide) tabOk rfl rfl rfl rfl hi64 (Nat.zero_add _) (List.nil_append _) rfl ?_; conv => whnf)|((first|(refine OpX_build0 tabOk rfl rfl rfl ?_);intro bN|(refine OpX_build tabOk rfl rfl rfl rfl rfl ?_);intro bN);conv=>whnf))|((first|refine DrawX_s tabOk folOk ?_|refine DrawS_i (by kernel_rfl) ?_|with_reducible refine andX_i ?_ ?_)<;>conv=>whnf)|with_reducible exact rfl|((with_reducible first|refine xif_kt (by assumption) ?_|refine xif_kf (by assumption) ?_);conv=>whnf)|((with_reducible refine xif_s ?_ ?_)<;>(intro hb;(try simp (disch:=omega) only [hbS] at hb)<;>conv=>whnf)))
        · exact Fin_m ⟨_, hput A' c' (by rw [hsm]; unfold mxO; dsimp only; rw [hL, if_pos hb])⟩ [0] ⟨rfl, by simp [SV.wf, SV.wfs]⟩ ⟨fun _ _ h => h, trivial⟩ (by decide) rfl
        · refine Fin_m ⟨r, hok, ?_⟩ [0] ⟨rfl, by simp [SV.wf, SV.wfs]⟩ ⟨fun _ _ h => h, trivial⟩ (by decide) rfl
          unfold putA
          rw [hv, hi]
          have hx : mxO keyS ((absR r).1 i) s = (absR r).1 i := by
            rw [hsm]
            unfold mxO
            dsimp only
            rw [hL, if_neg (by omega)]
          rw [hx, upd_self]
          rfl
set_option maxHeartbeats 2000000 in
theorem rPlace_m (b : Nat) (r : RfT) (k : Int) (p : PlT) (hok : okR r) :
    CallM Tryz.prog 43 [pR b, I k, plX p] (fun _ _ => True) [rfO b r] (fun _ : RfI (plcA (absR r) k p) => I (plcC k p)) (fun q => [rfO b q.1]) := by
  have kv := rPlacement_x p
  have ki := rId_x k
  refine CallM.of (m := 1) Tryz.func43 rfl tabOk rfl rfl rfl rfl (by simp [SV.wfs, SV.wf]) fun w M π _ => ?_
  rcases Bool.eq_false_or_eq_true (vPl p) with hv | hv
  rotate_left
  · rw [hv] at kv
    (conv=>whnf);repeat' (first|((with_reducible refine isC ?_);first|((with_reducible refine CallX_pure (kv) ?_)<;>first|omega|with_reducible refine isP ?_|conv=>whnf))|((first|refine DrawX_s tabOk folOk ?_|refine DrawS_i (by kernel_rfl) ?_|with_reducible refine andX_i ?_ ?_)<;>conv=>whnf)|with_reducible exact rfl|((with_reducible first|refine xif_kt (by assumption) ?_|refine xif_kf (by assumption) ?_);conv=>whnf)|((with_reducible refine xif_s ?_ ?_)<;>(intro hb;(try simp (disch:=omega) only [hbS] at hb)<;>conv=>whnf)))
    exact Fin_m ⟨r, hok, by unfold plcA; rw [hv]; rfl⟩ [0] ⟨by unfold plcC; rw [hv]; rfl, by simp [SV.wf, SV.wfs]⟩ ⟨fun _ _ h => h, trivial⟩ (by decide) rfl
  · rw [hv] at kv
    rcases Bool.eq_false_or_eq_true (vId k) with hi | hi
    rotate_left
    · rw [hi] at ki
      (conv=>whnf);repeat' (first|((with_reducible refine isC ?_);first|((first|with_reducible refine CallX_pure (kv) ?_|with_reducible refine CallX_pure (ki) ?_)<;>first|omega|with_reducible refine isP ?_|conv=>whnf))|((first|refine DrawX_s tabOk folOk ?_|refine DrawS_i (by kernel_rfl) ?_|with_reducible refine andX_i ?_ ?_)<;>conv=>whnf)|with_reducible exact rfl|((with_reducible first|refine xif_kt (by assumption) ?_|refine xif_kf (by assumption) ?_);conv=>whnf)|((with_reducible refine xif_s ?_ ?_)<;>(intro hb;(try simp (disch:=omega) only [hbS] at hb)<;>conv=>whnf)))
      exact Fin_m ⟨r, hok, by unfold plcA; rw [hv, hi]; rfl⟩ [0] ⟨by unfold plcC; rw [hv, hi]; rfl, by simp [SV.wf, SV.wfs]⟩ ⟨fun _ _ h => h, trivial⟩ (by decide) rfl
    · rw [hi] at ki
      have hcode : plcC k p = 0 := by unfold plcC; rw [hv, hi]; rfl
      rw [hcode]
      have hi' := hi
      simp only [vId, Bool.and_eq_true, decide_eq_true_eq] at hi'
      obtain ⟨i, rfl⟩ := Int.eq_ofNat_of_zero_le hi'.1
      have hi64 : i < 64 := by omega
      obtain ⟨_, hsm, h0, hz, _⟩ := hok i
      have hput := fun (hm : mxO keyP ((absR r).2 i) p = some p) => plcR_ok hok hi64 hv hm
      have hcase : (0 < lexC (keyP p) (keyP (r.p i)) → mxO keyP ((absR r).2 i) p = some p) ∧ (¬ 0 < lexC (keyP p) (keyP (r.p i)) → mxO keyP ((absR r).2 i) p = (absR r).2 i) := by
        have e : (absR r).2 (i : Int) = if (r.p i).1 = 0 then none else some (r.p i) := rfl
        rw [e]
        by_cases h : (r.p i).1 = 0
        · rw [if_pos h, hz h]
          refine ⟨fun _ => rfl, fun hn => ?_⟩
          have hp1 : 1 ≤ p.1 := by
            unfold vPl at hv
            simp only [Bool.and_eq_true, decide_eq_true_eq] at hv
            omega
          refine (hn ?_).elim
          unfold keyP
          simp only [lexC]
          rw [if_neg (by rw [cmpI_zero]; omega)]
          exact cmpI_pos.2 (by omega)
        · rw [if_neg h]
          unfold mxO
          dsimp only
          exact ⟨fun h => by rw [if_pos h], fun h => by rw [if_neg h]⟩
      have kc := PureD.pure (rLater_d p (r.p i) (vPl_sm hv) hsm)
      generalize lexC (keyP p) (keyP (r.p i)) = L at *
      (conv=>whnf);repeat' (first|((with_reducible refine isC ?_);first|((first|with_reducible refine CallX_pure (kv) ?_|with_reducible refine CallX_pure (ki) ?_|with_reducible refine CallX_pure (kc) ?_)<;>first|omega|with_reducible refine isP ?_|conv=>whnf))|((with_reducible refine isV ?_);first|((refine ValX_arr (n := 64) (sz := 1) tabOk rfl Tryz.underlying132 rfl rfl ?_ ?_ ?_) <;> first | omega | (conv => whnf))|((refine ValX_arr (n := 64) (sz := 1) tabOk rfl Tryz.underlying131 rfl rfl ?_ ?_ ?_) <;> first | omega | (conv => whnf))|((refine ValX_arr (n := 64) (sz := 5) tabOk rfl Tryz.underlying133 rfl rfl ?_ ?_ ?_) <;> first | omega | (conv => whnf))|(refine ValX_rfQ 0 i (r.p i) tabOk rfl rfl rfl rfl rfl hi64 rfl ?_; conv => whnf))|((with_reducible refine isO ?_);first|(refine OpX_rfQ 0 i p tabOk rfl rfl rfl rfl hi64 ?_; conv => whnf))|((first|refine DrawX_s tabOk folOk ?_|refine DrawS_i (by kernel_rfl) ?_|with_reducible refine andX_i ?_ ?_)<;>conv=>whnf)|with_reducible exact rfl|((with_reducible first|refine xif_kt (by assumption) ?_|refine xif_kf (by assumption) ?_);conv=>whnf)|((with_reducible refine xif_s ?_ ?_)<;>(intro hb;(try simp (disch:=omega) only [hbS] at hb)<;>conv=>whnf)))
      · exact Fin_m ⟨_, hput (hcase.1 hb)⟩ [0] ⟨rfl, by simp [SV.wf, SV.wfs]⟩ ⟨fun _ _ h => h, trivial⟩ (by decide) rfl
      · refine Fin_m ⟨r, hok, ?_⟩ [0] ⟨rfl, by simp [SV.wf, SV.wfs]⟩ ⟨fun _ _ h => h, trivial⟩ (by decide) rfl
        unfold plcA
        rw [hv, hi, hcase.2 (by omega), upd_self]
        rfl
def rsOf (r : RfT) (k : Int) : SlT := if r.h k then r.s k else (none, 0, [])
theorem rScan_m (b : Nat) (r : RfT) (k : Int) (hok : okR r) :
    CallM Tryz.prog 81 [pR b, I k] (fun _ _ => True) [rfO b r] (fun _ : Unit => .t [.v (.slice (rsOf r k).1 (rsOf r k).2.2.length (rsOf r k).2.1), B (r.h k)]) (fun _ => [rfO b r]) := by
  have ki := rId_x k
  refine CallM.of (m := 1) Tryz.func81 rfl tabOk rfl rfl rfl rfl (by simp [SV.wfs, SV.wf]) fun w M π _ => ?_
  rcases Bool.eq_false_or_eq_true (vId k) with hi | hi
  rotate_left
  · rw [hi] at ki
    obtain ⟨_, _, _, _, h5⟩ := hok k
    have hh := (h5 hi).1
    (conv=>whnf);repeat' (first|((with_reducible refine isC ?_);first|((with_reducible refine CallX_pure (ki) ?_)<;>first|omega|with_reducible refine isP ?_|conv=>whnf))|with_reducible exact rfl|((with_reducible first|refine xif_kt (by assumption) ?_|refine xif_kf (by assumption) ?_);conv=>whnf)|((with_reducible refine xif_s ?_ ?_)<;>(intro hb;(try simp (disch:=omega) only [hbS] at hb)<;>conv=>whnf)))
    exact Fin_m () [0] ⟨by unfold rsOf; rw [hh]; rfl, by simp [SV.wf, SV.wfs]⟩ ⟨fun _ _ h => h, trivial⟩ (by decide) rfl
  · rw [hi] at ki
    have hi' := hi
    simp only [vId, Bool.and_eq_true, decide_eq_true_eq] at hi'
    obtain ⟨i, rfl⟩ := Int.eq_ofNat_of_zero_le hi'.1
    have hi64 : i < 64 := by omega
    rcases Bool.eq_false_or_eq_true (r.h i) with hh | hh
    · (conv=>whnf);repeat' (first|((with_reducible refine isC ?_);first|((with_reducible refine CallX_pure (ki) ?_)<;>first|omega|with_reducible refine isP ?_|conv=>whnf))|((with_reducible refine isV ?_);first|((refine ValX_arr (n := 64) (sz := 1) tabOk rfl Tryz.underlying132 rfl rfl ?_ ?_ ?_) <;> first | omega | (conv => whnf))|((refine ValX_arr (n := 64) (sz := 1) tabOk rfl Tryz.underlying131 rfl rfl ?_ ?_ ?_) <;> first | omega | (conv => whnf))|((refine ValX_arr (n := 64) (sz := 5) tabOk rfl Tryz.underlying133 rfl rfl ?_ ?_ ?_) <;> first | omega | (conv => whnf))|(refine ValX_rfH 0 i true tabOk rfl rfl rfl rfl hi64 hh ?_; conv => whnf)|(refine ValX_rfS 0 i (r.s i) tabOk rfl rfl rfl rfl hi64 rfl ?_; conv => whnf))|with_reducible exact rfl|((with_reducible first|refine xif_kt (by assumption) ?_|refine xif_kf (by assumption) ?_);conv=>whnf)|((with_reducible refine xif_s ?_ ?_)<;>(intro hb;(try simp (disch:=omega) only [hbS] at hb)<;>conv=>whnf)))
      exact Fin_m () [0] ⟨by unfold rsOf; rw [hh]; rfl, by simp [SV.wf, SV.wfs]⟩ ⟨fun _ _ h => h, trivial⟩ (by decide) rfl
    · (conv=>whnf);repeat' (first|((with_reducible refine isC ?_);first|((with_reducible refine CallX_pure (ki) ?_)<;>first|omega|with_reducible refine isP ?_|conv=>whnf))|((with_reducible refine isV ?_);first|((refine ValX_arr (n := 64) (sz := 1) tabOk rfl Tryz.underlying132 rfl rfl ?_ ?_ ?_) <;> first | omega | (conv => whnf))|((refine ValX_arr (n := 64) (sz := 1) tabOk rfl Tryz.underlying131 rfl rfl ?_ ?_ ?_) <;> first | omega | (conv => whnf))|((refine ValX_arr (n := 64) (sz := 5) tabOk rfl Tryz.underlying133 rfl rfl ?_ ?_ ?_) <;> first | omega | (conv => whnf))|(refine ValX_rfH 0 i false tabOk rfl rfl rfl rfl hi64 hh ?_; conv => whnf))|with_reducible exact rfl|((with_reducible first|refine xif_kt (by assumption) ?_|refine xif_kf (by assumption) ?_);conv=>whnf)|((with_reducible refine xif_s ?_ ?_)<;>(intro hb;(try simp (disch:=omega) only [hbS] at hb)<;>conv=>whnf)))
      exact Fin_m () [0] ⟨by unfold rsOf; rw [hh]; rfl, by simp [SV.wf, SV.wfs]⟩ ⟨fun _ _ h => h, trivial⟩ (by decide) rfl
def rpB (r : RfT) (k : Int) : Bool := !decide ((r.p k).1 = 0)
theorem rWhere_m (b : Nat) (r : RfT) (k : Int) (hok : okR r) :
    CallM Tryz.prog 82 [pR b, I k] (fun _ _ => True) [rfO b r] (fun _ : Unit => .t [plX (r.p k), B (rpB r k)]) (fun _ => [rfO b r]) := by
  have ki := rId_x k
  obtain ⟨_, _, _, hz, h5⟩ := hok k
  refine CallM.of (m := 1) Tryz.func82 rfl tabOk rfl rfl rfl rfl (by simp [SV.wfs, SV.wf]) fun w M π _ => ?_
  rcases Bool.eq_false_or_eq_true (vId k) with hi | hi
  rotate_left
  · rw [hi] at ki
    have h0 := (h5 hi).2
    (conv=>whnf);repeat' (first|((with_reducible refine isC ?_);first|((with_reducible refine CallX_pure (ki) ?_)<;>first|omega|with_reducible refine isP ?_|conv=>whnf))|with_reducible exact rfl|((with_reducible first|refine xif_kt (by assumption) ?_|refine xif_kf (by assumption) ?_);conv=>whnf)|((with_reducible refine xif_s ?_ ?_)<;>(intro hb;(try simp (disch:=omega) only [hbS] at hb)<;>conv=>whnf)))
    exact Fin_m () [0] ⟨by unfold rpB; rw [hz h0]; rfl, by simp [SV.wf, SV.wfs]⟩ ⟨fun _ _ h => h, trivial⟩ (by decide) rfl
  · rw [hi] at ki
    have hi' := hi
    simp only [vId, Bool.and_eq_true, decide_eq_true_eq] at hi'
    obtain ⟨i, rfl⟩ := Int.eq_ofNat_of_zero_le hi'.1
    have hi64 : i < 64 := by omega
    (conv=>whnf);repeat' (first|((with_reducible refine isC ?_);first|((with_reducible refine CallX_pure (ki) ?_)<;>first|omega|with_reducible refine isP ?_|conv=>whnf))|((with_reducible refine isV ?_);first|((refine ValX_arr (n := 64) (sz := 1) tabOk rfl Tryz.underlying132 rfl rfl ?_ ?_ ?_) <;> first | omega | (conv => whnf))|((refine ValX_arr (n := 64) (sz := 1) tabOk rfl Tryz.underlying131 rfl rfl ?_ ?_ ?_) <;> first | omega | (conv => whnf))|((refine ValX_arr (n := 64) (sz := 5) tabOk rfl Tryz.underlying133 rfl rfl ?_ ?_ ?_) <;> first | omega | (conv => whnf))|(refine ValX_rfV 0 i (r.p i).1 tabOk rfl rfl rfl rfl hi64 rfl ?_; conv => whnf)|(refine ValX_rfQ 0 i (r.p i) tabOk rfl rfl rfl rfl rfl hi64 rfl ?_; conv => whnf))|with_reducible exact rfl|((with_reducible first|refine xif_kt (by assumption) ?_|refine xif_kf (by assumption) ?_);conv=>whnf)|((with_reducible refine xif_s ?_ ?_)<;>(intro hb;(try simp (disch:=omega) only [hbS] at hb)<;>conv=>whnf)))
    · exact Fin_m () [0] ⟨by unfold rpB; rw [hz hb]; rfl, by simp [SV.wf, SV.wfs]⟩ ⟨fun _ _ h => h, trivial⟩ (by decide) rfl
    · exact Fin_m () [0] ⟨by unfold rpB; rw [decide_eq_false hb]; rfl, by simp [SV.wf, SV.wfs]⟩ ⟨fun _ _ h => h, trivial⟩ (by decide) rfl
end Go.Proofs.YtadichckbogcjaaGreatDoor.En
namespace Go.Proofs.YtadichckbogcjaaGreatDoor.En
open Go.RowKit
set_option maxRecDepth 100000
def hasR (r : RfT) (k : Int) : Bool := r.h k || decide (0 < (r.p k).1)
theorem hasR_abs {r : RfT} (hok : okR r) : hasR r = hasA (absR r) := by
  funext k
  unfold hasR hasA absR
  dsimp only
  have h0 := (hok k).2.2.1
  by_cases h : (r.p k).1 = 0
  · rw [if_pos h, h]
    cases r.h k <;> rfl
  · rw [if_neg h, decide_eq_true (by omega)]
    cases r.h k <;> rfl
theorem rIds_m (b : Nat) (r : RfT) (L : List Int) (hL : idsF (hasR r) 64 = L) :
    CallM Tryz.prog 40 [pR b] (fun _ _ => True) [rfO b r]
      (fun q : Option Addr × Nat => .v (.slice q.1 L.length q.2)) (fun q => [rfO b r, .row 3 1 q.1 L.length q.2 (L.map fun x => [encI x])]) := by
  subst hL
  refine CallM.of (m := 1) Tryz.func40 rfl tabOk rfl rfl rfl rfl (by simp [SV.wfs, SV.wf]) fun w M π _ => ?_
  (conv=>whnf);repeat' (first|((with_reducible refine isO ?_);first|((first|(refine OpX_build0 tabOk rfl rfl rfl ?_);intro bN|(refine OpX_build tabOk rfl rfl rfl rfl rfl ?_);intro bN);conv=>whnf))|((with_reducible refine isW ?_;first|refine xwr_ok (by omega) (by omega) ?_|refine xwr_raw ?_);conv=>whnf)|with_reducible exact rfl|((with_reducible first|refine xif_kt (by assumption) ?_|refine xif_kf (by assumption) ?_);conv=>whnf)|((with_reducible refine xif_s ?_ ?_)<;>(intro hb;(try simp (disch:=omega) only [hbS] at hb)<;>conv=>whnf)))
  refine LoopX_addNil 3 1 ?_
  conv => whnf
  refine LoopX_inv tabOk (α := Nat × Option Addr × Nat) (fun s => s.1 ≤ 64) (fun s => [(0, pR b), (3, .v (.slice s.2.1 (idsF (hasR r) s.1).length s.2.2)), (4, I s.1)])
    (fun s => [rfO b r, .row 3 1 s.2.1 (idsF (hasR r) s.1).length s.2.2 ((idsF (hasR r) s.1).map fun x => [encI x])]) (fun s => 64 - s.1) (0, none, 0) [0, 1] (by decide) ?_ ?_
  · ((refine ⟨?_, ?_, ?_, ?_⟩) <;> (repeat' ((conv => whnf); apply And.intro)) <;> (try (first | exact trivial | decide)))
    all_goals first | rfl | exact fun _ _ h => h | (simp [SV.wf, SV.wfs]; done) | trace_state
  · rintro ⟨k, A, c⟩ hk
    dsimp only at hk ⊢
    by_cases hlt : k < 64
    · have hsk := idsF_succ (hasR r) k
      have hl := idsF_len (hasR r) k
      have hh : hasR r k = (r.h k || decide (0 < (r.p k).1)) := rfl
      generalize idsF (hasR r) k = L at *
      rcases Bool.eq_false_or_eq_true (r.h k) with h1 | h1
      · rw [h1, Bool.true_or] at hh
        rw [hh, if_pos rfl] at hsk
        (conv=>whnf);repeat' (first|((with_reducible refine isV ?_);first|((refine ValX_arr (n := 64) (sz := 1) tabOk rfl Tryz.underlying132 rfl rfl ?_ ?_ ?_) <;> first | omega | (conv => whnf))|((refine ValX_arr (n := 64) (sz := 1) tabOk rfl Tryz.underlying131 rfl rfl ?_ ?_ ?_) <;> first | omega | (conv => whnf))|((refine ValX_arr (n := 64) (sz := 5) tabOk rfl Tryz.underlying133 rfl rfl ?_ ?_ ?_) <;> first | omega | (conv => whnf))|(refine ValX_rfH 0 k true tabOk rfl rfl rfl rfl hlt h1 ?_; conv => whnf))|((with_reducible refine isO ?_);first|((refine OpX_append 1 tabOk rfl rfl rfl rfl (ArgSl.row 2 rfl) (by decide) ?_ ?_ ?_)<;>first|omega|(dsimp only;omega)|(intro A' c';conv=>whnf))|((first|(refine OpX_build0 tabOk rfl rfl rfl ?_);intro bN|(refine OpX_build tabOk rfl rfl rfl rfl rfl ?_);intro bN);conv=>whnf))|((with_reducible refine isW ?_;first|refine xwr_ok (by omega) (by omega) ?_|refine xwr_raw ?_);conv=>whnf)|with_reducible exact rfl|((with_reducible first|refine xif_kt (by assumption) ?_|refine xif_kf (by assumption) ?_);conv=>whnf)|((with_reducible refine xif_s ?_ ?_)<;>(intro hb;(try simp (disch:=omega) only [hbS] at hb)<;>conv=>whnf)))
        all_goals try (exfalso; omega)
        refine ⟨(k + 1, A', c'), [0, 1], by (try dsimp only); omega, ?_, by (try dsimp only); omega⟩
        dsimp only
        rw [hsk, List.length_append, List.map_append]
        ((refine ⟨?_, ?_, ?_, ?_⟩) <;> (repeat' ((conv => whnf); apply And.intro)) <;> (try (first | exact trivial | decide)))
        all_goals first | rfl | exact fun _ _ h => h | (simp [SV.wf, SV.wfs]; done) | trace_state
      · rw [h1, Bool.false_or] at hh
        (conv=>whnf);repeat' (first|((with_reducible refine isV ?_);first|((refine ValX_arr (n := 64) (sz := 1) tabOk rfl Tryz.underlying132 rfl rfl ?_ ?_ ?_) <;> first | omega | (conv => whnf))|((refine ValX_arr (n := 64) (sz := 1) tabOk rfl Tryz.underlying131 rfl rfl ?_ ?_ ?_) <;> first | omega | (conv => whnf))|((refine ValX_arr (n := 64) (sz := 5) tabOk rfl Tryz.underlying133 rfl rfl ?_ ?_ ?_) <;> first | omega | (conv => whnf))|(refine ValX_rfH 0 k false tabOk rfl rfl rfl rfl hlt h1 ?_; conv => whnf)|(refine ValX_rfV 0 k (r.p k).1 tabOk rfl rfl rfl rfl hlt rfl ?_; conv => whnf))|((with_reducible refine isO ?_);first|((refine OpX_append 1 tabOk rfl rfl rfl rfl (ArgSl.row 2 rfl) (by decide) ?_ ?_ ?_)<;>first|omega|(dsimp only;omega)|(intro A' c';conv=>whnf))|((first|(refine OpX_build0 tabOk rfl rfl rfl ?_);intro bN|(refine OpX_build tabOk rfl rfl rfl rfl rfl ?_);intro bN);conv=>whnf))|((with_reducible refine isW ?_;first|refine xwr_ok (by omega) (by omega) ?_|refine xwr_raw ?_);conv=>whnf)|with_reducible exact rfl|((with_reducible first|refine xif_kt (by assumption) ?_|refine xif_kf (by assumption) ?_);conv=>whnf)|((with_reducible refine xif_s ?_ ?_)<;>(intro hb;(try simp (disch:=omega) only [hbS] at hb)<;>conv=>whnf)))
        all_goals try (exfalso; omega)
        · rw [hh, decide_eq_true (by omega), if_pos rfl] at hsk
          refine ⟨(k + 1, A', c'), [0, 1], by (try dsimp only); omega, ?_, by (try dsimp only); omega⟩
          dsimp only
          rw [hsk, List.length_append, List.map_append]
          ((refine ⟨?_, ?_, ?_, ?_⟩) <;> (repeat' ((conv => whnf); apply And.intro)) <;> (try (first | exact trivial | decide)))
          all_goals first | rfl | exact fun _ _ h => h | (simp [SV.wf, SV.wfs]; done) | trace_state
        · rw [hh, decide_eq_false (by omega), if_neg (by simp), List.append_nil] at hsk
          refine ⟨(k + 1, A, c), [0, 1], by (try dsimp only); omega, ?_, by (try dsimp only); omega⟩
          dsimp only
          rw [hsk]
          ((refine ⟨?_, ?_, ?_, ?_⟩) <;> (repeat' ((conv => whnf); apply And.intro)) <;> (try (first | exact trivial | decide)))
          all_goals first | rfl | exact fun _ _ h => h | (simp [SV.wf, SV.wfs]; done) | trace_state
    · obtain rfl : k = 64 := by omega
      have hl := idsF_len (hasR r) 64
      (conv=>whnf);repeat' (first|((with_reducible refine isO ?_);first|((first|(refine OpX_build0 tabOk rfl rfl rfl ?_);intro bN|(refine OpX_build tabOk rfl rfl rfl rfl rfl ?_);intro bN);conv=>whnf))|((with_reducible refine isW ?_;first|refine xwr_ok (by omega) (by omega) ?_|refine xwr_raw ?_);conv=>whnf)|with_reducible exact rfl|((with_reducible first|refine xif_kt (by assumption) ?_|refine xif_kf (by assumption) ?_);conv=>whnf)|((with_reducible refine xif_s ?_ ?_)<;>(intro hb;(try simp (disch:=omega) only [hbS] at hb)<;>conv=>whnf)))
      all_goals try (exfalso; omega)
      exact Fin_m (A, c) [0, 1] ⟨rfl, by simp [SV.wf, SV.wfs]⟩ ⟨fun _ _ h => h, ⟨rfl, rfl, rfl, rfl, rfl, rfl⟩, trivial⟩ (by decide) rfl
end Go.Proofs.YtadichckbogcjaaGreatDoor.En
end
