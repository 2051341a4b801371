import Derived.Test.YtlnplelandimeaaGreatZFleetMatchesReference25
import Derived.Test.YtlnplelandimeaaGreatZFleetMatchesReference27
set_option linter.all false
section
namespace Go.Proofs.YtlnplelandimeaaGreat.En
open Go.RowKit
set_option maxRecDepth 100000
def FnAt (w : World) (b : Nat) (T N : Nat) (c : Nat → Value) : Prop := ∃ L : List Value, w.heap[b]? = some (.cells L.toArray T (0, 0)) ∧ L.length = N ∧ ∀ k, k < N → L[k]? = some (c k)
section
variable {C : Ctx} {ob : List OB}
theorem FnAt.get {w : World} {b T N : Nat} {c : Nat → Value} (h : FnAt w b T N c) {k : Nat} (hk : k < N) : w.cell? ⟨b, k, none⟩ = some (c k) := by
 obtain ⟨L, h1, h2, h3⟩ := h
 rw [cell_of_row w b k L.toArray _ (0, 0) h1]
 simpa using h3 k hk
theorem FnAt.ext {w w' : World} {b T N : Nat} {c : Nat → Value} (h : FnAt w b T N c) (hw : w'.heap[b]? = w.heap[b]?) : FnAt w' b T N c := by
 obtain ⟨L, h1, h2, h3⟩ := h
 exact ⟨L, hw.trans h1, h2, h3⟩
theorem FnAt.lt {w : World} {b T N : Nat} {c : Nat → Value} (h : FnAt w b T N c) : b < w.heap.size := by
 obtain ⟨L, h1, h2, h3⟩ := h
 exact (Array.getElem?_eq_some_iff.1 h1).1
theorem FnAt.range {w : World} {b T N : Nat} {c : Nat → Value} (h : FnAt w b T N c) {off : Nat} {vs : List Value} (hv : ∀ q, q < vs.length → vs[q]? = some (c (off + q))) (hle : off + vs.length ≤ N) : w.rangeAt b off vs := by
 intro q v hq
 have hlt := (List.getElem?_eq_some_iff.1 hq).1
 rw [h.get (by omega), ← hv q hlt, hq]
theorem ValX_get1 {o : Oper} {t : TypeId} {x : Operand} {te : TI} {b off : Nat} (v : Value) {K : SV → Prop} (hT : TabOk C.P C.T) (ho : o.op = .load t x) (hte : lookT C.T t = some te) (hagg : te.agg = false)
 (hg : ∀ σ fp w, Mem C σ fp ob w → w.cell? ⟨b, off, none⟩ = some v) (hK : K (.v v)) : ValX C o [.v (.pointer (some ⟨b, off, none⟩))] ob K := by
 unfold ValX
 intro σ fp w ρ hm hx
 obtain ⟨hid, hti⟩ := hT t te hte
 have hl := load_one (w := w) hti hagg (hg σ fp w hm)
 rw [hid] at hl
 refine ⟨_, hK, ?_, trivial⟩
 rw [ho] at hx
 simp [Op.operands, SV.vals, SV.val] at hx
 obtain ⟨dst, op, ty, pos, after, guard⟩ := o
 simp only at ho
 subst ho
 simp only [execOp, hx, Instr.loadAt, Instr.sureAddr, Sem.run_bind, Sem.run_pure, Result.andThen_ok, hl, SV.val]
theorem ValX_getA {o : Oper} {t : TypeId} {x : Operand} {te : TI} {b off : Nat} (vs : List Value) {K : SV → Prop} (hT : TabOk C.P C.T) (ho : o.op = .load t x) (hte : lookT C.T t = some te) (hagg : te.agg = true) (hz : te.zero.length = vs.length)
 (hg : ∀ σ fp w, Mem C σ fp ob w → w.rangeAt b off vs) (hK : K (.a (vs.map .v))) : ValX C o [.v (.pointer (some ⟨b, off, none⟩))] ob K := by
 unfold ValX
 intro σ fp w ρ hm hx
 obtain ⟨hid, hti⟩ := hT t te hte
 obtain ⟨d, hd, hrow⟩ := hti.under
 rw [hagg] at hrow
 have hl := run_loadVar_mid (P := C.P) w b off te.id vs d (hg σ fp w hm) hd hrow (by rw [hti.info, hz])
 rw [hid] at hl
 refine ⟨_, hK, ?_, wfs_v _ _⟩
 rw [ho] at hx
 simp [Op.operands, SV.vals, SV.val] at hx
 obtain ⟨dst, op, ty, pos, after, guard⟩ := o
 simp only at ho
 subst ho
 simp only [execOp, hx, Instr.loadAt, Instr.sureAddr, Sem.run_bind, Sem.run_pure, Result.andThen_ok, hl, SV.val, vals_v]
theorem ValX_idxA {o : Oper} {t e : TypeId} {x ix : Operand} {i : Int} {n sz : Nat} {te : TI} {vs : List Value} (r : SV) {K : SV → Prop} (hT : TabOk C.P C.T) (ho : o.op = .index t x ix) (ht : C.P.underlying t = some (.array n e)) (hte : lookT C.T e = some te) (hz : te.zero.length = sz)
 (h0 : 0 ≤ i) (h1 : i < n) (hl : vs.length = n * sz) (hr : r = match te.agg with
  | true => .a (((vs.drop (i.toNat * sz)).take sz).map .v)
  | false => .v (((vs.drop (i.toNat * sz)).take sz).headD undef)) (hK : K r) : ValX C o [.a (vs.map .v), I i] ob K := by
 unfold ValX
 intro σ fp w ρ hm hx
 obtain ⟨hid, hti⟩ := hT e te hte
 obtain ⟨d, hd, hrow⟩ := hti.under
 have hsz := hti.run_size w
 rw [hid, hz] at hsz
 rw [ho] at hx
 simp [Op.operands, SV.vals, SV.val, vals_v] at hx
 have hle : i.toNat * sz + sz ≤ vs.length := by
  rw [hl]
  have : i.toNat + 1 ≤ n := by omega
  calc i.toNat * sz + sz = (i.toNat + 1) * sz := by rw [Nat.add_mul, Nat.one_mul]
   _ ≤ n * sz := Nat.mul_le_mul_right _ this
 obtain ⟨ii, hii⟩ : ∃ ii, C.P.info? te.id = some ii := by
  have := hti.info
  cases hq : C.P.info? te.id with
  | none => rw [hq] at this; cases this
  | some ii => exact ⟨ii, rfl⟩
 have his : ii.size = sz := by
  have := hti.info
  rw [hii] at this
  simpa [hz] using this
 have hp := run_part hd hii vs (i.toNat * sz) sz his hle (fun hf => by rw [← hz]; exact hti.one (by rw [← hrow]; exact hf)) w
 rw [hid] at hp hd
 have hpv : pv C.P e ((vs.drop (i.toNat * sz)).take sz) = r.val σ := by
  unfold pv
  rw [hd, hr]
  dsimp only
  rw [hrow]
  cases te.agg with
  | true => simp only [SV.val, vals_v]
  | false => rfl
 rw [hpv] at hp
 refine ⟨r, hK, ?_, ?_⟩
 ·obtain ⟨dst, op, ty, pos, after, guard⟩ := o
  simp only at ho
  subst ho
  have hc : (0 ≤ i ∧ i < (n : Int)) := ⟨h0, h1⟩
  simp only [execOp, hx, Instr.index, asIntOf, Sem.run_bind, Sem.run_pure, Result.andThen_ok, run_underlying ht, hc, and_self, if_true, hsz, hp]
 ·rw [hr]
  cases te.agg with
  | true => exact wfs_v _ _
  | false => trivial
theorem fn_store {L : List Value} {f : Nat → Value} {N : Nat} (hl : L.length = N) (hf : ∀ k, k < N → L[k]? = some (f k)) {off : Nat} {vs : List Value} (ho : off + vs.length ≤ N) :
 (L.take off ++ vs ++ L.drop (off + vs.length)).length = N ∧ ∀ k, k < N → (L.take off ++ vs ++ L.drop (off + vs.length))[k]? = some (if off ≤ k ∧ k < off + vs.length then vs.getD (k - off) undef else f k) := by
 refine ⟨by simp; omega, fun k hk => ?_⟩
 have h1 : (L.take off).length = off := by simp; omega
 by_cases c1 : k < off
 ·rw [if_neg (by omega), List.append_assoc, List.getElem?_append_left (by omega), List.getElem?_take, if_pos c1, hf k hk]
 ·by_cases c2 : k < off + vs.length
  ·rw [if_pos ⟨by omega, c2⟩, List.getElem?_append_left (by simp; omega), List.getElem?_append_right (by omega), h1]
   simp [show k - off < vs.length by omega]
  ·rw [if_neg (by omega), List.getElem?_append_right (by simp; omega)]
   simp only [List.length_append, h1, List.getElem?_drop]
   rw [show off + vs.length + (k - (off + vs.length)) = k by omega, hf k hk]
theorem fn_set {o : Oper} {t : TypeId} {x y : Operand} {te : TI} {b off T N : Nat} {v : SV} {vs : List Value} {f f' : Nat → Value} (hT : TabOk C.P C.T) (ho : o.op = .store t x y) (hte : lookT C.T t = some te) (hoff : off + vs.length ≤ N)
 (hz : te.zero.length = vs.length) (hone : ∀ u ∈ vs, Value.oneCell' u = true) (hr : ∀ k, k < N → f' k = if off ≤ k ∧ k < off + vs.length then vs.getD (k - off) undef else f k)
 {σ : Nat → Nat} (hvs : v.val σ = .agg vs.toArray ∨ ∃ u, vs = [u] ∧ v.val σ = u) {w : World} (hR : FnAt w b T N f) {ρ : Operand → Value} (hx : o.op.operands.toList.map ρ = SV.vals σ [.v (.pointer (some ⟨b, off, none⟩)), v]) :
 ∃ w', (execOp ρ o).run C.P w = .ok .skip w' ∧ FnAt w' b T N f' ∧ (∀ i, i ≠ b → w'.heap[i]? = w.heap[i]?) ∧ w'.heap.size = w.heap.size ∧ w'.os = w.os ∧ w'.tape = w.tape ∧ w'.output = w.output ∧ w'.drawn = w.drawn := by
 obtain ⟨hid, hti⟩ := hT t te hte
 obtain ⟨L, h1, h2, h3⟩ := hR
 rw [ho] at hx
 simp [Op.operands, SV.vals, SV.val] at hx
 have hst := run_storeCells_at (P := C.P) b off T vs 0 L.toArray w h1 (by simp; omega) hone
 simp only [Nat.add_zero] at hst
 have hsz := hti.run_size w
 rw [hid, hz] at hsz
 have hcv : (v.val σ).cells = vs.toArray := by
  rcases hvs with h | ⟨u, rfl, h⟩
  ·rw [h]; rfl
  ·rw [h]
   have := hone u (by simp)
   cases u <;> first | rfl | cases this
 obtain ⟨dst, op, ty, pos, after, guard⟩ := o
 simp only at ho
 subst ho
 refine ⟨w.setRow b (L.take off ++ vs ++ L.drop (off + vs.length)).toArray, ?_, ?_, ?_, ?_, rfl, rfl, rfl, rfl⟩
 ·simp only [execOp, Instr.storeAt, hx.1, hx.2, Instr.sureAddr, Sem.run_bind, Sem.run_pure, Result.andThen_ok, storeVar, hsz, hcv, List.size_toArray, ne_eq, not_true, if_false, Nat.zero_add]
  simp only [hst, Result.andThen_ok]
 ·obtain ⟨g1, g2⟩ := fn_store h2 h3 hoff
  exact ⟨_, setRow_heap w b L.toArray _ _ (0, 0) h1, g1, fun k hk => by rw [g2 k hk, hr k hk]⟩
 ·intro i hi
  simp [World.setRow, Array.getElem?_modify, Ne.symm hi]
 ·simp [World.setRow]
end
def AtW (w : World) (F : Nat → Prop) (p : Nat) (a : AtT) : Prop := goodA a ∧ ∃ (b1 b2 : Nat) (m : List (Int × SlT)) (q : List (Int × PlT)) (F1 F2 : Nat → Prop), okS m ∧ absM (m, q) = a ∧
 w.heap[p]? = some (.cells #[.map (some b1), .map (some b2)] 132 (0, 0)) ∧ ((ImAt encS w b1 m ∧ F1 b1) ∧ ∀ e ∈ m, InF w F1 e.2) ∧ (ImAt encPl w b2 q ∧ F2 b2) ∧ (∀ i, F i ↔ i = p ∨ F1 i ∨ F2 i) ∧ (∀ i, F1 i → i ≠ p ∧ ¬ F2 i) ∧ ∀ i, F2 i → i ≠ p
theorem AtW.ext {w w' : World} {F : Nat → Prop} {p : Nat} {a : AtT} (h : AtW w F p a) (hw : ∀ i, F i → w'.heap[i]? = w.heap[i]?) : AtW w' F p a := by
 obtain ⟨hg, b1, b2, m, q, F1, F2, h1, h2, h3, ⟨⟨h4, h5⟩, h6⟩, ⟨h7, h8⟩, h9, h10, h11⟩ := h
 refine ⟨hg, b1, b2, m, q, F1, F2, h1, h2, ?_, ⟨⟨ImAt.ext h4 (hw _ ((h9 _).2 (.inr (.inl h5)))), h5⟩, fun e he => (h6 e he).ext (fun _ h => h) fun i hi => hw i ((h9 i).2 (.inr (.inl hi)))⟩, ⟨ImAt.ext h7 (hw _ ((h9 _).2 (.inr (.inr h8)))), h8⟩, h9, h10, h11⟩
 rw [hw p ((h9 p).2 (.inl rfl)), h3]
structure SnT where
 me : Int
 rel : Nat → Nat → Option Fr
 ats : Nat → AtT
structure CoT where
 pt : Nat → Option Nat
 rp : Nat → Nat → Nat
def updN {α : Type} (f : Nat → α) (k : Nat) (v : α) : Nat → α := fun i => if i = k then v else f i
theorem updN_self {α : Type} (f : Nat → α) (i : Nat) : updN f i (f i) = f := by
 funext k
 unfold updN
 split
 ·rename_i h; rw [h]
 ·rfl
def upd2 {α : Type} (f : Nat → Nat → α) (x y : Nat) (v : α) : Nat → Nat → α := fun i j => if i = x ∧ j = y then v else f i j
def relP (c : CoT) (S : SnT) (x y : Nat) : Option Addr := (S.rel x y).map fun _ => ⟨c.rp x y, 2, none⟩
def ptP (c : CoT) (i : Nat) : Option Addr := (c.pt i).map fun p => ⟨p, 0, none⟩
def stC (c : CoT) (S : SnT) (k : Nat) : Value := if k = 0 then .int .i64 S.me else if k < 9 then .pointer (ptP c (k - 1)) else .pointer (relP c S ((k - 9) / 8) ((k - 9) % 8))
def RelW (w : World) (g : Nat) (f : Fr) : Prop := ∃ x y : Value, w.heap[g]? = some (.cells #[x, y, .int .i64 f.1, .int .i64 f.2.1, .int .i64 f.2.2] 39 (0, 0))
structure StW (w : World) (F : Nat → Prop) (b : Nat) (c : CoT) (S : SnT) (H : Nat → Bool) (Fs : Nat → Nat → Prop) : Prop where
 box : FnAt w b 99 73 (stC c S)
 own : Fs 8 b
 rel : ∀ x y f, x < 8 → y < 8 → S.rel x y = some f → RelW w (c.rp x y) f ∧ Fs 8 (c.rp x y) ∧ c.rp x y ≠ b
 ats : ∀ i, i < 8 → H i = true → ∃ p, c.pt i = some p ∧ AtW w (Fs i) p (S.ats i)
 disj : ∀ i j, i < 9 → j < 9 → i ≠ j → ∀ x, Fs i x → ¬ Fs j x
 sub : ∀ i, i < 9 → ∀ x, Fs i x → F x
theorem StW.ext {w w' : World} {F : Nat → Prop} {b : Nat} {c : CoT} {S : SnT} {H : Nat → Bool} {Fs : Nat → Nat → Prop} (h : StW w F b c S H Fs) (hw : ∀ i, F i → w'.heap[i]? = w.heap[i]?) : StW w' F b c S H Fs := by
 refine ⟨h.box.ext (hw b (h.sub 8 (by omega) b h.own)), h.own, fun x y f hx hy hf => ?_, fun i hi hH => ?_, h.disj, h.sub⟩
 ·obtain ⟨⟨u, v, h1⟩, h2, h3⟩ := h.rel x y f hx hy hf
  exact ⟨⟨u, v, (hw _ (h.sub 8 (by omega) _ h2)).trans h1⟩, h2, h3⟩
 ·obtain ⟨p, h1, h2⟩ := h.ats i hi hH
  exact ⟨p, h1, h2.ext fun x hx => hw x (h.sub i (by omega) x hx)⟩
def stO (b : Nat) (c : CoT) (S : SnT) (H : Nat → Bool) : OB := .res fun w F => ∃ Fs, StW w F b c S H Fs
theorem stO_mk {w : World} {F : Nat → Prop} {b : Nat} {c : CoT} {S : SnT} {H : Nat → Bool} {Fs : Nat → Nat → Prop} (h : StW w F b c S H Fs) {σ : Nat → Nat} {n q : Nat} : (stO b c S H).at σ n w q F :=
 ⟨⟨Fs, h⟩, fun w' hw => ⟨Fs, h.ext hw⟩⟩
def allT : Nat → Bool := fun i => decide (i < 8)
theorem allT_at {i : Nat} (h : i < 8) : allT i = true := decide_eq_true h
section
variable {C : Ctx} {ob : List OB} {b : Nat} {c : CoT} {S : SnT} {H : Nat → Bool}
theorem nth_st {σ : Nat → Nat} {fp : Nat → Nat → Prop} {w : World} {j : Nat} (hm : Mem C σ fp ob w) (h : nth ob j = some (stO b c S H)) : (∃ Fs, StW w (fp j) b c S H Fs) ∧ j < ob.length := by
 rw [nth_eq] at h
 have := hm.at_ j _ h
 exact ⟨this.1, (List.getElem?_eq_some_iff.1 h).1⟩
theorem st_get {σ : Nat → Nat} {fp : Nat → Nat → Prop} {w : World} (j : Nat) (h : nth ob j = some (stO b c S H)) {k : Nat} (hk : k < 73) (hm : Mem C σ fp ob w) : w.cell? ⟨b, k, none⟩ = some (stC c S k) := by
 obtain ⟨⟨Fs, hs⟩, _⟩ := nth_st hm h
 exact hs.box.get hk
theorem ad_add (b off k : Nat) : (⟨b, off, none⟩ : Addr).add k = ⟨b, off + k, none⟩ := Addr.add_mid ..
variable {o : Oper} {t : TypeId} {x y : Operand} {te : TI}
theorem ValX_stMe (j : Nat) (v : Int) {K : SV → Prop} (hT : TabOk C.P C.T) (ho : o.op = .load t x) (hte : lookT C.T t = some te) (hagg : te.agg = false) (hj : nth ob j = some (stO b c S H)) (hv : S.me = v) (hK : K (I v)) : ValX C o [.v (.pointer (some ((⟨b, 0, none⟩ : Addr).add 0)))] ob K := by
 subst hv
 rw [ad_add]
 exact ValX_get1 _ hT ho hte hagg (fun σ fp w hm => st_get j hj (by omega) hm) hK
theorem ValX_stPt (j i : Nat) (v : Option Addr) {K : SV → Prop} (hT : TabOk C.P C.T) (ho : o.op = .load t x) (hte : lookT C.T t = some te) (hagg : te.agg = false) (hj : nth ob j = some (stO b c S H)) (hi : i < 8) (hv : ptP c i = v) (hK : K (.v (.pointer v))) :
 ValX C o [.v (.pointer (some (((⟨b, 0, none⟩ : Addr).add 1).add ((i : Int).toNat * 1))))] ob K := by
 subst hv
 rw [ad_add, ad_add, Int.toNat_natCast, Nat.mul_one, Nat.zero_add]
 refine ValX_get1 _ hT ho hte hagg (fun σ fp w hm => ?_) hK
 rw [st_get j hj (by omega) hm]
 unfold stC
 rw [if_neg (by omega), if_pos (by omega), Nat.add_sub_cancel_left]
def ptsL (c : CoT) : List Value := (List.range 8).map fun i => .pointer (ptP c i)
theorem ValX_stPts (j : Nat) {K : SV → Prop} (hT : TabOk C.P C.T) (ho : o.op = .load t x) (hte : lookT C.T t = some te) (hagg : te.agg = true) (hz : te.zero.length = 8) (hj : nth ob j = some (stO b c S H)) (hK : K (.a ((ptsL c).map .v))) :
 ValX C o [.v (.pointer (some ((⟨b, 0, none⟩ : Addr).add 1)))] ob K := by
 rw [ad_add]
 refine ValX_getA _ hT ho hte hagg (by rw [hz]; rfl) (fun σ fp w hm => ?_) hK
 obtain ⟨⟨Fs, hs⟩, _⟩ := nth_st hm hj
 refine hs.box.range (fun q hq => ?_) (by simp [ptsL])
 simp [ptsL] at hq
 unfold stC ptsL
 rw [if_neg (by omega), if_pos (by omega), List.getElem?_map, List.getElem?_range hq, show 0 + 1 + q - 1 = q by omega]
 rfl
theorem ValX_stRel (j p q : Nat) (v : Option Addr) {K : SV → Prop} (hT : TabOk C.P C.T) (ho : o.op = .load t x) (hte : lookT C.T t = some te) (hagg : te.agg = false) (hj : nth ob j = some (stO b c S H)) (hp : p < 8) (hq : q < 8) (hv : relP c S p q = v) (hK : K (.v (.pointer v))) :
 ValX C o [.v (.pointer (some ((((⟨b, 0, none⟩ : Addr).add 9).add ((p : Int).toNat * 8)).add ((q : Int).toNat * 1))))] ob K := by
 subst hv
 rw [ad_add, ad_add, ad_add, Int.toNat_natCast, Int.toNat_natCast, Nat.mul_one, Nat.zero_add]
 refine ValX_get1 _ hT ho hte hagg (fun σ fp w hm => ?_) hK
 rw [st_get j hj (by omega) hm]
 unfold stC
 rw [if_neg (by omega), if_neg (by omega), show (9 + p * 8 + q - 9) / 8 = p by omega, show (9 + p * 8 + q - 9) % 8 = q by omega]
def relsL (c : CoT) (S : SnT) : List Value := (List.range 64).map fun k => .pointer (relP c S (k / 8) (k % 8))
theorem ValX_stRels (j : Nat) {K : SV → Prop} (hT : TabOk C.P C.T) (ho : o.op = .load t x) (hte : lookT C.T t = some te) (hagg : te.agg = true) (hz : te.zero.length = 64) (hj : nth ob j = some (stO b c S H)) (hK : K (.a ((relsL c S).map .v))) :
 ValX C o [.v (.pointer (some ((⟨b, 0, none⟩ : Addr).add 9)))] ob K := by
 rw [ad_add]
 refine ValX_getA _ hT ho hte hagg (by rw [hz]; rfl) (fun σ fp w hm => ?_) hK
 obtain ⟨⟨Fs, hs⟩, _⟩ := nth_st hm hj
 refine hs.box.range (fun q hq => ?_) (by simp [relsL])
 simp [relsL] at hq
 unfold stC relsL
 rw [if_neg (by omega), if_neg (by omega), List.getElem?_map, List.getElem?_range hq, show 0 + 9 + q - 9 = q by omega]
 rfl
theorem ValX_stFr (j p q : Nat) (f : Fr) {K : SV → Prop} (hT : TabOk C.P C.T) (ho : o.op = .load t x) (hte : lookT C.T t = some te) (hagg : te.agg = true) (hz : te.zero.length = 3) (hj : nth ob j = some (stO b c S H)) (hp : p < 8) (hq : q < 8) (hf : S.rel p q = some f) (hK : K (.a [I f.1, I f.2.1, I f.2.2])) :
 ValX C o [.v (.pointer (some ⟨c.rp p q, 2, none⟩))] ob K := by
 refine ValX_getA [.int .i64 f.1, .int .i64 f.2.1, .int .i64 f.2.2] hT ho hte hagg (by rw [hz]; rfl) (fun σ fp w hm => ?_) hK
 obtain ⟨⟨Fs, hs⟩, _⟩ := nth_st hm hj
 obtain ⟨⟨u, v, h1⟩, _⟩ := hs.rel p q f hp hq hf
 intro i z hi
 rw [cell_of_row w _ _ _ _ (0, 0) h1]
 match i, hi with
 | 0, hi => simpa using hi
 | 1, hi => simpa using hi
 | 2, hi => simpa using hi
 | i + 3, hi => simp at hi
end
end Go.Proofs.YtlnplelandimeaaGreat.En
end
section
namespace Go.Proofs.YtlnplelandimeaaGreat.En
open Go.RowKit
set_option maxRecDepth 100000
section
variable {C : Ctx} {ob : List OB} {b : Nat} {c : CoT} {S : SnT} {H : Nat → Bool}
theorem Mem.merge4 {σ : Nat → Nat} {fp : Nat → Nat → Prop} {w w' : World} (h : Mem C σ fp ob w) {j k0 k1 k2 : Nat} (hj : j < ob.length) (h0 : k0 < ob.length) (h1 : k1 < ob.length) (h2 : k2 < ob.length) (e0 : j ≠ k0) (e1 : j ≠ k1) (e2 : j ≠ k2) (e01 : k0 ≠ k1) (e02 : k0 ≠ k2) (e12 : k1 ≠ k2) (o : OB)
 (ho : o.at σ ob.length w' (σ j) (fun i => ((fp j i ∨ fp k0 i) ∨ fp k1 i) ∨ fp k2 i)) (hos : w'.os = w.os) (htape : w'.tape = w.tape) (hout : w'.output = w.output) (hsz : w'.heap.size = w.heap.size)
 (hsame : ∀ i, i < w.heap.size → ¬ fp j i → w'.heap[i]? = w.heap[i]?) (hdr : w'.drawn = w.drawn) :
 ∃ fp', (∀ k i, k < ob.length → fp' k i → ∃ k', k' < ob.length ∧ fp k' i) ∧ Mem C σ fp' ((((((ob.set j noO).set k0 noO).set j noO).set k1 noO).set j o).set k2 noO) w' := by
 have hn : ∀ (n : Nat) (w : World) (q : Nat) (F : Nat → Prop), noO.at σ n w q F := fun _ _ _ _ => ⟨trivial, fun _ _ => trivial⟩
 have m1 := h.merge (w' := w') hj h0 e0 noO noO (hn _ _ _ _) (hn _ _ _ _) hos htape hout hsz hsame hdr
 have m2 := m1.merge (w' := w') (j := j) (q := k1) (by simpa using hj) (by simpa using h1) e1 noO noO (hn _ _ _ _) (hn _ _ _ _) rfl rfl rfl rfl (fun _ _ _ => rfl) rfl
 have m3 := m2.merge (w' := w') (j := j) (q := k2) (by simpa using hj) (by simpa using h2) e2 o noO (by
  simp only [if_true, if_neg e1.symm, if_neg e01.symm, if_neg e2.symm, if_neg e02.symm, if_neg e12.symm, List.length_set]
  exact ho) (hn _ _ _ _) rfl rfl rfl rfl (fun _ _ _ => rfl) rfl
 refine ⟨_, ?_, m3⟩
 intro k i hk hi
 by_cases a : k = j
 ·subst a
  simp only [if_true, if_neg e1.symm, if_neg e01.symm, if_neg e2.symm, if_neg e02.symm, if_neg e12.symm] at hi
  rcases hi with ((hi | hi) | hi) | hi
  ·exact ⟨k, hj, hi⟩
  ·exact ⟨k0, h0, hi⟩
  ·exact ⟨k1, h1, hi⟩
  ·exact ⟨k2, h2, hi⟩
 ·rw [if_neg a] at hi
  by_cases a2 : k = k2
  ·rw [if_pos a2] at hi; exact hi.elim
  ·rw [if_neg a2, if_neg a] at hi
   by_cases a1 : k = k1
   ·rw [if_pos a1] at hi; exact hi.elim
   ·rw [if_neg a1, if_neg a] at hi
    by_cases a0 : k = k0
    ·rw [if_pos a0] at hi; exact hi.elim
    ·rw [if_neg a0] at hi
     exact ⟨k, hk, hi⟩
theorem atw_of {σ : Nat → Nat} {fp : Nat → Nat → Prop} {w : World} (hm : Mem C σ fp ob w) {k0 k1 k2 b1 b2 : Nat} {m : List (Int × SlT)} {q : List (Int × PlT)} (h0 : nth ob k0 = some (atB b1 b2)) (h1 : nth ob k1 = some (scO b1 m)) (h2 : nth ob k2 = some (plO b2 q)) (e01 : k0 ≠ k1) (e02 : k0 ≠ k2) (e12 : k1 ≠ k2) (hok : okS m) (hg : goodA (absM (m, q))) :
 AtW w (fun i => (fp k0 i ∨ fp k1 i) ∨ fp k2 i) (σ k0) (absM (m, q)) ∧ k0 < ob.length ∧ k1 < ob.length ∧ k2 < ob.length := by
 obtain ⟨a1, a2, a3⟩ := nth_sc hm h1
 obtain ⟨c1, c2, c3⟩ := nth_im hm h2
 rw [nth_eq] at h0
 obtain ⟨d1, d2, d3⟩ := hm.at_ k0 _ h0
 have l0 := (List.getElem?_eq_some_iff.1 h0).1
 refine ⟨⟨hg, b1, b2, m, q, fp k1, fp k2, hok, rfl, d1, ⟨a1, a2⟩, ⟨c1, c2⟩, fun i => ?_, fun i hi => ⟨fun e => ?_, hm.disj k1 k2 a3 c3 e12 i hi⟩, fun i hi e => ?_⟩, l0, a3, c3⟩
 ·show (fp k0 i ∨ fp k1 i) ∨ fp k2 i ↔ _
  rw [d2, or_assoc]
 ·exact hm.disj k0 k1 l0 a3 e01 i ((d2 i).2 e) hi
 ·exact hm.disj k0 k2 l0 c3 e02 i ((d2 i).2 e) hi
theorem StW.put {w w' : World} {F G : Nat → Prop} {Fs : Nat → Nat → Prop} (h : StW w F b c S H Fs) {i p : Nat} {a : AtT} (hi : i < 8) (hH : H i = false) (hw : ∀ x, F x → x ≠ b → w'.heap[x]? = w.heap[x]?) (hG : ∀ x, G x → ¬ F x) (hA : AtW w' G p a) {c' : CoT} {S' : SnT} {H' : Nat → Bool}
 (hbox : FnAt w' b 99 73 (stC c' S')) (hp : c'.pt i = some p) (hpt : ∀ k, k ≠ i → c'.pt k = c.pt k) (hrp : c'.rp = c.rp) (hrel : S'.rel = S.rel) (ha : S'.ats i = a) (hats : ∀ k, k ≠ i → S'.ats k = S.ats k) (hH' : ∀ k, k ≠ i → H' k = H k) :
 StW w' (fun x => F x ∨ G x) b c' S' H' (fun k => if k = i then G else Fs k) := by
 refine ⟨hbox, ?_, ?_, ?_, ?_, ?_⟩
 ·(try dsimp only)
  rw [if_neg (by omega)]; exact h.own
 ·intro x y f hx hy hf
  rw [hrel] at hf
  obtain ⟨⟨u, v, h1⟩, h2, h3⟩ := h.rel x y f hx hy hf
  (try dsimp only)
  rw [hrp, if_neg (by omega)]
  exact ⟨⟨u, v, (hw _ (h.sub 8 (by omega) _ h2) h3).trans h1⟩, h2, h3⟩
 ·intro k hk hHk
  by_cases e : k = i
  ·subst e
   refine ⟨p, hp, ?_⟩
   (try dsimp only)
   rw [if_pos rfl, ha]; exact hA
  ·rw [hH' k e] at hHk
   obtain ⟨p', h1, h2⟩ := h.ats k hk hHk
   refine ⟨p', by rw [hpt k e]; exact h1, ?_⟩
   (try dsimp only)
   rw [if_neg e, hats k e]
   exact h2.ext fun x hx => hw x (h.sub k (by omega) x hx) fun e => h.disj k 8 (by omega) (by omega) (by omega) x hx (e ▸ h.own)
 ·intro k l hk hl hkl x hx hx'
  (try dsimp only at hx hx')
  by_cases e1 : k = i <;> by_cases e2 : l = i
  ·omega
  ·rw [if_pos e1] at hx
   rw [if_neg e2] at hx'
   exact hG x hx (h.sub l hl x hx')
  ·rw [if_neg e1] at hx
   rw [if_pos e2] at hx'
   exact hG x hx' (h.sub k hk x hx)
  ·rw [if_neg e1] at hx
   rw [if_neg e2] at hx'
   exact h.disj k l hk hl hkl x hx hx'
 ·intro k hk x hx
  (try dsimp only at hx)
  by_cases e1 : k = i
  ·rw [if_pos e1] at hx
   exact .inr hx
  ·rw [if_neg e1] at hx
   exact .inl (h.sub k hk x hx)
def onF (H : Nat → Bool) (i : Nat) : Nat → Bool := fun k => if k = i then true else H k
def offF (H : Nat → Bool) (i : Nat) : Nat → Bool := fun k => if k = i then false else H k
theorem on_off (H : Nat → Bool) (i : Nat) (h : H i = true) : onF (offF H i) i = H := by
 funext k
 unfold onF offF
 by_cases e : k = i
 ·rw [if_pos e, e, h]
 ·rw [if_neg e, if_neg e]
variable {o : Oper} {t : TypeId} {x y : Operand} {te : TI}
theorem stC_pt (c : CoT) (S : SnT) (i p : Nat) (a : AtT) (hi : i < 8) (k : Nat) (hk : k < 73) : stC { c with pt := updN c.pt i (some p) } { S with ats := updN S.ats i a } k = if i + 1 ≤ k ∧ k < i + 1 + [Value.pointer (some ⟨p, 0, none⟩)].length then [Value.pointer (some ⟨p, 0, none⟩)].getD (k - (i + 1)) undef else stC c S k := by
 unfold stC
 simp only [List.length_cons, List.length_nil, Nat.zero_add]
 by_cases c0 : k = 0
 ·rw [if_pos c0, if_neg (by omega), if_pos c0]
 ·rw [if_neg c0, if_neg c0]
  by_cases c1 : k < 9
  ·rw [if_pos c1, if_pos c1]
   by_cases e : k = i + 1
   ·rw [if_pos (by omega), e, Nat.sub_self]
    unfold ptP updN
    dsimp only
    rw [if_pos (by omega)]
    rfl
   ·rw [if_neg (by omega)]
    unfold ptP updN
    dsimp only
    rw [if_neg (by omega)]
  ·rw [if_neg c1, if_neg c1, if_neg (by omega)]
   rfl
theorem OpX_stPt (j k0 k1 k2 i : Nat) {b1 b2 : Nat} {m : List (Int × SlT)} {q : List (Int × PlT)} {K : SV → List OB → Prop} (e0 : j ≠ k0) (e1 : j ≠ k1) (e2 : j ≠ k2) (e01 : k0 ≠ k1) (e02 : k0 ≠ k2) (e12 : k1 ≠ k2) (hT : TabOk C.P C.T) (ho : o.op = .store t x y) (hte : lookT C.T t = some te) (hz : te.zero.length = 1)
 (hj : nth ob j = some (stO b c S H)) (h0 : nth ob k0 = some (atB b1 b2)) (h1 : nth ob k1 = some (scO b1 m)) (h2 : nth ob k2 = some (plO b2 q)) (hok : okS m) (hg : goodA (absM (m, q))) (hi : i < 8) (hH : H i = false)
 (hK : ∀ p, force (setN (setN (setN (setN (setN (setN ob j noO) k0 noO) j noO) k1 noO) j (stO b { c with pt := updN c.pt i (some p) } { S with ats := updN S.ats i (absM (m, q)) } (onF H i))) k2 noO) fun ob => K (.v undef) ob) :
 OpX C o [.v (.pointer (some (((⟨b, 0, none⟩ : Addr).add 1).add ((i : Int).toNat * 1)))), .p k0 0] ob K := by
 rw [ad_add, ad_add, Int.toNat_natCast, Nat.mul_one, Nat.zero_add, Nat.add_comm 1 i]
 unfold OpX
 intro σ fp w ρ hm hx
 obtain ⟨⟨Fs, hs⟩, hjl⟩ := nth_st hm hj
 obtain ⟨hA, l0, l1, l2⟩ := atw_of hm h0 h1 h2 e01 e02 e12 hok hg
 obtain ⟨w', hex, hR', s2, s3, q1, q2, q3, q4⟩ := fn_set (vs := [.pointer (some ⟨σ k0, 0, none⟩)]) (v := .p k0 0) (f' := stC { c with pt := updN c.pt i (some (σ k0)) } { S with ats := updN S.ats i (absM (m, q)) }) hT ho hte (by simp; omega) (by rw [hz]; rfl) (by simp [Value.oneCell']) (fun k hk => stC_pt c S i (σ k0) _ hi k hk) (.inr ⟨_, rfl, rfl⟩) hs.box hx
 rw [hex]
 have hb : fp j b := hs.sub 8 (by omega) b hs.own
 have hsame : ∀ q, q < w.heap.size → ¬ fp j q → w'.heap[q]? = w.heap[q]? := fun q hq hnq => s2 q fun e => hnq (e ▸ hb)
 have hnot : ∀ x, ((fp k0 x ∨ fp k1 x) ∨ fp k2 x) → ¬ fp j x := by
  rintro x ((h | h) | h) hj'
  ·exact hm.disj j k0 hjl l0 e0 x hj' h
  ·exact hm.disj j k1 hjl l1 e1 x hj' h
  ·exact hm.disj j k2 hjl l2 e2 x hj' h
 have hst := hs.put (w' := w') (i := i) (p := σ k0) (a := absM (m, q)) (c' := { c with pt := updN c.pt i (some (σ k0)) }) (S' := { S with ats := updN S.ats i (absM (m, q)) }) (H' := onF H i) hi hH (fun x _ hxb => s2 x hxb) hnot (hA.ext fun x hx => s2 x fun e => hnot x hx (e ▸ hb)) hR' (by simp [updN]) (fun k hk => by simp [updN, hk]) rfl rfl (by simp [updN]) (fun k hk => by simp [updN, hk]) (fun k hk => by simp [onF, hk])
 obtain ⟨fp', hfp, hM⟩ := hm.merge4 (w' := w') hjl l0 l1 l2 e0 e1 e2 e01 e02 e12 (stO b { c with pt := updN c.pt i (some (σ k0)) } { S with ats := updN S.ats i (absM (m, q)) } (onF H i)) (stO_mk (by
  have he : (fun i => ((fp j i ∨ fp k0 i) ∨ fp k1 i) ∨ fp k2 i) = fun x => fp j x ∨ (fp k0 x ∨ fp k1 x) ∨ fp k2 x := by
   funext x
   simp only [or_assoc]
  rw [he]
  exact hst)) q1 q2 q3 s3 hsame q4
 have hK := hK (σ k0)
 rw [force_eq] at hK
 simp only [setN_eq] at hK
 refine ⟨.v undef, _, σ, fp', hK, fun _ _ => rfl, by simp, rfl, trivial, hM, ⟨fun i _ hi hno => hsame i hi (hno j hjl), fun k' hk' i hi _ hlt => ?_, by rw [s3]; exact Nat.le_refl _⟩⟩
 simp at hk'
 exact hfp k' i hk' hi
theorem stC_rel (c : CoT) (S : SnT) (x y g : Nat) (f : Fr) (hx : x < 8) (hy : y < 8) (k : Nat) (hk : k < 73) : stC { c with rp := upd2 c.rp x y g } { S with rel := upd2 S.rel x y (some f) } k = if 9 + x * 8 + y ≤ k ∧ k < 9 + x * 8 + y + [Value.pointer (some ⟨g, 2, none⟩)].length then [Value.pointer (some ⟨g, 2, none⟩)].getD (k - (9 + x * 8 + y)) undef else stC c S k := by
 unfold stC
 simp only [List.length_cons, List.length_nil, Nat.zero_add]
 by_cases c0 : k = 0
 ·rw [if_pos c0, if_neg (by omega), if_pos c0]
 ·rw [if_neg c0, if_neg c0]
  by_cases c1 : k < 9
  ·rw [if_pos c1, if_neg (by omega), if_pos c1]
   rfl
  ·rw [if_neg c1, if_neg c1]
   unfold relP upd2
   (try dsimp only)
   by_cases e : k = 9 + x * 8 + y
   ·rw [if_pos (by omega), e, Nat.sub_self, if_pos (by omega), if_pos (by omega)]
    rfl
   ·rw [if_neg (by omega), if_neg (by omega), if_neg (by omega)]
theorem OpX_stRel (j k u v : Nat) (f : Fr) {x0 y0 : SV} {K : SV → List OB → Prop} (e0 : j ≠ k) (hT : TabOk C.P C.T) (ho : o.op = .store t x y) (hte : lookT C.T t = some te) (hz : te.zero.length = 1)
 (hj : nth ob j = some (stO b c S H)) (h0 : nth ob k = some (.box 39 [x0, y0, I f.1, I f.2.1, I f.2.2])) (hu : u < 8) (hv : v < 8)
 (hK : ∀ g, force (setN (setN ob j (stO b { c with rp := upd2 c.rp u v g } { S with rel := upd2 S.rel u v (some f) } H)) k noO) fun ob => K (.v undef) ob) :
 OpX C o [.v (.pointer (some ((((⟨b, 0, none⟩ : Addr).add 9).add ((u : Int).toNat * 8)).add ((v : Int).toNat * 1)))), .p k 2] ob K := by
 rw [ad_add, ad_add, ad_add, Int.toNat_natCast, Int.toNat_natCast, Nat.mul_one, Nat.zero_add]
 unfold OpX
 intro σ fp w ρ hm hx
 obtain ⟨⟨Fs, hs⟩, hjl⟩ := nth_st hm hj
 rw [nth_eq] at h0
 obtain ⟨d1, d2, d3⟩ := hm.at_ k _ h0
 have l0 := (List.getElem?_eq_some_iff.1 h0).1
 obtain ⟨w', hex, hR', s2, s3, q1, q2, q3, q4⟩ := fn_set (vs := [.pointer (some ⟨σ k, 2, none⟩)]) (v := .p k 2) (f' := stC { c with rp := upd2 c.rp u v (σ k) } { S with rel := upd2 S.rel u v (some f) }) hT ho hte (by simp; omega) (by rw [hz]; rfl) (by simp [Value.oneCell']) (fun i hi => stC_rel c S u v (σ k) f hu hv i hi) (.inr ⟨_, rfl, rfl⟩) hs.box hx
 rw [hex]
 have hb : fp j b := hs.sub 8 (by omega) b hs.own
 have hsame : ∀ q, q < w.heap.size → ¬ fp j q → w'.heap[q]? = w.heap[q]? := fun q hq hnq => s2 q fun e => hnq (e ▸ hb)
 have hkj : ∀ x, fp k x → ¬ fp j x := fun x h h' => hm.disj j k hjl l0 e0 x h' h
 have hkb : σ k ≠ b := fun e => hkj b ((d2 b).2 e.symm) hb
 have hst : StW w' (fun x => fp j x ∨ fp k x) b { c with rp := upd2 c.rp u v (σ k) } { S with rel := upd2 S.rel u v (some f) } H (fun i => if i = 8 then (fun x => Fs 8 x ∨ fp k x) else Fs i) := by
  refine ⟨hR', ?_, ?_, ?_, ?_, ?_⟩
  ·(try dsimp only)
   rw [if_pos rfl]; exact .inl hs.own
  ·intro x y f' hx hy hf
   (try dsimp only at hf ⊢)
   rw [if_pos rfl]
   unfold upd2 at hf ⊢
   by_cases e : x = u ∧ y = v
   ·rw [if_pos e] at hf ⊢
    obtain rfl := Option.some.inj hf
    refine ⟨⟨x0.val σ, y0.val σ, ?_⟩, .inr ((d2 _).2 rfl), hkb⟩
    rw [s2 _ hkb, d1]
    rfl
   ·rw [if_neg e] at hf ⊢
    obtain ⟨⟨u', v', h1⟩, h2, h3⟩ := hs.rel x y f' hx hy hf
    exact ⟨⟨u', v', (s2 _ h3).trans h1⟩, .inl h2, h3⟩
  ·intro i hi hHi
   obtain ⟨p, h1, h2⟩ := hs.ats i hi hHi
   refine ⟨p, h1, ?_⟩
   (try dsimp only)
   rw [if_neg (by omega)]
   exact h2.ext fun x hx => s2 x fun e => hs.disj i 8 (by omega) (by omega) (by omega) x hx (e ▸ hs.own)
  ·intro i i' hi hi' hne z hz hz'
   (try dsimp only at hz hz')
   by_cases e1 : i = 8 <;> by_cases e2 : i' = 8
   ·omega
   ·rw [if_pos e1] at hz
    rw [if_neg e2] at hz'
    rcases hz with hz | hz
    ·exact hs.disj 8 i' (by omega) hi' (by omega) z hz hz'
    ·exact hkj z hz (hs.sub i' hi' z hz')
   ·rw [if_neg e1] at hz
    rw [if_pos e2] at hz'
    rcases hz' with hz' | hz'
    ·exact hs.disj i 8 hi (by omega) (by omega) z hz hz'
    ·exact hkj z hz' (hs.sub i hi z hz)
   ·rw [if_neg e1] at hz
    rw [if_neg e2] at hz'
    exact hs.disj i i' hi hi' hne z hz hz'
  ·intro i hi z hz
   (try dsimp only at hz)
   by_cases e1 : i = 8
   ·rw [if_pos e1] at hz
    rcases hz with hz | hz
    ·exact .inl (hs.sub 8 (by omega) z hz)
    ·exact .inr hz
   ·rw [if_neg e1] at hz
    exact .inl (hs.sub i hi z hz)
 have hM := hm.merge (w' := w') hjl l0 e0 (stO b { c with rp := upd2 c.rp u v (σ k) } { S with rel := upd2 S.rel u v (some f) } H) noO (stO_mk hst) ⟨trivial, fun _ _ => trivial⟩ q1 q2 q3 s3 hsame q4
 have hK := hK (σ k)
 rw [force_eq, setN_eq, setN_eq] at hK
 refine ⟨.v undef, _, σ, _, hK, fun _ _ => rfl, by simp, rfl, trivial, hM, ⟨fun i _ hi hno => hsame i hi (hno j hjl), fun k' hk' i hi _ hlt => ?_, by rw [s3]; exact Nat.le_refl _⟩⟩
 simp at hk'
 by_cases e1 : k' = j
 ·rw [if_pos e1] at hi
  rcases hi with hi | hi
  ·exact ⟨j, hjl, hi⟩
  ·exact ⟨k, l0, hi⟩
 ·rw [if_neg e1] at hi
  by_cases e2 : k' = k
  ·rw [if_pos e2] at hi
   exact hi.elim
  ·rw [if_neg e2] at hi
   exact ⟨k', hk', hi⟩
theorem Mem.openSt {σ : Nat → Nat} {fp : Nat → Nat → Prop} {w : World} {j i : Nat} (hm : Mem C σ fp ob w) (hj : nth ob j = some (stO b c S H)) (hi : i < 8) (hH : H i = true) :
 ∃ p b1 b2 m q σ' fp', c.pt i = some p ∧ okS m ∧ absM (m, q) = S.ats i ∧ goodA (S.ats i) ∧ σ' ob.length = p ∧ (∀ k, k < ob.length → σ' k = σ k) ∧ (∀ k x, k < ob.length + 3 → fp' k x → ∃ k', k' < ob.length ∧ fp k' x) ∧
  Mem C σ' fp' (ob.set j (stO b c S (offF H i)) ++ [atB b1 b2] ++ [scO b1 m] ++ [plO b2 q]) w := by
 obtain ⟨⟨Fs, hs⟩, hjl⟩ := nth_st hm hj
 obtain ⟨p, hp, hg, b1, b2, m, q, F1, F2, h1, h2, h3, ⟨⟨h4, h5⟩, h6⟩, ⟨h7, h8⟩, h9, h10, h11⟩ := hs.ats i hi hH
 have hs' : StW w (fun x => fp j x ∧ ¬ Fs i x) b c S (offF H i) (fun k => if k = i then (fun _ => False) else Fs k) := by
  refine ⟨hs.box, ?_, ?_, ?_, ?_, ?_⟩
  ·(try dsimp only)
   rw [if_neg (by omega)]; exact hs.own
  ·intro x y f hx hy hf
   (try dsimp only)
   rw [if_neg (by omega)]
   exact hs.rel x y f hx hy hf
  ·intro k hk hHk
   unfold offF at hHk
   by_cases e : k = i
   ·rw [if_pos e] at hHk; cases hHk
   ·rw [if_neg e] at hHk
    obtain ⟨p', g1, g2⟩ := hs.ats k hk hHk
    refine ⟨p', g1, ?_⟩
    (try dsimp only)
    rw [if_neg e]; exact g2
  ·intro k l hk hl hkl x hx hx'
   (try dsimp only at hx hx')
   by_cases e1 : k = i
   ·rw [if_pos e1] at hx; exact hx
   ·by_cases e2 : l = i
    ·rw [if_pos e2] at hx'; exact hx'
    ·rw [if_neg e1] at hx
     rw [if_neg e2] at hx'
     exact hs.disj k l hk hl hkl x hx hx'
  ·intro k hk x hx
   (try dsimp only at hx)
   by_cases e1 : k = i
   ·rw [if_pos e1] at hx; exact hx.elim
   ·rw [if_neg e1] at hx
    exact ⟨hs.sub k hk x hx, fun h => hs.disj k i hk (by omega) e1 x hx h⟩
 have hFi : ∀ x, Fs i x → fp j x := fun x hx => hs.sub i (by omega) x hx
 have m0 := hm.change (w' := w) hjl (stO b c S (offF H i)) (fun x => fp j x ∧ ¬ Fs i x) (stO_mk hs') (fun x hx => .inl hx.1) (fun x hx => hm.hi j hjl x hx.1) rfl rfl rfl (Nat.le_refl _) (fun _ _ _ => rfl) (fun _ => Nat.le_refl _)
 have free0 : ∀ x, Fs i x → (C.M x ∨ C.w0.heap.size ≤ x) ∧ x < w.heap.size ∧ ∀ k, k < (ob.set j (stO b c S (offF H i))).length → ¬ (if k = j then (fun x => fp j x ∧ ¬ Fs i x) else fp k) x := by
  intro x hx
  refine ⟨hm.lo j hjl x (hFi x hx), hm.hi j hjl x (hFi x hx), fun k hk h => ?_⟩
  simp at hk
  by_cases e : k = j
  ·rw [if_pos e] at h; exact h.2 hx
  ·rw [if_neg e] at h
   exact hm.disj k j hk hjl e x h (hFi x hx)
 have m1 := m0.adopt (atB b1 b2) p (· = p) ⟨h3, fun _ => Iff.rfl, by simp [SV.wf, SV.wfs]⟩ (by
  rintro x rfl
  exact free0 x ((h9 x).2 (.inl rfl)))
 have m2 := m1.adopt (scO b1 m) 0 F1 (scO_mk h4 h5 h6) (by
  intro x hx
  obtain ⟨f1, f2, f3⟩ := free0 x ((h9 x).2 (.inr (.inl hx)))
  refine ⟨f1, f2, fun k hk h => ?_⟩
  simp at hk
  by_cases e : k = (ob.set j (stO b c S (offF H i))).length
  ·rw [if_pos e] at h
   exact (h10 x hx).1 h
  ·rw [if_neg e] at h
   simp at e
   exact f3 k (by simp; omega) h)
 have m3 := m2.adopt (plO b2 q) 0 F2 (imO_mk h7 h8) (by
  intro x hx
  obtain ⟨f1, f2, f3⟩ := free0 x ((h9 x).2 (.inr (.inr hx)))
  refine ⟨f1, f2, fun k hk h => ?_⟩
  simp at hk
  by_cases e2 : k = (ob.set j (stO b c S (offF H i)) ++ [atB b1 b2]).length
  ·rw [if_pos e2] at h
   exact (h10 x h).2 hx
  ·rw [if_neg e2] at h
   simp at e2
   by_cases e : k = (ob.set j (stO b c S (offF H i))).length
   ·rw [if_pos e] at h
    exact h11 x hx h
   ·rw [if_neg e] at h
    simp at e
    exact f3 k (by simp; omega) h)
 refine ⟨p, b1, b2, m, q, _, _, hp, h1, h2, hg, ?_, ?_, ?_, m3⟩
 ·simp
 ·intro k hk
  simp [show k ≠ ob.length by omega, show k ≠ ob.length + 1 by omega, show k ≠ ob.length + 1 + 1 by omega]
 ·intro k x hk h
  simp only [List.length_append, List.length_set, List.length_cons, List.length_nil] at h
  by_cases e3 : k = ob.length + (0 + 1) + (0 + 1)
  ·rw [if_pos e3] at h
   exact ⟨j, hjl, hFi x ((h9 x).2 (.inr (.inr h)))⟩
  ·rw [if_neg e3] at h
   by_cases e2 : k = ob.length + (0 + 1)
   ·rw [if_pos e2] at h
    exact ⟨j, hjl, hFi x ((h9 x).2 (.inr (.inl h)))⟩
   ·rw [if_neg e2] at h
    by_cases e1 : k = ob.length
    ·rw [if_pos e1] at h
     exact ⟨j, hjl, hFi x ((h9 x).2 (.inl h))⟩
    ·rw [if_neg e1] at h
     by_cases e : k = j
     ·rw [if_pos e] at h
      exact ⟨j, hjl, h.1⟩
     ·rw [if_neg e] at h
      exact ⟨k, by omega, h⟩
theorem Mem.closeSt {σ : Nat → Nat} {fp : Nat → Nat → Prop} {w : World} {j k0 k1 k2 i b1 b2 p : Nat} {m : List (Int × SlT)} {q : List (Int × PlT)} (hm : Mem C σ fp ob w) (hj : nth ob j = some (stO b c S (offF H i))) (h0 : nth ob k0 = some (atB b1 b2)) (h1 : nth ob k1 = some (scO b1 m)) (h2 : nth ob k2 = some (plO b2 q))
 (e0 : j ≠ k0) (e1 : j ≠ k1) (e2 : j ≠ k2) (e01 : k0 ≠ k1) (e02 : k0 ≠ k2) (e12 : k1 ≠ k2) (hi : i < 8) (hp : c.pt i = some p) (hσ : σ k0 = p) (hok : okS m) (hg : goodA (absM (m, q))) :
 ∃ fp', (∀ k i, k < ob.length → fp' k i → ∃ k', k' < ob.length ∧ fp k' i) ∧ Mem C σ fp' ((((((ob.set j noO).set k0 noO).set j noO).set k1 noO).set j (stO b c { S with ats := updN S.ats i (absM (m, q)) } (onF (offF H i) i))).set k2 noO) w := by
 obtain ⟨⟨Fs, hs⟩, hjl⟩ := nth_st hm hj
 obtain ⟨hA, l0, l1, l2⟩ := atw_of hm h0 h1 h2 e01 e02 e12 hok hg
 rw [hσ] at hA
 have hnot : ∀ x, ((fp k0 x ∨ fp k1 x) ∨ fp k2 x) → ¬ fp j x := by
  rintro x ((h | h) | h) hj'
  ·exact hm.disj j k0 hjl l0 e0 x hj' h
  ·exact hm.disj j k1 hjl l1 e1 x hj' h
  ·exact hm.disj j k2 hjl l2 e2 x hj' h
 have hst := hs.put (w' := w) (i := i) (p := p) (a := absM (m, q)) (c' := c) (S' := { S with ats := updN S.ats i (absM (m, q)) }) (H' := onF (offF H i) i) hi (by simp [offF]) (fun x _ _ => rfl) hnot hA hs.box hp (fun k hk => rfl) rfl rfl (by simp [updN]) (fun k hk => by simp [updN, hk]) (fun k hk => by simp [onF, hk])
 exact hm.merge4 (w' := w) hjl l0 l1 l2 e0 e1 e2 e01 e02 e12 _ (stO_mk (by
  have he : (fun i => ((fp j i ∨ fp k0 i) ∨ fp k1 i) ∨ fp k2 i) = fun x => fp j x ∨ (fp k0 x ∨ fp k1 x) ∨ fp k2 x := by
   funext x
   simp only [or_assoc]
  rw [he]
  exact hst)) rfl rfl rfl rfl (fun _ _ _ => rfl) rfl
def closeK (j n b : Nat) (c : CoT) (S : SnT) (H : Nat → Bool) (i : Nat) (k : SV → List OB → Prop) (x : SV) (ob : List OB) : Prop :=
 ∃ (b1 b2 : Nat) (m : List (Int × SlT)) (q : List (Int × PlT)), nth ob j = some (stO b c S (offF H i)) ∧ nth ob n = some (atB b1 b2) ∧ nth ob (n + 1) = some (scO b1 m) ∧ nth ob (n + 2) = some (plO b2 q) ∧ okS m ∧ goodA (absM (m, q)) ∧
  force (setN (setN (setN (setN (setN (setN ob j noO) n noO) j noO) (n + 1) noO) j (stO b c { S with ats := updN S.ats i (absM (m, q)) } H)) (n + 2) noO) fun ob => k x ob
theorem CallX_open {f : FuncId} {args : List SV} (args' : List SV) (j i n : Nat) (hen : Entr C.P f) {k : SV → List OB → Prop} (hj : nth ob j = some (stO b c S H)) (hn : ob.length = n) (hi : i < 8) (hH : H i = true) (hw : SV.wfs ob.length args) (hargs : ∀ σ : Nat → Nat, c.pt i = some (σ n) → SV.vals σ args = SV.vals σ args')
 (h : ∀ b1 b2 m q, okS m → absM (m, q) = S.ats i → goodA (S.ats i) → force (setN ob j (stO b c S (offF H i)) ++ [atB b1 b2] ++ [scO b1 m] ++ [plO b2 q]) fun ob => CallX C f args' ob (closeK j n b c S H i k)) : CallX C f args ob k := by
 subst hn
 have key : ∀ σ fp w, Mem C σ fp ob w → Calls C.P f (SV.vals σ args).toArray w fun e w' => ∃ v, e = .returned v ∧ Goes C ob.length σ fp w k v w' := by
  intro σ fp w hm
  obtain ⟨p, b1, b2, m, q, σ', fp', hp, hok, hab, hg, hσp, hσ', hfp', hm'⟩ := hm.openSt hj hi hH
  have h3 := h b1 b2 m q hok hab hg
  rw [force_eq, setN_eq] at h3
  unfold CallX at h3
  have h4 := h3.2 σ' fp' w hm'
  rw [← hargs σ' (by rw [hσp]; exact hp), SV.vals_ext hσ' args hw] at h4
  refine h4.mono ?_
  rintro e w' ⟨v, rfl, x, ob2, σ2, fp2, ⟨b1', b2', m', q', g1, g2, g3, g4, g5, g6, g7⟩, t1, t2, t3, t4, t5, t6⟩
  have hlen : (ob.set j (stO b c S (offF H i)) ++ [atB b1 b2] ++ [scO b1 m] ++ [plO b2 q]).length = ob.length + 3 := by simp
  rw [hlen] at t1 t2 t6
  have hjl : j < ob.length := (nth_st hm hj).2
  obtain ⟨fp3, hf3, hm3⟩ := t5.closeSt g1 g2 g3 g4 (p := p) (by omega) (by omega) (by omega) (by omega) (by omega) (by omega) hi hp (by rw [t1 _ (by omega)]; exact hσp) g5 g6
  rw [force_eq] at g7
  simp only [setN_eq] at g7
  rw [on_off H i hH] at hm3
  refine ⟨v, rfl, x, _, σ2, fp3, g7, fun k hk => (t1 k (by omega)).trans (hσ' k hk), by simp; omega, t3, by simpa using t4, hm3, ⟨fun y hy hlt hno => t6.old y hy hlt fun k hk hk2 => ?_, fun k hk y hy hl hlt => ?_, t6.size⟩⟩
  ·obtain ⟨k', h1, h2⟩ := hfp' k y hk hk2
   exact hno k' h1 h2
  ·simp at hk
   obtain ⟨k', h1, h2⟩ := hf3 k y hk hy
   obtain ⟨k'', h3, h4⟩ := t6.new k' h1 y h2 hl hlt
   exact hfp' k'' y h3 h4
 unfold CallX
 exact ⟨hen, key⟩
end
end Go.Proofs.YtlnplelandimeaaGreat.En
end
