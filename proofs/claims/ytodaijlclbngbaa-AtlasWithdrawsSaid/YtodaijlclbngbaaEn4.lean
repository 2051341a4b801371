/- The symbolic executor is sound: one operation. -/
import Derived.Test.YtodaijlclbngbaaEn3
import Derived.Deep.MidRow
import Derived.Laws.CopyRow
set_option linter.all false
namespace Go.Proofs.Ytodaijlclbngbaa.En
open Go.RowKit

structure TIok (P : Program) (ti : TI) : Prop where
  info : (P.info? ti.id).map (·.size) = some ti.zero.length
  under : ∃ d, P.underlying ti.id = some d ∧ d.isRow = ti.agg
  zero : ∃ z, (∀ w, (zeroValue ti.id).run P w = .ok z w) ∧ z.cells = ti.zero.toArray
  inf : ∃ i z, P.info? ti.id = some i ∧ i.zero = some z ∧ z.cells = ti.zero.toArray ∧ i.size = ti.zero.length ∧ i.bytes = ti.byt
  one : ti.agg = false → ti.zero.length = 1
  fld : ∀ i fo fs fa, nth ti.flds i = some (fo, fs, fa) → fs ≠ 0 → ∀ a w, (Instr.fieldAt ti.id (.pointer (some a)) i).run P w = .ok (.pointer (some (a.add fo))) w
  build : ti.agg = true → ∀ parts cells w, Instr.fill (fun i => (nth ti.flds i).map fun f => (f.1, f.2.1)) ti.zero.toArray parts.toList = some cells → (Instr.build ti.id parts).run P w = .ok (.agg cells) w
  sl : ∀ e, ti.el = e + 1 → P.underlying ti.id = some (.slice e)
  kd1 : ti.kd = 1 → P.underlying ti.id = some .bool
  kd2 : ti.kd = 2 → ∃ e, P.underlying ti.id = some (.pointer e)
  kd3 : ∀ k, ikOf ti.kd = some k → P.underlying ti.id = some (.int k)
  guard : P.eqGuardType P.depth ti.id = false
  eq : ∀ σ l m r, eqT ti.eqk l m = some r → ∀ w, (Op.equal ti.id (.agg (SV.vals σ l).toArray) (.agg (SV.vals σ m).toArray)).run P w = .ok r w

def TabOk (P : Program) (T : List TI) : Prop := ∀ t ti, lookT T t = some ti → ti.id = t ∧ TIok P ti

theorem wp_value {P : Program} {o : Oper} {a : Act} {w w' : World} {next : Act → World → Prop} {Q : Exit → Act → World → Prop} {v : Value} (h : (execOp a.eval o).run P w = .ok (.value v) w') (hn : next (a.put o.dst v) w') : o.wp P a w next Q := by
  unfold Oper.wp; rw [h]; exact hn
theorem wp_skip' {P : Program} {o : Oper} {a : Act} {w w' : World} {next : Act → World → Prop} {Q : Exit → Act → World → Prop} (h : (execOp a.eval o).run P w = .ok .skip w') (hn : next (a.put o.dst undef) w') : o.wp P a w next Q := by
  unfold Oper.wp; rw [h]; exact hn

theorem xif_iff {b : Bool} {t e : Unit → Prop} : xif b t e ↔ (b = true → t ()) ∧ (b = false → e ()) := by cases b <;> simp [xif]
theorem need_iff {p : Prop} {k : Unit → Prop} : need p k ↔ p ∧ k () := by unfold need; exact Iff.rfl

theorem xwr64_iff {e : Int} {k : Int → Prop} : xwr64 e k ↔ k (IntKind.i64.wrap e) := ⟨fun h => h.out, fun h => ⟨h⟩⟩
theorem xquo64_iff {a b : Int} {k : Int → Prop} : xquo64 a b k ↔ b ≠ 0 ∧ k (IntKind.i64.wrap (a.tdiv b)) := ⟨fun h => h.out, fun h => ⟨h⟩⟩
theorem xrem64_iff {a b : Int} {k : Int → Prop} : xrem64 a b k ↔ b ≠ 0 ∧ k (a.tmod b) := ⟨fun h => h.out, fun h => ⟨h⟩⟩
theorem xshr_iff {kd : IntKind} {a b : Int} {k : Int → Prop} : xshr kd a b k ↔ 0 ≤ b ∧ k (a.fdiv (2 ^ min b.toNat kd.bits)) := ⟨fun h => h.out, fun h => ⟨h⟩⟩
theorem xshl_iff {kd : IntKind} {a b : Int} {k : Int → Prop} : xshl kd a b k ↔ 0 ≤ b ∧ k (kd.wrap (a * 2 ^ min b.toNat kd.bits)) := ⟨fun h => h.out, fun h => ⟨h⟩⟩
theorem xcv_iff {kd : IntKind} {n : Int} {k : Int → Prop} : xcv kd n k ↔ k (kd.wrap n) := ⟨fun h => h.out, fun h => ⟨h⟩⟩
theorem xwr_iff {kd : IntKind} {e : Int} {k : Int → Prop} : xwr kd e k ↔ k (kd.wrap e) := by cases kd <;> simp [xwr, xwr64_iff]
theorem xquo_iff {kd : IntKind} {a b : Int} {k : Int → Prop} : xquo kd a b k ↔ b ≠ 0 ∧ k (kd.wrap (a.tdiv b)) := by cases kd <;> simp [xquo, xquo64_iff, need]
theorem xrem_iff {kd : IntKind} {a b : Int} {k : Int → Prop} : xrem kd a b k ↔ b ≠ 0 ∧ k (a.tmod b) := by cases kd <;> simp [xrem, xrem64_iff, need]

theorem foldl_zip (f : Array Value → Value × Nat → Array Value) (o : Nat) (hf : ∀ cs c j, f cs (c, j) = cs.setIfInBounds (o + j) c) : ∀ (l : List Value) (s : Nat) (cs : Array Value), o + s + l.length ≤ cs.size →
    (l.zipIdx s).foldl f cs = (cs.toList.take (o + s) ++ l ++ cs.toList.drop (o + s + l.length)).toArray
  | [], s, cs, _ => by simp
  | x :: r, s, cs, h => by
    have h' : o + s + (r.length + 1) ≤ cs.size := by simpa using h
    simp only [List.zipIdx_cons, List.foldl_cons, hf]
    rw [foldl_zip f o hf r (s + 1) _ (by simp; omega)]
    congr 1
    apply List.ext_getElem?
    intro i
    simp only [Array.toList_setIfInBounds, List.getElem?_append, List.length_append, List.length_take, List.length_set, List.getElem?_take, List.getElem?_drop, List.length_cons, List.getElem?_set, Array.length_toList]
    by_cases h1 : i < o + s
    · simp [show i < o + (s + 1) by omega, show i < cs.size by omega, show ¬ o + s = i by omega, h1, show i < min (o + (s + 1)) cs.size + r.length by omega, show i < min (o + s) cs.size + (r.length + 1) by omega]
      rw [if_pos (by omega), if_pos (by omega)]
    · by_cases h2 : i = o + s
      · subst h2
        simp [show o + s < min (o + (s + 1)) cs.size + r.length by omega, show o + s < o + (s + 1) by omega, show o + s < cs.size by omega, show o + s < min (o + s) cs.size + (r.length + 1) by omega, show o + s - min (o + s) cs.size = 0 by omega]
        rw [if_pos (by omega), if_neg (by omega)]
      · by_cases h3 : i < o + s + (r.length + 1)
        · simp [show i < min (o + (s + 1)) cs.size + r.length by omega, show ¬ i < o + (s + 1) by omega, show i < min (o + s) cs.size + (r.length + 1) by omega, show ¬ i < o + s by omega]
          rw [show i - min (o + s) cs.size = (i - min (o + (s + 1)) cs.size) + 1 by omega]
          simp
          rw [if_neg (by omega), if_neg (by omega)]
        · simp [show ¬ i < min (o + (s + 1)) cs.size + r.length by omega, show ¬ i < min (o + s) cs.size + (r.length + 1) by omega, show ¬ o + s = o + (s + 1) + r.length + (i - (min (o + (s + 1)) cs.size + r.length)) by omega]
          congr 1
          omega
theorem fold_splice (cs : Array Value) (l : List Value) (o : Nat) (h : o + l.length ≤ cs.size) :
    l.toArray.zipIdx.foldl (fun cs (c, j) => cs.setIfInBounds (o + j) c) cs = (cs.toList.take o ++ l ++ cs.toList.drop (o + l.length)).toArray := by
  have := foldl_zip (fun cs (p : Value × Nat) => cs.setIfInBounds (o + p.2) p.1) o (fun _ _ _ => rfl) l 0 cs (by omega)
  simp only [Nat.add_zero] at this
  rw [← this]
  simp

section
variable {C : Ctx} {tm : List (Nat × SV)} {ob : List OB} {σ : Nat → Nat} {fp : Nat → Nat → Prop} {a : Act} {w : World} {k : SV → List OB → Prop}

theorem ev_spec (h : Tm C σ ob.length tm a) {x : Operand} {r : SV} (he : ev tm x = some r) : a.eval x = r.val σ ∧ r.wf ob.length := by
  cases x with
  | tmp t => exact h.val t r he
  | const v => simp [ev] at he; subst he; exact ⟨rfl, trivial⟩
  | global g => simp [ev] at he; subst he; exact ⟨rfl, trivial⟩
  | func f => simp [ev] at he; subst he; exact ⟨rfl, trivial⟩
theorem evs_spec (h : Tm C σ ob.length tm a) : ∀ {xs : List Operand} {l : List SV}, evs tm xs = some l → xs.map a.eval = SV.vals σ l ∧ SV.wfs ob.length l
  | [], l, he => by simp [evs] at he; subst he; exact ⟨rfl, trivial⟩
  | x :: r, l, he => by
    unfold evs at he
    cases hx : ev tm x with
    | none => simp [hx] at he
    | some s =>
      cases hr : evs tm r with
      | none => simp [hx, hr] at he
      | some m =>
        simp [hx, hr] at he
        subst he
        obtain ⟨h1, h2⟩ := ev_spec h hx
        obtain ⟨h3, h4⟩ := evs_spec h hr
        exact ⟨by simp [SV.vals, h1, h3], h2, h4⟩

theorem Frm.below {n : Nat} {w' : World} (hb : Below w.heap.size w w') : Frm C n fp w n fp w' :=
  ⟨fun i _ hi _ => hb.block i hi, fun j hj i hi _ _ => ⟨j, hj, hi⟩, hb.size⟩
theorem Frm.pushed {n m : Nat} {F : Nat → Prop} {w' : World} (hb : Below w.heap.size w w') (hm : m ≤ n + 1) (hF : ∀ i, F i → w.heap.size ≤ i) : Frm C n fp w m (fun j => if j = n then F else fp j) w' := by
  refine ⟨fun i _ hi _ => hb.block i hi, fun j hj i hi _ hlt => ?_, hb.size⟩
  by_cases e : j = n
  · simp only [e, if_true] at hi
    have := hF i hi
    omega
  · simp only [e, if_false] at hi
    exact ⟨j, by omega, hi⟩
theorem Frm.changed {n m j : Nat} {F : Nat → Prop} {w' : World} (hj : j < n) (hm : m ≤ n) (hF : ∀ i, F i → fp j i ∨ w.heap.size ≤ i) (hsz : w.heap.size ≤ w'.heap.size) (hsame : ∀ i, i < w.heap.size → ¬ fp j i → w'.heap[i]? = w.heap[i]?) :
    Frm C n fp w m (fun k => if k = j then F else fp k) w' := by
  refine ⟨fun i _ hi hno => hsame i hi (hno j hj), fun k hk i hi _ hlt => ?_, hsz⟩
  by_cases e : k = j
  · simp only [e, if_true] at hi
    rcases hF i hi with h | h
    · exact ⟨j, hj, h⟩
    · omega
  · simp only [e, if_false] at hi
    exact ⟨k, by omega, hi⟩

theorem Goes.same {x : SV} (hk : k x ob) (hw : x.wf ob.length) (hm : Mem C σ fp ob w) : Goes C ob.length σ fp w k (x.val σ) w :=
  ⟨x, ob, σ, fp, hk, fun _ _ => rfl, Nat.le_refl _, rfl, hw, hm, Frm.below (Below.refl _ _)⟩

theorem Goes.newBox {t : TypeId} {cs : List SV} (h : newBox t cs ob k) (hw : SV.wfs ob.length cs) (hm : Mem C σ fp ob w) : Goes C ob.length σ fp w k (.pointer (some ⟨w.heap.size, 0, none⟩)) (w.alloc (.cells (SV.vals σ cs).toArray t)) := by
  unfold En.newBox at h
  have h1 := lenK_spec h
  simp only [force_eq] at h1
  exact ⟨_, _, _, _, h1, fun j hj => by simp [show j ≠ ob.length by omega], by simp, by simp [SV.val], by simp [SV.wf], hm.push t cs hw, Frm.pushed ((Below.refl _ _).alloc (Nat.le_refl _) _) (by simp) fun i hi => by rw [hi]; exact Nat.le_refl _⟩

theorem nth_box {j : Nat} {t : TypeId} {cs : List SV} (hm : Mem C σ fp ob w) (h : nth ob j = some (.box t cs)) : w.heap[σ j]? = some (.cells (SV.vals σ cs).toArray t (0, 0)) ∧ (∀ i, fp j i ↔ i = σ j) ∧ SV.wfs ob.length cs ∧ j < ob.length := by
  rw [nth_eq] at h
  have := hm.at_ j _ h
  exact ⟨this.1, this.2.1, this.2.2, (List.getElem?_eq_some_iff.1 h).1⟩

theorem load_one {P : Program} {ti : TI} (hT : TIok P ti) (hagg : ti.agg = false) {b off : Nat} {v : Value} (hc : w.cell? ⟨b, off, none⟩ = some v) : (loadVar ti.id ⟨b, off, none⟩).run P w = .ok v w := by
  obtain ⟨d, hd, hrow⟩ := hT.under
  have hagg' : (isAgg ti.id).run P w = .ok false w := by
    unfold isAgg
    simp only [Sem.run_bind, run_underlying hd, Result.andThen_ok]
    rw [hagg] at hrow
    cases d <;> first | rfl | cases hrow
  unfold loadVar
  simp only [Sem.run_bind, hagg', Result.andThen_ok]
  simp [run_load, hc]


theorem fill_spec (σ : Nat → Nat) (n : Nat) (fl : List (Nat × Nat × Bool)) : ∀ (ps : List (Nat × SV)) (cs r : List SV), En.fill fl cs ps = some r → SV.wfs n cs → (∀ p ∈ ps, p.2.wf n) →
    Instr.fill (fun i => (nth fl i).map fun f => (f.1, f.2.1)) (SV.vals σ cs).toArray (ps.map fun p => (p.1, p.2.val σ)) = some (SV.vals σ r).toArray ∧ SV.wfs n r
  | [], cs, r, h, hw, _ => by simp [En.fill] at h; subst h; exact ⟨rfl, hw⟩
  | (i, x) :: ps, cs, r, h, hw, hp => by
    unfold En.fill at h
    cases hi : nth fl i with
    | none => simp [hi] at h
    | some f =>
      obtain ⟨o, m, fa⟩ := f
      simp only [hi] at h
      split at h
      · rename_i h1 h2
        have e1 : x.cells.length = m := Nat.eq_of_beq_eq_true h1
        have e2 : o + m ≤ cs.length := Nat.le_of_ble_eq_true h2
        have hx := cells_wf (hp (i, x) (by simp))
        rw [splice_eq _ _ _ (by omega)] at h
        have ih := fill_spec σ n fl ps _ r h (wfs_splice hw hx o) (fun p hpm => hp p (by simp [hpm]))
        refine ⟨?_, ih.2⟩
        simp only [List.map_cons, Instr.fill, hi, Option.map_some]
        rw [cells_val]
        simp only [List.size_toArray, vals_length, e1]
        rw [if_neg (by simp; omega)]
        rw [vals_splice] at ih
        rw [← ih.1]
        congr 1
        rw [fold_splice _ _ _ (by simp [vals_length]; omega)]
      · cases h
end

end Go.Proofs.Ytodaijlclbngbaa.En
