import Derived.Test.YtadichckbogcjaaGreatDoorZToolsFirst27
import Derived.Test.YtadichckbogcjaaGreatDoorZToolsFirst25
import Derived.Test.YtadichckbogcjaaGreatDoorZToolsFirst17
set_option linter.all false
section
namespace Go.Proofs.YtadichckbogcjaaGreatDoor.En
open Go.RowKit
set_option maxRecDepth 100000
structure ByAt (w : World) (F : Nat → Prop) (e : TypeId) (A : Option Addr) (n : Nat) (bs : List UInt8) : Prop where
  len : bs.length = n
  at_ : ∃ g cur fz, A = some ⟨g, 0, none⟩ ∧ F g ∧ w.heap[g]? = some (.cells cur e fz) ∧ n ≤ fz.1 ∧ n ≤ cur.size ∧ cur.toList.take n = (bs.map encU).flatten
theorem ByAt.ext {w w' : World} {F : Nat → Prop} {e : TypeId} {A : Option Addr} {n : Nat} {bs : List UInt8} (h : ByAt w F e A n bs) (hw : ∀ i, F i → w'.heap[i]? = w.heap[i]?) : ByAt w' F e A n bs := by
  obtain ⟨h1, g, cur, fz, h2, h3, h4, h5⟩ := h
  exact ⟨h1, g, cur, fz, h2, h3, (hw g h3).trans h4, h5⟩
def byO (e : TypeId) (A : Option Addr) (n : Nat) (bs : List UInt8) : OB := .res fun w F => ByAt w F e A n bs
theorem byO_mk {w : World} {F : Nat → Prop} {e : TypeId} {A : Option Addr} {n : Nat} {bs : List UInt8} (h : ByAt w F e A n bs) {σ : Nat → Nat} {m q : Nat} : (byO e A n bs).at σ m w q F := ⟨h, fun _ hw => h.ext hw⟩
section
variable {C : Ctx} {ob : List OB} {e : TypeId} {A : Option Addr} {n : Nat} {bs : List UInt8}
theorem nth_by {σ : Nat → Nat} {fp : Nat → Nat → Prop} {w : World} {j : Nat} (hm : Mem C σ fp ob w) (h : nth ob j = some (byO e A n bs)) : ByAt w (fp j) e A n bs ∧ j < ob.length := by
  rw [nth_eq] at h
  have := hm.at_ j _ h
  exact ⟨this.1, (List.getElem?_eq_some_iff.1 h).1⟩
theorem encU_get {bs : List UInt8} {i : Nat} {v : Value} (h : (bs.map encU)[i]? = some [v]) : (bs.map encU).flatten[i]? = some v := by
  rw [encU_flat]
  rw [List.getElem?_map] at h ⊢
  cases hb : bs[i]? with
  | none => rw [hb] at h; cases h
  | some b =>
    rw [hb] at h
    simp only [Option.map_some, Option.some.injEq, encU, List.cons.injEq, and_true] at h ⊢
    exact h
theorem ArgSl.by (j : Nat) (h : nth ob j = some (byO e A n bs)) : ∀ σ fp w, Mem C σ fp ob w → ArgSl w A n 1 (bs.map encU) := by
  intro σ fp w hm
  obtain ⟨⟨h1, g, cur, fz, h2, h3, h4, h5, h6, h7⟩, _⟩ := nth_by hm h
  refine ⟨by simpa using h1, fun x hx => ?_, fun x hx => ?_, fun _ => ⟨g, 0, h2, fun i x hx j v hv => ?_⟩⟩
  · obtain ⟨b, _, rfl⟩ := List.mem_map.1 hx
    rfl
  · obtain ⟨b, _, rfl⟩ := List.mem_map.1 hx
    intro v hv
    simp [encU] at hv
    rw [hv]
    rfl
  · have hi : i < bs.length := by have := (List.getElem?_eq_some_iff.1 hx).1; simpa using this
    obtain ⟨b, _, rfl⟩ := List.mem_map.1 (List.mem_of_getElem? hx)
    have hj : j = 0 := by
      have := (List.getElem?_eq_some_iff.1 hv).1
      simp [encU] at this
      exact this
    subst hj
    simp [encU] at hv
    subst hv
    have hf := encU_get hx
    rw [← h7, List.getElem?_take_of_lt (by omega), Array.getElem?_toList] at hf
    simp only [World.cell?, h4, Option.isSome_none, Bool.false_eq_true, if_false, Nat.zero_add, Nat.mul_one, Nat.add_zero]
    exact hf
theorem by_spot (j : Nat) (h : nth ob j = some (byO e A n bs)) : ∀ σ fp w, Mem C σ fp ob w → ∀ a, A = some a → a.spot = none := by
  intro σ fp w hm a ha
  obtain ⟨⟨_, g, _, _, h2, _⟩, _⟩ := nth_by hm h
  rw [h2] at ha
  cases ha
  rfl
theorem OpX_toB {K : SV → List OB → Prop} {o : Oper} {t t' : TypeId} {x : Operand} {s : List UInt8} (ho : o.op = .convert t t' x) (ht : C.P.underlying t = some .string) (ht' : C.P.underlying t' = some (.slice e)) (he : C.P.underlying e = some (.int .u8))
    (hK : ∀ g c, force (ob ++ [byO e (some ⟨g, 0, none⟩) s.length s]) fun ob => K (.v (.slice (some ⟨g, 0, none⟩) s.length c)) ob) (hd : C.d = false := by rfl) : OpX C o [S s] ob K := by
  unfold OpX
  intro σ fp w ρ hm hx
  rw [ho] at hx
  simp [Op.operands, SV.vals, SV.val] at hx
  have hr := Lib.run_convert_string_bytes (P := C.P) w t t' e ⟨s.toArray⟩ ht ht' he
  have hex : (execOp ρ o).run C.P w = .ok (.value (.slice (some ⟨w.heap.size, 0, none⟩) s.length (grownCap w s.length 0 e))) (Lib.bytesWorld w e ⟨s.toArray⟩) := by
    simp [execOp, ho, hx, hr, ByteArray.size]
  rw [hex]
  have hsz := Lib.bytesWorld_size w e ⟨s.toArray⟩
  have hb : Below w.heap.size w (Lib.bytesWorld w e ⟨s.toArray⟩) := by
    have hfr : ∀ (w : World) (a : Addr) (n : Nat), (w.freeze a n).os = w.os ∧ (w.freeze a n).tape = w.tape ∧ (w.freeze a n).output = w.output := fun w a n => by unfold World.freeze; split <;> simp
    exact ⟨(hfr _ _ _).1, (hfr _ _ _).2.1, (hfr _ _ _).2.2, by rw [hsz]; omega, fun i hi => Lib.bytesWorld_at_old w e _ i hi⟩
  have hBy : ByAt (Lib.bytesWorld w e ⟨s.toArray⟩) (fun i => i = w.heap.size) e (some ⟨w.heap.size, 0, none⟩) s.length s := by
    refine ⟨rfl, w.heap.size, _, _, rfl, rfl, Lib.bytesWorld_at_new w e ⟨s.toArray⟩, ?_, ?_, ?_⟩
    · simp [Lib.bytesCells]
    · simp [Lib.bytesCells]
    · rw [encU_flat]
      simp [Lib.bytesCells]
  have hK := hK w.heap.size (grownCap w s.length 0 e)
  rw [force_eq] at hK
  exact ⟨.v (.slice (some ⟨w.heap.size, 0, none⟩) s.length (grownCap w s.length 0 e)), _, _, _, hK, fun j hj => by simp [show j ≠ ob.length by omega], by simp, rfl, trivial, hm.pushO hb (byO e (some ⟨w.heap.size, 0, none⟩) s.length s) 0 (fun i => i = w.heap.size) (byO_mk hBy) (fun i hi => by subst hi; rw [hsz]; omega) (fun h => by rw [hd] at h; cases h), Frm.pushed hb (by simp) fun i hi => by rw [hi]; exact Nat.le_refl _⟩
theorem OpX_by {K : SV → List OB → Prop} {o : Oper} {t : TypeId} {x y : Operand} {i : Int} {te : TI} {b : UInt8} (j : Nat) (hT : TabOk C.P C.T) (ho : o.op = .store t x y) (hj : nth ob j = some (byO e A n bs)) (ht : lookT C.T t = some te) (hz : te.zero.length = 1) (h0 : 0 ≤ i) (h1 : i < n)
    (hK : force (setN ob j (byO e A n (bs.set i.toNat b))) fun ob => K (.v undef) ob) : OpX C o [.v (.pointer (some (elA A i 1))), .v (.int .u8 (b.toNat : Nat))] ob K := by
  unfold OpX
  intro σ fp w ρ hm hx
  obtain ⟨⟨h2, g, cur, fz, rfl, h3, h4, h5, h6, h7⟩, hjl⟩ := nth_by hm hj
  obtain ⟨hid, hti⟩ := hT t te ht
  rw [ho] at hx
  simp [Op.operands, SV.vals, SV.val, elA] at hx
  have hsz := hti.run_size w
  rw [hid, hz] at hsz
  have hfz : w.frozen? ⟨g, i.toNat, none⟩ = false := by
    simp [World.frozen?, h4]
    omega
  have hcell : ∃ u, w.cell? ⟨g, i.toNat, none⟩ = some u := by
    refine ⟨cur[i.toNat]'(by omega), ?_⟩
    simp [World.cell?, h4]
  obtain ⟨u, hu⟩ := hcell
  have hone : (Value.int .u8 (b.toNat : Nat)).oneCell' = true := rfl
  have hst := run_store C.P w ⟨g, i.toNat, none⟩ (.int .u8 (b.toNat : Nat)) .plain hone
  rw [hu] at hst
  simp only [hfz, Bool.false_eq_true, if_false] at hst
  have hsc : (storeCells ⟨g, i.toNat, none⟩ [Value.int .u8 (b.toNat : Nat)] 0).run C.P w = .ok () (w.setCell ⟨g, i.toNat, none⟩ (.int .u8 (b.toNat : Nat))) := by
    have hadd : (⟨g, i.toNat, none⟩ : Addr).add 0 = ⟨g, i.toNat, none⟩ := by simp [Addr.add]
    simp only [storeCells, hadd, Sem.run_bind, hst, Result.andThen_ok, Sem.run_pure]
  obtain ⟨dst, op, ty, pos, after, guard⟩ := o
  simp only at ho
  subst ho
  have hcv : (Value.int .u8 (b.toNat : Nat)).cells = [Value.int .u8 (b.toNat : Nat)].toArray := rfl
  have hex : (execOp ρ ⟨dst, .store t x y, ty, pos, after, guard⟩).run C.P w = .ok .skip (w.setCell ⟨g, i.toNat, none⟩ (.int .u8 (b.toNat : Nat))) := by
    simp only [execOp, Instr.storeAt, hx.1, hx.2, Instr.sureAddr, Sem.run_bind, Sem.run_pure, Result.andThen_ok, storeVar, hsz, hcv, List.size_toArray, List.length_cons, List.length_nil, Nat.zero_add, ne_eq, not_true, if_false]
    simp only [hsc, Result.andThen_ok]
  rw [hex]
  have hheap : (w.setCell ⟨g, i.toNat, none⟩ (.int .u8 (b.toNat : Nat))).heap[g]? = some (.cells (cur.setIfInBounds i.toNat (.int .u8 (b.toNat : Nat))) e fz) := by
    rw [setCell_eq_setRow w g i.toNat cur e fz _ h4]
    exact setRow_heap w g _ _ e _ h4
  have hsame : ∀ q, q < w.heap.size → ¬ fp j q → (w.setCell ⟨g, i.toNat, none⟩ (.int .u8 (b.toNat : Nat))).heap[q]? = w.heap[q]? := fun q _ hnq => Below.heap_setCell w _ _ q fun e => hnq (by rw [e]; exact h3)
  have hss : (w.setCell ⟨g, i.toNat, none⟩ (.int .u8 (b.toNat : Nat))).heap.size = w.heap.size := World.size_setCell _ _ _
  have hBy : ByAt (w.setCell ⟨g, i.toNat, none⟩ (.int .u8 (b.toNat : Nat))) (fp j) e (some ⟨g, 0, none⟩) n (bs.set i.toNat b) := by
    refine ⟨by simpa using h2, g, _, fz, rfl, h3, hheap, h5, by simpa using h6, ?_⟩
    rw [encU_flat] at h7 ⊢
    rw [Array.toList_setIfInBounds, List.take_set, h7, List.map_set]
  have hM := hm.change (w' := w.setCell ⟨g, i.toNat, none⟩ (.int .u8 (b.toNat : Nat))) hjl (byO e (some ⟨g, 0, none⟩) n (bs.set i.toNat b)) (fp j) (byO_mk hBy) (fun i hi => .inl hi) (fun i hi => by rw [hss]; exact hm.hi j hjl i hi) rfl rfl rfl (by rw [hss]; exact Nat.le_refl _) hsame (fun _ => Nat.le_refl _)
  rw [force_eq, setN_eq] at hK
  exact ⟨.v undef, _, σ, _, hK, fun _ _ => rfl, by simp, rfl, trivial, hM, Frm.changed hjl (by simp) (fun i hi => .inl hi) (by rw [hss]; exact Nat.le_refl _) hsame⟩
end
def insP (x y : Int) (p : CellT) : Bool := decide (0 ≤ p.1) && decide (p.1 < x) && decide (0 ≤ p.2) && decide (p.2 < y)
theorem textK_full {x : Int} (hx : 1 ≤ x) (l : List UInt8) : ∀ k : Nat, ((textK x l k).length : Int) = k + k / x
  | 0 => by simp [textK]
  | k + 1 => by
    have ih := textK_full hx l k
    have h1 := Int.emod_add_ediv_mul (k : Int) x
    have h2 := Int.emod_nonneg (k : Int) (show x ≠ 0 by omega)
    have h3 := Int.emod_lt_of_pos (k : Int) (show 0 < x by omega)
    unfold textK
    by_cases e : (k : Int) % x = x - 1
    · have hq : ((k + 1 : Nat) : Int) / x = (k : Int) / x + 1 := by
        rw [show ((k + 1 : Nat) : Int) = ((k : Int) / x + 1) * x by rw [Int.add_mul]; omega]
        exact Int.mul_ediv_cancel _ (by omega)
      rw [if_pos e, hq]
      simp only [List.length_append, List.length_cons, List.length_nil]
      omega
    · have hq : ((k + 1 : Nat) : Int) / x = (k : Int) / x := by
        rw [show ((k + 1 : Nat) : Int) = ((k : Int) % x + 1) + (k : Int) / x * x by omega, Int.add_mul_ediv_right _ _ (by omega), Int.ediv_eq_zero_of_lt (by omega) (by omega)]
        omega
      rw [if_neg e, hq]
      simp only [List.length_append, List.length_cons, List.length_nil]
      omega
theorem textP_len {x y : Int} {l : List UInt8} (h : vP x y l = true) : ((textP x y l).length : Int) = y * (x + 1) := by
  obtain ⟨hx, hy, hm, _⟩ := vP_all h
  rw [szP_iff] at hx hy
  unfold textP
  rw [if_pos h, textK_full hx.1, hm, Int.mul_comm x y, Int.mul_ediv_cancel _ (by omega), Int.mul_add]
  omega
def markL (x y : Int) (bs : List UInt8) (p : CellT) (s : UInt8) : List UInt8 := if insP x y p then bs.set (p.2 * (x + 1) + p.1).toNat s else bs
theorem markL_len (x y : Int) (bs : List UInt8) (p : CellT) (s : UInt8) : (markL x y bs p s).length = bs.length := by
  unfold markL
  split <;> simp
def pictP (x y : Int) (l : List UInt8) (cs : List CellT) (p : CellT) : List UInt8 := if vP x y l then markL x y (cs.foldl (fun bs c => markL x y bs c 42) (textP x y l)) p 64 else []
theorem marks_len (x y : Int) : ∀ (cs : List CellT) (bs : List UInt8), (cs.foldl (fun bs c => markL x y bs c 42) bs).length = bs.length
  | [], _ => rfl
  | c :: cs, bs => by rw [List.foldl_cons, marks_len x y cs, markL_len]
theorem ins_idx {x y : Int} {p : CellT} (hx : szP x = true) (hy : szP y = true) (h : insP x y p = true) : 0 ≤ p.2 * (x + 1) ∧ p.2 * (x + 1) ≤ 4160 ∧ 0 ≤ p.2 * (x + 1) + p.1 ∧ p.2 * (x + 1) + p.1 < y * (x + 1) ∧ 0 ≤ p.1 ∧ p.1 < x ∧ 0 ≤ p.2 ∧ p.2 < y := by
  rw [szP_iff] at hx hy
  simp only [insP, Bool.and_eq_true, decide_eq_true_eq] at h
  have h1 : 0 ≤ p.2 * (x + 1) := Int.mul_nonneg (by omega) (by omega)
  have h2 : p.2 * (x + 1) ≤ (y - 1) * (x + 1) := Int.mul_le_mul_of_nonneg_right (by omega) (by omega)
  have h3 : (y - 1) * (x + 1) = y * (x + 1) - (x + 1) := by rw [Int.sub_mul, Int.one_mul]
  have h4 : y * (x + 1) ≤ 64 * 65 := Int.mul_le_mul hy.2 (by omega) (by omega) (by omega)
  omega
theorem mark_m (x y : Int) (hx : szP x = true) (hy : szP y = true) (A B : Option Addr) (n c m d : Nat) (bs : List UInt8) (hm : (m : Int) = y * (x + 1)) (p : CellT) (s : UInt8) :
    CallM Tryz.prog 51 [.a [I p.1, I p.2], .v (.int .u8 (s.toNat : Nat)), .p 0 0, .p 1 0] (fun _ _ => True) [.box 58 [I x, I y, .v (.slice A n c)], .box 56 [.v (.slice B m d)], byO 5 B m bs]
      (fun _ : Unit => .t []) (fun _ => [.box 58 [I x, I y, .v (.slice A n c)], .box 56 [.v (.slice B m d)], byO 5 B m (markL x y bs p s)]) := by
  have hi := ins_idx (p := p) hx hy
  rw [szP_iff] at hx hy
  unfold markL
  rcases Bool.eq_false_or_eq_true (insP x y p) with h | h
  · have hi := hi h
    rw [h, if_pos rfl]
    refine CallM.of (m := 3) Tryz.func51 rfl tabOk rfl rfl rfl rfl (by simp [SV.wfs, SV.wf]) fun w M π _ => ?_
    (conv=>whnf);repeat' (first|((with_reducible refine isV ?_);first|(refine ValX_index tabOk rfl (ArgSl.by 2 rfl) rfl ?_ ?_ ?_ <;> first | omega | (conv => whnf)))|((with_reducible refine isO ?_);first|(refine OpX_by 2 tabOk rfl rfl rfl rfl ?_ ?_ ?_ <;> first | omega | (conv => whnf)))|((with_reducible refine isW ?_;first|refine xwr_ok (by omega) (by omega) ?_|refine xwr_raw ?_);conv=>whnf)|with_reducible exact rfl|((with_reducible first|refine xif_kt (by assumption) ?_|refine xif_kf (by assumption) ?_);conv=>whnf)|((with_reducible refine xif_s ?_ ?_)<;>(intro hb;(try simp (disch:=omega) only [hbS] at hb)<;>conv=>whnf)))
    all_goals try (exfalso; omega)
    exact Fin_m () [0, 1, 2] ⟨rfl, by simp [SV.wf, SV.wfs]⟩ ⟨⟨rfl, rfl, by simp [SV.wf, SV.wfs]⟩, ⟨rfl, rfl, by simp [SV.wf, SV.wfs]⟩, fun _ _ h => h, trivial⟩ (by decide) rfl
  · rw [h, if_neg (by simp)]
    simp only [insP, Bool.and_eq_false_iff, decide_eq_false_iff_not] at h
    refine CallM.of (m := 3) Tryz.func51 rfl tabOk rfl rfl rfl rfl (by simp [SV.wfs, SV.wf]) fun w M π _ => ?_
    (conv=>whnf);repeat' (first|((with_reducible refine isW ?_;first|refine xwr_ok (by omega) (by omega) ?_|refine xwr_raw ?_);conv=>whnf)|with_reducible exact rfl|((with_reducible first|refine xif_kt (by assumption) ?_|refine xif_kf (by assumption) ?_);conv=>whnf)|((with_reducible refine xif_s ?_ ?_)<;>(intro hb;(try simp (disch:=omega) only [hbS] at hb)<;>conv=>whnf)))
    all_goals try (exfalso; omega)
    all_goals exact Fin_m () [0, 1, 2] ⟨rfl, by simp [SV.wf, SV.wfs]⟩ ⟨⟨rfl, rfl, by simp [SV.wf, SV.wfs]⟩, ⟨rfl, rfl, by simp [SV.wf, SV.wfs]⟩, fun _ _ h => h, trivial⟩ (by decide) rfl
def cz : CellT := (0, 0)
def encCl (p : CellT) : List Value := [.int .i64 p.1, .int .i64 p.2]
theorem foldl_next {α β : Type} (f : β → α → β) (b : β) {l : List α} {k : Nat} (d : α) (hk : k < l.length) : (l.take (k + 1)).foldl f b = f ((l.take k).foldl f b) (l.getD k d) := by
  rw [List.take_succ_eq_append_getElem hk, List.foldl_append]
  simp [hk]
set_option maxHeartbeats 4000000 in
theorem Picture_w (x y : Int) (A : Option Addr) (c : Nat) (l : List UInt8) {n : Nat} (hl : l.length = n) (hn : n ≤ maxLen) (A2 : Option Addr) (c2 : Nat) (cs : List CellT) {m : Nat} (hm : cs.length = m) (hm2 : m ≤ maxLen) (p : CellT) :
    CallW Tryz.prog 23 [plX3 x y A n c, .v (.slice A2 m c2), .a [I p.1, I p.2]] (fun w => ArgSl w A n 1 (l.map encU) ∧ ArgSl w A2 m 2 (cs.map encCl)) (S (pictP x y l cs p)) := by
  unfold maxLen at hm2
  have kt := pText_w x y A c l hl hn
  unfold pictP
  rcases Bool.eq_false_or_eq_true (vP x y l) with hv | hv
  rotate_left
  · have e : textP x y l = [] := by unfold textP; rw [hv]; rfl
    rw [e] at kt
    rw [hv]
    refine CallW.of Tryz.func23 rfl tabOk rfl rfl rfl (by simp [SV.wfs, SV.wf]) (by simp [SV.wfs, SV.wf]) fun w hpre => ?_
    (conv=>whnf);repeat' (first|((with_reducible refine isC ?_);first|(((with_reducible refine isF 50 ?_;refine CallX_w (kt) ?_ ?_);(focus exact hpre.1.mem (by decide) rfl));conv=>whnf))|((with_reducible refine isO ?_);first|(refine OpX_toB (s := []) rfl Tryz.underlying9 Tryz.underlying56 Tryz.underlying5 ?_; intro g c3; conv => whnf))|((with_reducible refine isW ?_;first|refine xwr_ok (by omega) (by omega) ?_|refine xwr_raw ?_);conv=>whnf)|((with_reducible refine isK ?_;first|refine xcv_i64 (by omega) (by omega) ?_|refine xcv_u64 (by omega) (by omega) ?_|refine xcv_u8 (by omega) (by omega) ?_|refine xcv_raw ?_);conv=>whnf)|with_reducible exact rfl|((with_reducible first|refine xif_kt (by assumption) ?_|refine xif_kf (by assumption) ?_);conv=>whnf)|((with_reducible refine xif_s ?_ ?_)<;>(intro hb;(try simp (disch:=omega) only [hbS] at hb)<;>conv=>whnf)))
    exact Fin_pure rfl rfl trivial
  · have hlen := textP_len hv
    obtain ⟨hx, hy, hmm, hall⟩ := vP_all hv
    have hpos := mul_bdP hy (show szP 64 = true by decide)
    have hxx := szP_iff.1 hx
    have hyy := szP_iff.1 hy
    have hnz : 1 * 2 ≤ y * (x + 1) := Int.mul_le_mul hyy.1 (by omega) (by omega) (by omega)
    rw [hv, if_pos rfl]
    generalize textP x y l = T at *
    refine CallW.of Tryz.func23 rfl tabOk rfl rfl rfl (by simp [SV.wfs, SV.wf]) (by simp [SV.wfs, SV.wf]) fun w hpre => ?_
    obtain ⟨hpre, hpre2⟩ := hpre
    (conv=>whnf);repeat' (first|((with_reducible refine isC ?_);first|(((with_reducible refine isF 50 ?_;refine CallX_w (kt) ?_ ?_);(focus exact hpre.mem (by decide) rfl));conv=>whnf))|((with_reducible refine isO ?_);first|(refine OpX_toB (s := T) rfl Tryz.underlying9 Tryz.underlying56 Tryz.underlying5 ?_; intro g c3; conv => whnf))|((with_reducible refine isW ?_;first|refine xwr_ok (by omega) (by omega) ?_|refine xwr_raw ?_);conv=>whnf)|((with_reducible refine isK ?_;first|refine xcv_i64 (by omega) (by omega) ?_|refine xcv_u64 (by omega) (by omega) ?_|refine xcv_u8 (by omega) (by omega) ?_|refine xcv_raw ?_);conv=>whnf)|with_reducible exact rfl|((with_reducible first|refine xif_kt (by assumption) ?_|refine xif_kf (by assumption) ?_);conv=>whnf)|((with_reducible refine xif_s ?_ ?_)<;>(intro hb;(try simp (disch:=omega) only [hbS] at hb)<;>conv=>whnf)))
    all_goals try (exfalso; omega)
    refine LoopX_inv tabOk (α := Nat) (fun k => k ≤ m) (fun k => [(5, .p 1 0), (7, .p 3 0), (8, .fn 51 [.p 0 0, .p 3 0]), (18, .v (.slice A2 m c2)), (19, I m), (20, I k)])
      (fun k => [.box 58 [I x, I y, .v (.slice A n c)], .box 25 [I p.1, I p.2], byO 5 (some ⟨g, 0, none⟩) T.length ((cs.take k).foldl (fun bs c => markL x y bs c 42) T), .box 56 [.v (.slice (some ⟨g, 0, none⟩) T.length c3)]]) (fun k => m - k) 0 [0, 1, 2, 3] (Nat.zero_le _) ?_ ?_
    · ((refine ⟨?_, ?_, ?_, ?_⟩) <;> (repeat' ((conv => whnf); apply And.intro)) <;> (try (first | exact trivial | decide)))
      all_goals first | rfl | exact fun _ _ h => h | (simp [SV.wf, SV.wfs]; done) | trace_state
    · intro k hk
      by_cases hlt : k < m
      · have hnx := foldl_next (fun bs c => markL x y bs c 42) T cz (show k < cs.length by omega)
        have km := mark_m x y hx hy A (some ⟨g, 0, none⟩) n c T.length c3 ((cs.take k).foldl (fun bs c => markL x y bs c 42) T) hlen (cs.getD k cz) 42
        generalize (cs.take k).foldl (fun bs c => markL x y bs c 42) T = X at *
        (conv=>whnf);repeat' (first|((with_reducible refine isC ?_);first|(((with_reducible refine isF 51 ?_;refine CallX_m (km) [0, 3, 2] ?_ ?_ ?_ ?_ ?_);(focus exact rfl);(focus exact ⟨⟨rfl, rfl, by simp [SV.wf, SV.wfs]⟩, ⟨rfl, rfl, by simp [SV.wf, SV.wfs]⟩, fun _ _ h => h, trivial⟩);(focus decide);(focus exact (fun _ _ _ _ => trivial));intro q);conv=>whnf))|((with_reducible refine isV ?_);first|((first|refine ValX_index tabOk rfl (hpre2.mem (by decide) rfl) rfl ?_ ?_ ?_|(with_reducible refine nat_idx ?_);refine ValX_loadEn _ _ (cz) tabOk rfl rfl rfl rfl (hpre2.mem (by decide) rfl) ?_ ?_ ?_|refine ValX_loadE _ _ (cz) tabOk rfl rfl rfl rfl (hpre2.mem (by decide) rfl) ?_ ?_ ?_)<;>first|rfl|omega|with_reducible refine isP ?_|conv=>whnf))|((with_reducible refine isW ?_;first|refine xwr_ok (by omega) (by omega) ?_|refine xwr_raw ?_);conv=>whnf)|((with_reducible refine isK ?_;first|refine xcv_i64 (by omega) (by omega) ?_|refine xcv_u64 (by omega) (by omega) ?_|refine xcv_u8 (by omega) (by omega) ?_|refine xcv_raw ?_);conv=>whnf)|with_reducible exact rfl|((with_reducible first|refine xif_kt (by assumption) ?_|refine xif_kf (by assumption) ?_);conv=>whnf)|((with_reducible refine xif_s ?_ ?_)<;>(intro hb;(try simp (disch:=omega) only [hbS] at hb)<;>conv=>whnf)))
        all_goals try (exfalso; omega)
        refine ⟨k + 1, [0, 1, 2, 3], by (try dsimp only); omega, ?_, by (try dsimp only); omega⟩
        dsimp only
        rw [hnx]
        ((refine ⟨?_, ?_, ?_, ?_⟩) <;> (repeat' ((conv => whnf); apply And.intro)) <;> (try (first | exact trivial | decide)))
        all_goals first | rfl | exact fun _ _ h => h | (simp [SV.wf, SV.wfs]; done) | trace_state
      · obtain rfl : k = m := by omega
        rw [List.take_of_length_le (by omega)]
        have km := mark_m x y hx hy A (some ⟨g, 0, none⟩) n c T.length c3 (cs.foldl (fun bs c => markL x y bs c 42) T) hlen p 64
        have hml : (markL x y (cs.foldl (fun bs c => markL x y bs c 42) T) p 64).length = T.length := by rw [markL_len, marks_len]
        generalize cs.foldl (fun bs c => markL x y bs c 42) T = X at *
        (conv=>whnf);repeat' (first|((with_reducible refine isC ?_);first|(((with_reducible refine isF 51 ?_;refine CallX_m (km) [0, 3, 2] ?_ ?_ ?_ ?_ ?_);(focus exact rfl);(focus exact ⟨⟨rfl, rfl, by simp [SV.wf, SV.wfs]⟩, ⟨rfl, rfl, by simp [SV.wf, SV.wfs]⟩, fun _ _ h => h, trivial⟩);(focus decide);(focus exact (fun _ _ _ _ => trivial));intro q);conv=>whnf))|((with_reducible refine isV ?_);first|(refine ValX_toS (markL x y X p 64) rfl Tryz.underlying56 Tryz.underlying5 Tryz.underlying9 hml (ArgSl.by 2 rfl) (by_spot 2 rfl) ?_; conv => whnf))|((with_reducible refine isW ?_;first|refine xwr_ok (by omega) (by omega) ?_|refine xwr_raw ?_);conv=>whnf)|((with_reducible refine isK ?_;first|refine xcv_i64 (by omega) (by omega) ?_|refine xcv_u64 (by omega) (by omega) ?_|refine xcv_u8 (by omega) (by omega) ?_|refine xcv_raw ?_);conv=>whnf)|with_reducible exact rfl|((with_reducible first|refine xif_kt (by assumption) ?_|refine xif_kf (by assumption) ?_);conv=>whnf)|((with_reducible refine xif_s ?_ ?_)<;>(intro hb;(try simp (disch:=omega) only [hbS] at hb)<;>conv=>whnf)))
        all_goals try (exfalso; omega)
        exact Fin_pure rfl rfl trivial
theorem pict_awake : pictP 2 1 [1, 1] [] (1, 0) = [46, 64, 10] := by decide +kernel
def e45 : List EntT := [(0, 0, 3, 1), (-1, 2, -1, 0)]
theorem vE45 : vE e45 = true := by decide +kernel
theorem export_awake : exportS e45 = [48, 32, 48, 32, 51, 32, 49, 10, 45, 49, 32, 50, 32, 45, 49, 32, 48, 10] := by decide +kernel
set_option maxHeartbeats 4000000 in
theorem awake45_x : CallW Tryz.prog 7 [] p10W (B true) := by
  refine CallW.of Tryz.func7 rfl tabOk rfl rfl rfl (by simp [SV.wfs, SV.wf]) (by simp [SV.wfs, SV.wf]) fun w hpre => ?_
  have htm := fun {ob : List OB} => p10W.mem (C := ⟨Tryz.prog, tab, Tryz.f7.ntmps, w, fun _ => False, 0, id, false⟩) (ob := ob) hpre rfl
  have hp := pict_awake
  have hx := export_awake
  (conv=>whnf);repeat' (first|((with_reducible refine isC ?_);first|((first|(with_reducible refine isF 22 ?_);((refine CallX_w (Export_w (some ⟨bN, 0, none⟩) 2 e45 rfl (by decide)) (fun σ fp w hm => ⟨ArgSl.row 0 rfl σ fp w hm, htm σ fp w hm⟩) ?_; rw [vE45, if_pos rfl, hx]))|(with_reducible refine isF 23 ?_);((refine CallX_w (Picture_w 2 1 (some ⟨bN, 0, none⟩) 2 [1, 1] rfl (by decide) none 0 [] rfl (by decide) (1, 0)) (fun σ fp w hm => ⟨ArgSl.row 1 rfl σ fp w hm, ⟨rfl, by simp, by simp, fun h => (h rfl).elim⟩⟩) ?_; rw [hp])));conv=>whnf))|((with_reducible refine isV ?_);first|(refine ValX_sEq (r := true) rfl Tryz.underlying9 (by decide) ?_; conv => whnf))|((with_reducible refine isO ?_);first|((first|(refine OpX_build0 tabOk rfl rfl rfl ?_);intro bN|(refine OpX_build tabOk rfl rfl rfl rfl rfl ?_);intro bN);conv=>whnf))|with_reducible exact rfl|((with_reducible first|refine xif_kt (by assumption) ?_|refine xif_kf (by assumption) ?_);conv=>whnf)|((with_reducible refine xif_s ?_ ?_)<;>(intro hb;(try simp (disch:=omega) only [hbS] at hb)<;>conv=>whnf)))
  exact Fin_pure rfl rfl trivial
end Go.Proofs.YtadichckbogcjaaGreatDoor.En
end
section
namespace Go.Proofs.YtadichckbogcjaaGreatDoor.En
open Go.RowKit
set_option maxRecDepth 100000
theorem wBi (bs : List BmsT) : ∀ n : Nat, wG (wtBi bs) (rngI n) = ((bs.take n).map List.length).sum * 4000
  | 0 => by simp [wG, rngI]
  | n + 1 => by
    have ih := wBi bs n
    unfold wG rngI at *
    rw [List.range_succ, List.map_append, List.map_append, List.sum_append, ih]
    by_cases h : n < bs.length
    · rw [List.take_succ_eq_append_getElem h, List.map_append, List.sum_append, Nat.add_mul]
      simp [wtBi, h]
    · rw [List.take_of_length_le (show bs.length ≤ n by omega), List.take_of_length_le (show bs.length ≤ n + 1 by omega)]
      simp [wtBi, show bs.length ≤ n by omega]
theorem short_each : ∀ ss : List SlT, 0 ≤ (ss.map lenS).sum ∧ ((ss.map lenS).sum ≤ 80 → (((bmsOf ss).map List.length).sum : Int) ≤ (ss.map lenS).sum ∧ ∀ s ∈ bmsOf ss, s.length ≤ 1000)
  | [] => by simp
  | s :: ss => by
    obtain ⟨h1, h2⟩ := short_each ss
    have h0 : lenS s = min (s.2.2.length : Int) 1000 := rfl
    simp only [List.map_cons, List.sum_cons, List.mem_cons, bmsOf] at *
    refine ⟨by omega, fun h => ?_⟩
    obtain ⟨h3, h4⟩ := h2 (by omega)
    refine ⟨by omega, ?_⟩
    rintro x (rfl | hx)
    · omega
    · exact h4 x hx
theorem short_bds {ss : List SlT} (h : shortB ss = true) : ss.length ≤ 70 ∧ (∀ s ∈ bmsOf ss, s.length ≤ 1000) ∧ ∀ n, wG (wtBi (bmsOf ss)) (rngI n) ≤ 1048576 := by
  unfold shortB at h
  simp only [Bool.and_eq_true, decide_eq_true_eq] at h
  obtain ⟨h1, h2⟩ := h
  rw [List.take_of_length_le (by omega)] at h2
  obtain ⟨_, h3⟩ := short_each ss
  obtain ⟨h4, h5⟩ := h3 h2
  refine ⟨h1, h5, fun n => ?_⟩
  rw [wBi]
  have : (((bmsOf ss).take n).map List.length).sum ≤ ((bmsOf ss).map List.length).sum := by
    conv => rhs; rw [← List.take_append_drop n (bmsOf ss), List.map_append, List.sum_append]
    omega
  omega
theorem oc_zero (ps : List PoseT) (ss : List BmsT) (x : CellT) : ocB ps ss x 0 = false := by
  have h : sumB2 ps ss x 0 = (0, 0) := rfl
  unfold ocB
  rw [h]
  unfold valueF
  simp
theorem bisR_first (ps : List PoseT) (ss : List BmsT) (x : CellT) :
    (∃ e, bisR ps ss x = (0, 0, e) ∧ (e = 1 ∨ e = 7)) ∨ ∃ r t : Nat, bisR ps ss x = ((r : Int), (t : Int), 0) ∧ ps.length = ss.length ∧ 1 ≤ r ∧ r ≤ ss.length ∧ t ≤ 6 ∧ ocB ps ss x r = true ∧ (r = 1 ∨ ocB ps ss x (r - 1) = false) := by
  unfold bisR
  split
  · exact .inl ⟨1, rfl, .inl rfl⟩
  · split
    · exact .inl ⟨1, rfl, .inl rfl⟩
    · split
      · rename_i h1 _ ho
        have hpos : 0 < ss.length := by
          rcases Nat.eq_zero_or_pos ss.length with h | h
          · rw [h, oc_zero] at ho
            cases ho
          · exact h
        obtain ⟨a, b, c, d⟩ := bisG_ok (ocB ps ss x) ss.length 0 ss.length 0 (by omega) hpos ho (.inl rfl)
        have ht := bisG_turns (ocB ps ss x) ss.length 0 ss.length 0 6 (by omega)
        exact .inr ⟨_, _, rfl, by omega, b, c, by omega, a, d⟩
      · exact .inl ⟨7, rfl, .inr rfl⟩
theorem scsN_of {w : World} {A : Option Addr} {n : Nat} {ss : List SlT} (h : scsW w A n ss) (fp : Nat → Nat → Prop) : scsN w (MOf 0 fp) A n ss :=
  ⟨ArgN.of0 h.1 fp, fun s hs => ⟨ArgN.of0 (h.2 s hs).1 fp, (h.2 s hs).2⟩⟩
theorem scsW.mem {C : Ctx} {ob : List OB} {A : Option Addr} {n : Nat} {ss : List SlT} (h : scsW C.w0 A n ss) (hM : C.M = fun _ => False) : ∀ σ fp w, Mem C σ fp ob w → scsW w A n ss := by
  intro σ fp w hm
  exact ⟨h.1.mem (by decide) hM σ fp w hm, fun s hs => ⟨(h.2 s hs).1.mem (by decide) hM σ fp w hm, (h.2 s hs).2⟩⟩
set_option maxHeartbeats 4000000 in
theorem first_x (A : Option Addr) (c : Nat) (ps : List PoseT) (A2 : Option Addr) (c2 : Nat) (ss : List SlT) {n m : Nat} (hl : ps.length = n) (hl2 : ss.length = m) (hn : n ≤ maxLen) (hm : m ≤ maxLen) (x : CellT) :
    CallW Tryz.prog 4 [.v (.slice A n c), .v (.slice A2 m c2), .a [I x.1, I x.2]] (fun w => p10W w ∧ ArgSl w A n 3 (ps.map encPs) ∧ scsW w A2 m ss) (B true) := by
  have ks := short_w A2 c2 ss hl2 hm
  have hsb := short_bds (ss := ss)
  have k1 := fun h => Bisect_m A c ps A2 c2 ss hl hl2 hn hm x h
  have kt := fun (e : ss.length = n) => totalL_m A c ps A2 c2 ss hl e hn
  have htl := totB_len ps (bmsOf ss)
  have kA := fun (B : Option Addr) (d k : Nat) => rAt_w B d (totB ps (bmsOf ss) k) x rfl (by have := htl k; unfold maxLen; omega)
  have hfi := bisR_first ps (bmsOf ss) x
  have hbl : (bmsOf ss).length = m := by simp [bmsOf, hl2]
  have hoc : ∀ k, k ≤ n → (∀ n, wG (wtBi (bmsOf ss)) (rngI n) ≤ 1048576) → decide (128 ≤ valueF (atE (totB ps (bmsOf ss) k) x)) = ocB ps (bmsOf ss) x k := fun k hk hw => by rw [at_tot (hw n) hk]; rfl
  rw [hl, hbl] at hfi
  unfold maxLen at hn hm
  generalize shortB ss = sb at *
  generalize bisR ps (bmsOf ss) x = R at *
  generalize ocB ps (bmsOf ss) x = oc at *
  refine CallW.of Tryz.func4 rfl tabOk rfl rfl rfl (by simp [SV.wfs, SV.wf]) (by simp [SV.wfs, SV.wf]) fun w hpre => ?_
  obtain ⟨hp, hps, hss⟩ := hpre
  have htm := fun {ob : List OB} => p10W.mem (C := ⟨Tryz.prog, tab, Tryz.f4.ntmps, w, fun _ => False, 0, id, false⟩) (ob := ob) hp rfl
  have hpm := fun {ob : List OB} => hps.mem (C := ⟨Tryz.prog, tab, Tryz.f4.ntmps, w, fun _ => False, 0, id, false⟩) (ob := ob) (by decide) rfl
  have hsm := fun {ob : List OB} => scsW.mem (C := ⟨Tryz.prog, tab, Tryz.f4.ntmps, w, fun _ => False, 0, id, false⟩) (ob := ob) hss rfl
  cases sb with
  | false =>
    clear k1 kt kA hsb hfi hoc htl
    (conv=>whnf);repeat' (first|((with_reducible refine isC ?_);first|((first|(with_reducible refine isF 7 ?_;refine CallX_w (awake45_x) ?_ ?_);(focus exact htm)|(with_reducible refine isF 8 ?_;refine CallX_w (ks) ?_ ?_);(focus exact fun σ fp w hm => ⟨(hsm σ fp w hm).1, fun o ho => ((hsm σ fp w hm).2 o ho).2⟩));conv=>whnf))|((with_reducible refine isW ?_;first|refine xwr_ok (by omega) (by omega) ?_|refine xwr_raw ?_);conv=>whnf)|((first|refine DrawX_s tabOk folOk ?_|refine DrawS_i (by kernel_rfl) ?_|with_reducible refine andX_i ?_ ?_)<;>conv=>whnf)|with_reducible exact rfl|((with_reducible first|refine xif_kt (by assumption) ?_|refine xif_kf (by assumption) ?_);conv=>whnf)|((with_reducible refine xif_s ?_ ?_)<;>(intro hb;(try simp (disch:=omega) only [hbS] at hb)<;>conv=>whnf)))
    all_goals try (exfalso; omega)
    all_goals exact Fin_pure rfl rfl trivial
  | true =>
    obtain ⟨_, hs1, hs2⟩ := hsb rfl
    replace k1 := k1 hs1
    replace hoc := fun k hk => hoc k hk hs2
    clear hsb hs1 hs2
    rcases hfi with ⟨e, he, he2⟩ | ⟨r, t, hR, hnm, hr1, hr2, ht, ho1, ho2⟩
    · rw [he] at k1
      dsimp only at k1
      clear he kt kA hoc htl
      rcases he2 with rfl | rfl
      all_goals
        (conv=>whnf);repeat' (first|((with_reducible refine isC ?_);first|((first|(with_reducible refine isF 7 ?_;refine CallX_w (awake45_x) ?_ ?_);(focus exact htm)|(with_reducible refine isF 8 ?_;refine CallX_w (ks) ?_ ?_);(focus exact fun σ fp w hm => ⟨(hsm σ fp w hm).1, fun o ho => ((hsm σ fp w hm).2 o ho).2⟩)|(with_reducible refine isF 9 ?_);((refine CallX_m k1 [] rfl trivial (by decide) (fun σ fp w hm => ⟨ArgN.of0 (hpm σ fp w hm) _, scsN_of (hsm σ fp w hm) _⟩) ?_; intro q1)));conv=>whnf))|((with_reducible refine isW ?_;first|refine xwr_ok (by omega) (by omega) ?_|refine xwr_raw ?_);conv=>whnf)|((first|refine DrawX_s tabOk folOk ?_|refine DrawS_i (by kernel_rfl) ?_|with_reducible refine andX_i ?_ ?_)<;>conv=>whnf)|with_reducible exact rfl|((with_reducible first|refine xif_kt (by assumption) ?_|refine xif_kf (by assumption) ?_);conv=>whnf)|((with_reducible refine xif_s ?_ ?_)<;>(intro hb;(try simp (disch:=omega) only [hbS] at hb)<;>conv=>whnf)))
        all_goals try (exfalso; omega)
        all_goals exact Fin_pure rfl rfl trivial
    · subst hnm
      rw [hR] at k1
      dsimp only at k1
      clear hR
      have kt1 := kt (by omega) r (by omega)
      have kA1 := fun B d => kA B d r
      have ko1 := rOccupied_x (atE (totB ps (bmsOf ss) r) x)
      rw [hoc r (by omega), ho1] at ko1
      have hlen1 := htl r
      have kt2 := kt (by omega) (r - 1) (by omega)
      have kA2 := fun B d => kA B d (r - 1)
      have ko2 := rOccupied_x (atE (totB ps (bmsOf ss) (r - 1)) x)
      rw [hoc (r - 1) (by omega)] at ko2
      have hrc : ((r : Int) - 1) = ((r - 1 : Nat) : Int) := by omega
      clear kt kA hoc htl ho1
      generalize totB ps (bmsOf ss) r = T1 at *
      generalize totB ps (bmsOf ss) (r - 1) = T2 at *
      generalize atE T1 x = a1 at *
      generalize atE T2 x = a2 at *
      by_cases hone : r = 1
      · subst hone
        clear kt2 kA2 ko2 ho2
        (conv=>whnf);repeat' (first|((with_reducible refine isC ?_);first|((first|(with_reducible refine isF 7 ?_;refine CallX_w (awake45_x) ?_ ?_);(focus exact htm)|(with_reducible refine isF 8 ?_;refine CallX_w (ks) ?_ ?_);(focus exact fun σ fp w hm => ⟨(hsm σ fp w hm).1, fun o ho => ((hsm σ fp w hm).2 o ho).2⟩)|(with_reducible refine isF 9 ?_);((refine CallX_m k1 [] rfl trivial (by decide) (fun σ fp w hm => ⟨ArgN.of0 (hpm σ fp w hm) _, scsN_of (hsm σ fp w hm) _⟩) ?_; intro q1))|(with_reducible refine isF 13 ?_);((refine CallX_m kt1 [] rfl trivial (by decide) (fun σ fp w hm => ⟨ArgN.of0 (hpm σ fp w hm) _, scsN_of (hsm σ fp w hm) _⟩) ?_; intro q2; obtain ⟨A3, c3⟩ := q2; dsimp only))|(with_reducible refine isF 12 ?_);((refine CallX_w (kA1 A3 c3) (ArgSl.row 1 rfl) ?_)));conv=>whnf)|((with_reducible refine CallX_pure (ko1) ?_)<;>first|omega|with_reducible refine isP ?_|conv=>whnf))|((with_reducible refine isW ?_;first|refine xwr_ok (by omega) (by omega) ?_|refine xwr_raw ?_);conv=>whnf)|((first|refine DrawX_s tabOk folOk ?_|refine DrawS_i (by kernel_rfl) ?_|with_reducible refine andX_i ?_ ?_)<;>conv=>whnf)|with_reducible exact rfl|((with_reducible first|refine xif_kt (by assumption) ?_|refine xif_kf (by assumption) ?_);conv=>whnf)|((with_reducible refine xif_s ?_ ?_)<;>(intro hb;(try simp (disch:=omega) only [hbS] at hb)<;>conv=>whnf)))
        all_goals try (exfalso; omega)
        all_goals first
          | exact Fin_pure rfl rfl trivial
          | (exfalso; simp at hb; done)
          | (refine Fin_pure rfl ?_ trivial; simp; done)
          | trace_state
      · rw [ho2.resolve_left hone] at ko2
        (conv=>whnf);repeat' (first|((with_reducible refine isC ?_);first|((first|(with_reducible refine isF 7 ?_;refine CallX_w (awake45_x) ?_ ?_);(focus exact htm)|(with_reducible refine isF 8 ?_;refine CallX_w (ks) ?_ ?_);(focus exact fun σ fp w hm => ⟨(hsm σ fp w hm).1, fun o ho => ((hsm σ fp w hm).2 o ho).2⟩)|(with_reducible refine isF 9 ?_);((refine CallX_m k1 [] rfl trivial (by decide) (fun σ fp w hm => ⟨ArgN.of0 (hpm σ fp w hm) _, scsN_of (hsm σ fp w hm) _⟩) ?_; intro q1))|(with_reducible refine isF 13 ?_;refine CallX_m (kt1) [] ?_ ?_ ?_ ?_ ?_);(focus exact rfl);(focus exact trivial);(focus decide);(focus exact (fun σ fp w hm => ⟨ArgN.of0 (hpm σ fp w hm) _, scsN_of (hsm σ fp w hm) _⟩));intro q2; obtain ⟨A3, c3⟩ := q2; dsimp only|(with_reducible refine isF 12 ?_;refine CallX_w (kA1 _ _) ?_ ?_);(focus exact ArgSl.row 1 rfl));conv=>whnf)|((with_reducible refine CallX_pure (ko1) ?_)<;>first|omega|with_reducible refine isP ?_|conv=>whnf))|((with_reducible refine isW ?_;first|refine xwr_ok (by omega) (by omega) ?_|refine xwr_raw ?_);conv=>whnf)|((first|refine DrawX_s tabOk folOk ?_|refine DrawS_i (by kernel_rfl) ?_|with_reducible refine andX_i ?_ ?_)<;>conv=>whnf)|with_reducible exact rfl|((with_reducible first|refine xif_kt (by assumption) ?_|refine xif_kf (by assumption) ?_);conv=>whnf)|((with_reducible refine xif_s ?_ ?_)<;>(intro hb;(try simp (disch:=omega) only [hbS] at hb)<;>conv=>whnf)))
        all_goals try (exfalso; omega)
        all_goals try (exact Fin_pure rfl rfl trivial)
        all_goals try (exfalso; simp at hb; done)
        rw [hrc]
        refine CallX_m kt2 [] rfl trivial (by decide) (fun σ fp w hm => ⟨ArgN.of0 (hpm σ fp w hm) _, scsN_of (hsm σ fp w hm) _⟩) ?_
        intro q2
        obtain ⟨A4, c4⟩ := q2
        dsimp only
        (conv=>whnf);repeat' (first|((with_reducible refine isC ?_);first|(((with_reducible refine isF 12 ?_;refine CallX_w (kA2 _ _) ?_ ?_);(focus exact ArgSl.row 2 rfl));conv=>whnf)|((with_reducible refine CallX_pure (ko2) ?_)<;>first|omega|with_reducible refine isP ?_|conv=>whnf))|((with_reducible refine isW ?_;first|refine xwr_ok (by omega) (by omega) ?_|refine xwr_raw ?_);conv=>whnf)|((first|refine DrawX_s tabOk folOk ?_|refine DrawS_i (by kernel_rfl) ?_|with_reducible refine andX_i ?_ ?_)<;>conv=>whnf)|with_reducible exact rfl|((with_reducible first|refine xif_kt (by assumption) ?_|refine xif_kf (by assumption) ?_);conv=>whnf)|((with_reducible refine xif_s ?_ ?_)<;>(intro hb;(try simp (disch:=omega) only [hbS] at hb)<;>conv=>whnf)))
        all_goals first
          | exact Fin_pure rfl rfl trivial
          | (exfalso; simp at hb; done)
          | (refine Fin_pure rfl ?_ trivial; simp; done)
          | trace_state
theorem first_walk (A : Option Addr) (n c : Nat) (V : Nat → Nat → Int) (A2 : Option Addr) (n2 c2 : Nat) (l2 : List SlT) (X Y : Int) (w : World) (hp : p10W w) (h0 : SlO w A n 3 V) (g : n ≤ c) (k : c ≤ maxLen) (h2 : l2.length = n2) (o2 : scsW w A2 n2 l2) (g2 : n2 ≤ c2) (k2 : c2 ≤ maxLen) :
    Calls Tryz.prog 4 #[.slice A n c, .slice A2 n2 c2, .agg #[.int .i64 X, .int .i64 Y]] w fun e w' => e = .returned (.bool true) ∧ Below w.heap.size w w' := by
  have a0 := ArgSl.of_SlO encPs (fun i => (V i 0, V i 1, V i 2)) h0 (by decide) (fun i => rfl)
  generalize e0 : (List.range n).map (fun i => (V i 0, V i 1, V i 2)) = xs at a0
  obtain rfl : xs.length = n := by rw [← e0]; simp
  exact (first_x A c xs A2 c2 l2 rfl h2 (by omega) (by omega) (X, Y)).2.2 (fun _ => 0) w ⟨hp, a0, o2⟩
end Go.Proofs.YtadichckbogcjaaGreatDoor.En
end
