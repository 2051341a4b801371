/- A row of bytes that a conversion made; the reference's Text; both Pictures. -/
import Derived.Test.YtadichckbogcjaaDoorXp
set_option linter.all false
namespace Go.Proofs.YtadichckbogcjaaDoor.En
open Go.RowKit
set_option maxRecDepth 100000

/-! ### a row of bytes that a conversion made: behind its bytes it bears a mark -/
structure ByAt (w : World) (F : Nat → Prop) (e : TypeId) (A : Option Addr) (n : Nat) (bs : List UInt8) : Prop where
  len : bs.length = n
  at_ : ∃ g cur fz, A = some ⟨g, 0, none⟩ ∧ F g ∧ w.heap[g]? = some (.cells cur e fz) ∧ n ≤ fz.1 ∧ n ≤ cur.size ∧ cur.toList.take n = (bs.map encU).flatten
theorem ByAt.ext {w w' : World} {F : Nat → Prop} {e : TypeId} {A : Option Addr} {n : Nat} {bs : List UInt8} (h : ByAt w F e A n bs) (hw : ∀ i, F i → w'.heap[i]? = w.heap[i]?) : ByAt w' F e A n bs := by
  obtain ⟨h1, g, cur, fz, h2, h3, h4, h5⟩ := h
  exact ⟨h1, g, cur, fz, h2, h3, (hw g h3).trans h4, h5⟩
def byO (e : TypeId) (A : Option Addr) (n : Nat) (bs : List UInt8) : OB := .res fun w F => ByAt w F e A n bs
theorem byO_mk {w : World} {F : Nat → Prop} {e : TypeId} {A : Option Addr} {n : Nat} {bs : List UInt8} (h : ByAt w F e A n bs) {σ : Nat → Nat} {m q : Nat} : (byO e A n bs).at σ m w q F := ⟨h, fun _ hw => h.ext hw⟩
section
variable {C : Ctx} {ob : List OB} {e : TypeId} {A : Option Addr} {n : Nat} {bs : List UInt8}
theorem nth_by {σ : Nat → Nat} {fp : Nat → Nat → Prop} {w : World} {j : Nat} (hm : Mem C σ fp ob w) (h : nth ob j = some (byO e A n bs)) : ByAt w (fp j) e A n bs ∧ j < ob.length := by
  rw [nth_eq] at h
  have := hm.at_ j _ h
  exact ⟨this.1, (List.getElem?_eq_some_iff.1 h).1⟩
theorem encU_get {bs : List UInt8} {i : Nat} {v : Value} (h : (bs.map encU)[i]? = some [v]) : (bs.map encU).flatten[i]? = some v := by
  rw [encU_flat]
  rw [List.getElem?_map] at h ⊢
  cases hb : bs[i]? with
  | none => rw [hb] at h; cases h
  | some b =>
    rw [hb] at h
    simp only [Option.map_some, Option.some.injEq, encU, List.cons.injEq, and_true] at h ⊢
    exact h
theorem ArgSl.by (j : Nat) (h : nth ob j = some (byO e A n bs)) : ∀ σ fp w, Mem C σ fp ob w → ArgSl w A n 1 (bs.map encU) := by
  intro σ fp w hm
  obtain ⟨⟨h1, g, cur, fz, h2, h3, h4, h5, h6, h7⟩, _⟩ := nth_by hm h
  refine ⟨by simpa using h1, fun x hx => ?_, fun x hx => ?_, fun _ => ⟨g, 0, h2, fun i x hx j v hv => ?_⟩⟩
  · obtain ⟨b, _, rfl⟩ := List.mem_map.1 hx
    rfl
  · obtain ⟨b, _, rfl⟩ := List.mem_map.1 hx
    intro v hv
    simp [encU] at hv
    rw [hv]
    rfl
  · have hi : i < bs.length := by have := (List.getElem?_eq_some_iff.1 hx).1; simpa using this
    obtain ⟨b, _, rfl⟩ := List.mem_map.1 (List.mem_of_getElem? hx)
    have hj : j = 0 := by
      have := (List.getElem?_eq_some_iff.1 hv).1
      simp [encU] at this
      exact this
    subst hj
    simp [encU] at hv
    subst hv
    have hf := encU_get hx
    rw [← h7, List.getElem?_take_of_lt (by omega), Array.getElem?_toList] at hf
    simp only [World.cell?, h4, Option.isSome_none, Bool.false_eq_true, if_false, Nat.zero_add, Nat.mul_one, Nat.add_zero]
    exact hf
theorem by_spot (j : Nat) (h : nth ob j = some (byO e A n bs)) : ∀ σ fp w, Mem C σ fp ob w → ∀ a, A = some a → a.spot = none := by
  intro σ fp w hm a ha
  obtain ⟨⟨_, g, _, _, h2, _⟩, _⟩ := nth_by hm h
  rw [h2] at ha
  cases ha
  rfl
/-- the conversion of a string -/
theorem OpX_toB {K : SV → List OB → Prop} {o : Oper} {t t' : TypeId} {x : Operand} {s : List UInt8} (ho : o.op = .convert t t' x) (ht : C.P.underlying t = some .string) (ht' : C.P.underlying t' = some (.slice e)) (he : C.P.underlying e = some (.int .u8))
    (hK : ∀ g c, force (ob ++ [byO e (some ⟨g, 0, none⟩) s.length s]) fun ob => K (.v (.slice (some ⟨g, 0, none⟩) s.length c)) ob) (hd : C.d = false := by rfl) : OpX C o [S s] ob K := by
  unfold OpX
  intro σ fp w ρ hm hx
  rw [ho] at hx
  simp [Op.operands, SV.vals, SV.val] at hx
  have hr := Lib.run_convert_string_bytes (P := C.P) w t t' e ⟨s.toArray⟩ ht ht' he
  have hex : (execOp ρ o).run C.P w = .ok (.value (.slice (some ⟨w.heap.size, 0, none⟩) s.length (grownCap w s.length 0 e))) (Lib.bytesWorld w e ⟨s.toArray⟩) := by
    simp [execOp, ho, hx, hr, ByteArray.size]
  rw [hex]
  have hsz := Lib.bytesWorld_size w e ⟨s.toArray⟩
  have hb : Below w.heap.size w (Lib.bytesWorld w e ⟨s.toArray⟩) := by
    have hfr : ∀ (w : World) (a : Addr) (n : Nat), (w.freeze a n).os = w.os ∧ (w.freeze a n).tape = w.tape ∧ (w.freeze a n).output = w.output := fun w a n => by unfold World.freeze; split <;> simp
    exact ⟨(hfr _ _ _).1, (hfr _ _ _).2.1, (hfr _ _ _).2.2, by rw [hsz]; omega, fun i hi => Lib.bytesWorld_at_old w e _ i hi⟩
  have hBy : ByAt (Lib.bytesWorld w e ⟨s.toArray⟩) (fun i => i = w.heap.size) e (some ⟨w.heap.size, 0, none⟩) s.length s := by
    refine ⟨rfl, w.heap.size, _, _, rfl, rfl, Lib.bytesWorld_at_new w e ⟨s.toArray⟩, ?_, ?_, ?_⟩
    · simp [Lib.bytesCells]
    · simp [Lib.bytesCells]
    · rw [encU_flat]
      simp [Lib.bytesCells]
  have hK := hK w.heap.size (grownCap w s.length 0 e)
  rw [force_eq] at hK
  exact ⟨.v (.slice (some ⟨w.heap.size, 0, none⟩) s.length (grownCap w s.length 0 e)), _, _, _, hK, fun j hj => by simp [show j ≠ ob.length by omega], by simp, rfl, trivial, hm.pushO hb (byO e (some ⟨w.heap.size, 0, none⟩) s.length s) 0 (fun i => i = w.heap.size) (byO_mk hBy) (fun i hi => by subst hi; rw [hsz]; omega) (fun h => by rw [hd] at h; cases h), Frm.pushed hb (by simp) fun i hi => by rw [hi]; exact Nat.le_refl _⟩
theorem OpX_by {K : SV → List OB → Prop} {o : Oper} {t : TypeId} {x y : Operand} {i : Int} {te : TI} {b : UInt8} (j : Nat) (hT : TabOk C.P C.T) (ho : o.op = .store t x y) (hj : nth ob j = some (byO e A n bs)) (ht : lookT C.T t = some te) (hz : te.zero.length = 1) (h0 : 0 ≤ i) (h1 : i < n)
    (hK : force (setN ob j (byO e A n (bs.set i.toNat b))) fun ob => K (.v undef) ob) : OpX C o [.v (.pointer (some (elA A i 1))), .v (.int .u8 (b.toNat : Nat))] ob K := by
  unfold OpX
  intro σ fp w ρ hm hx
  obtain ⟨⟨h2, g, cur, fz, rfl, h3, h4, h5, h6, h7⟩, hjl⟩ := nth_by hm hj
  obtain ⟨hid, hti⟩ := hT t te ht
  rw [ho] at hx
  simp [Op.operands, SV.vals, SV.val, elA] at hx
  have hsz := hti.run_size w
  rw [hid, hz] at hsz
  have hfz : w.frozen? ⟨g, i.toNat, none⟩ = false := by
    simp [World.frozen?, h4]
    omega
  have hcell : ∃ u, w.cell? ⟨g, i.toNat, none⟩ = some u := by
    refine ⟨cur[i.toNat]'(by omega), ?_⟩
    simp [World.cell?, h4]
  obtain ⟨u, hu⟩ := hcell
  have hone : (Value.int .u8 (b.toNat : Nat)).oneCell' = true := rfl
  have hst := run_store C.P w ⟨g, i.toNat, none⟩ (.int .u8 (b.toNat : Nat)) .plain hone
  rw [hu] at hst
  simp only [hfz, Bool.false_eq_true, if_false] at hst
  have hsc : (storeCells ⟨g, i.toNat, none⟩ [Value.int .u8 (b.toNat : Nat)] 0).run C.P w = .ok () (w.setCell ⟨g, i.toNat, none⟩ (.int .u8 (b.toNat : Nat))) := by
    have hadd : (⟨g, i.toNat, none⟩ : Addr).add 0 = ⟨g, i.toNat, none⟩ := by simp [Addr.add]
    simp only [storeCells, hadd, Sem.run_bind, hst, Result.andThen_ok, Sem.run_pure]
  obtain ⟨dst, op, ty, pos, after, guard⟩ := o
  simp only at ho
  subst ho
  have hcv : (Value.int .u8 (b.toNat : Nat)).cells = [Value.int .u8 (b.toNat : Nat)].toArray := rfl
  have hex : (execOp ρ ⟨dst, .store t x y, ty, pos, after, guard⟩).run C.P w = .ok .skip (w.setCell ⟨g, i.toNat, none⟩ (.int .u8 (b.toNat : Nat))) := by
    simp only [execOp, Instr.storeAt, hx.1, hx.2, Instr.sureAddr, Sem.run_bind, Sem.run_pure, Result.andThen_ok, storeVar, hsz, hcv, List.size_toArray, List.length_cons, List.length_nil, Nat.zero_add, ne_eq, not_true, if_false]
    simp only [hsc, Result.andThen_ok]
  rw [hex]
  have hheap : (w.setCell ⟨g, i.toNat, none⟩ (.int .u8 (b.toNat : Nat))).heap[g]? = some (.cells (cur.setIfInBounds i.toNat (.int .u8 (b.toNat : Nat))) e fz) := by
    rw [setCell_eq_setRow w g i.toNat cur e fz _ h4]
    exact setRow_heap w g _ _ e _ h4
  have hsame : ∀ q, q < w.heap.size → ¬ fp j q → (w.setCell ⟨g, i.toNat, none⟩ (.int .u8 (b.toNat : Nat))).heap[q]? = w.heap[q]? := fun q _ hnq => Below.heap_setCell w _ _ q fun e => hnq (by rw [e]; exact h3)
  have hss : (w.setCell ⟨g, i.toNat, none⟩ (.int .u8 (b.toNat : Nat))).heap.size = w.heap.size := World.size_setCell _ _ _
  have hBy : ByAt (w.setCell ⟨g, i.toNat, none⟩ (.int .u8 (b.toNat : Nat))) (fp j) e (some ⟨g, 0, none⟩) n (bs.set i.toNat b) := by
    refine ⟨by simpa using h2, g, _, fz, rfl, h3, hheap, h5, by simpa using h6, ?_⟩
    rw [encU_flat] at h7 ⊢
    rw [Array.toList_setIfInBounds, List.take_set, h7, List.map_set]
  have hM := hm.change (w' := w.setCell ⟨g, i.toNat, none⟩ (.int .u8 (b.toNat : Nat))) hjl (byO e (some ⟨g, 0, none⟩) n (bs.set i.toNat b)) (fp j) (byO_mk hBy) (fun i hi => .inl hi) (fun i hi => by rw [hss]; exact hm.hi j hjl i hi) rfl rfl rfl (by rw [hss]; exact Nat.le_refl _) hsame (fun _ => Nat.le_refl _)
  rw [force_eq, setN_eq] at hK
  exact ⟨.v undef, _, σ, _, hK, fun _ _ => rfl, by simp, rfl, trivial, hM, Frm.changed hjl (by simp) (fun i hi => .inl hi) (by rw [hss]; exact Nat.le_refl _) hsame⟩
end
theorem rPValid_w (x y : Int) (A : Option Addr) (c : Nat) (l : List UInt8) {n : Nat} (hl : l.length = n) (hn : n ≤ maxLen) : CallW Tryd.prog 40 [plX3 x y A n c] (fun w => ArgSl w A n 1 (l.map encU)) (B (vP x y l)) := by
  have k := bPlan_w x y A c l hl hn
  refine CallW.of Tryd.func40 rfl tabOk rfl rfl rfl (by simp [SV.wfs, SV.wf]) (by simp [SV.wfs, SV.wf]) fun w hpre => ?_
  (conv=>whnf);repeat' (first|((with_reducible refine isC ?_);first|(((with_reducible refine isF 20 ?_;refine CallX_w (k) ?_ ?_);(focus exact hpre.mem (by decide) rfl));conv=>whnf))|with_reducible exact rfl|((with_reducible first|refine xif_kt (by assumption) ?_|refine xif_kf (by assumption) ?_);conv=>whnf)|((with_reducible refine xif_s ?_ ?_)<;>(intro hb;(try simp (disch:=omega) only [hbS] at hb)<;>conv=>whnf)))
  exact Fin_pure rfl rfl trivial
set_option maxHeartbeats 4000000 in
theorem rPText_w (x y : Int) (A : Option Addr) (c : Nat) (l : List UInt8) {n : Nat} (hl : l.length = n) (hn : n ≤ maxLen) : CallW Tryd.prog 21 [plX3 x y A n c] (fun w => ArgSl w A n 1 (l.map encU)) (S (textP x y l)) := by
  have kv := rPValid_w x y A c l hl hn
  unfold textP
  rcases Bool.eq_false_or_eq_true (vP x y l) with hv | hv
  rotate_left
  · rw [hv] at kv ⊢
    refine CallW.of Tryd.func21 rfl tabOk rfl rfl rfl (by simp [SV.wfs, SV.wf]) (by simp [SV.wfs, SV.wf]) fun w hpre => ?_
    (conv=>whnf);repeat' (first|((with_reducible refine isC ?_);first|(((with_reducible refine isF 40 ?_;refine CallX_w (kv) ?_ ?_);(focus exact hpre.mem (by decide) rfl));conv=>whnf))|((with_reducible refine isO ?_);first|((first|(refine OpX_build0 tabOk rfl rfl rfl ?_);intro bN|(refine OpX_build tabOk rfl rfl rfl rfl rfl ?_);intro bN);conv=>whnf))|((with_reducible refine isW ?_;first|refine xwr_ok (by omega) (by omega) ?_|refine xwr_raw ?_);conv=>whnf)|((with_reducible refine isR ?_;first|refine xrem_nn (by omega) (by omega) ?_|refine xrem_raw (by omega) ?_);conv=>whnf)|((with_reducible refine isK ?_;first|refine xcv_i64 (by omega) (by omega) ?_|refine xcv_u64 (by omega) (by omega) ?_|refine xcv_u8 (by omega) (by omega) ?_|refine xcv_raw ?_);conv=>whnf)|((with_reducible refine need_i ?_ ?_)<;>first|omega|conv=>whnf)|((first|refine DrawX_s tabOk folOk ?_|refine DrawS_i (by kernel_rfl) ?_|with_reducible refine andX_i ?_ ?_)<;>conv=>whnf)|with_reducible exact rfl|((with_reducible first|refine xif_kt (by assumption) ?_|refine xif_kf (by assumption) ?_);conv=>whnf)|((with_reducible refine xif_s ?_ ?_)<;>(intro hb;(try simp (disch:=omega) only [hbS] at hb)<;>conv=>whnf)))
    exact Fin_pure rfl rfl trivial
  · rw [hv] at kv ⊢
    rw [if_pos rfl]
    obtain ⟨hx, hy, hm, hall⟩ := vP_all hv
    have hb := mul_bdP hx hy
    rw [szP_iff] at hx hy
    refine CallW.of Tryd.func21 rfl tabOk rfl rfl rfl (by simp [SV.wfs, SV.wf]) (by simp [SV.wfs, SV.wf]) fun w hpre => ?_
    (conv=>whnf);repeat' (first|((with_reducible refine isC ?_);first|(((with_reducible refine isF 40 ?_;refine CallX_w (kv) ?_ ?_);(focus exact hpre.mem (by decide) rfl));conv=>whnf))|((with_reducible refine isO ?_);first|((first|(refine OpX_build0 tabOk rfl rfl rfl ?_);intro bN|(refine OpX_build tabOk rfl rfl rfl rfl rfl ?_);intro bN);conv=>whnf))|((with_reducible refine isW ?_;first|refine xwr_ok (by omega) (by omega) ?_|refine xwr_raw ?_);conv=>whnf)|((with_reducible refine isR ?_;first|refine xrem_nn (by omega) (by omega) ?_|refine xrem_raw (by omega) ?_);conv=>whnf)|((with_reducible refine isK ?_;first|refine xcv_i64 (by omega) (by omega) ?_|refine xcv_u64 (by omega) (by omega) ?_|refine xcv_u8 (by omega) (by omega) ?_|refine xcv_raw ?_);conv=>whnf)|((with_reducible refine need_i ?_ ?_)<;>first|omega|conv=>whnf)|((first|refine DrawX_s tabOk folOk ?_|refine DrawS_i (by kernel_rfl) ?_|with_reducible refine andX_i ?_ ?_)<;>conv=>whnf)|with_reducible exact rfl|((with_reducible first|refine xif_kt (by assumption) ?_|refine xif_kf (by assumption) ?_);conv=>whnf)|((with_reducible refine xif_s ?_ ?_)<;>(intro hb;(try simp (disch:=omega) only [hbS] at hb)<;>conv=>whnf)))
    refine LoopX_addNil 5 1 ?_
    conv => whnf
    refine LoopX_inv tabOk (α := Nat × (Option Addr × Nat)) (fun s => s.1 ≤ n) (fun s => [(1, .p 0 0), (3, .v (.slice s.2.1 (textK x l s.1).length s.2.2)), (4, I s.1)])
      (fun s => [.box 24 [I x, I y, .v (.slice A n c)], bldR s.2.1 (textK x l s.1).length s.2.2 (textK x l s.1)]) (fun s => n - s.1) (0, (none, 0)) [0, 1] (Nat.zero_le _) ?_ ?_
    · ((refine ⟨?_, ?_, ?_, ?_⟩) <;> (repeat' ((conv => whnf); apply And.intro)) <;> (try (first | exact trivial | decide)))
      all_goals first | rfl | exact fun _ _ h => h | (simp [SV.wf, SV.wfs]; done) | trace_state
    · rintro ⟨k, A1, c1⟩ hk
      dsimp only at hk ⊢
      have hbd := textK_len x l k
      by_cases hlt : k < n
      · have hnx : textK x l (k + 1) = textK x l k ++ [sgn (l.getD k 0)] ++ if (k : Int) % x = x - 1 then [10] else [] := rfl
        have hbk := hall (l.getD k 0) (by simp [show k < l.length by omega])
        have hsg : (([63, 46, 35] : List UInt8).getD ((((l.getD k 0).toNat : Nat) : Int)).toNat 0) = sgn (l.getD k 0) := rfl
        generalize textK x l k = X at *
        (conv=>whnf);repeat' (first|((with_reducible refine isV ?_);first|((first|refine ValX_index tabOk rfl (hpre.mem (by decide) rfl) rfl ?_ ?_ ?_|(with_reducible refine nat_idx ?_);refine ValX_load1n _ _ (0) tabOk rfl rfl rfl (hpre.mem (by decide) rfl) ?_ ?_ ?_|refine ValX_load1 _ _ (0) tabOk rfl rfl rfl (hpre.mem (by decide) rfl) ?_ ?_ ?_)<;>first|rfl|omega|with_reducible refine isP ?_|conv=>whnf)|(refine ValX_sIdx (a := [63, 46, 35]) rfl Tryd.underlying9 (by omega) (by show (_ : Int) < 3; omega) ?_; rw [hsg]; conv => whnf))|((with_reducible refine isO ?_);first|((first|refine OpX_append 1 tabOk rfl rfl rfl rfl (ArgSl.row 2 rfl) (by decide) ?_ ?_ ?_|refine OpX_append 1 tabOk rfl rfl rfl rfl (ArgSl.row 3 rfl) (by decide) ?_ ?_ ?_)<;>first|omega|(dsimp only;omega)|(intro A' c';conv=>whnf))|((first|(refine OpX_build0 tabOk rfl rfl rfl ?_);intro bN|(refine OpX_build tabOk rfl rfl rfl rfl rfl ?_);intro bN);conv=>whnf))|((with_reducible refine isW ?_;first|refine xwr_ok (by omega) (by omega) ?_|refine xwr_raw ?_);conv=>whnf)|((with_reducible refine isR ?_;first|refine xrem_nn (by omega) (by omega) ?_|refine xrem_raw (by omega) ?_);conv=>whnf)|((with_reducible refine isK ?_;first|refine xcv_i64 (by omega) (by omega) ?_|refine xcv_u64 (by omega) (by omega) ?_|refine xcv_u8 (by omega) (by omega) ?_|refine xcv_raw ?_);conv=>whnf)|((with_reducible refine need_i ?_ ?_)<;>first|omega|conv=>whnf)|((first|refine DrawX_s tabOk folOk ?_|refine DrawS_i (by kernel_rfl) ?_|with_reducible refine andX_i ?_ ?_)<;>conv=>whnf)|with_reducible exact rfl|((with_reducible first|refine xif_kt (by assumption) ?_|refine xif_kf (by assumption) ?_);conv=>whnf)|((with_reducible refine xif_s ?_ ?_)<;>(intro hb;(try simp (disch:=omega) only [hbS] at hb)<;>conv=>whnf)))
        all_goals try (exfalso; omega)
        · refine ⟨(k + 1, A', c'), [0, 1], by (try dsimp only); omega, ?_, by (try dsimp only); omega⟩
          dsimp only
          rw [hnx, if_pos hb, show ((X ++ [sgn (l.getD k 0)] ++ [10] : List UInt8)).length = X.length + 1 + 1 by simp]
          ((refine ⟨?_, ?_, ?_, ?_⟩) <;> (repeat' ((conv => whnf); apply And.intro)) <;> (try (first | exact trivial | decide)))
          all_goals first | rfl | exact fun _ _ h => h | (simp [SV.wf, SV.wfs]; done) | (simp [encU]; done) | trace_state
        · refine ⟨(k + 1, A', c'), [0, 1], by (try dsimp only); omega, ?_, by (try dsimp only); omega⟩
          dsimp only
          rw [hnx, if_neg hb, List.append_nil, show ((X ++ [sgn (l.getD k 0)] : List UInt8)).length = X.length + 1 by simp]
          ((refine ⟨?_, ?_, ?_, ?_⟩) <;> (repeat' ((conv => whnf); apply And.intro)) <;> (try (first | exact trivial | decide)))
          all_goals first | rfl | exact fun _ _ h => h | (simp [SV.wf, SV.wfs]; done) | (simp [encU]; done) | trace_state
      · obtain rfl : k = n := by omega
        (conv=>whnf);repeat' (first|((with_reducible refine isV ?_);first|(refine ValX_toS (textK x l k) rfl Tryd.underlying22 Tryd.underlying5 Tryd.underlying9 rfl (ArgSl.row 1 rfl) (row_spot 1 rfl) ?_; conv => whnf))|((with_reducible refine isO ?_);first|((first|(refine OpX_build0 tabOk rfl rfl rfl ?_);intro bN|(refine OpX_build tabOk rfl rfl rfl rfl rfl ?_);intro bN);conv=>whnf))|((with_reducible refine isW ?_;first|refine xwr_ok (by omega) (by omega) ?_|refine xwr_raw ?_);conv=>whnf)|((with_reducible refine isR ?_;first|refine xrem_nn (by omega) (by omega) ?_|refine xrem_raw (by omega) ?_);conv=>whnf)|((with_reducible refine isK ?_;first|refine xcv_i64 (by omega) (by omega) ?_|refine xcv_u64 (by omega) (by omega) ?_|refine xcv_u8 (by omega) (by omega) ?_|refine xcv_raw ?_);conv=>whnf)|((with_reducible refine need_i ?_ ?_)<;>first|omega|conv=>whnf)|((first|refine DrawX_s tabOk folOk ?_|refine DrawS_i (by kernel_rfl) ?_|with_reducible refine andX_i ?_ ?_)<;>conv=>whnf)|with_reducible exact rfl|((with_reducible first|refine xif_kt (by assumption) ?_|refine xif_kf (by assumption) ?_);conv=>whnf)|((with_reducible refine xif_s ?_ ?_)<;>(intro hb;(try simp (disch:=omega) only [hbS] at hb)<;>conv=>whnf)))
        all_goals try (exfalso; omega)
        rw [hl]
        exact Fin_pure rfl rfl trivial
def insP (x y : Int) (p : CellT) : Bool := decide (0 ≤ p.1) && decide (p.1 < x) && decide (0 ≤ p.2) && decide (p.2 < y)
theorem Inside_x (x y : Int) (A : Option Addr) (n c : Nat) (p : CellT) : PureX Tryd.prog 22 [plX3 x y A n c, .a [I p.1, I p.2]] (B (insP x y p)) := by
  unfold insP
  refine PureX.of Tryd.func22 rfl tabOk rfl rfl rfl (by simp [SV.wfs, SV.wf]) (by simp [SV.wfs, SV.wf]) fun w => ?_
  (conv=>whnf);repeat' (first|with_reducible exact rfl|((with_reducible first|refine xif_kt (by assumption) ?_|refine xif_kf (by assumption) ?_);conv=>whnf)|((with_reducible refine xif_s ?_ ?_)<;>(intro hb;(try simp (disch:=omega) only [hbS] at hb)<;>conv=>whnf)))
  all_goals first | exact Fin_pure rfl rfl trivial | (refine Fin_pure rfl (congrArg B ?_) trivial; simp; omega) | trace_state
/-! ### the marks of a picture -/
theorem textK_full {x : Int} (hx : 1 ≤ x) (l : List UInt8) : ∀ k : Nat, ((textK x l k).length : Int) = k + k / x
  | 0 => by simp [textK]
  | k + 1 => by
    have ih := textK_full hx l k
    have h1 := Int.emod_add_ediv_mul (k : Int) x
    have h2 := Int.emod_nonneg (k : Int) (show x ≠ 0 by omega)
    have h3 := Int.emod_lt_of_pos (k : Int) (show 0 < x by omega)
    unfold textK
    by_cases e : (k : Int) % x = x - 1
    · have hq : ((k + 1 : Nat) : Int) / x = (k : Int) / x + 1 := by
        rw [show ((k + 1 : Nat) : Int) = ((k : Int) / x + 1) * x by rw [Int.add_mul]; omega]
        exact Int.mul_ediv_cancel _ (by omega)
      rw [if_pos e, hq]
      simp only [List.length_append, List.length_cons, List.length_nil]
      omega
    · have hq : ((k + 1 : Nat) : Int) / x = (k : Int) / x := by
        rw [show ((k + 1 : Nat) : Int) = ((k : Int) % x + 1) + (k : Int) / x * x by omega, Int.add_mul_ediv_right _ _ (by omega), Int.ediv_eq_zero_of_lt (by omega) (by omega)]
        omega
      rw [if_neg e, hq]
      simp only [List.length_append, List.length_cons, List.length_nil]
      omega
theorem textP_len {x y : Int} {l : List UInt8} (h : vP x y l = true) : ((textP x y l).length : Int) = y * (x + 1) := by
  obtain ⟨hx, hy, hm, _⟩ := vP_all h
  rw [szP_iff] at hx hy
  unfold textP
  rw [if_pos h, textK_full hx.1, hm, Int.mul_comm x y, Int.mul_ediv_cancel _ (by omega), Int.mul_add]
  omega
def markL (x y : Int) (bs : List UInt8) (p : CellT) (s : UInt8) : List UInt8 := if insP x y p then bs.set (p.2 * (x + 1) + p.1).toNat s else bs
theorem markL_len (x y : Int) (bs : List UInt8) (p : CellT) (s : UInt8) : (markL x y bs p s).length = bs.length := by
  unfold markL
  split <;> simp
def pictP (x y : Int) (l : List UInt8) (cs : List CellT) (p : CellT) : List UInt8 := if vP x y l then markL x y (cs.foldl (fun bs c => markL x y bs c 42) (textP x y l)) p 64 else []
theorem marks_len (x y : Int) : ∀ (cs : List CellT) (bs : List UInt8), (cs.foldl (fun bs c => markL x y bs c 42) bs).length = bs.length
  | [], _ => rfl
  | c :: cs, bs => by rw [List.foldl_cons, marks_len x y cs, markL_len]
theorem ins_idx {x y : Int} {p : CellT} (hx : szP x = true) (hy : szP y = true) (h : insP x y p = true) : 0 ≤ p.2 * (x + 1) ∧ p.2 * (x + 1) ≤ 4160 ∧ 0 ≤ p.2 * (x + 1) + p.1 ∧ p.2 * (x + 1) + p.1 < y * (x + 1) ∧ 0 ≤ p.1 ∧ p.1 < x ∧ 0 ≤ p.2 ∧ p.2 < y := by
  rw [szP_iff] at hx hy
  simp only [insP, Bool.and_eq_true, decide_eq_true_eq] at h
  have h1 : 0 ≤ p.2 * (x + 1) := Int.mul_nonneg (by omega) (by omega)
  have h2 : p.2 * (x + 1) ≤ (y - 1) * (x + 1) := Int.mul_le_mul_of_nonneg_right (by omega) (by omega)
  have h3 : (y - 1) * (x + 1) = y * (x + 1) - (x + 1) := by rw [Int.sub_mul, Int.one_mul]
  have h4 : y * (x + 1) ≤ 64 * 65 := Int.mul_le_mul hy.2 (by omega) (by omega) (by omega)
  omega
theorem mark_m (x y : Int) (hx : szP x = true) (hy : szP y = true) (A B : Option Addr) (n c m d : Nat) (bs : List UInt8) (hm : (m : Int) = y * (x + 1)) (p : CellT) (s : UInt8) :
    CallM Tryd.prog 19 [.a [I p.1, I p.2], .v (.int .u8 (s.toNat : Nat)), .p 0 0, .p 1 0] (fun _ _ => True) [.box 24 [I x, I y, .v (.slice A n c)], .box 22 [.v (.slice B m d)], byO 5 B m bs]
      (fun _ : Unit => .t []) (fun _ => [.box 24 [I x, I y, .v (.slice A n c)], .box 22 [.v (.slice B m d)], byO 5 B m (markL x y bs p s)]) := by
  have hi := ins_idx (p := p) hx hy
  rw [szP_iff] at hx hy
  unfold markL
  rcases Bool.eq_false_or_eq_true (insP x y p) with h | h
  · have hi := hi h
    rw [h, if_pos rfl]
    refine CallM.of (m := 3) Tryd.func19 rfl tabOk rfl rfl rfl rfl (by simp [SV.wfs, SV.wf]) fun w M π _ => ?_
    (conv=>whnf);repeat' (first|((with_reducible refine isV ?_);first|(refine ValX_index tabOk rfl (ArgSl.by 2 rfl) rfl ?_ ?_ ?_ <;> first | omega | (conv => whnf)))|((with_reducible refine isO ?_);first|(refine OpX_by 2 tabOk rfl rfl rfl rfl ?_ ?_ ?_ <;> first | omega | (conv => whnf)))|((with_reducible refine isW ?_;first|refine xwr_ok (by omega) (by omega) ?_|refine xwr_raw ?_);conv=>whnf)|with_reducible exact rfl|((with_reducible first|refine xif_kt (by assumption) ?_|refine xif_kf (by assumption) ?_);conv=>whnf)|((with_reducible refine xif_s ?_ ?_)<;>(intro hb;(try simp (disch:=omega) only [hbS] at hb)<;>conv=>whnf)))
    all_goals try (exfalso; omega)
    exact Fin_m () [0, 1, 2] ⟨rfl, by simp [SV.wf, SV.wfs]⟩ ⟨⟨rfl, rfl, by simp [SV.wf, SV.wfs]⟩, ⟨rfl, rfl, by simp [SV.wf, SV.wfs]⟩, fun _ _ h => h, trivial⟩ (by decide) rfl
  · rw [h, if_neg (by simp)]
    simp only [insP, Bool.and_eq_false_iff, decide_eq_false_iff_not] at h
    refine CallM.of (m := 3) Tryd.func19 rfl tabOk rfl rfl rfl rfl (by simp [SV.wfs, SV.wf]) fun w M π _ => ?_
    (conv=>whnf);repeat' (first|((with_reducible refine isW ?_;first|refine xwr_ok (by omega) (by omega) ?_|refine xwr_raw ?_);conv=>whnf)|with_reducible exact rfl|((with_reducible first|refine xif_kt (by assumption) ?_|refine xif_kf (by assumption) ?_);conv=>whnf)|((with_reducible refine xif_s ?_ ?_)<;>(intro hb;(try simp (disch:=omega) only [hbS] at hb)<;>conv=>whnf)))
    all_goals try (exfalso; omega)
    all_goals exact Fin_m () [0, 1, 2] ⟨rfl, by simp [SV.wf, SV.wfs]⟩ ⟨⟨rfl, rfl, by simp [SV.wf, SV.wfs]⟩, ⟨rfl, rfl, by simp [SV.wf, SV.wfs]⟩, fun _ _ h => h, trivial⟩ (by decide) rfl
def cz : CellT := (0, 0)
def encCl (p : CellT) : List Value := [.int .i64 p.1, .int .i64 p.2]
theorem foldl_next {α β : Type} (f : β → α → β) (b : β) {l : List α} {k : Nat} (d : α) (hk : k < l.length) : (l.take (k + 1)).foldl f b = f ((l.take k).foldl f b) (l.getD k d) := by
  rw [List.take_succ_eq_append_getElem hk, List.foldl_append]
  simp [hk]
set_option maxHeartbeats 4000000 in
theorem Picture_w (x y : Int) (A : Option Addr) (c : Nat) (l : List UInt8) {n : Nat} (hl : l.length = n) (hn : n ≤ maxLen) (A2 : Option Addr) (c2 : Nat) (cs : List CellT) {m : Nat} (hm : cs.length = m) (hm2 : m ≤ maxLen) (p : CellT) :
    CallW Tryd.prog 8 [plX3 x y A n c, .v (.slice A2 m c2), .a [I p.1, I p.2]] (fun w => ArgSl w A n 1 (l.map encU) ∧ ArgSl w A2 m 2 (cs.map encCl)) (S (pictP x y l cs p)) := by
  unfold maxLen at hm2
  have kt := pText_w x y A c l hl hn
  unfold pictP
  rcases Bool.eq_false_or_eq_true (vP x y l) with hv | hv
  rotate_left
  · have e : textP x y l = [] := by unfold textP; rw [hv]; rfl
    rw [e] at kt
    rw [hv]
    refine CallW.of Tryd.func8 rfl tabOk rfl rfl rfl (by simp [SV.wfs, SV.wf]) (by simp [SV.wfs, SV.wf]) fun w hpre => ?_
    (conv=>whnf);repeat' (first|((with_reducible refine isC ?_);first|(((with_reducible refine isF 18 ?_;refine CallX_w (kt) ?_ ?_);(focus exact hpre.1.mem (by decide) rfl));conv=>whnf))|((with_reducible refine isO ?_);first|(refine OpX_toB (s := []) rfl Tryd.underlying9 Tryd.underlying22 Tryd.underlying5 ?_; intro g c3; conv => whnf))|((with_reducible refine isW ?_;first|refine xwr_ok (by omega) (by omega) ?_|refine xwr_raw ?_);conv=>whnf)|((with_reducible refine isK ?_;first|refine xcv_i64 (by omega) (by omega) ?_|refine xcv_u64 (by omega) (by omega) ?_|refine xcv_u8 (by omega) (by omega) ?_|refine xcv_raw ?_);conv=>whnf)|with_reducible exact rfl|((with_reducible first|refine xif_kt (by assumption) ?_|refine xif_kf (by assumption) ?_);conv=>whnf)|((with_reducible refine xif_s ?_ ?_)<;>(intro hb;(try simp (disch:=omega) only [hbS] at hb)<;>conv=>whnf)))
    exact Fin_pure rfl rfl trivial
  · have hlen := textP_len hv
    obtain ⟨hx, hy, hmm, hall⟩ := vP_all hv
    have hpos := mul_bdP hy (show szP 64 = true by decide)
    have hxx := szP_iff.1 hx
    have hyy := szP_iff.1 hy
    have hnz : 1 * 2 ≤ y * (x + 1) := Int.mul_le_mul hyy.1 (by omega) (by omega) (by omega)
    rw [hv, if_pos rfl]
    generalize textP x y l = T at *
    refine CallW.of Tryd.func8 rfl tabOk rfl rfl rfl (by simp [SV.wfs, SV.wf]) (by simp [SV.wfs, SV.wf]) fun w hpre => ?_
    obtain ⟨hpre, hpre2⟩ := hpre
    (conv=>whnf);repeat' (first|((with_reducible refine isC ?_);first|(((with_reducible refine isF 18 ?_;refine CallX_w (kt) ?_ ?_);(focus exact hpre.mem (by decide) rfl));conv=>whnf))|((with_reducible refine isO ?_);first|(refine OpX_toB (s := T) rfl Tryd.underlying9 Tryd.underlying22 Tryd.underlying5 ?_; intro g c3; conv => whnf))|((with_reducible refine isW ?_;first|refine xwr_ok (by omega) (by omega) ?_|refine xwr_raw ?_);conv=>whnf)|((with_reducible refine isK ?_;first|refine xcv_i64 (by omega) (by omega) ?_|refine xcv_u64 (by omega) (by omega) ?_|refine xcv_u8 (by omega) (by omega) ?_|refine xcv_raw ?_);conv=>whnf)|with_reducible exact rfl|((with_reducible first|refine xif_kt (by assumption) ?_|refine xif_kf (by assumption) ?_);conv=>whnf)|((with_reducible refine xif_s ?_ ?_)<;>(intro hb;(try simp (disch:=omega) only [hbS] at hb)<;>conv=>whnf)))
    all_goals try (exfalso; omega)
    refine LoopX_inv tabOk (α := Nat) (fun k => k ≤ m) (fun k => [(5, .p 1 0), (7, .p 3 0), (8, .fn 19 [.p 0 0, .p 3 0]), (18, .v (.slice A2 m c2)), (19, I m), (20, I k)])
      (fun k => [.box 24 [I x, I y, .v (.slice A n c)], .box 27 [I p.1, I p.2], byO 5 (some ⟨g, 0, none⟩) T.length ((cs.take k).foldl (fun bs c => markL x y bs c 42) T), .box 22 [.v (.slice (some ⟨g, 0, none⟩) T.length c3)]]) (fun k => m - k) 0 [0, 1, 2, 3] (Nat.zero_le _) ?_ ?_
    · ((refine ⟨?_, ?_, ?_, ?_⟩) <;> (repeat' ((conv => whnf); apply And.intro)) <;> (try (first | exact trivial | decide)))
      all_goals first | rfl | exact fun _ _ h => h | (simp [SV.wf, SV.wfs]; done) | trace_state
    · intro k hk
      by_cases hlt : k < m
      · have hnx := foldl_next (fun bs c => markL x y bs c 42) T cz (show k < cs.length by omega)
        have km := mark_m x y hx hy A (some ⟨g, 0, none⟩) n c T.length c3 ((cs.take k).foldl (fun bs c => markL x y bs c 42) T) hlen (cs.getD k cz) 42
        generalize (cs.take k).foldl (fun bs c => markL x y bs c 42) T = X at *
        (conv=>whnf);repeat' (first|((with_reducible refine isC ?_);first|(((with_reducible refine isF 19 ?_;refine CallX_m (km) [0, 3, 2] ?_ ?_ ?_ ?_ ?_);(focus exact rfl);(focus exact ⟨⟨rfl, rfl, by simp [SV.wf, SV.wfs]⟩, ⟨rfl, rfl, by simp [SV.wf, SV.wfs]⟩, fun _ _ h => h, trivial⟩);(focus decide);(focus exact (fun _ _ _ _ => trivial));intro q);conv=>whnf))|((with_reducible refine isV ?_);first|((first|refine ValX_index tabOk rfl (hpre2.mem (by decide) rfl) rfl ?_ ?_ ?_|(with_reducible refine nat_idx ?_);refine ValX_loadEn _ _ (cz) tabOk rfl rfl rfl rfl (hpre2.mem (by decide) rfl) ?_ ?_ ?_|refine ValX_loadE _ _ (cz) tabOk rfl rfl rfl rfl (hpre2.mem (by decide) rfl) ?_ ?_ ?_)<;>first|rfl|omega|with_reducible refine isP ?_|conv=>whnf))|((with_reducible refine isW ?_;first|refine xwr_ok (by omega) (by omega) ?_|refine xwr_raw ?_);conv=>whnf)|((with_reducible refine isK ?_;first|refine xcv_i64 (by omega) (by omega) ?_|refine xcv_u64 (by omega) (by omega) ?_|refine xcv_u8 (by omega) (by omega) ?_|refine xcv_raw ?_);conv=>whnf)|with_reducible exact rfl|((with_reducible first|refine xif_kt (by assumption) ?_|refine xif_kf (by assumption) ?_);conv=>whnf)|((with_reducible refine xif_s ?_ ?_)<;>(intro hb;(try simp (disch:=omega) only [hbS] at hb)<;>conv=>whnf)))
        all_goals try (exfalso; omega)
        refine ⟨k + 1, [0, 1, 2, 3], by (try dsimp only); omega, ?_, by (try dsimp only); omega⟩
        dsimp only
        rw [hnx]
        ((refine ⟨?_, ?_, ?_, ?_⟩) <;> (repeat' ((conv => whnf); apply And.intro)) <;> (try (first | exact trivial | decide)))
        all_goals first | rfl | exact fun _ _ h => h | (simp [SV.wf, SV.wfs]; done) | trace_state
      · obtain rfl : k = m := by omega
        rw [List.take_of_length_le (by omega)]
        have km := mark_m x y hx hy A (some ⟨g, 0, none⟩) n c T.length c3 (cs.foldl (fun bs c => markL x y bs c 42) T) hlen p 64
        have hml : (markL x y (cs.foldl (fun bs c => markL x y bs c 42) T) p 64).length = T.length := by rw [markL_len, marks_len]
        generalize cs.foldl (fun bs c => markL x y bs c 42) T = X at *
        (conv=>whnf);repeat' (first|((with_reducible refine isC ?_);first|(((with_reducible refine isF 19 ?_;refine CallX_m (km) [0, 3, 2] ?_ ?_ ?_ ?_ ?_);(focus exact rfl);(focus exact ⟨⟨rfl, rfl, by simp [SV.wf, SV.wfs]⟩, ⟨rfl, rfl, by simp [SV.wf, SV.wfs]⟩, fun _ _ h => h, trivial⟩);(focus decide);(focus exact (fun _ _ _ _ => trivial));intro q);conv=>whnf))|((with_reducible refine isV ?_);first|(refine ValX_toS (markL x y X p 64) rfl Tryd.underlying22 Tryd.underlying5 Tryd.underlying9 hml (ArgSl.by 2 rfl) (by_spot 2 rfl) ?_; conv => whnf))|((with_reducible refine isW ?_;first|refine xwr_ok (by omega) (by omega) ?_|refine xwr_raw ?_);conv=>whnf)|((with_reducible refine isK ?_;first|refine xcv_i64 (by omega) (by omega) ?_|refine xcv_u64 (by omega) (by omega) ?_|refine xcv_u8 (by omega) (by omega) ?_|refine xcv_raw ?_);conv=>whnf)|with_reducible exact rfl|((with_reducible first|refine xif_kt (by assumption) ?_|refine xif_kf (by assumption) ?_);conv=>whnf)|((with_reducible refine xif_s ?_ ?_)<;>(intro hb;(try simp (disch:=omega) only [hbS] at hb)<;>conv=>whnf)))
        all_goals try (exfalso; omega)
        exact Fin_pure rfl rfl trivial
set_option maxHeartbeats 4000000 in
theorem rPicture_w (x y : Int) (A : Option Addr) (c : Nat) (l : List UInt8) {n : Nat} (hl : l.length = n) (hn : n ≤ maxLen) (A2 : Option Addr) (c2 : Nat) (cs : List CellT) {m : Nat} (hm : cs.length = m) (hm2 : m ≤ maxLen) (p : CellT) :
    CallW Tryd.prog 9 [plX3 x y A n c, .v (.slice A2 m c2), .a [I p.1, I p.2]] (fun w => ArgSl w A n 1 (l.map encU) ∧ ArgSl w A2 m 2 (cs.map encCl)) (S (pictP x y l cs p)) := by
  unfold maxLen at hm2
  have kt := rPText_w x y A c l hl hn
  have kv := bPlan_w x y A c l hl hn
  unfold pictP
  rcases Bool.eq_false_or_eq_true (vP x y l) with hv | hv
  rotate_left
  · rw [hv] at kv ⊢
    refine CallW.of Tryd.func9 rfl tabOk rfl rfl rfl (by simp [SV.wfs, SV.wf]) (by simp [SV.wfs, SV.wf]) fun w hpre => ?_
    (conv=>whnf);repeat' (first|((with_reducible refine isC ?_);first|(((with_reducible refine isF 20 ?_;refine CallX_w (kv) ?_ ?_);(focus exact hpre.1.mem (by decide) rfl));conv=>whnf))|((with_reducible refine isW ?_;first|refine xwr_ok (by omega) (by omega) ?_|refine xwr_raw ?_);conv=>whnf)|((with_reducible refine isK ?_;first|refine xcv_i64 (by omega) (by omega) ?_|refine xcv_u64 (by omega) (by omega) ?_|refine xcv_u8 (by omega) (by omega) ?_|refine xcv_raw ?_);conv=>whnf)|((first|refine DrawX_s tabOk folOk ?_|refine DrawS_i (by kernel_rfl) ?_|with_reducible refine andX_i ?_ ?_)<;>conv=>whnf)|with_reducible exact rfl|((with_reducible first|refine xif_kt (by assumption) ?_|refine xif_kf (by assumption) ?_);conv=>whnf)|((with_reducible refine xif_s ?_ ?_)<;>(intro hb;(try simp (disch:=omega) only [hbS] at hb)<;>conv=>whnf)))
    exact Fin_pure rfl rfl trivial
  · have hlen := textP_len hv
    obtain ⟨hx, hy, hmm, hall⟩ := vP_all hv
    have hxx := szP_iff.1 hx
    have hyy := szP_iff.1 hy
    rw [hv] at kv ⊢
    rw [if_pos rfl]
    generalize textP x y l = T at *
    refine CallW.of Tryd.func9 rfl tabOk rfl rfl rfl (by simp [SV.wfs, SV.wf]) (by simp [SV.wfs, SV.wf]) fun w hpre => ?_
    obtain ⟨hpre, hpre2⟩ := hpre
    (conv=>whnf);repeat' (first|((with_reducible refine isC ?_);first|((first|(with_reducible refine isF 20 ?_;refine CallX_w (kv) ?_ ?_);(focus exact hpre.mem (by decide) rfl)|(with_reducible refine isF 21 ?_;refine CallX_w (kt) ?_ ?_);(focus exact hpre.mem (by decide) rfl));conv=>whnf))|((with_reducible refine isO ?_);first|(refine OpX_toB (s := T) rfl Tryd.underlying9 Tryd.underlying22 Tryd.underlying5 ?_; intro g c3; conv => whnf))|((with_reducible refine isW ?_;first|refine xwr_ok (by omega) (by omega) ?_|refine xwr_raw ?_);conv=>whnf)|((with_reducible refine isK ?_;first|refine xcv_i64 (by omega) (by omega) ?_|refine xcv_u64 (by omega) (by omega) ?_|refine xcv_u8 (by omega) (by omega) ?_|refine xcv_raw ?_);conv=>whnf)|((first|refine DrawX_s tabOk folOk ?_|refine DrawS_i (by kernel_rfl) ?_|with_reducible refine andX_i ?_ ?_)<;>conv=>whnf)|with_reducible exact rfl|((with_reducible first|refine xif_kt (by assumption) ?_|refine xif_kf (by assumption) ?_);conv=>whnf)|((with_reducible refine xif_s ?_ ?_)<;>(intro hb;(try simp (disch:=omega) only [hbS] at hb)<;>conv=>whnf)))
    all_goals try (exfalso; omega)
    refine LoopX_inv tabOk (α := Nat) (fun k => k ≤ m) (fun k => [(1, .v (.slice A2 m c2)), (3, .p 0 0), (5, .p 1 0), (7, .v (.slice (some ⟨g, 0, none⟩) T.length c3)), (8, I k)])
      (fun k => [.box 24 [I x, I y, .v (.slice A n c)], .box 27 [I p.1, I p.2], byO 5 (some ⟨g, 0, none⟩) T.length ((cs.take k).foldl (fun bs c => markL x y bs c 42) T)]) (fun k => m - k) 0 [0, 1, 2] (Nat.zero_le _) ?_ ?_
    · ((refine ⟨?_, ?_, ?_, ?_⟩) <;> (repeat' ((conv => whnf); apply And.intro)) <;> (try (first | exact trivial | decide)))
      all_goals first | rfl | exact fun _ _ h => h | (simp [SV.wf, SV.wfs]; done) | trace_state
    · intro k hk
      by_cases hlt : k < m
      · have hnx := foldl_next (fun bs c => markL x y bs c 42) T cz (show k < cs.length by omega)
        have ki := Inside_x x y A n c (cs.getD k cz)
        have hi := ins_idx (p := cs.getD k cz) hx hy
        generalize (cs.take k).foldl (fun bs c => markL x y bs c 42) T = X at *
        rcases Bool.eq_false_or_eq_true (insP x y (cs.getD k cz)) with h | h
        · have hi := hi h
          rw [h] at ki
          rw [show markL x y X (cs.getD k cz) 42 = X.set ((cs.getD k cz).2 * (x + 1) + (cs.getD k cz).1).toNat 42 by unfold markL; rw [h, if_pos rfl]] at hnx
          (conv=>whnf);repeat' (first|((with_reducible refine isC ?_);first|((with_reducible refine CallX_pure (ki) ?_)<;>first|omega|with_reducible refine isP ?_|conv=>whnf))|((with_reducible refine isV ?_);first|((first|refine ValX_index tabOk rfl (hpre2.mem (by decide) rfl) rfl ?_ ?_ ?_|(with_reducible refine nat_idx ?_);refine ValX_loadEn _ _ (cz) tabOk rfl rfl rfl rfl (hpre2.mem (by decide) rfl) ?_ ?_ ?_|refine ValX_loadE _ _ (cz) tabOk rfl rfl rfl rfl (hpre2.mem (by decide) rfl) ?_ ?_ ?_)<;>first|rfl|omega|with_reducible refine isP ?_|conv=>whnf)|((first|(with_reducible refine nat_idxF ?_);refine ValX_loadFn _ _ (cz) _ tabOk rfl rfl rfl (hpre2.mem (by decide) rfl) ?_ ?_ rfl ?_|refine ValX_loadF _ _ (cz) _ tabOk rfl rfl rfl (hpre2.mem (by decide) rfl) ?_ ?_ rfl ?_)<;>first|omega|(simp;omega)|with_reducible refine isP ?_|conv=>whnf)|(refine ValX_index tabOk rfl (ArgSl.by 2 rfl) rfl ?_ ?_ ?_ <;> first | omega | (conv => whnf)))|((with_reducible refine isO ?_);first|(refine OpX_by (b := 42) 2 tabOk rfl rfl rfl rfl ?_ ?_ ?_ <;> first | omega | (conv => whnf)))|((with_reducible refine isW ?_;first|refine xwr_ok (by omega) (by omega) ?_|refine xwr_raw ?_);conv=>whnf)|((with_reducible refine isK ?_;first|refine xcv_i64 (by omega) (by omega) ?_|refine xcv_u64 (by omega) (by omega) ?_|refine xcv_u8 (by omega) (by omega) ?_|refine xcv_raw ?_);conv=>whnf)|((first|refine DrawX_s tabOk folOk ?_|refine DrawS_i (by kernel_rfl) ?_|with_reducible refine andX_i ?_ ?_)<;>conv=>whnf)|with_reducible exact rfl|((with_reducible first|refine xif_kt (by assumption) ?_|refine xif_kf (by assumption) ?_);conv=>whnf)|((with_reducible refine xif_s ?_ ?_)<;>(intro hb;(try simp (disch:=omega) only [hbS] at hb)<;>conv=>whnf)))
          all_goals try (exfalso; omega)
          refine ⟨k + 1, [0, 1, 2], by (try dsimp only); omega, ?_, by (try dsimp only); omega⟩
          dsimp only
          rw [hnx]
          ((refine ⟨?_, ?_, ?_, ?_⟩) <;> (repeat' ((conv => whnf); apply And.intro)) <;> (try (first | exact trivial | decide)))
          all_goals first | rfl | exact fun _ _ h => h | (simp [SV.wf, SV.wfs]; done) | trace_state
        · rw [h] at ki
          rw [show markL x y X (cs.getD k cz) 42 = X by unfold markL; rw [h, if_neg (by simp)]] at hnx
          (conv=>whnf);repeat' (first|((with_reducible refine isC ?_);first|((with_reducible refine CallX_pure (ki) ?_)<;>first|omega|with_reducible refine isP ?_|conv=>whnf))|((with_reducible refine isV ?_);first|((first|refine ValX_index tabOk rfl (hpre2.mem (by decide) rfl) rfl ?_ ?_ ?_|(with_reducible refine nat_idx ?_);refine ValX_loadEn _ _ (cz) tabOk rfl rfl rfl rfl (hpre2.mem (by decide) rfl) ?_ ?_ ?_|refine ValX_loadE _ _ (cz) tabOk rfl rfl rfl rfl (hpre2.mem (by decide) rfl) ?_ ?_ ?_)<;>first|rfl|omega|with_reducible refine isP ?_|conv=>whnf))|((with_reducible refine isW ?_;first|refine xwr_ok (by omega) (by omega) ?_|refine xwr_raw ?_);conv=>whnf)|((with_reducible refine isK ?_;first|refine xcv_i64 (by omega) (by omega) ?_|refine xcv_u64 (by omega) (by omega) ?_|refine xcv_u8 (by omega) (by omega) ?_|refine xcv_raw ?_);conv=>whnf)|((first|refine DrawX_s tabOk folOk ?_|refine DrawS_i (by kernel_rfl) ?_|with_reducible refine andX_i ?_ ?_)<;>conv=>whnf)|with_reducible exact rfl|((with_reducible first|refine xif_kt (by assumption) ?_|refine xif_kf (by assumption) ?_);conv=>whnf)|((with_reducible refine xif_s ?_ ?_)<;>(intro hb;(try simp (disch:=omega) only [hbS] at hb)<;>conv=>whnf)))
          all_goals try (exfalso; omega)
          refine ⟨k + 1, [0, 1, 2], by (try dsimp only); omega, ?_, by (try dsimp only); omega⟩
          dsimp only
          rw [hnx]
          ((refine ⟨?_, ?_, ?_, ?_⟩) <;> (repeat' ((conv => whnf); apply And.intro)) <;> (try (first | exact trivial | decide)))
          all_goals first | rfl | exact fun _ _ h => h | (simp [SV.wf, SV.wfs]; done) | trace_state
      · obtain rfl : k = m := by omega
        rw [List.take_of_length_le (by omega)]
        have ki := Inside_x x y A n c p
        have hi := ins_idx (p := p) hx hy
        have hml : (markL x y (cs.foldl (fun bs c => markL x y bs c 42) T) p 64).length = T.length := by rw [markL_len, marks_len]
        generalize cs.foldl (fun bs c => markL x y bs c 42) T = X at *
        unfold markL at hml ⊢
        rcases Bool.eq_false_or_eq_true (insP x y p) with h | h
        · have hi := hi h
          rw [h] at ki
          rw [h, if_pos rfl] at hml ⊢
          (conv=>whnf);repeat' (first|((with_reducible refine isC ?_);first|((with_reducible refine CallX_pure (ki) ?_)<;>first|omega|with_reducible refine isP ?_|conv=>whnf))|((with_reducible refine isV ?_);first|(refine ValX_index tabOk rfl (ArgSl.by 2 rfl) rfl ?_ ?_ ?_ <;> first | omega | (conv => whnf))|(refine ValX_toS (X.set (p.2 * (x + 1) + p.1).toNat 64) rfl Tryd.underlying22 Tryd.underlying5 Tryd.underlying9 hml (ArgSl.by 2 rfl) (by_spot 2 rfl) ?_; conv => whnf))|((with_reducible refine isO ?_);first|(refine OpX_by (b := 64) 2 tabOk rfl rfl rfl rfl ?_ ?_ ?_ <;> first | omega | (conv => whnf)))|((with_reducible refine isW ?_;first|refine xwr_ok (by omega) (by omega) ?_|refine xwr_raw ?_);conv=>whnf)|((with_reducible refine isK ?_;first|refine xcv_i64 (by omega) (by omega) ?_|refine xcv_u64 (by omega) (by omega) ?_|refine xcv_u8 (by omega) (by omega) ?_|refine xcv_raw ?_);conv=>whnf)|((first|refine DrawX_s tabOk folOk ?_|refine DrawS_i (by kernel_rfl) ?_|with_reducible refine andX_i ?_ ?_)<;>conv=>whnf)|with_reducible exact rfl|((with_reducible first|refine xif_kt (by assumption) ?_|refine xif_kf (by assumption) ?_);conv=>whnf)|((with_reducible refine xif_s ?_ ?_)<;>(intro hb;(try simp (disch:=omega) only [hbS] at hb)<;>conv=>whnf)))
          all_goals try (exfalso; omega)
          exact Fin_pure rfl rfl trivial
        · rw [h] at ki
          rw [h, if_neg (by simp)] at hml ⊢
          (conv=>whnf);repeat' (first|((with_reducible refine isC ?_);first|((with_reducible refine CallX_pure (ki) ?_)<;>first|omega|with_reducible refine isP ?_|conv=>whnf))|((with_reducible refine isV ?_);first|(refine ValX_toS X rfl Tryd.underlying22 Tryd.underlying5 Tryd.underlying9 hml (ArgSl.by 2 rfl) (by_spot 2 rfl) ?_; conv => whnf))|((with_reducible refine isW ?_;first|refine xwr_ok (by omega) (by omega) ?_|refine xwr_raw ?_);conv=>whnf)|((with_reducible refine isK ?_;first|refine xcv_i64 (by omega) (by omega) ?_|refine xcv_u64 (by omega) (by omega) ?_|refine xcv_u8 (by omega) (by omega) ?_|refine xcv_raw ?_);conv=>whnf)|((first|refine DrawX_s tabOk folOk ?_|refine DrawS_i (by kernel_rfl) ?_|with_reducible refine andX_i ?_ ?_)<;>conv=>whnf)|with_reducible exact rfl|((with_reducible first|refine xif_kt (by assumption) ?_|refine xif_kf (by assumption) ?_);conv=>whnf)|((with_reducible refine xif_s ?_ ?_)<;>(intro hb;(try simp (disch:=omega) only [hbS] at hb)<;>conv=>whnf)))
          all_goals try (exfalso; omega)
          exact Fin_pure rfl rfl trivial
theorem pict_awake : pictP 2 1 [1, 1] [] (1, 0) = [46, 64, 10] := by decide +kernel
def e45 : List EntT := [(0, 0, 3, 1), (-1, 2, -1, 0)]
theorem vE45 : vE e45 = true := by decide +kernel
theorem export_awake : exportS e45 = [48, 32, 48, 32, 51, 32, 49, 10, 45, 49, 32, 50, 32, 45, 49, 32, 48, 10] := by decide +kernel
set_option maxHeartbeats 4000000 in
theorem awake45_x : CallW Tryd.prog 7 [] p10W (B true) := by
  refine CallW.of Tryd.func7 rfl tabOk rfl rfl rfl (by simp [SV.wfs, SV.wf]) (by simp [SV.wfs, SV.wf]) fun w hpre => ?_
  have htm := fun {ob : List OB} => p10W.mem (C := ⟨Tryd.prog, tab, Tryd.f7.ntmps, w, fun _ => False, 0, id, false⟩) (ob := ob) hpre rfl
  have hp := pict_awake
  have hx := export_awake
  (conv=>whnf);repeat' (first|((with_reducible refine isC ?_);first|((first|(with_reducible refine isF 12 ?_);((refine CallX_w (Export_w (some ⟨bN, 0, none⟩) 2 e45 rfl (by decide)) (fun σ fp w hm => ⟨ArgSl.row 0 rfl σ fp w hm, htm σ fp w hm⟩) ?_; rw [vE45, if_pos rfl, hx]))|(with_reducible refine isF 8 ?_);((refine CallX_w (Picture_w 2 1 (some ⟨bN, 0, none⟩) 2 [1, 1] rfl (by decide) none 0 [] rfl (by decide) (1, 0)) (fun σ fp w hm => ⟨ArgSl.row 1 rfl σ fp w hm, ⟨rfl, by simp, by simp, fun h => (h rfl).elim⟩⟩) ?_; rw [hp])));conv=>whnf))|((with_reducible refine isV ?_);first|(refine ValX_sEq (r := true) rfl Tryd.underlying9 (by decide) ?_; conv => whnf))|((with_reducible refine isO ?_);first|((first|(refine OpX_build0 tabOk rfl rfl rfl ?_);intro bN|(refine OpX_build tabOk rfl rfl rfl rfl rfl ?_);intro bN);conv=>whnf))|with_reducible exact rfl|((with_reducible first|refine xif_kt (by assumption) ?_|refine xif_kf (by assumption) ?_);conv=>whnf)|((with_reducible refine xif_s ?_ ?_)<;>(intro hb;(try simp (disch:=omega) only [hbS] at hb)<;>conv=>whnf)))
  exact Fin_pure rfl rfl trivial
end Go.Proofs.YtadichckbogcjaaDoor.En
