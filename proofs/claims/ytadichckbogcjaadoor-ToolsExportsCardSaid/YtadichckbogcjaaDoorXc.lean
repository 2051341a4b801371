/- strings.Builder by the executor: its copy check, written out; WriteString, WriteByte, String. -/
import Derived.Test.YtadichckbogcjaaDoorXs
import Derived.WalkKit
import Derived.Laws.Externs
import Derived.Lib.Walk
import Derived.Lib.Builder
import Derived.Lib.UnsafeStr
import Derived.Test.YtadichckbogcjaaDoorRows
set_option linter.all false
namespace Go.Proofs.YtadichckbogcjaaDoor.En
open Go.RowKit
set_option maxRecDepth 100000

section
theorem bldSize : ∃ j, Tryd.prog.info? 54 = some j ∧ j.size = 2 := by
  have h : (Tryd.prog.info? 54).map (·.size) = some 2 := by kernel_rfl
  obtain ⟨j, hj, hs⟩ := Option.map_eq_some_iff.1 h
  exact ⟨j, hj, hs⟩
set_option maxHeartbeats 1000000 in
theorem ckc_used (b : Nat) (w : World) (h0 : w.cell? ⟨b, 0, none⟩ = some (.pointer (some ⟨b, 0, none⟩))) :
    Calls Tryd.prog 46 #[.pointer (some ⟨b, 0, none⟩)] w fun e w' => e = .returned (.tuple #[]) ∧ w' = w := by
  obtain ⟨j, hj, _⟩ := bldSize
  go_enter Tryd.func46, Tryd.ntmps46
  go_wp2
  rw [Lib.run_neq_ptr_same w _ Tryd.underlying52 hj]
  go_wp2
  go_end0
  exact ⟨rfl, rfl⟩
set_option maxHeartbeats 1000000 in
theorem ckc_fresh (b : Nat) (w : World) (h0 : w.cell? ⟨b, 0, none⟩ = some (.pointer none)) (hsh : w.shape? b = some (54, 2)) (hfz : w.frozen? ⟨b, 0, none⟩ = false) :
    Calls Tryd.prog 46 #[.pointer (some ⟨b, 0, none⟩)] w fun e w' => e = .returned (.tuple #[]) ∧ w' = w.setCell ⟨b, 0, none⟩ (.pointer (some ⟨b, 0, none⟩)) := by
  obtain ⟨j, hj, hjs⟩ := bldSize
  have hlies : liesAt Tryd.prog Tryd.prog.depth 54 (2 / Tryd.prog.cellsOf 54) 0 54 1 = true := by kernel_rfl
  go_enter Tryd.func46, Tryd.ntmps46
  go_wp2
  rw [Lib.run_to_unsafe w ⟨b, 0, none⟩ Tryd.underlying52 Tryd.underlying89 hj (by rw [hjs]; decide) hsh (Nat.zero_lt_succ 1)]
  simp only [Result.andThen]
  rw [Oper.upon_value]
  go_wp2
  rw [run_callFunc_extern Tryd.func63 (by kernel_rfl) (by kernel_rfl) (by kernel_rfl) (e := Extern.AbiNoEscape.same) (by kernel_rfl)]
  rw [Lib.run_noEscape]
  simp only [Result.andThen]
  rw [Oper.upon_value]
  go_wp2
  rw [Lib.run_from_unsafe w ⟨b, 0, none⟩ Tryd.underlying89 Tryd.underlying52 hj hsh hlies]
  simp only [Result.andThen]
  rw [Oper.upon_value]
  go_wp2
  go_end0
  exact ⟨rfl, rfl⟩
theorem CallX_ckc {C : Ctx} {ob : List OB} {K : SV → List OB → Prop} {x0 x1 : SV} (j : Nat) (hP : C.P = Tryd.prog) (hj : nth ob j = some (.box 54 [x0, x1])) (hx : x0 = .v (.pointer none) ∨ x0 = .p j 0)
    (hK : force (setN ob j (.box 54 [.p j 0, x1])) fun ob => K (.t []) ob) : CallX C 46 [.p j 0] ob K := by
  unfold CallX
  rw [hP]
  refine ⟨Entr.of Tryd.func46 rfl rfl, fun σ fp w hm => ?_⟩
  obtain ⟨hb, hF, hw, hjl⟩ := nth_box hm hj
  rw [force_eq, setN_eq] at hK
  have hcell : ∀ y : SV, w.heap[σ j]? = some (.cells (SV.vals σ [y, x1]).toArray 54 (0, 0)) → w.cell? ⟨σ j, 0, none⟩ = some (y.val σ) := fun y h => by
    simp [World.cell?, h, SV.vals]
  simp only [SV.vals, SV.val]
  rcases hx with rfl | rfl
  · refine (ckc_fresh (σ j) w (hcell _ hb) (by simp [World.shape?, hb, SV.vals]) (by simp [World.frozen?, hb])).mono ?_
    rintro e w' ⟨rfl, rfl⟩
    have hbl := heap_setCell_same w (σ j) 0 _ _ (.pointer (some ⟨σ j, 0, none⟩)) hb
    have hsame : ∀ q, q < w.heap.size → ¬ fp j q → (w.setCell ⟨σ j, 0, none⟩ (.pointer (some ⟨σ j, 0, none⟩))).heap[q]? = w.heap[q]? := fun q _ hnq => Below.heap_setCell w _ _ q fun e => hnq ((hF q).2 e)
    have hsz : (w.setCell ⟨σ j, 0, none⟩ (.pointer (some ⟨σ j, 0, none⟩))).heap.size = w.heap.size := World.size_setCell _ _ _
    have hM := hm.change (w' := w.setCell ⟨σ j, 0, none⟩ (.pointer (some ⟨σ j, 0, none⟩))) hjl (.box 54 [.p j 0, x1]) (fp j) ⟨by rw [hbl]; simp [SV.vals, SV.val], hF, ⟨hjl, hw.2⟩⟩ (fun i hi => .inl hi) (fun i hi => by rw [hsz]; exact hm.hi j hjl i hi) rfl rfl rfl (by rw [hsz]; exact Nat.le_refl _) hsame (fun _ => Nat.le_refl _)
    exact ⟨_, rfl, .t [], _, σ, _, hK, fun _ _ => rfl, by simp, rfl, trivial, hM, Frm.changed hjl (by simp) (fun i hi => .inl hi) (by rw [hsz]; exact Nat.le_refl _) hsame⟩
  · refine (ckc_used (σ j) w (hcell _ hb)).mono ?_
    rintro e w' ⟨rfl, rfl⟩
    have hset : ob.set j (.box 54 [.p j 0, x1]) = ob := by
      rw [nth_eq] at hj
      apply List.ext_getElem?
      intro i
      rw [List.getElem?_set]
      by_cases e : j = i
      · subst e
        simp [hjl, hj]
        exact (List.getElem?_eq_some_iff.1 hj).2.symm
      · simp [e]
    rw [hset] at hK
    exact ⟨_, rfl, .t [], ob, σ, fp, hK, fun _ _ => rfl, Nat.le_refl _, rfl, trivial, hm, Frm.below (Below.refl _ _)⟩
theorem strCells_u (bs : List UInt8) : Lib.strCells ⟨bs.toArray⟩ = (bs.map encU).flatten := by
  rw [encU_flat]
  rfl
theorem OpX_appS {C : Ctx} {ob : List OB} {k : SV → List OB → Prop} {o : Oper} {t u e : TypeId} {x y : Operand} {te : TI} {A : Option Addr} {n c m : Nat} {els : List (List Value)} {bs : List UInt8} (j : Nat) (hT : TabOk C.P C.T) (ho : o.op = .call ⟨.builtin .append, #[x, y], #[t, u]⟩) (hj : nth ob j = some (.row e 1 A n c els))
    (hs : slInfo C t = some (e, 1)) (hte : lookT C.T e = some te) (hu : C.P.underlying u = some .string) (hz0 : (C.P.info? e).bind (·.zero) = some (.int .u8 0)) (hb1 : te.byt = 1) (hm : bs.length = m) (hn : n + m ≤ 1000000000000)
    (hk : ∀ A' c', force (setN ob j (.row e 1 A' (n + m) c' (els ++ bs.map encU))) fun ob => k (.v (.slice A' (n + m) c')) ob) (hd : C.d = false := by rfl) : OpX C o [.v (.slice A n c), S bs] ob k := by
  subst hm
  unfold OpX
  intro σ fp w ρ hm hx
  obtain ⟨hu', te', hl, hz, hti, hid⟩ := slInfo_spec hT hs
  rw [hte] at hl
  cases hl
  obtain ⟨i, z, hi, hz', hzc, his, hib⟩ := hti.inf
  rw [hid] at hi
  rw [ho] at hx
  simp [Op.operands, Call.operands, SV.vals, SV.val] at hx
  obtain ⟨⟨hown, hlen, hsize, hone, hF⟩, hjl⟩ := nth_row hm hj
  rw [hi] at hz0
  have hz0 : i.zero = some (.int .u8 0) := hz0
  have hsz : (ByteArray.mk bs.toArray).size = bs.length := by simp [ByteArray.size]
  have his1 : i.size = 1 := by rw [his, hz]
  have hib1 : i.bytes = 1 := by rw [hib, hb1]
  obtain ⟨v', w', hr, ho', hg, _⟩ := Lib.run_append_own_string (P := C.P) w 0 t u o.type e i hu' hu hi hz0 his1 hib1 _ _ _ hown ⟨bs.toArray⟩ (by rw [hsz]; unfold maxLen; omega) (by rw [hsz]; omega) (Nat.zero_le _)
  rw [hsz, strCells_u] at ho'
  have hex : (execOp ρ o).run C.P w = .ok (.value v') w' := by
    simp [execOp, ho, resolve, invoke, builtin, hx.1, hx.2, hr]
  rw [hex]
  have hflat : (els ++ bs.map encU).flatten = els.flatten ++ (bs.map encU).flatten := by simp
  have hloc : ∀ g, v'.ownBlock = some g → (Value.slice A n c).ownBlock = some g ∨ w.heap.size ≤ g := by
    intro g hg'
    rcases hown.2 with ⟨h1, h2⟩ | ⟨g0, cap, cur, h1, hbg, hg0, hnc, hcm, hcs, htake⟩
    · obtain ⟨v2, w2, hr2, ho2, _, _⟩ := Lib.run_append_own_string (P := C.P) w w.heap.size t u o.type e i hu' hu hi hz0 his1 hib1 (Value.slice A n c) n els.flatten (by rw [h1, h2, List.eq_nil_of_length_eq_zero (show els.flatten.length = 0 by rw [flat_len hsize, hlen, h2, Nat.zero_mul])]; exact World.ownsRow_nil w _ e 1) ⟨bs.toArray⟩ (by rw [hsz]; unfold maxLen; omega) (by rw [hsz]; omega) (Nat.le_refl _)
      rw [hr] at hr2
      cases hr2
      exact .inr (ho2.lt g hg').1
    · rw [h1] at hr ⊢
      simp at h1
      obtain ⟨rfl, rfl⟩ := h1
      by_cases hroom : n + bs.length ≤ c
      · rw [Lib.run_append_room_string (P := C.P) w t u o.type e i hu' hu hi his1 g0 n c cur hg0 ⟨bs.toArray⟩ (by rw [hsz]; exact hroom) (by rw [hsz, hcs, Nat.mul_one]; exact hroom)] at hr
        cases hr
        exact .inl hg'
      · have holds : ∀ j u, els.flatten[j]? = some u → w.cell? ((⟨g0, 0, none⟩ : Addr).add j) = some u := hown.cells (g := g0) rfl
        rw [Lib.run_append_grow_string (P := C.P) w t u o.type e i _ hu' hu hi hz0 ⟨g0, 0, none⟩ n c els.flatten (by rw [his1, flat_len hsize, hlen]) holds ⟨bs.toArray⟩ (by rw [hsz]; omega) (by rw [hsz]; omega) (by rw [hib1]; exact growslice_fits (by rw [hsz]; omega) (by rw [hsz]; omega))] at hr
        cases hr
        right
        simp [Value.ownBlock] at hg'
        omega
  obtain ⟨A', c', rfl⟩ := ownsRow_slice ho'
  have hin : ∀ g, (Value.slice A' (n + bs.length) c').ownBlock = some g → fp j g ∨ w.heap.size ≤ g := by
    intro g hg'
    rcases hloc g hg' with h1 | h1
    · exact .inl ((hF g).2 h1)
    · exact .inr h1
  have hsame : ∀ g, g < w.heap.size → ¬ fp j g → w'.heap[g]? = w.heap[g]? := by
    intro g hg' hng
    exact hg.block g hg' (fun h => hng ((hF g).2 h.symm))
  have hM := hm.change (w' := w') hjl (.row e 1 A' (n + bs.length) c' (els ++ bs.map encU)) (fun i => (Value.slice A' (n + bs.length) c').ownBlock = some i) ⟨by rw [hflat]; exact ho', by simp [hlen], (by
    intro q hq
    rcases List.mem_append.1 hq with hq | hq
    · exact hsize q hq
    · obtain ⟨b, _, rfl⟩ := List.mem_map.1 hq
      rfl), (by
    intro q hq
    rw [hflat] at hq
    rcases List.mem_append.1 hq with hq | hq
    · exact hone q hq
    · rw [encU_flat] at hq
      obtain ⟨b, _, rfl⟩ := List.mem_map.1 hq
      rfl), fun i => Iff.rfl⟩ hin (by
    intro g hg'
    exact (ho'.lt g hg').2) hg.os hg.tape hg.output hg.size hsame (fun h => by rw [hd] at h; cases h)
  have hk' := hk A' c'
  rw [force_eq, setN_eq] at hk'
  exact ⟨.v (.slice A' (n + bs.length) c'), _, σ, _, hk', fun _ _ => rfl, by simp, rfl, trivial, hM, Frm.changed hjl (by simp) hin hg.size hsame⟩
/-- an object of which nothing is said any more -/
def deadO : OB := .res fun _ _ => True
theorem OpX_usd {C : Ctx} {ob : List OB} {A : Option Addr} {n c e : Nat} {els : List (List Value)} {o : Oper} {x : Operand} {t : TypeId} {k : SV → List OB → Prop} (j : Nat) (ho : o.op = .call ⟨.builtin .unsafeSliceData, #[x], #[t]⟩) (hj : nth ob j = some (.row e 1 A n c els)) (hn : n ≠ 0) (hk : k (.v (.pointer A)) ob) : OpX C o [.v (.slice A n c)] ob k := by
  unfold OpX
  intro σ fp w ρ hm hx
  obtain ⟨⟨hown, hlen, hsize, hone, hF⟩, hjl⟩ := nth_row hm hj
  rw [ho] at hx
  simp [Op.operands, Call.operands, SV.vals, SV.val] at hx
  rcases hown.2 with ⟨_, h2⟩ | ⟨g0, cap, cur, h1, hbg, hg0, hnc, hcm, hcs, htake⟩
  · exact (hn h2).elim
  · simp at h1
    obtain ⟨rfl, rfl⟩ := h1
    have hr := Lib.run_unsafeSliceData_row (P := C.P) (w := w) #[t] o.type ⟨g0, 0, none⟩ n c (by omega)
    have hex : (execOp ρ o).run C.P w = .ok (.value (.pointer (some ⟨g0, 0, none⟩))) w := by
      simp [execOp, ho, resolve, invoke, builtin, hx, hr]
    rw [hex]
    exact Goes.same (x := .v (.pointer (some ⟨g0, 0, none⟩))) hk trivial hm
theorem OpX_usd0 {C : Ctx} {ob : List OB} {n c : Nat} {o : Oper} {x : Operand} {t : TypeId} {k : SV → List OB → Prop} (ho : o.op = .call ⟨.builtin .unsafeSliceData, #[x], #[t]⟩) (hk : k (.v (.pointer none)) ob) : OpX C o [.v (.slice none n c)] ob k := by
  unfold OpX
  intro σ fp w ρ hm hx
  rw [ho] at hx
  simp [Op.operands, Call.operands, SV.vals, SV.val] at hx
  have hr := Lib.run_unsafeSliceData_nil (P := C.P) (w := w) #[t] o.type n c
  have hex : (execOp ρ o).run C.P w = .ok (.value (.pointer none)) w := by
    simp [execOp, ho, resolve, invoke, builtin, hx, hr]
  rw [hex]
  exact Goes.same (x := .v (.pointer none)) hk trivial hm
theorem OpX_us0 {C : Ctx} {ob : List OB} {A : Option Addr} {o : Oper} {x y : Operand} {t u : TypeId} {k : SV → List OB → Prop} (ho : o.op = .call ⟨.builtin .unsafeString, #[x, y], #[t, u]⟩) (hk : k (S []) ob) : OpX C o [.v (.pointer A), I 0] ob k := by
  unfold OpX
  intro σ fp w ρ hm hx
  rw [ho] at hx
  simp [Op.operands, Call.operands, SV.vals, SV.val] at hx
  have hr := Lib.run_unsafeString_none (P := C.P) (w := w) t u o.type A
  have hex : (execOp ρ o).run C.P w = .ok (.value (.string ⟨#[]⟩)) w := by
    simp [execOp, ho, resolve, invoke, builtin, hx.1, hx.2, hr]
    rfl
  rw [hex]
  exact Goes.same (x := S []) hk trivial hm
theorem OpX_us {C : Ctx} {ob : List OB} {A : Option Addr} {n c e : Nat} {bs : List UInt8} {o : Oper} {x y : Operand} {t u : TypeId} {k : SV → List OB → Prop} (j : Nat) (ho : o.op = .call ⟨.builtin .unsafeString, #[x, y], #[t, u]⟩) (ht : C.P.underlying t = some (.pointer e)) (hc1 : C.P.cellsOf e = 1)
    (hj : nth ob j = some (.row e 1 A n c (bs.map encU))) (hl : bs.length = n) (hn : n ≠ 0) (hn2 : n ≤ 1000000000000) (hk : force (setN ob j deadO) fun ob => k (S bs) ob) : OpX C o [.v (.pointer A), I n] ob k := by
  unfold OpX
  intro σ fp w ρ hm hx
  obtain ⟨⟨hown, hlen, hsize, hone, hF⟩, hjl⟩ := nth_row hm hj
  rw [ho] at hx
  simp [Op.operands, Call.operands, SV.vals, SV.val] at hx
  rw [force_eq, setN_eq] at hk
  rcases hown.2 with ⟨_, h2⟩ | ⟨g0, cap, cur, h1, hbg, hg0, hnc, hcm, hcs, htake⟩
  · exact (hn h2).elim
  · simp at h1
    obtain ⟨rfl, rfl⟩ := h1
    have hcell : ∀ q x, bs[q]? = some x → w.cell? ((⟨g0, 0, none⟩ : Addr).add q) = some (.int .u8 x.toNat) := fun q x hq => hown.cells (g := g0) rfl q _ (by
      rw [encU_flat, List.getElem?_map, hq]
      rfl)
    have hr := Lib.run_unsafeString_row (P := C.P) (w := w) t u o.type e ht hc1 g0 cur.size (by simp [World.shape?, hg0]) bs (by intro h; rw [h] at hl; exact hn hl.symm) (by rw [hcs, hl]; omega) (by omega) hcell
    rw [hl] at hr
    have hex : (execOp ρ o).run C.P w = .ok (.value (.string ⟨bs.toArray⟩)) (w.freeze ⟨g0, 0, none⟩ n) := by
      simp [execOp, ho, resolve, invoke, builtin, hx.1, hx.2, hr]
    rw [hex]
    have hsz : (w.freeze ⟨g0, 0, none⟩ n).heap.size = w.heap.size := by
      unfold World.freeze
      split <;> simp
    have hsame : ∀ q, q < w.heap.size → ¬ fp j q → (w.freeze ⟨g0, 0, none⟩ n).heap[q]? = w.heap[q]? := by
      intro q hq hnq
      have hne : g0 ≠ q := fun e => hnq ((hF q).2 (by rw [← e]; rfl))
      unfold World.freeze
      split
      · rfl
      · simp [Array.getElem?_modify, hne]
    have hM := hm.change (w' := w.freeze ⟨g0, 0, none⟩ n) hjl deadO (fp j) ⟨trivial, fun _ _ => trivial⟩ (fun i hi => .inl hi) (fun i hi => by rw [hsz]; exact hm.hi j hjl i hi) (by unfold World.freeze; split <;> rfl) (by unfold World.freeze; split <;> rfl) (by unfold World.freeze; split <;> rfl) (by rw [hsz]; exact Nat.le_refl _) hsame (fun _ => by unfold World.freeze; split <;> exact Nat.le_refl _)
    exact ⟨S bs, _, σ, _, hk, fun _ _ => rfl, by simp, rfl, trivial, hM, Frm.changed hjl (by simp) (fun i hi => .inl hi) (by rw [hsz]; exact Nat.le_refl _) hsame⟩
/-! ### the builder: its box and its row -/
abbrev bldB (x0 : SV) (A : Option Addr) (n c : Nat) : OB := .box 54 [x0, .v (.slice A n c)]
abbrev bldR (A : Option Addr) (n c : Nat) (l : List UInt8) : OB := .row 5 1 A n c (l.map encU)
theorem WriteString_m (x0 : SV) (hx : x0 = .v (.pointer none) ∨ x0 = .p 0 0) (A : Option Addr) (n c : Nat) (l s : List UInt8) (m : Nat) (hs : s.length = m) (hn : n + m ≤ 1000000000000) :
    CallM Tryd.prog 28 [.p 0 0, S s] (fun _ _ => True) [bldB x0 A n c, bldR A n c l] (fun _ : Option Addr × Nat => .t [I m, .v .nilIface]) (fun q => [bldB (.p 0 0) q.1 (n + m) q.2, bldR q.1 (n + m) q.2 (l ++ s)]) := by
  subst hs
  refine CallM.of (m := 2) Tryd.func28 rfl tabOk rfl rfl rfl rfl (by simp [SV.wfs, SV.wf]) fun w M π _ => ?_
  (conv=>whnf);repeat' (first|((with_reducible refine isC ?_);first|(((with_reducible refine isF 46 ?_);((refine CallX_ckc 0 rfl rfl hx ?_)));conv=>whnf))|((with_reducible refine isV ?_);first|(refine ValX_sLen rfl Tryd.underlying9 ?_; conv => whnf))|((with_reducible refine isO ?_);first|(refine OpX_appS 1 tabOk rfl rfl rfl rfl Tryd.underlying9 (by kernel_rfl) rfl rfl hn ?_; intro A2 c2; conv => whnf))|with_reducible exact rfl|((with_reducible first|refine xif_kt (by assumption) ?_|refine xif_kf (by assumption) ?_);conv=>whnf)|((with_reducible refine xif_s ?_ ?_)<;>(intro hb;(try simp (disch:=omega) only [hbS] at hb)<;>conv=>whnf)))
  exact Fin_m (A2, c2) [0, 1] ⟨rfl, by simp [SV.wf, SV.wfs]⟩ ⟨⟨rfl, rfl, by simp [SV.wf, SV.wfs]⟩, ⟨rfl, rfl, rfl, rfl, rfl, by simp⟩, trivial⟩ (by decide) rfl
theorem WriteByte_m (x0 : SV) (hx : x0 = .v (.pointer none) ∨ x0 = .p 0 0) (A : Option Addr) (n c : Nat) (l : List UInt8) (b : UInt8) (hn : n + 1 ≤ 1000000000000) :
    CallM Tryd.prog 39 [.p 0 0, .v (.int .u8 (b.toNat : Nat))] (fun _ _ => True) [bldB x0 A n c, bldR A n c l] (fun _ : Option Addr × Nat => .v .nilIface) (fun q => [bldB (.p 0 0) q.1 (n + 1) q.2, bldR q.1 (n + 1) q.2 (l ++ [b])]) := by
  refine CallM.of (m := 2) Tryd.func39 rfl tabOk rfl rfl rfl rfl (by simp [SV.wfs, SV.wf]) fun w M π _ => ?_
  (conv=>whnf);repeat' (first|((with_reducible refine isC ?_);first|(((with_reducible refine isF 46 ?_);((refine CallX_ckc 0 rfl rfl hx ?_)));conv=>whnf))|((with_reducible refine isO ?_);first|((refine OpX_append 1 tabOk rfl rfl rfl rfl (ArgSl.row 2 rfl) (by decide) ?_ ?_ ?_)<;>first|omega|(dsimp only;omega)|(intro A' c';conv=>whnf))|((first|(refine OpX_build0 tabOk rfl rfl rfl ?_);intro bN|(refine OpX_build tabOk rfl rfl rfl rfl rfl ?_);intro bN);conv=>whnf))|with_reducible exact rfl|((with_reducible first|refine xif_kt (by assumption) ?_|refine xif_kf (by assumption) ?_);conv=>whnf)|((with_reducible refine xif_s ?_ ?_)<;>(intro hb;(try simp (disch:=omega) only [hbS] at hb)<;>conv=>whnf)))
  exact Fin_m (A', c') [0, 1] ⟨rfl, by simp [SV.wf, SV.wfs]⟩ ⟨⟨rfl, rfl, by simp [SV.wf, SV.wfs]⟩, ⟨rfl, rfl, rfl, rfl, rfl, by simp; rfl⟩, trivial⟩ (by decide) rfl
theorem Fin_dead {C : Ctx} {R : Ending → World → Prop} {x : SV} {ob : List OB} (j : Nat) (h : Fin C R x (ob.set j deadO)) : Fin C R x ob := by
  unfold Fin at *
  intro σ fp w hm hw
  by_cases hj : j < ob.length
  · exact h σ fp w (by
      have hM := hm.change (w' := w) hj deadO (fp j) ⟨trivial, fun _ _ => trivial⟩ (fun i hi => .inl hi) (fun i hi => hm.hi j hj i hi) rfl rfl rfl (Nat.le_refl _) (fun _ _ _ => rfl) (fun _ => Nat.le_refl _)
      have e : (fun k => if k = j then fp j else fp k) = fp := by
        funext k
        by_cases e : k = j
        · rw [if_pos e, e]
        · rw [if_neg e]
      rwa [e] at hM) (by simpa using hw)
  · rw [List.set_eq_of_length_le (by omega)] at h
    exact h σ fp w hm hw
theorem BString_m (A : Option Addr) (n c : Nat) (l : List UInt8) (hl : l.length = n) (h0 : n = 0 → A = none) (hn : n ≤ 1000000000000) (x0 : SV) (hx : x0 = .v (.pointer none) ∨ x0 = .p 0 0) :
    CallM Tryd.prog 30 [.p 0 0] (fun _ _ => True) [bldB x0 A n c, bldR A n c l] (fun _ : Unit => S l) (fun _ => [deadO, deadO]) := by
  by_cases h : n = 0
  · obtain rfl := h0 h
    subst h
    obtain rfl := List.eq_nil_of_length_eq_zero hl
    refine CallM.of (m := 2) Tryd.func30 rfl tabOk rfl rfl rfl rfl (by simp [SV.wfs, SV.wf]) fun w M π _ => ?_
    (conv=>whnf);repeat' (first|((with_reducible refine isO ?_);first|(refine OpX_usd0 rfl ?_; conv => whnf)|(refine OpX_us0 rfl ?_; conv => whnf))|((first|refine DrawX_s tabOk folOk ?_|refine DrawS_i (by kernel_rfl) ?_|with_reducible refine andX_i ?_ ?_)<;>conv=>whnf)|with_reducible exact rfl|((with_reducible first|refine xif_kt (by assumption) ?_|refine xif_kf (by assumption) ?_);conv=>whnf)|((with_reducible refine xif_s ?_ ?_)<;>(intro hb;(try simp (disch:=omega) only [hbS] at hb)<;>conv=>whnf)))
    refine Fin_dead 0 (Fin_dead 1 ?_)
    exact Fin_m () [0, 1] ⟨rfl, by simp [SV.wf, SV.wfs]⟩ ⟨fun _ _ h => h, fun _ _ h => h, trivial⟩ (by decide) rfl
  · refine CallM.of (m := 2) Tryd.func30 rfl tabOk rfl rfl rfl rfl (by simp [SV.wfs, SV.wf]) fun w M π _ => ?_
    (conv=>whnf);repeat' (first|((with_reducible refine isO ?_);first|(refine OpX_usd 1 rfl rfl h ?_; conv => whnf)|(refine OpX_us 1 rfl Tryd.underlying73 (by kernel_rfl) rfl hl h hn ?_; conv => whnf))|((first|refine DrawX_s tabOk folOk ?_|refine DrawS_i (by kernel_rfl) ?_|with_reducible refine andX_i ?_ ?_)<;>conv=>whnf)|with_reducible exact rfl|((with_reducible first|refine xif_kt (by assumption) ?_|refine xif_kf (by assumption) ?_);conv=>whnf)|((with_reducible refine xif_s ?_ ?_)<;>(intro hb;(try simp (disch:=omega) only [hbS] at hb)<;>conv=>whnf)))
    refine Fin_dead 0 ?_
    exact Fin_m () [0, 1] ⟨rfl, by simp [SV.wf, SV.wfs]⟩ ⟨fun _ _ h => h, fun _ _ h => h, trivial⟩ (by decide) rfl
end
end Go.Proofs.YtadichckbogcjaaDoor.En
