/- slices.Collect over entries, against whatever iterator. -/
import Derived.Test.YtdjimfngnhnhnaaTb
set_option linter.all false
namespace Go.Proofs.Ytdjimfngnhnhnaa.En
open Go.RowKit Go.Shelf Go.Maps Go.MapKept
attribute [local go_sem] Oper.semAt_some

theorem cells_new (w : World) (xs : List Value) (t : TypeId) : ∀ j u, xs[j]? = some u → (w.alloc (.cells xs.toArray t)).cell? ((⟨w.heap.size, 0, none⟩ : Addr).add j) = some u := by
  intro j u hj
  have e : ((⟨w.heap.size, 0, none⟩ : Addr).add j) = ⟨w.heap.size, j, none⟩ := by
    unfold Addr.add
    split
    · rename_i h
      rw [h]
    · simp
  rw [e]
  unfold World.cell?
  rw [World.alloc_heap_new]
  simpa using hj
theorem infoE : (Try.prog.info? 36).map (fun i => (i.zero, i.size, i.bytes)) = some (some (.agg #[.int .i64 0, .int .i64 0, .int .i64 0, .int .i64 0]), 4, 32) := by kernel_rfl

def colI (w : World) (B : Nat) (pre : List EntT) (W : World) : Prop :=
  (∃ v, Boxed W B 24 v ∧ W.ownsRow w.heap.size 36 4 v pre.length ((pre.map encE).flatten) ∧ (v = .slice none 0 0 ↔ pre = [])) ∧ Below w.heap.size w W

set_option maxRecDepth 100000 in
set_option maxHeartbeats 2000000 in
theorem appendSeq_in (F : Fence) (n : Nat) (hf : F.fn 138) (hro : F.round = none) (hn : 3 ≤ n) (g : Nat) (lb : Array Value) (hFg : F.fn g) (eg : ∀ args w, (callFunc g args).run Try.prog w = .ok (.enter g args) w)
    (S Sp : List EntT → Prop) (N : Nat) (hN : N ≤ 1000000000) (w : World) (hseq : SeqStopsK F (n - 1) Try.prog g lb (fun x : EntT => #[encA x]) KeepsWalks S Sp N w) :
    CallsIn F n Try.prog 138 #[.slice none 0 0, .func (.func g) #[] lb] w fun e w' => ∃ (v : Value) (ys : List EntT), e = .returned v ∧ S ys ∧ w'.ownsRow w.heap.size 36 4 v ys.length ((ys.map encE).flatten) ∧ (v = .slice none 0 0 ↔ ys = []) ∧ Below w.heap.size w w' := by
  have h1 : 1 ≤ n := by omega
  obtain ⟨i0, hi, hz0, hz1, hz2⟩ := info_parts infoE
  refine callsIn_of_wp_marks Try.func138 rfl hf ?_ hro
  simp only [Try.ntmps138, List.size_toArray, List.length_cons, List.length_nil, Nat.reduceAdd, Nat.reduceSub, Array.replicate_succ, Array.replicate_zero, List.push_toArray, List.append_toArray, List.nil_append, List.cons_append]
  gi_wp2
  obtain ⟨W0, hW0⟩ : ∃ W0, w.alloc (.cells #[.slice none 0 0] 24) = W0 := ⟨_, rfl⟩
  have hs0 : W0.heap.size = w.heap.size + 1 := by rw [← hW0]; simp
  have hv0 : Boxed W0 w.heap.size 24 (.slice none 0 0) := by rw [← hW0]; exact Boxed.new w _ _
  have hb0 : Below w.heap.size w W0 := by rw [← hW0]; exact (Below.refl _ w).alloc (Nat.le_refl _) _
  rw [hW0]
  refine wpIn_rangeFunc_ownH hro h1 (gf := g) (lb := lb) rfl hFg eg hseq walksK_t walksK_b hb0 (fun _ => rfl) (colI w w.heap.size) (fun _ _ _ => False) ?hI (fun c s A B row h _ _ => h.elim) ?h0
    (fun x a' W => ∃ Bx, w.heap.size < Bx ∧ W.heap[Bx]? = some (.cells (encE x).toArray 36 (0, 0)) ∧ a' = { tmps := #[.slice none 0 0, .func (.func g) #[] lb, .pointer (some ⟨w.heap.size, 0, none⟩), undef, .slice none 0 0, .pointer (some ⟨Bx, 0, none⟩), .func (.func g) #[] lb, encA x, undef, undef, undef, undef, undef], defers := [] }) ?hAx ?assign ?body ?done ?stop
  case hI => exact OwnFrom.and (Own.from (holdsRow_own w.heap.size w.heap.size 24 36 4 (fun pre : List EntT => pre.length) (fun pre => (pre.map encE).flatten) (fun pre v => v = .slice none 0 0 ↔ pre = [])) _) (ownFrom_below (Nat.le_refl _) (by omega))
  case h0 =>
    exact ⟨⟨_, hv0, World.ownsRow_nil _ _ _ _, by simp⟩, hb0⟩
  case hAx =>
    rintro x a' _ A B row ⟨Bx, h2, h3, h4⟩ hg hr
    refine ⟨Bx, h2, (hg.block Bx (Array.getElem?_eq_some_iff.1 h3).1 fun e => ?_).trans h3, h4⟩
    obtain ⟨_, o, ho, hc⟩ := hr Bx e.symm
    rw [h3] at ho
    cases ho
    cases hc
  case assign =>
    intro l pre x W K hi hK
    gi_wp2
    have hlt := hi.1.elim fun v h => h.1.lt
    refine hK _ _ ((KeepsOthers.alloc _ _).from _) (KeepsWalks.alloc _ _) ?_ ⟨W.heap.size, hlt, World.alloc_heap_new _ _, rfl⟩
    obtain ⟨⟨v, hv, hrow, hnil⟩, hB⟩ := hi
    exact ⟨⟨v, hv.alloc _, hrow.alloc _, hnil⟩, hB.alloc hB.size _⟩
  case body =>
    rintro l pre x a' W hl ⟨r, hr⟩ ⟨⟨v, hv, hrow, hnil⟩, hB⟩ ⟨Bx, hBx, hbx, rfl⟩ hlen
    have hc := hv.cell
    have hf := hv.frozen
    have hle := hB.size
    have hBl := hv.lt
    have c0 : W.cell? ⟨Bx, 0, none⟩ = some (.int .i64 x.1) := by simp [World.cell?, hbx, encE]
    have c1 : W.cell? ⟨Bx, 1, none⟩ = some (.int .i64 x.2.1) := by simp [World.cell?, hbx, encE]
    have c2 : W.cell? ⟨Bx, 2, none⟩ = some (.int .i64 x.2.2.1) := by simp [World.cell?, hbx, encE]
    have c3 : W.cell? ⟨Bx, 3, none⟩ = some (.int .i64 x.2.2.2) := by simp [World.cell?, hbx, encE]
    have hxl : Bx < W.heap.size := (Array.getElem?_eq_some_iff.1 hbx).1
    gi_wp2_with (first
      | (gi_at_builtin; refine wpListIn_append_own _ rfl _ _ 24 rfl w.heap.size 36 i0 _ 4 32 Try.underlying24 hi hz0 hz1 hz2 rfl (by decide) _ _ _ rfl (hrow.alloc _) ⟨W.heap.size, 0, none⟩ 1 1 (encE x) rfl rfl (cells_new _ _ _) ?_ (by unfold maxLen; omega) (by omega) (by have := hB.size; simp; omega) ?_; (focus (intro u hu; simp [encE] at hu; rcases hu with rfl | rfl | rfl | rfl <;> rfl)); intro v' w1 hown' hgrow _; obtain ⟨g', cap', rfl⟩ := ownsRow_succ hown'; obtain ⟨hv1, hv2, hr2, hk2, hb2⟩ := hv.appended (by decide) hrow hB.size (Nat.le_refl _) hown' hgrow; have hc1 := hv1.cell; have hf1 := hv1.frozen)
      | gi_in)
    refine ⟨hk2.from _, ⟨hk2.size, fun k o hk ho => hk2.same k o hk (Obj.not_cells_of_walk ho)⟩, ⟨_, hv2, ?_, by simp⟩, hB.trans hb2⟩
    simpa using hr2
  case done =>
    rintro D ys W hD hS ⟨⟨v, hv, hrow, hnil⟩, hB⟩ hK
    have hc := hv.cell
    have hf := hv.frozen
    have hBl := hv.lt
    gi_wp2
    refine ⟨by simp, .inl ⟨_, _, rfl, run_takeDeferred hK, ?_⟩⟩
    exact ⟨_, results_tmp rfl _ _ _, v, ys, rfl, hS, ownsRow_putObj hrow _ hK rfl, hnil, hB.trans (belowK_b (w := w) (Nat.le_refl _) W D _ _ (by omega) hK rfl rfl)⟩
  case stop =>
    intro D c pre W _ _ h
    exact h.elim

set_option maxHeartbeats 1000000 in
theorem collect_in (F : Fence) (n : Nat) (hf : F.fn 105) (hf2 : F.fn 138) (hro : F.round = none) (hn : 4 ≤ n) (g : Nat) (lb : Array Value) (hFg : F.fn g) (eg : ∀ args w, (callFunc g args).run Try.prog w = .ok (.enter g args) w)
    (S Sp : List EntT → Prop) (N : Nat) (hN : N ≤ 1000000000) (w : World) (hseq : SeqStopsK F (n - 1 - 1) Try.prog g lb (fun x : EntT => #[encA x]) KeepsWalks S Sp N w) :
    CallsIn F n Try.prog 105 #[.func (.func g) #[] lb] w fun e w' => ∃ (v : Value) (ys : List EntT), e = .returned v ∧ S ys ∧ w'.ownsRow w.heap.size 36 4 v ys.length ((ys.map encE).flatten) ∧ (v = .slice none 0 0 ↔ ys = []) ∧ Below w.heap.size w w' := by
  have h1 : 1 ≤ n := by omega
  refine callsIn_of_wp Try.func105 rfl hf ?_ hro
  simp only [Try.ntmps105, List.size_toArray, List.length_cons, List.length_nil, Nat.reduceAdd, Nat.reduceSub, Array.replicate_succ, Array.replicate_zero, List.push_toArray, List.append_toArray, List.nil_append, List.cons_append]
  gi_wp2_with (gi_at_call 138; refine (appendSeq_in F (n - 1) hf2 hro (by omega) g lb hFg eg S Sp N hN _ hseq).mono ?_; rintro e w' ⟨v, ys, rfl, hS, hrow, hnil, hb⟩)
  go_ret
  exact ⟨v, ys, rfl, hS, hrow, hnil, hb⟩
/-- slices.Collect of maps.Values of a tally: the entries, in some order -/
theorem collect_any (Bm b : Nat) (L : List EntT) (hL : L.length ≤ 1000000000) (w : World) (hBm : Bm < w.heap.size) (hm : w.cell? ⟨Bm, 0, none⟩ = some (.map (some b))) (hT : TalAt w b L) :
    Calls Try.prog 105 #[.func (.func 139) #[] #[.pointer (some ⟨Bm, 0, none⟩)]] w fun e w' =>
      ∃ (v : Value) (ys : List EntT), e = .returned v ∧ ys.Perm L ∧ w'.ownsRow w.heap.size 36 4 v ys.length ((ys.map encE).flatten) ∧ (v = .slice none 0 0 ↔ ys = []) ∧ Below w.heap.size w w' :=
  callsIn_wide.1 (collect_in Fence.wide 9 trivial trivial rfl (by decide) _ _ trivial (enters_of Try.func139 (by kernel_rfl) rfl) (fun xs => xs.Perm L) (fun _ => True) L.length hL w (values_stops Fence.wide _ trivial rfl (by decide) Bm b L w hBm hm hT))
end Go.Proofs.Ytdjimfngnhnhnaa.En
