/- strings.Cut, strings.Split, strconv.Atoi by the kit's contracts. -/
import Derived.Test.YtadichckbogcjaaDoorXt
import Derived.Test.YtadichckbogcjaaDoorLyCut
import Derived.Test.YtadichckbogcjaaDoorLySplit
import Derived.Test.YtadichckbogcjaaDoorLyAtoi
import Derived.Shelf.Strings.Shaped
import Derived.Shelf.Strings.Split
import Derived.Shelf.Strconv.AtoiAll
import Derived.WideLaws
set_option linter.all false
namespace Go.Proofs.YtadichckbogcjaaDoor.En
open Go.RowKit
set_option maxRecDepth 100000

/-- what the library's functions ask of the world -/
structure stW (w : World) : Prop where
  p10 : p10W w
  ml : ∃ m, w.cell? ⟨0, 0, none⟩ = some (.int .i64 m)
  es : ∃ t p, w.cell? ⟨1, 0, none⟩ = some (.iface t p)
  er : ∃ t p, w.cell? ⟨2, 0, none⟩ = some (.iface t p)
theorem cell_keep {w w' : World} {g : Nat} {v : Value} (h : w.cell? ⟨g, 0, none⟩ = some v) (hs : g < w.heap.size → w'.heap[g]? = w.heap[g]?) : w'.cell? ⟨g, 0, none⟩ = some v := by
  have hlt : g < w.heap.size := by
    rcases Nat.lt_or_ge g w.heap.size with h' | h'
    · exact h'
    · simp [World.cell?, Array.getElem?_eq_none h'] at h
  unfold World.cell? at *
  rw [hs hlt]
  exact h
theorem stW.keep {w w' : World} (h : stW w) (hs : ∀ i, i < w.heap.size → w'.heap[i]? = w.heap[i]?) : stW w' := by
  obtain ⟨m, hm⟩ := h.ml
  obtain ⟨t, p, he⟩ := h.es
  obtain ⟨t2, p2, he2⟩ := h.er
  exact ⟨h.p10.at (hs _ h.p10.lt), ⟨m, cell_keep hm (hs _)⟩, ⟨t, p, cell_keep he (hs _)⟩, ⟨t2, p2, cell_keep he2 (hs _)⟩⟩
theorem stW.mem {C : Ctx} {ob : List OB} (h : stW C.w0) (hM : C.M = fun _ => False) : ∀ σ fp w, Mem C σ fp ob w → stW w := by
  intro σ fp w hm
  exact h.keep fun i hi => hm.kept.block i hi (by rw [hM]; exact id)
/-! ### contracts -/
theorem Cut_w (s sep : List UInt8) (hs : s.length < 4294967281) : CallW Tryd.prog 31 [S s, S sep] stW (.t [S (Lib.cut s sep).1, S (Lib.cut s sep).2.1, B (Lib.cut s sep).2.2]) := by
  refine ⟨Entr.of Tryd.func31 rfl rfl, by simp [SV.wf, SV.wfs], fun σ w hp => ?_⟩
  obtain ⟨m, hm⟩ := hp.ml
  refine (Any.strings_Cut { Cut with } ⟨s.toArray⟩ ⟨sep.toArray⟩ m w (by simpa [ByteArray.size] using hs) hm).mono ?_
  rintro e w' ⟨rfl, n, rfl⟩
  exact ⟨rfl, rfl, rfl, rfl, Nat.le_refl _, fun i hi => rfl⟩
/-- the words of a string -/
def wordsF (s sep : List UInt8) : List (List UInt8) := Lib.splitK sep 0 (Lib.countB ⟨s.toArray⟩ ⟨sep.toArray⟩) s
theorem words_len (s sep : List UInt8) (h : 1 ≤ sep.length) : (wordsF s sep).length = Lib.countB ⟨s.toArray⟩ ⟨sep.toArray⟩ + 1 := by
  have := Lib.splitB_all ⟨sep.toArray⟩ (by simpa [ByteArray.size] using h) 0 _ ⟨s.toArray⟩ rfl
  have h2 := congrArg List.length (Lib.splitB_data ⟨sep.toArray⟩ 0 (Lib.countB ⟨s.toArray⟩ ⟨sep.toArray⟩) ⟨s.toArray⟩)
  rw [List.length_map] at h2
  unfold wordsF
  rw [← this, h2]
theorem words_val (s sep : List UInt8) : (Lib.splitB ⟨sep.toArray⟩ 0 (Lib.countB ⟨s.toArray⟩ ⟨sep.toArray⟩) ⟨s.toArray⟩).map Value.string = (wordsF s sep).map fun b => Value.string ⟨b.toArray⟩ := by
  have h2 := Lib.splitB_data ⟨sep.toArray⟩ 0 (Lib.countB ⟨s.toArray⟩ ⟨sep.toArray⟩) ⟨s.toArray⟩
  unfold wordsF
  have h3 : Lib.splitK sep 0 (Lib.countB ⟨s.toArray⟩ ⟨sep.toArray⟩) s = (Lib.splitB ⟨sep.toArray⟩ 0 (Lib.countB ⟨s.toArray⟩ ⟨sep.toArray⟩) ⟨s.toArray⟩).map (·.data.toList) := h2.symm
  rw [h3, List.map_map]
  refine List.map_congr_left fun b _ => ?_
  obtain ⟨⟨l⟩⟩ := b
  rfl
theorem Split_r (s sep : List UInt8) (hs : s.length < 1000000000) (h1 : 1 ≤ sep.length) (hn : (wordsF s sep).length ≤ 1000000001) :
    CallR Tryd.prog 32 [S s, S sep] stW 9 1 ((wordsF s sep).map fun b => [Value.string ⟨b.toArray⟩]) (fun A c => .v (.slice A (wordsF s sep).length c)) := by
  refine ⟨Entr.of Tryd.func32 rfl rfl, fun _ _ => by simp [SV.wf], by simp; omega, ?_, ?_, fun σ w hp => ?_⟩
  · intro q hq
    obtain ⟨b, _, rfl⟩ := List.mem_map.1 hq
    rfl
  · intro q hq
    obtain ⟨l, hl, hq⟩ := List.mem_flatten.1 hq
    obtain ⟨b, _, rfl⟩ := List.mem_map.1 hl
    simp at hq
    subst hq
    rfl
  · obtain ⟨m, hm⟩ := hp.ml
    have hi9 : (Tryd.prog.info? 9).map (fun i => (i.zero, i.size, i.bytes)) = some (some (.string ByteArray.empty), 1, 16) := by kernel_rfl
    refine (Any.strings_Split { Split with } hi9 ⟨s.toArray⟩ ⟨sep.toArray⟩ m w (by simpa [ByteArray.size] using (by omega : s.length < 4294967281)) hm (by simpa [ByteArray.size] using h1)).mono ?_
    rintro e w' ⟨rfl, rfl⟩
    rw [words_val, ← words_len s sep h1]
    refine ⟨some ⟨w.heap.size, 0, none⟩, (wordsF s sep).length, rfl, ?_, (Below.refl _ _).alloc (Nat.le_refl _) _⟩
    have hfl : ((wordsF s sep).map fun b => [Value.string ⟨b.toArray⟩]).flatten = (wordsF s sep).map fun b => Value.string ⟨b.toArray⟩ := by
      generalize wordsF s sep = L
      induction L with
      | nil => rfl
      | cons x r ih => simp [ih]
    rw [hfl, List.length_map]
    have := World.ownsRow_lit (base := w.heap.size) (e := 9) (size := 1) w ((wordsF s sep).map fun b => Value.string ⟨b.toArray⟩).toArray (wordsF s sep).length (Nat.le_refl _) (by simp [maxLen]; omega) (by simp)
    rw [show Split_ren.t 9 = 9 from rfl]
    simpa using this
theorem Atoi_w (s : List UInt8) (hs : s.length < 1000000000) (v : Int) (h : Lib.atoiAll s = .ok v) : CallW Tryd.prog 33 [S s] stW (.t [I v, .v .nilIface]) := by
  refine ⟨Entr.of Tryd.func33 rfl rfl, by simp [SV.wf, SV.wfs], fun σ w hp => ?_⟩
  refine (Any.strconv_Atoi_ok Atoi ⟨s.toArray⟩ (by simp [ByteArray.size]; omega) v h w).mono ?_
  rintro e w' ⟨rfl, rfl | ⟨t, rfl⟩⟩
  · exact ⟨rfl, Below.refl _ _⟩
  · refine ⟨rfl, rfl, rfl, rfl, ?_, fun i hi => Lib.bytesWorld_at_old _ _ _ _ hi⟩
    rw [Lib.bytesWorld_size]
    omega
theorem AtoiE_m (s : List UInt8) (hs : s.length < 1000000000) (h : ∀ v, Lib.atoiAll s ≠ .ok v) :
    CallM Tryd.prog 33 [S s] (fun w _ => stW w) [] (fun q : Int × TypeId × Nat => .t [I q.1, .v (.iface q.2.1 (.pointer (some ⟨q.2.2, 0, none⟩)))]) (fun _ => []) := by
  refine ⟨Entr.of Tryd.func33 rfl rfl, by simp [SV.wf, SV.wfs], fun σ fp w hm hp => ?_⟩
  obtain ⟨t, p, he⟩ := hp.es
  obtain ⟨t2, p2, he2⟩ := hp.er
  rcases hr : Lib.atoiAll s with v | _ | _
  · exact absurd hr (h v)
  · have hc := Any.strconv_Atoi_syntax Atoi ⟨s.toArray⟩ (by simp [ByteArray.size]; omega) hr (.iface t p) w he (.inr ⟨t, p, rfl⟩)
    refine hc.mono ?_
    rintro e w' ⟨N, rfl, _, _, hb⟩
    exact ⟨(_, _, N), σ, fp, rfl, by simp [SV.wf, SV.wfs], hm.below hb fun h => by cases h⟩
  · have hc := Any.strconv_Atoi_range Atoi ⟨s.toArray⟩ (by simp [ByteArray.size]; omega) hr (.iface t2 p2) w he2 (.inr ⟨t2, p2, rfl⟩)
    refine hc.mono ?_
    rintro e w' ⟨N, rfl, _, _, hb⟩
    exact ⟨(_, _, N), σ, fp, rfl, by simp [SV.wf, SV.wfs], hm.below hb fun h => by cases h⟩
/-- an interface value against nil -/
theorem ValX_ifNe {C : Ctx} {ob : List OB} {k : SV → Prop} {o : Oper} {x : Operand} {t t' : TypeId} (ho : o.op = .binOp .neq t x (.const .nilIface) t') (ht : C.P.underlying t = some (.interface (C.P.methodsAt t))) (v : Value) (b : Bool)
    (hv : (v = .nilIface ∧ b = false) ∨ (∃ u p, v = .iface u p ∧ b = true)) (hk : k (.v (.bool b))) : ValX C o [.v v, .v .nilIface] ob k := by
  unfold ValX
  intro σ fp w ρ hm hx
  rw [ho] at hx
  simp [Op.operands, SV.vals, SV.val] at hx
  refine ⟨_, hk, ?_, trivial⟩
  rcases hv with ⟨rfl, rfl⟩ | ⟨u, p, rfl, rfl⟩
  · have hq : (eqGuard .neq t x (.const .nilIface) .nilIface .nilIface).run C.P w = .ok () w := by
      unfold eqGuard
      simp
    have hc : (binOp .neq t .nilIface .nilIface).run C.P w = .ok (.bool false) w := by
      simp only [binOp]
      simp [run_equal_nil_nil w t ht]
    simp only [execOp, ho, hx.1, hx.2, Sem.run_bind, hq, hc, Result.andThen_ok, Sem.run_pure]
    rfl
  · have hq : (eqGuard .neq t x (.const .nilIface) (.iface u p) .nilIface).run C.P w = .ok () w := by
      unfold eqGuard
      rfl
    have hc : (binOp .neq t (.iface u p) .nilIface).run C.P w = .ok (.bool true) w := by
      simp only [binOp]
      simp [run_equal_held_nil w t u p ht]
    simp only [execOp, ho, hx.1, hx.2, Sem.run_bind, hq, hc, Result.andThen_ok, Sem.run_pure]
    rfl
end Go.Proofs.YtadichckbogcjaaDoor.En
