/- Opening arguments: a slice of bytes; a plan (two integers and a slice of bytes). -/
import Derived.Test.YtadichckbogcjaaDoorOp
import Derived.Test.YtadichckbogcjaaDoorXs
set_option linter.all false
namespace Go.Proofs.YtadichckbogcjaaDoor
open Go.ChangeShapes Go.WideShapes Go.ChangeAt Go.RowKit Go.Joins Go.Deep

section
variable {H : Type} {enc : TypeId × Value → H} {P : Program} {w : World} {base : Nat} {spare : Nat → Bool} {held : Bool}
theorem wf_u8 {a : Int} (h : (Lit.int .u8 a).wf = true) : 0 ≤ a ∧ a < 256 := by
  simp only [Lit.wf, Bool.and_eq_true, decide_eq_true_eq] at h
  have e1 : IntKind.u8.min = 0 := by decide
  have e2 : IntKind.u8.max = 255 := by decide
  omega
theorem cell_spot {w : World} {a : Addr} {v : Value} (h : w.cell? a = some v) : a.spot = none := by
  obtain ⟨b, o, s⟩ := a
  cases s with
  | none => rfl
  | some s =>
    exfalso
    unfold World.cell? at h
    simp only [Option.isSome_some, if_true] at h
    revert h
    split <;> intro h <;> cases h
/-- bytes that came in -/
theorem open_sliceU {t e : TypeId} {cs : List Value} {fuel : Nat} {x : DataW H × List MemPlace} (ht : P.underlying t = some (.slice e)) (he : P.underlying e = some (.int .u8)) (hc1 : P.cellsOf e = 1) (h : DataW.trod enc P w base spare held fuel t cs = some x) :
    ∃ (A : Option Addr) (n c : Nat) (l : List UInt8), cs = [.slice A n c] ∧ n ≤ c ∧ c ≤ maxLen ∧ l.length = n ∧ En.ArgSl w A n 1 (l.map En.encU) := by
  rcases open_slice ht h with h0 | ⟨a, len, cap, m, k, D, Pl, hcs, hb, hl, hm, hmm, hx, hi⟩
  · exact ⟨none, 0, 0, [], h0.1, Nat.le_refl _, by simp [maxLen], rfl, ⟨rfl, by simp, by simp, fun h => (h rfl).elim⟩⟩
  · have hlm : len ≤ m := by rw [hmm]; split <;> omega
    have hex : ∀ i, ∃ b : UInt8, i < len → w.cell? (a.add i) = some (.int .u8 (b.toNat : Nat)) := by
      intro i
      by_cases h1 : i < len
      · obtain ⟨cs', hc, ht'⟩ := hi i (by omega)
        rw [hc1, Nat.mul_one] at hc
        obtain ⟨_, hcl, hat⟩ := World.cells?_some hc
        obtain ⟨v, hv, _, hw⟩ := DataW.trod_int he ht'
        have hb := wf_u8 hw
        have h0 := hat 0 (by omega)
        rw [hv] at h0
        refine ⟨UInt8.ofNat v.toNat, fun _ => ?_⟩
        have e1 : (((UInt8.ofNat v.toNat).toNat : Nat) : Int) = v := by
          rw [UInt8.toNat_ofNat']
          omega
        rw [e1]
        have e2 : (a.add i).add 0 = a.add i := by
          unfold Addr.add
          split <;> simp_all
        rw [e2] at h0
        simpa using h0
      · exact ⟨0, fun h => absurd h h1⟩
    refine ⟨some a, len, cap, (List.range len).map fun i => Classical.choose (hex i), hcs, hl, hm, by simp, ?_⟩
    refine ⟨by simp, fun e he => ?_, fun e he v hv => ?_, fun hn => ?_⟩
    · obtain ⟨b, _, rfl⟩ := List.mem_map.1 he
      rfl
    · obtain ⟨b, _, rfl⟩ := List.mem_map.1 he
      simp [En.encU] at hv
      rw [hv]
      rfl
    · have hs0 := cell_spot (Classical.choose_spec (hex 0) (by omega))
      have hs : a.spot = none := by
        obtain ⟨b, o, s⟩ := a
        cases s with
        | none => rfl
        | some s => simp [Addr.add] at hs0
      obtain ⟨b, o, s⟩ := a
      simp only at hs
      subst hs
      refine ⟨b, o, rfl, fun i e hi j v hj => ?_⟩
      by_cases hin : i < len
      · rw [List.getElem?_map, List.getElem?_map, List.getElem?_range hin] at hi
        simp only [Option.map_some, Option.some.injEq] at hi
        subst hi
        have hj0 : j = 0 := by
          have := (List.getElem?_eq_some_iff.1 hj).1
          simp [En.encU] at this
          exact this
        subst hj0
        simp [En.encU] at hj
        subst hj
        have := Classical.choose_spec (hex i) hin
        have e : (⟨b, o, none⟩ : Addr).add i = ⟨b, o + i * 1 + 0, none⟩ := by simp [Addr.add]
        exact (congrArg w.cell? e).symm.trans this
      · rw [List.getElem?_eq_none (by simp; omega)] at hi
        cases hi
/-- a plan that came in -/
theorem open_pln {r : Reach} {b0 : Nat} {t : TypeId} {fs : Array Field} {v : Value} {d : DataW H} {p : List MemPlace} (hs : P.underlying t = some (.struct fs)) (hone : oneCellFields P fs = true) {ti ts te : TypeId} (hti : P.underlying ti = some (.int .i64)) (hts : P.underlying ts = some (.slice te))
    (hte : P.underlying te = some (.int .u8)) (hc1 : P.cellsOf te = 1) (hall : (fs.map fun f => f.type) = #[ti, ti, ts]) (hC : P.cellsOf t = 3)
    (hv : Value.okWide P w r b0 t v) (h : DataW.Trod enc P w base spare held t v d p) : ∃ (x y : Int) (A : Option Addr) (n c : Nat) (l : List UInt8), v = .agg #[.int .i64 x, .int .i64 y, .slice A n c] ∧ n ≤ c ∧ c ≤ maxLen ∧ l.length = n ∧ En.ArgSl w A n 1 (l.map En.encU) := by
  obtain ⟨cs, rfl, hsz⟩ := okWide_struct hs hv
  obtain ⟨cs⟩ := cs
  have hlen : cs.length = 3 := by simpa [hC] using hsz
  have hfs : fs.size = 3 := by
    have := congrArg Array.size hall
    simpa using this
  obtain ⟨fuel, hf⟩ := h
  obtain ⟨xs, n, _, hx, _, hxl, hg⟩ := DataW.trod_struct hs hf
  have hcell : ∀ j (hj : j < 3), ∃ y f, fs[j]? = some f ∧ DataW.trod enc P w base spare held n f.type [cs[j]'(by omega)] = some y := by
    intro j hj
    have hjf : j < fs.size := by omega
    obtain ⟨o, k⟩ := hone_of hone j fs[j] (Array.getElem?_eq_getElem hjf)
    have h1 := hg j fs[j] (Array.getElem?_eq_getElem hjf)
    have hys : xs[j]? = some (xs[j]'(by omega)) := List.getElem?_eq_getElem (by omega)
    rw [o, k, hys] at h1
    have hone' : (cs.drop j).take 1 = [cs[j]'(by omega)] := by
      rw [List.drop_eq_getElem_cons (by omega)]; rfl
    simp only [Value.cells] at h1
    rw [hone'] at h1
    exact ⟨_, fs[j], Array.getElem?_eq_getElem hjf, h1⟩
  have hty : ∀ (j : Nat) (f : Field), fs[j]? = some f → (#[ti, ti, ts] : Array TypeId)[j]? = some f.type := by
    intro j f hjf
    rw [← hall, Array.getElem?_map, hjf]
    rfl
  have hint : ∀ j (hj : j < 2), ∃ a : Int, cs[j]'(by omega) = .int .i64 a := by
    intro j hj
    obtain ⟨y, f, hjf, h1⟩ := hcell j (by omega)
    have ht := hty j f hjf
    have : f.type = ti := by
      rcases (by omega : j = 0 ∨ j = 1) with rfl | rfl <;> simpa using ht.symm
    rw [this] at h1
    obtain ⟨a, ha, _, _⟩ := DataW.trod_int hti h1
    simp at ha
    exact ⟨a, ha⟩
  obtain ⟨y, f, hjf, h1⟩ := hcell 2 (by omega)
  have ht := hty 2 f hjf
  have htt : f.type = ts := by simpa using ht.symm
  rw [htt] at h1
  obtain ⟨x, h0⟩ := hint 0 (by omega)
  obtain ⟨y2, hy⟩ := hint 1 (by omega)
  obtain ⟨A, n', c, l, h3, h4, h5, h6, h7⟩ := open_sliceU hts hte hc1 h1
  have h3 : cs[2]'(by omega) = .slice A n' c := by simpa using h3
  have hcs : cs = [.int .i64 x, .int .i64 y2, .slice A n' c] := by
    refine List.ext_getElem (by simp [hlen]) fun j h8 h9 => ?_
    rcases (by omega : j = 0 ∨ j = 1 ∨ j = 2) with rfl | rfl | rfl
    · exact h0
    · exact hy
    · exact h3
  exact ⟨x, y2, A, n', c, l, by rw [hcs], h4, h5, h6, h7⟩
end
end Go.Proofs.YtadichckbogcjaaDoor
