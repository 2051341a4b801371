/- Plain: the images of a small list by a near frame; the inverse leads back. -/
import Derived.Test.YtdjimfngnhnhnaaFp
import Derived.Test.YtdjimfngnhnhnaaBa
set_option linter.all false
namespace Go.Proofs.Ytdjimfngnhnhnaa.En
open Go.RowKit

theorem near_ex (f : FrT) : ∃ g : FrT, nearF2 g ∧ 0 ≤ g.1 ∧ g.1 < 4 ∧ PureX Try.prog 16 [.a [I f.1, I f.2.1, I f.2.2], I 1000] (.a [I g.1, I g.2.1, I g.2.2]) := by
  refine ⟨nearE f 1000, ?_, ?_, ?_, near_x f 1000 (by decide) (by decide)⟩
  · unfold nearF2 nearE clipI
    dsimp only
    omega
  · show 0 ≤ f.1 % 4
    omega
  · show f.1 % 4 < 4
    omega
theorem cellR_of {f : FrT} {c : CellT} (h1 : szB f.2.1 8192 = true) (h2 : szB f.2.2 8192 = true) (h3 : szB c.1 16384 = true) (h4 : szB c.2 16384 = true) {x y : Int}
    (hx : min (tX (f.1 % 4) c.1 c.2) (tX (f.1 % 4) (c.1 + 1) (c.2 + 1)) + f.2.1 = x) (hy : min (tY (f.1 % 4) c.1 c.2) (tY (f.1 % 4) (c.1 + 1) (c.2 + 1)) + f.2.2 = y) (h5 : szB x 16384 = true) (h6 : szB y 16384 = true) : cellR f c = ((x, y), 0) := by
  unfold cellR
  rw [hx, hy, if_pos (by simp [h1, h2, h3, h4]), if_pos (by simp [h5, h6])]
theorem sz_mk {n m : Int} (h : -m ≤ n ∧ n ≤ m) : szB n m = true := by simpa [szB] using h
/-- the inverse leads a cell's image back -/
theorem cell_back {f : FrT} (hf : nearF2 f) {c : CellT} (h1 : szB c.1 1000 = true) (h2 : szB c.2 1000 = true) :
    (cellR f c).2 = 0 ∧ -2001 ≤ (cellR f c).1.1 ∧ (cellR f c).1.1 ≤ 2001 ∧ -2001 ≤ (cellR f c).1.2 ∧ (cellR f c).1.2 ≤ 2001 ∧ cellR (invF f) (cellR f c).1 = (c, 0) := by
  have g1 := szB_bd h1
  have g2 := szB_bd h2
  obtain ⟨f1, f2, f3, f4⟩ := hf
  obtain ⟨x, y⟩ := c
  obtain ⟨q, fx, fy⟩ := f
  dsimp only at *
  have hq : q % 4 = 0 ∨ q % 4 = 1 ∨ q % 4 = 2 ∨ q % 4 = 3 := by omega
  have hn : ((-q) % 4) % 4 = (-q) % 4 := by omega
  rcases hq with h | h | h | h
  · have hi : (-q) % 4 = 0 := by omega
    have e : cellR (q, fx, fy) (x, y) = ((x + fx, y + fy), 0) := cellR_of (sz_mk (by (try dsimp only); omega)) (sz_mk (by (try dsimp only); omega)) (sz_mk (by (try dsimp only); omega)) (sz_mk (by (try dsimp only); omega)) (by simp only [h, tX]; simp; try omega) (by simp only [h, tY]; simp; try omega) (sz_mk (by omega)) (sz_mk (by omega))
    rw [e]
    refine ⟨rfl, by (try dsimp only); omega, by (try dsimp only); omega, by (try dsimp only); omega, by (try dsimp only); omega, ?_⟩
    have ei : invF (q, fx, fy) = (0, -fx, -fy) := by simp [invF, hi, tX, tY]
    rw [ei]
    exact cellR_of (sz_mk (by (try dsimp only); omega)) (sz_mk (by (try dsimp only); omega)) (sz_mk (by (try dsimp only); omega)) (sz_mk (by (try dsimp only); omega)) (by simp [tX]; try omega) (by simp [tY]; try omega) (sz_mk (by omega)) (sz_mk (by omega))
  · have hi : (-q) % 4 = 3 := by omega
    have e : cellR (q, fx, fy) (x, y) = ((-y - 1 + fx, x + fy), 0) := cellR_of (sz_mk (by (try dsimp only); omega)) (sz_mk (by (try dsimp only); omega)) (sz_mk (by (try dsimp only); omega)) (sz_mk (by (try dsimp only); omega)) (by simp only [h, tX]; simp; try omega) (by simp only [h, tY]; simp; try omega) (sz_mk (by omega)) (sz_mk (by omega))
    rw [e]
    refine ⟨rfl, by (try dsimp only); omega, by (try dsimp only); omega, by (try dsimp only); omega, by (try dsimp only); omega, ?_⟩
    have ei : invF (q, fx, fy) = (3, -fy, fx) := by simp [invF, hi, tX, tY]
    rw [ei]
    exact cellR_of (sz_mk (by (try dsimp only); omega)) (sz_mk (by (try dsimp only); omega)) (sz_mk (by (try dsimp only); omega)) (sz_mk (by (try dsimp only); omega)) (by simp [tX]; try omega) (by simp [tY]; try omega) (sz_mk (by omega)) (sz_mk (by omega))
  · have hi : (-q) % 4 = 2 := by omega
    have e : cellR (q, fx, fy) (x, y) = ((-x - 1 + fx, -y - 1 + fy), 0) := cellR_of (sz_mk (by (try dsimp only); omega)) (sz_mk (by (try dsimp only); omega)) (sz_mk (by (try dsimp only); omega)) (sz_mk (by (try dsimp only); omega)) (by simp only [h, tX]; simp; try omega) (by simp only [h, tY]; simp; try omega) (sz_mk (by omega)) (sz_mk (by omega))
    rw [e]
    refine ⟨rfl, by (try dsimp only); omega, by (try dsimp only); omega, by (try dsimp only); omega, by (try dsimp only); omega, ?_⟩
    have ei : invF (q, fx, fy) = (2, fx, fy) := by simp [invF, hi, tX, tY]
    rw [ei]
    exact cellR_of (sz_mk (by (try dsimp only); omega)) (sz_mk (by (try dsimp only); omega)) (sz_mk (by (try dsimp only); omega)) (sz_mk (by (try dsimp only); omega)) (by simp [tX]; try omega) (by simp [tY]; try omega) (sz_mk (by omega)) (sz_mk (by omega))
  · have hi : (-q) % 4 = 1 := by omega
    have e : cellR (q, fx, fy) (x, y) = ((y + fx, -x - 1 + fy), 0) := cellR_of (sz_mk (by (try dsimp only); omega)) (sz_mk (by (try dsimp only); omega)) (sz_mk (by (try dsimp only); omega)) (sz_mk (by (try dsimp only); omega)) (by simp only [h, tX]; simp; try omega) (by simp only [h, tY]; simp; try omega) (sz_mk (by omega)) (sz_mk (by omega))
    rw [e]
    refine ⟨rfl, by (try dsimp only); omega, by (try dsimp only); omega, by (try dsimp only); omega, by (try dsimp only); omega, ?_⟩
    have ei : invF (q, fx, fy) = (1, fy, -fx) := by simp [invF, hi, tX, tY]
    rw [ei]
    exact cellR_of (sz_mk (by (try dsimp only); omega)) (sz_mk (by (try dsimp only); omega)) (sz_mk (by (try dsimp only); omega)) (sz_mk (by (try dsimp only); omega)) (by simp [tX]; try omega) (by simp [tY]; try omega) (sz_mk (by omega)) (sz_mk (by omega))
theorem inv_near {f : FrT} (hf : nearF2 f) : nearF2 (invF f) := by
  obtain ⟨f1, f2, f3, f4⟩ := hf
  have := tXY_bd (q := (-f.1) % 4) (x := -f.2.1) (y := -f.2.2) (m := 1000) (by omega)
  unfold nearF2 invF
  dsimp only
  omega

theorem asc_vE {l : List EntT} (h : asc l) (hg : ∀ e ∈ l, goodB e = true) (hn : l.length ≤ 1048576) : vE l = true := by
  rw [vE_end]
  · simpa using hn
  · intro j hj
    unfold asc at h
    rw [List.pairwise_iff_getElem] at h
    have h1 := hg l[j] (List.getElem_mem hj)
    have e1 : l.getD j e0 = l[j] := by simp [hj]
    simp only [okAt, e1, h1, Bool.true_and]
    by_cases h0 : j = 0
    · simp [h0]
    · have := h (j - 1) j (by omega) hj (by omega)
      have e2 : l.getD (j - 1) e0 = l[j - 1] := by simp [show j - 1 < l.length by omega]
      rw [e2, this, Bool.or_true]

section
variable {f : FrT} {l ys zs : List EntT}
theorem out_small (hf : nearF2 f) (h : smB l = true) (ho : IsOut f l ys) : ys.Perm (l.map (imgE f)) ∧ asc ys := by
  unfold IsOut at ho
  rwa [if_pos (small_code hf h)] at ho
theorem img_good (hf : nearF2 f) (h : smB l = true) {e : EntT} (he : e ∈ l) : goodB (imgE f e) = true := by
  have h1 := vE_good (smB_vE h) he
  obtain ⟨n1, n2⟩ := smB_near h he
  have hb := cell_back hf (c := e.cell) n1 n2
  have hb1 : szB (cellR f e.cell).1.1 16384 = true := sz_mk (by omega)
  have hb2 : szB (cellR f e.cell).1.2 16384 = true := sz_mk (by omega)
  simp only [goodB, countB, imgE, Bool.and_eq_true] at h1 ⊢
  rw [hb1, hb2]
  simp only [and_true]
  exact h1.1.1
theorem out_vE (hf : nearF2 f) (h : smB l = true) (hn : l.length ≤ 60) (ho : IsOut f l ys) : vE ys = true := by
  obtain ⟨hp, ha⟩ := out_small hf h ho
  refine asc_vE ha (fun e he => ?_) (by rw [hp.length_eq, List.length_map]; omega)
  obtain ⟨x, hx, rfl⟩ := List.mem_map.1 (hp.mem_iff.1 he)
  exact img_good hf h hx
theorem out_len (hf : nearF2 f) (h : smB l = true) (ho : IsOut f l ys) : ys.length = l.length := by
  rw [(out_small hf h ho).1.length_eq, List.length_map]
theorem out_at (hf : nearF2 f) (h : smB l = true) (hn : l.length ≤ 60) (ho : IsOut f l ys) {e : EntT} (he : e ∈ l) : atE ys (cellR f e.cell).1 = imgE f e := by
  have h1 := at_mem (out_vE hf h hn ho) ((out_small hf h ho).1.mem_iff.2 (List.mem_map_of_mem (f := imgE f) he))
  rwa [show (imgE f e).cell = (cellR f e.cell).1 from rfl] at h1
theorem img_back (hf : nearF2 f) (h : smB l = true) {e : EntT} (he : e ∈ l) : imgE (invF f) (imgE f e) = e ∧ (cellR (invF f) (imgE f e).cell).2 = 0 := by
  obtain ⟨n1, n2⟩ := smB_near h he
  obtain ⟨_, _, _, _, _, hb⟩ := cell_back hf (c := e.cell) n1 n2
  have hc : (imgE f e).cell = (cellR f e.cell).1 := rfl
  rw [hc]
  refine ⟨?_, by rw [hb]⟩
  show ((cellR (invF f) (cellR f e.cell).1).1.1, (cellR (invF f) (cellR f e.cell).1).1.2, e.2.2.1, e.2.2.2) = e
  rw [hb]
  rfl
theorem out_back (hf : nearF2 f) (h : smB l = true) (hn : l.length ≤ 60) (ho : IsOut f l ys) (hi : IsOut (invF f) ys zs) : codeF (invF f) ys = 0 ∧ zs = l := by
  obtain ⟨hp, ha⟩ := out_small hf h ho
  have hv := out_vE hf h hn ho
  have hfi := inv_near hf
  obtain ⟨i1, i2, i3, i4⟩ := hfi
  have hok : okF (invF f) ys = true := by
    have a1 : szB (invF f).2.1 8192 = true := sz_mk (by omega)
    have a2 : szB (invF f).2.2 8192 = true := sz_mk (by omega)
    simp only [okF, hv, a1, a2, Bool.and_self]
  have hc : codeF (invF f) ys = 0 := by
    simp only [codeF, hok, if_true]
    refine orI_zeros fun x hx => ?_
    obtain ⟨e, he, rfl⟩ := List.mem_map.1 hx
    obtain ⟨y, hy, rfl⟩ := List.mem_map.1 (hp.mem_iff.1 he)
    exact (img_back hf h hy).2
  refine ⟨hc, ?_⟩
  unfold IsOut at hi
  rw [if_pos hc] at hi
  have e : (l.map (imgE f)).map (imgE (invF f)) = l := by
    rw [List.map_map]
    refine (List.map_congr_left fun e he => ?_).trans (List.map_id _)
    exact (img_back hf h he).1
  have h2 := hi.1.trans (hp.map (imgE (invF f)))
  rw [e] at h2
  exact asc_unique hi.2 (vE_pairwise (smB_vE h)) h2
theorem out_tot (hf : nearF2 f) (h : smB l = true) (hn : l.length ≤ 60) (ho : IsOut f l ys) : totE ys = totE l := by
  obtain ⟨hp, ha⟩ := out_small hf h ho
  simp only [totE, out_vE hf h hn ho, smB_vE h, if_true]
  refine Prod.ext ?_ ?_
  · show sumB hitE ys = sumB hitE l
    rw [sumB_perm hitE hp]
    simp [sumB, hitE, imgE, Function.comp_def]
    rfl
  · show sumB passE ys = sumB passE l
    rw [sumB_perm passE hp]
    simp [sumB, passE, imgE, Function.comp_def]
    rfl
theorem out_bad (ho : IsOut f l ys) : codeF f l = 0 ∨ ys = [] := by
  unfold IsOut at ho
  split at ho
  · rename_i h
    exact .inl h
  · exact .inr ho
end
end Go.Proofs.Ytdjimfngnhnhnaa.En
