/- A scan's evidence and a frame, in plain Lean: the evidence at the image of a pose is the image of the evidence at the pose -/
import Derived.Test.YtdjimfngnhnhnaaMg
set_option linter.all false
namespace Go.Proofs.Ytdjimfngnhnhnaa.En
open Go.RowKit
set_option maxRecDepth 100000

/-! ### directions -/
def rotV (q : Int) (v : VecT) : VecT := (tX q v.1 v.2.1, tY q v.1 v.2.1, v.2.2)
theorem gs_swap (x y d : Int) : gsI (-y) x d 2 = gsI x y d 2 ∧ gsI (-x) (-y) d 2 = gsI x y d 2 ∧ gsI y (-x) d 2 = gsI x y d 2 := by
  unfold gsI
  simp only [Int.natAbs_neg]
  refine ⟨?_, trivial, ?_⟩ <;> rw [Nat.gcd_assoc, Nat.gcd_comm y.natAbs x.natAbs, ← Nat.gcd_assoc]
theorem low_rot {q : Int} (hq : q = 0 ∨ q = 1 ∨ q = 2 ∨ q = 3) (x y d : Int) : lowF (tX q x y) (tY q x y) d = rotV q (lowF x y d) := by
  obtain ⟨g1, g2, g3⟩ := gs_swap x y d
  rcases hq with rfl | rfl | rfl | rfl
  · rfl
  · show lowF (-y) x d = (-((lowF x y d).2.1), (lowF x y d).1, (lowF x y d).2.2)
    unfold lowF
    rw [g1, Int.neg_tdiv]
  · show lowF (-x) (-y) d = (-((lowF x y d).1), -((lowF x y d).2.1), (lowF x y d).2.2)
    unfold lowF
    rw [g2, Int.neg_tdiv, Int.neg_tdiv]
  · show lowF y (-x) d = ((lowF x y d).2.1, -((lowF x y d).1), (lowF x y d).2.2)
    unfold lowF
    rw [g3, Int.neg_tdiv]
theorem turn_rot {q : Int} (hq : q = 0 ∨ q = 1 ∨ q = 2 ∨ q = 3) (a b : VecT) : turnF (rotV q a) b = rotV q (turnF a b) := by
  have h := low_rot hq (a.1 * b.1 - a.2.1 * b.2.1) (a.1 * b.2.1 + a.2.1 * b.1) (a.2.2 * b.2.2)
  unfold turnF
  rw [← h]
  rcases hq with rfl | rfl | rfl | rfl
  · rfl
  · show lowF (-a.2.1 * b.1 - a.1 * b.2.1) (-a.2.1 * b.2.1 + a.1 * b.1) (a.2.2 * b.2.2) = lowF (-(a.1 * b.2.1 + a.2.1 * b.1)) (a.1 * b.1 - a.2.1 * b.2.1) (a.2.2 * b.2.2)
    rw [show -a.2.1 * b.1 - a.1 * b.2.1 = -(a.1 * b.2.1 + a.2.1 * b.1) by rw [Int.neg_mul]; omega, show -a.2.1 * b.2.1 + a.1 * b.1 = a.1 * b.1 - a.2.1 * b.2.1 by rw [Int.neg_mul]; omega]
  · show lowF (-a.1 * b.1 - -a.2.1 * b.2.1) (-a.1 * b.2.1 + -a.2.1 * b.1) (a.2.2 * b.2.2) = lowF (-(a.1 * b.1 - a.2.1 * b.2.1)) (-(a.1 * b.2.1 + a.2.1 * b.1)) (a.2.2 * b.2.2)
    rw [show -a.1 * b.1 - -a.2.1 * b.2.1 = -(a.1 * b.1 - a.2.1 * b.2.1) by rw [Int.neg_mul, Int.neg_mul]; omega, show -a.1 * b.2.1 + -a.2.1 * b.1 = -(a.1 * b.2.1 + a.2.1 * b.1) by rw [Int.neg_mul, Int.neg_mul]; omega]
  · show lowF (a.2.1 * b.1 - -a.1 * b.2.1) (a.2.1 * b.2.1 + -a.1 * b.1) (a.2.2 * b.2.2) = lowF (a.1 * b.2.1 + a.2.1 * b.1) (-(a.1 * b.1 - a.2.1 * b.2.1)) (a.2.2 * b.2.2)
    rw [show a.2.1 * b.1 - -a.1 * b.2.1 = a.1 * b.2.1 + a.2.1 * b.1 by rw [Int.neg_mul]; omega, show a.2.1 * b.2.1 + -a.1 * b.1 = -(a.1 * b.1 - a.2.1 * b.2.1) by rw [Int.neg_mul]; omega]
theorem tXY_add {a q : Int} (ha : a = 0 ∨ a = 1 ∨ a = 2 ∨ a = 3) (hq : q = 0 ∨ q = 1 ∨ q = 2 ∨ q = 3) (x y : Int) : tX ((a + q) % 4) x y = tX q (tX a x y) (tY a x y) ∧ tY ((a + q) % 4) x y = tY q (tX a x y) (tY a x y) := by
  rcases ha with rfl | rfl | rfl | rfl <;> rcases hq with rfl | rfl | rfl | rfl <;> simp [tX, tY]
theorem dir_rot {q : Int} (hq : q = 0 ∨ q = 1 ∨ q = 2 ∨ q = 3) (h : Int) : dirF ((h + 64 * q) % 256) = rotV q (dirF h) := by
  have e1 : (h + 64 * q) % 256 % 256 % 64 = h % 256 % 64 := by omega
  have e2 : (h + 64 * q) % 256 % 256 / 64 = (h % 256 / 64 + q) % 4 := by omega
  have ha : h % 256 / 64 = 0 ∨ h % 256 / 64 = 1 ∨ h % 256 / 64 = 2 ∨ h % 256 / 64 = 3 := by omega
  unfold dirF rotV
  rw [e1, e2, (tXY_add ha hq _ _).1, (tXY_add ha hq _ _).2]
theorem beam_rot {q : Int} (hq : q = 0 ∨ q = 1 ∨ q = 2 ∨ q = 3) (h m : Int) : beamF ((h + 64 * q) % 256) m = rotV q (beamF h m) := by
  unfold beamF
  rw [dir_rot hq, turn_rot hq]

/-! ### points and cells -/
def imgP (f : FrT) (p : PtT) : PtT := (tX f.1 p.1 p.2 + 64 * f.2.1, tY f.1 p.1 p.2 + 64 * f.2.2)
def imgC (f : FrT) (c : CellT) : CellT := (min (tX f.1 c.1 c.2) (tX f.1 (c.1 + 1) (c.2 + 1)) + f.2.1, min (tY f.1 c.1 c.2) (tY f.1 (c.1 + 1) (c.2 + 1)) + f.2.2)
def qOk (f : FrT) : Prop := f.1 = 0 ∨ f.1 = 1 ∨ f.1 = 2 ∨ f.1 = 3
theorem inC_img {f : FrT} (hq : qOk f) (p : PtT) (v : VecT) (c : CellT) (t : Int × Int) : inC (imgP f p) (rotV f.1 v) (imgC f c) t ↔ inC p v c t := by
  obtain ⟨q, X, Y⟩ := f
  obtain ⟨p1, p2⟩ := p
  obtain ⟨v1, v2, D⟩ := v
  obtain ⟨c1, c2⟩ := c
  obtain ⟨n, e⟩ := t
  unfold inC imgP imgC rotV
  dsimp only
  rcases hq with h | h | h | h <;> dsimp only at h <;> subst h
  · simp only [tX, tY, if_true, if_false, Int.reduceEq]
    rw [show min c1 (c1 + 1) = c1 by omega, show min c2 (c2 + 1) = c2 by omega]
    rw [Int.mul_comm 64 X, Int.mul_comm 64 Y]
    simp only [Int.add_mul, Int.sub_mul, Int.neg_mul, Int.mul_neg]
    omega
  · simp only [tX, tY, if_true, if_false, Int.reduceEq]
    rw [show min (-c2) (-(c2 + 1)) = -c2 - 1 by omega, show min c1 (c1 + 1) = c1 by omega]
    rw [Int.mul_comm 64 X, Int.mul_comm 64 Y]
    simp only [Int.add_mul, Int.sub_mul, Int.neg_mul, Int.mul_neg]
    omega
  · simp only [tX, tY, if_true, if_false, Int.reduceEq]
    rw [show min (-c2) (-(c2 + 1)) = -c2 - 1 by omega, show min (-c1) (-(c1 + 1)) = -c1 - 1 by omega]
    rw [Int.mul_comm 64 X, Int.mul_comm 64 Y]
    simp only [Int.add_mul, Int.sub_mul, Int.neg_mul, Int.mul_neg]
    omega
  · simp only [tX, tY, if_true, if_false, Int.reduceEq]
    rw [show min c2 (c2 + 1) = c2 by omega, show min (-c1) (-(c1 + 1)) = -c1 - 1 by omega]
    rw [Int.mul_comm 64 X, Int.mul_comm 64 Y]
    simp only [Int.add_mul, Int.sub_mul, Int.neg_mul, Int.mul_neg]
    omega
theorem imgC_onto {f : FrT} (hq : qOk f) (c : CellT) : ∃ d : CellT, imgC f d = c := by
  obtain ⟨q, X, Y⟩ := f
  obtain ⟨c1, c2⟩ := c
  unfold imgC
  rcases hq with h | h | h | h <;> dsimp only at h <;> subst h
  · exact ⟨(c1 - X, c2 - Y), by simp only [tX, tY, if_true, if_false, Int.reduceEq]; exact Prod.ext (by dsimp only; omega) (by dsimp only; omega)⟩
  · exact ⟨(c2 - Y, -(c1 - X) - 1), by simp only [tX, tY, if_true, if_false, Int.reduceEq]; exact Prod.ext (by dsimp only; omega) (by dsimp only; omega)⟩
  · exact ⟨(-(c1 - X) - 1, -(c2 - Y) - 1), by simp only [tX, tY, if_true, if_false, Int.reduceEq]; exact Prod.ext (by dsimp only; omega) (by dsimp only; omega)⟩
  · exact ⟨(-(c2 - Y) - 1, c1 - X), by simp only [tX, tY, if_true, if_false, Int.reduceEq]; exact Prod.ext (by dsimp only; omega) (by dsimp only; omega)⟩
/-! ### evidence -/
def imgA (f : FrT) (a : PoseT) : PoseT := ((imgP f (a.1, a.2.1)).1, (imgP f (a.1, a.2.1)).2, (a.2.2 + 64 * f.1) % 256)
theorem met_img {f : FrT} (hq : qOk f) {a : PoseT} (h1 : ptB (a.1, a.2.1)) (h2 : ptB ((imgA f a).1, (imgA f a).2.1)) {b : BeamT} (hb : -1 ≤ b.2 ∧ b.2 ≤ 1024) (c : CellT) :
    (imgC f c ∈ metL ((imgA f a).1, (imgA f a).2.1) (beamF (imgA f a).2.2 b.1) b ↔ c ∈ metL (a.1, a.2.1) (beamF a.2.2 b.1) b) ∧ (imgC f c ∈ endsL ((imgA f a).1, (imgA f a).2.1) (beamF (imgA f a).2.2 b.1) b ↔ c ∈ endsL (a.1, a.2.1) (beamF a.2.2 b.1) b) := by
  have hv : beamF (imgA f a).2.2 b.1 = rotV f.1 (beamF a.2.2 b.1) := beam_rot hq _ _
  have hi := fun t => inC_img hq (a.1, a.2.1) (beamF a.2.2 b.1) c t
  have e2 : (rotV f.1 (beamF a.2.2 b.1)).2.2 = (beamF a.2.2 b.1).2.2 := rfl
  rw [mem_met h2 (beam_vec _ _) hb, mem_met h1 (beam_vec _ _) hb, mem_ends h2 (beam_vec _ _) hb, mem_ends h1 (beam_vec _ _) hb, hv, e2]
  have hi' : ∀ t, inC ((imgA f a).1, (imgA f a).2.1) (rotV f.1 (beamF a.2.2 b.1)) (imgC f c) t ↔ inC (a.1, a.2.1) (beamF a.2.2 b.1) c t := hi
  simp only [hi']
  exact ⟨trivial, trivial⟩
theorem contB_img {f : FrT} (hq : qOk f) {a : PoseT} (h1 : ptB (a.1, a.2.1)) (h2 : ptB ((imgA f a).1, (imgA f a).2.1)) {b : BeamT} (hb : -1 ≤ b.2 ∧ b.2 ≤ 1024) (c : CellT) : contB (imgA f a) b (imgC f c) = contB a b c := by
  obtain ⟨m1, m2⟩ := met_img hq h1 h2 hb c
  unfold contB contE
  rw [count_of (met_nodup _ _ _), count_of (met_nodup _ _ _)]
  by_cases q2 : c ∈ endsL (a.1, a.2.1) (beamF a.2.2 b.1) b
  · rw [if_pos q2, if_pos (m2.2 q2)]
    by_cases q1 : c ∈ metL (a.1, a.2.1) (beamF a.2.2 b.1) b
    · rw [if_pos q1, if_pos (m1.2 q1)]
    · rw [if_neg q1, if_neg (fun h => q1 (m1.1 h))]
  · rw [if_neg q2, if_neg (fun h => q2 (m2.1 h))]
    by_cases q1 : c ∈ metL (a.1, a.2.1) (beamF a.2.2 b.1) b
    · rw [if_pos q1, if_pos (m1.2 q1)]
    · rw [if_neg q1, if_neg (fun h => q1 (m1.1 h))]
theorem contS_img {f : FrT} (hq : qOk f) {a : PoseT} (h1 : ptB (a.1, a.2.1)) (h2 : ptB ((imgA f a).1, (imgA f a).2.1)) {s : List BeamT} (hs : ∀ b ∈ s, -1 ≤ b.2 ∧ b.2 ≤ 1024) (c : CellT) : contS (imgA f a) s (imgC f c) = contS a s c := by
  unfold contS
  rw [List.map_congr_left (fun b hb => by rw [contB_img hq h1 h2 (hs b hb) c] : ∀ b ∈ s, (contB (imgA f a) b (imgC f c)).1 = (contB a b c).1), List.map_congr_left (fun b hb => by rw [contB_img hq h1 h2 (hs b hb) c] : ∀ b ∈ s, (contB (imgA f a) b (imgC f c)).2 = (contB a b c).2)]
theorem of_small {a : PoseT} {s : List BeamT} (h : ofOk a s = true) {e : EntT} (he : e ∈ (ofE a s).1) : (-5000 ≤ e.1 ∧ e.1 ≤ 5000) ∧ (-5000 ≤ e.2.1 ∧ e.2.1 ≤ 5000) := by
  obtain ⟨hr, -⟩ := ofE_rep h
  obtain ⟨h1, h2⟩ := (hr.2 e).1 he
  have hne : contS a s e.cell ≠ (0, 0) := by
    rw [h2]
    intro h0
    obtain ⟨h3, h4⟩ := Prod.mk.inj h0
    rw [Bool.eq_false_iff] at h1
    refine h1 ?_
    simp only [zeroE, h3, h4]
    rfl
  obtain ⟨b, hb, hc⟩ := contS_met hne
  have hm := contB_met hc
  obtain ⟨g1, g2, g3⟩ := ofOk_bd h
  exact met_near g1 g2 (by have := scan_mem g3 hb; omega) hm
theorem orI_all0 : ∀ {l : List Int}, (∀ x ∈ l, x = 0) → orI l = 0
  | [], _ => rfl
  | x :: l, h => by
    unfold orI
    rw [if_pos (h x (by simp))]
    exact orI_all0 fun y hy => h y (by simp [hy])
def frB2 (f : FrT) : Prop := qOk f ∧ (-1000 ≤ f.2.1 ∧ f.2.1 ≤ 1000) ∧ -1000 ≤ f.2.2 ∧ f.2.2 ≤ 1000
theorem cell_img {f : FrT} (hf : frB2 f) {c : CellT} (h1 : -5000 ≤ c.1 ∧ c.1 ≤ 5000) (h2 : -5000 ≤ c.2 ∧ c.2 ≤ 5000) : cellR f c = (imgC f c, 0) := by
  obtain ⟨hq, hx, hy⟩ := hf
  have e4 : f.1 % 4 = f.1 := by rcases hq with h | h | h | h <;> rw [h] <;> rfl
  have t1 := tXY_bd (q := f.1) (x := c.1) (y := c.2) (m := 5001) (by omega)
  have t2 := tXY_bd (q := f.1) (x := c.1 + 1) (y := c.2 + 1) (m := 5001) (by omega)
  unfold cellR imgC
  rw [e4]
  rw [if_pos (by simp only [szB, Bool.and_eq_true, decide_eq_true_eq]; omega), if_pos (by simp only [szB, Bool.and_eq_true, decide_eq_true_eq]; omega)]
theorem of_code {f : FrT} (hf : frB2 f) {a : PoseT} {s : List BeamT} (h : ofOk a s = true) : codeF f (ofE a s).1 = 0 := by
  have hok : okF f (ofE a s).1 = true := by
    unfold okF
    rw [(ofE_rep h).2]
    obtain ⟨hq, hx, hy⟩ := hf
    simp only [szB, Bool.and_true, Bool.and_eq_true, decide_eq_true_eq]
    omega
  unfold codeF
  rw [if_pos hok]
  refine orI_all0 fun x hx => ?_
  obtain ⟨e, he, rfl⟩ := List.mem_map.1 hx
  obtain ⟨g1, g2⟩ := of_small h he
  rw [cell_img hf (c := e.cell) g1 g2]
/-- the evidence at the image of a pose is the image of the evidence -/
theorem of_image {f : FrT} (hf : frB2 f) {a : PoseT} {s : List BeamT} (h : ofOk a s = true) (h2 : ofOk (imgA f a) s = true) {zs : List EntT} (ho : IsOut f (ofE a s).1 zs) : zs = (ofE (imgA f a) s).1 := by
  unfold IsOut at ho
  rw [if_pos (of_code hf h)] at ho
  obtain ⟨hp, hasc⟩ := ho
  have hr := (ofE_rep h).1
  have p1 : ptB (a.1, a.2.1) := by
    obtain ⟨g1, g2, -⟩ := ofOk_bd h
    have := szB_bd g1
    have := szB_bd g2
    unfold ptB
    dsimp only
    omega
  have p2 : ptB ((imgA f a).1, (imgA f a).2.1) := by
    obtain ⟨g1, g2, -⟩ := ofOk_bd h2
    have := szB_bd g1
    have := szB_bd g2
    unfold ptB
    dsimp only
    omega
  have hb : ∀ b ∈ s, -1 ≤ b.2 ∧ b.2 ≤ 1024 := fun b hb => by
    have := scan_mem (ofOk_bd h).2.2 hb
    omega
  have himg : ∀ e ∈ (ofE a s).1, imgE f e = ((imgC f e.cell).1, (imgC f e.cell).2, e.2.2.1, e.2.2.2) := fun e he => by
    obtain ⟨g1, g2⟩ := of_small h he
    unfold imgE
    rw [cell_img hf (c := e.cell) g1 g2]
  have hrep : Rep (contS (imgA f a) s) zs := by
    refine ⟨hasc, fun e => ?_⟩
    rw [hp.mem_iff]
    constructor
    · intro he
      obtain ⟨e0, he0, rfl⟩ := List.mem_map.1 he
      obtain ⟨h3, h4⟩ := (hr.2 e0).1 he0
      rw [himg e0 he0]
      refine ⟨h3, ?_⟩
      show contS (imgA f a) s (imgC f e0.cell) = _
      rw [contS_img hf.1 p1 p2 hb, h4]
    · rintro ⟨h3, h4⟩
      obtain ⟨d, hd⟩ := imgC_onto hf.1 e.cell
      have h5 : contS a s d = (e.2.2.1, e.2.2.2) := by rw [← contS_img hf.1 p1 p2 hb, hd, h4]
      have h6 : (d.1, d.2, e.2.2.1, e.2.2.2) ∈ (ofE a s).1 := (hr.2 _).2 ⟨h3, h5⟩
      refine List.mem_map.2 ⟨_, h6, ?_⟩
      rw [himg _ h6]
      show ((imgC f d).1, (imgC f d).2, e.2.2.1, e.2.2.2) = e
      rw [hd]
      rfl
  exact Rep.unique hrep (ofE_rep h2).1 fun _ => rfl
end Go.Proofs.Ytdjimfngnhnhnaa.En
