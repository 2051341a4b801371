/- Frames act on poses: plain laws; contracts of Pose and of the law's place. -/
import Derived.Test.YtkacggfadalbiaaRg
namespace Go.Proofs.Ytkacggfadalbiaa
open Go.RowKit

abbrev Ps := Int × Int × Int
def poseF (f : Fr) (p : Ps) : Ps := (tX (f.1 % 4) p.1 p.2.1 + 64 * f.2.1, tY (f.1 % 4) p.1 p.2.1 + 64 * f.2.2, (p.2.2 + 64 * (f.1 % 4)) % 256)

theorem poseF_cmp (f g : Fr) (p : Ps) (hf : FrOk f) (hg : FrOk g) : poseF (cmpF f g) p = poseF f (poseF g p) := by
  obtain ⟨fq, fx, fy⟩ := f
  obtain ⟨gq, gx, gy⟩ := g
  obtain ⟨x, y, h⟩ := p
  obtain ⟨f0, f1⟩ := hf
  obtain ⟨g0, g1⟩ := hg
  simp only at f0 f1 g0 g1
  rcases turn4 f0 f1 with rfl | rfl | rfl | rfl <;> rcases turn4 g0 g1 with rfl | rfl | rfl | rfl <;> simp [cmpF, poseF, tX, tY] <;> omega
theorem poseF_inv (f : Fr) (p : Ps) (hf : FrOk f) (h0 : 0 ≤ p.2.2) (h1 : p.2.2 < 256) : poseF (invF f) (poseF f p) = p := by
  obtain ⟨fq, fx, fy⟩ := f
  obtain ⟨x, y, h⟩ := p
  obtain ⟨f0, f1⟩ := hf
  simp only at f0 f1 h0 h1
  rcases turn4 f0 f1 with rfl | rfl | rfl | rfl <;> simp [invF, poseF, tX, tY] <;> omega

def PosPost (f : Fr) (p : Ps) (A : Int) (w : World) (e : Ending) (w' : World) : Prop :=
  ∃ x y h : Int, e = .returned (.tuple #[.agg #[.int .i64 x, .int .i64 y, .int .i64 h], .int .i64 0]) ∧ Hid ((x, y, h) = poseF f p) ∧ (0 ≤ h ∧ h < 256 ∧ -A ≤ x ∧ x ≤ A ∧ -A ≤ y ∧ y ≤ A) ∧ Below w.heap.size w w'
theorem Pose_ok2 (A B : Int) (fq fx fy x y h : Int) (w : World) (h1 : -A ≤ fx) (h2 : fx ≤ A) (h3 : -A ≤ fy) (h4 : fy ≤ A) (h5 : -B ≤ x) (h6 : x ≤ B) (h7 : -B ≤ y) (h8 : y ≤ B) (h9 : 0 ≤ h) (h10 : h < 256) (hA : A ≤ 8192) (hAB : B + 64 * A ≤ 1048576) :
    Calls Try.prog 23 #[.agg #[.int .i64 fq, .int .i64 fx, .int .i64 fy], .agg #[.int .i64 x, .int .i64 y, .int .i64 h]] w (PosPost (fq, fx, fy) (x, y, h) (B + 64 * A) w) := by
  have b1 := tX_bd (fq % 4) x y B h5 h6 h7 h8
  have b2 := tY_bd (fq % 4) x y B h5 h6 h7 h8
  refine (Pose_any fq fx fy x y h w).mono fun e w' ⟨he, hw⟩ => ⟨tX (fq % 4) x y + 64 * fx, tY (fq % 4) x y + 64 * fy, (h + 64 * (fq % 4)) % 256, ?_, rfl, by omega, hw⟩
  rw [he]
  have e1 := szB_in (n := fx) (m := 8192) (by omega) (by omega)
  have e2 := szB_in (n := fy) (m := 8192) (by omega) (by omega)
  have e3 := szB_in (n := x) (m := 1048576) (by omega) (by omega)
  have e4 := szB_in (n := y) (m := 1048576) (by omega) (by omega)
  have e5 := szB_in (n := tX (fq % 4) x y + 64 * fx) (m := 1048576) (by omega) (by omega)
  have e6 := szB_in (n := tY (fq % 4) x y + 64 * fy) (m := 1048576) (by omega) (by omega)
  simp [PsV, e1, e2, e3, e4, e5, e6, h9, h10]

set_option maxHeartbeats 400000 in
theorem place_any (x y h m : Int) (w : World) (h1 : 1 ≤ m) (h2 : m ≤ 1000000) :
    Calls Try.prog 27 #[.agg #[.int .i64 x, .int .i64 y, .int .i64 h], .int .i64 m] w fun e w' =>
      e = .returned (.agg #[.int .i64 (clipI x (-m) m), .int .i64 (clipI y (-m) m), .int .i64 (h % 256)]) ∧ Below w.heap.size w w' := by
  have hw : IntKind.i64.wrap (-m) = -m := IntWalk.i64_in _ (by omega)
  go_enter Try.func27, Try.ntmps27
  go_wp2
  go_region_held3 (fun w' => w'.cell? ⟨w.heap.size, 0, none⟩ = some (.int .i64 x) ∧ w'.cell? ⟨w.heap.size, 1, none⟩ = some (.int .i64 y) ∧ w'.cell? ⟨w.heap.size, 2, none⟩ = some (.int .i64 h)) (simp [go_sem, World.cell?_alloc_past])
    (first
      | (go_at_call 36; refine (mod_any _ _ _ (by omega) (by omega)).mono ?_; rintro e w' ⟨rfl, rfl⟩)
      | (go_at_call 14; refine (clip_any _ _ _ _).mono ?_; rintro e w' ⟨rfl, rfl⟩))
  go_wp2
  exact bodyPost_ret (v := .agg #[.int .i64 (clipI x (-m) m), .int .i64 (clipI y (-m) m), .int .i64 (h % 256)]) (by simp [results, Try.results27, go_sem]) rfl
    ⟨rfl, bw_drew (bw_alloc (bw_alloc (bw_refl _) _) _)⟩

end Go.Proofs.Ytkacggfadalbiaa
