/- Contracts of package heading: mark, lowest, Dir. -/
import Derived.Test.YtbjkbjiglcomkaaGr
import Derived.Test.YtbjkbjiglcomkaaFr1
set_option linter.all false
namespace Go.Proofs.Ytbjkbjiglcomkaa
open Go.RowKit

def gsN (x y d : Nat) : Nat → Nat
  | 0 => d
  | 1 => Nat.gcd d x
  | _ => Nat.gcd (Nat.gcd d x) y
theorem gsN_pos (x y d : Nat) (hd : 1 ≤ d) (i : Nat) : 1 ≤ gsN x y d i ∧ gsN x y d i ≤ d := by
  have h1 : 0 < Nat.gcd d x := Nat.gcd_pos_of_pos_left x hd
  have h2 : 0 < Nat.gcd (Nat.gcd d x) y := Nat.gcd_pos_of_pos_left y h1
  have h3 := Nat.gcd_le_left x (show 0 < d by omega)
  have h4 := Nat.gcd_le_left y h1
  unfold gsN
  split <;> omega

theorem and255 (n : Int) : bits .and .i64 n 255 = n % 256 := by
  have h3 : (BitVec.ofInt 64 255).toNat = 2 ^ 8 - 1 := by decide
  have key : (BitVec.ofInt 64 n &&& BitVec.ofInt 64 255).toNat = (n % ((2 ^ 64 : Nat) : Int)).toNat % 2 ^ 8 := by
    rw [BitVec.toNat_and, BitVec.toNat_ofInt, h3, Nat.and_two_pow_sub_one_eq_mod]
  show IntKind.i64.wrap ((BitVec.ofInt 64 n &&& BitVec.ofInt 64 255).toNat : Nat) = n % 256
  rw [key, IntKind.wrap_i64]
  omega

set_option maxHeartbeats 400000 in
theorem mark_any (h : Int) (w : World) : Calls Try.prog 144 #[.int .i64 h] w fun e w' => e = .returned (.int .i64 (h % 256)) ∧ w = w' := by
  have ha := and255
  go_enter Try.func144, Try.ntmps144
  go_wp2
  go_ret
  exact ⟨by simp, rfl⟩

def lowI (x y d : Nat) (n : Nat) : Nat := n / gsN x y d 2

set_option maxRecDepth 100000 in
set_option maxHeartbeats 2000000 in
theorem lowest_any (x y d : Nat) (w : World) (h1 : x ≤ 1000000000000) (h2 : y ≤ 1000000000000) (h3 : 1 ≤ d) (h4 : d ≤ 1000000000000) :
    Calls Try.prog 143 #[.int .i64 x, .int .i64 y, .int .i64 d] w fun e w' => e = .returned (.agg #[.int .i64 (lowI x y d x : Nat), .int .i64 (lowI x y d y : Nat), .int .i64 (lowI x y d d : Nat)]) ∧ Below w.heap.size w w' := by
  have i0 : ∀ W, (Instr.index 191 (.agg #[.int .i64 (x : Int), .int .i64 (y : Int)]) (.int .i64 0)).run Try.prog W = .ok (.int .i64 (x : Int)) W := fun _ => by kernel_rfl
  have i1 : ∀ W, (Instr.index 191 (.agg #[.int .i64 (x : Int), .int .i64 (y : Int)]) (.int .i64 1)).run Try.prog W = .ok (.int .i64 (y : Int)) W := fun _ => by kernel_rfl
  go_enter Try.func143, Try.ntmps143
  go_wp2
  go_loopg [7, 14] 2 (fun k g ix wr => ∃ i : Nat, i ≤ 2 ∧ k = 2 - i ∧ ix = .int .i64 i ∧ g = .int .i64 (gsN x y d i : Nat) ∧ ∃ n, wr = (w.alloc (.cells #[.int .i64 0, .int .i64 0, .int .i64 0] 106)).drewN n)
  case atStart => exact ⟨0, by omega, by omega, rfl, rfl, 0, rfl⟩
  case round =>
    obtain ⟨i, hi, hk, rfl, rfl, n, rfl⟩ := hrel
    have hp := gsN_pos x y d h3 i
    have hp2 := gsN_pos x y d h3 (i + 1)
    by_cases hlt : i < 2
    · rcases (by omega : i = 0 ∨ i = 1) with rfl | rfl
      · go_wp2
        go_loopg [7, 9] (x + 1) (fun k g n wr => ∃ a b : Nat, g = .int .i64 a ∧ n = .int .i64 b ∧ 1 ≤ a ∧ a ≤ 1000000000000 ∧ b ≤ 1000000000000 ∧ b < k ∧ Hid (Nat.gcd a b = gsN x y d 1) ∧ ∃ n, wr = (w.alloc (.cells #[.int .i64 0, .int .i64 0, .int .i64 0] 106)).drewN n)
        case atStart => exact ⟨_, x, rfl, rfl, by omega, by omega, by omega, by omega, Lib.hid rfl, _, rfl⟩
        case round =>
          obtain ⟨a, b, rfl, rfl, ha1, ha2, hb2, hbk, HG, m, rfl⟩ := hrel
          by_cases hb0 : b = 0
          · subst hb0
            have HE := Lib.hid (show a = gsN x y d 1 by have := HG.out; simpa using this)
            go_wp2
            go_roundg (2 - 1)
            case measure => omega
            case rel => exact ⟨1, by omega, by omega, by simp, by rw [← HE.out], _, rfl⟩
          · have t1 : ((b : Int) != 0) = true := by simp; omega
            have t2 : ((b : Int) == 0) = false := by simp; omega
            have t3 : (a : Int).tmod (b : Int) = ((a % b : Nat) : Int) := by rw [Int.tmod_eq_emod_of_nonneg (by omega)]; simp
            have t5 : a % b < b := Nat.mod_lt _ (by omega)
            have t4 : IntKind.i64.wrap ((a % b : Nat) : Int) = ((a % b : Nat) : Int) := IntWalk.i64_in _ (by omega)
            go_wp2
            go_quiet (fail)
            clear t1 t2 t3 t4
            go_wp2
            go_roundg b
            case measure => omega
            case rel => exact ⟨b, a % b, rfl, rfl, by omega, by omega, by omega, by omega, Lib.hid (by rw [← HG.out, Nat.gcd_comm b, ← Nat.gcd_rec, Nat.gcd_comm]), _, World.drewN_drewN _ _ _⟩
      · go_wp2
        go_loopg [7, 9] (y + 1) (fun k g n wr => ∃ a b : Nat, g = .int .i64 a ∧ n = .int .i64 b ∧ 1 ≤ a ∧ a ≤ 1000000000000 ∧ b ≤ 1000000000000 ∧ b < k ∧ Hid (Nat.gcd a b = gsN x y d 2) ∧ ∃ n, wr = (w.alloc (.cells #[.int .i64 0, .int .i64 0, .int .i64 0] 106)).drewN n)
        case atStart => exact ⟨_, y, rfl, rfl, by omega, by omega, by omega, by omega, Lib.hid rfl, _, rfl⟩
        case round =>
          obtain ⟨a, b, rfl, rfl, ha1, ha2, hb2, hbk, HG, m, rfl⟩ := hrel
          by_cases hb0 : b = 0
          · subst hb0
            have HE := Lib.hid (show a = gsN x y d 2 by have := HG.out; simpa using this)
            go_wp2
            go_roundg (2 - 2)
            case measure => omega
            case rel => exact ⟨2, by omega, by omega, by simp, by rw [← HE.out], _, rfl⟩
          · have t1 : ((b : Int) != 0) = true := by simp; omega
            have t2 : ((b : Int) == 0) = false := by simp; omega
            have t3 : (a : Int).tmod (b : Int) = ((a % b : Nat) : Int) := by rw [Int.tmod_eq_emod_of_nonneg (by omega)]; simp
            have t5 : a % b < b := Nat.mod_lt _ (by omega)
            have t4 : IntKind.i64.wrap ((a % b : Nat) : Int) = ((a % b : Nat) : Int) := IntWalk.i64_in _ (by omega)
            go_wp2
            go_quiet (fail)
            clear t1 t2 t3 t4
            go_wp2
            go_roundg b
            case measure => omega
            case rel => exact ⟨b, a % b, rfl, rfl, by omega, by omega, by omega, by omega, Lib.hid (by rw [← HG.out, Nat.gcd_comm b, ← Nat.gcd_rec, Nat.gcd_comm]), _, World.drewN_drewN _ _ _⟩
    · obtain rfl : i = 2 := by omega
      have hq : ∀ m : Nat, m ≤ 1000000000000 → (m : Int).tdiv (gsN x y d 2 : Nat) = (lowI x y d m : Nat) ∧ IntKind.i64.wrap (lowI x y d m : Nat) = (lowI x y d m : Nat) := fun m hm => by
        have hle : lowI x y d m ≤ m := Nat.div_le_self _ _
        refine ⟨?_, IntWalk.i64_in _ (by omega)⟩
        rw [Int.tdiv_eq_ediv_of_nonneg (by omega)]; simp [lowI]
      obtain ⟨q1, q2⟩ := hq x h1
      obtain ⟨q3, q4⟩ := hq y h2
      obtain ⟨q5, q6⟩ := hq d h4
      have q7 : ¬ gsN x y d 2 = 0 := by omega
      clear hq i0 i1
      generalize gsN x y d 2 = gg at *
      generalize hlx : lowI x y d x = lx at *
      generalize hly : lowI x y d y = ly at *
      generalize hld : lowI x y d d = ld at *
      have Hlx := Lib.hid hlx
      have Hly := Lib.hid hly
      have Hld := Lib.hid hld
      clear hlx hly hld
      go_wp2
      refine still_tail 10 (by kernel_rfl) (by kernel_rfl) ?_
      simp only [List.take_succ_cons, List.take_zero, List.drop_succ_cons, List.drop_zero]
      iterate 10 (first | still_step)
      refine wpStill_nil ?_
      go_wp2
      exact bodyPost_ret (v := .agg #[.int .i64 (lx : Nat), .int .i64 (ly : Nat), .int .i64 (ld : Nat)]) (by simp [results, Try.results143, go_sem]) rfl ⟨by rw [Hlx.out, Hly.out, Hld.out], by repeat (first | with_reducible assumption | with_reducible exact bw_refl _ | with_reducible refine bw_alloc ?_ _ | with_reducible refine bw_drew ?_ | with_reducible refine bw_drewN _ ?_ | refine bw_set ?_ (by simp; try omega) _ | refine bw_call (by with_reducible assumption) ?_)⟩

/-- the direction of the marks of the first quarter -/
def quX (k : Nat) : Nat := lowI (4096 - k * k) (128 * k) (4096 + k * k) (4096 - k * k)
def quY (k : Nat) : Nat := lowI (4096 - k * k) (128 * k) (4096 + k * k) (128 * k)
def quD (k : Nat) : Nat := lowI (4096 - k * k) (128 * k) (4096 + k * k) (4096 + k * k)
theorem quD_pos (k : Nat) : 1 ≤ quD k := by
  unfold quD lowI
  have h := gsN_pos (4096 - k * k) (128 * k) (4096 + k * k) (by omega) 2
  exact (Nat.le_div_iff_mul_le (by omega)).2 (by omega)
theorem qu_le (k : Nat) (h : k < 64) : quX k ≤ 10000 ∧ quY k ≤ 10000 := by
  unfold quX quY lowI
  have h1 := Nat.div_le_self (4096 - k * k) (gsN (4096 - k * k) (128 * k) (4096 + k * k) 2)
  have h2 := Nat.div_le_self (128 * k) (gsN (4096 - k * k) (128 * k) (4096 + k * k) 2)
  omega

set_option maxRecDepth 100000 in
set_option maxHeartbeats 2000000 in
/-- Dir at the mark 64 * q + k -/
theorem Dir_at (q k : Nat) (w : World) (hq : q < 4) (hk : k < 64) (h : Int) (hh : h % 256 = 64 * q + k) :
    Calls Try.prog 110 #[.int .i64 h] w fun e w' => e = .returned (.agg #[.int .i64 (tX q (quX k) (quY k)), .int .i64 (tY q (quX k) (quY k)), .int .i64 (quD k : Nat)]) ∧ Below w.heap.size w w' := by
  have hkk : k * k ≤ 63 * 63 := Nat.mul_le_mul (by omega) (by omega)
  have hm := Lib.hid (fun W => mark_any h W)
  have HH := Lib.hid hh
  clear hh
  have HL := Lib.hid (fun W => lowest_any (4096 - k * k) (128 * k) (4096 + k * k) W (by omega) (by omega) (by omega) (by omega))
  have hxy := qu_le k hk
  obtain ⟨x1, x2⟩ := hxy
  have e1 : (64 * (q : Int) + k) % 64 = k := by omega
  have e2 : (64 * (q : Int) + k) / 64 = q := by omega
  have e6 : (0 : Int) ≤ (k : Int) * k := by rw [← Int.natCast_mul]; omega
  have e7 : (k : Int) * k ≤ 3969 := by rw [← Int.natCast_mul]; omega
  go_enter Try.func110, Try.ntmps110
  go_wp2_with (go_at_call 144; refine (hm.out _).mono ?_; rw [HH.out]; rintro e w1 ⟨rfl, rfl⟩)
  have e3 : (4096 : Int) - k * k = ((4096 - k * k : Nat) : Int) := by omega
  have e4 : (128 : Int) * k = ((128 * k : Nat) : Int) := by omega
  have e5 : (4096 : Int) + k * k = ((4096 + k * k : Nat) : Int) := by omega
  rw [e3, e4, e5]
  refine (HL.out _).mono ?_
  clear e3 e4 e5
  rintro e w1 ⟨rfl, hb1⟩
  have b0 : Bk w1 w.heap.size 106 #[.int .i64 0, .int .i64 0, .int .i64 0] := Bk.call (by repeat (first | with_reducible assumption | with_reducible refine Bk.drew ?_ | with_reducible refine Bk.drewN ?_ _ | with_reducible exact Bk.new _ _ _ | with_reducible exact Bk.new1 _ _ _ _ | with_reducible exact Bk.new2 _ _ _ _ _ | with_reducible exact Bk.new3 _ _ _ _ _ _ | with_reducible refine Bk.alloc ?_ _ | with_reducible exact Bk.set6 (by repeat (first | with_reducible assumption | ((with_reducible refine Bk.far' ?_ ?_); (focus (first | (simp; done) | (simp; omega)))) | with_reducible refine Bk.drew ?_ | with_reducible refine Bk.alloc ?_ _)) _ _ _ _ _ _ | with_reducible exact Bk.set3 (by repeat (first | with_reducible assumption | ((with_reducible refine Bk.far' ?_ ?_); (focus (first | (simp; done) | (simp; omega)))) | with_reducible refine Bk.drew ?_ | with_reducible refine Bk.alloc ?_ _)) _ _ _ | with_reducible exact Bk.set2 (by repeat (first | with_reducible assumption | ((with_reducible refine Bk.far' ?_ ?_); (focus (first | (simp; done) | (simp; omega)))) | with_reducible refine Bk.drew ?_ | with_reducible refine Bk.alloc ?_ _)) _ _ | ((with_reducible refine Bk.far' ?_ ?_); (focus (first | (simp; done) | (simp; omega)))))) hb1
  have hbw1 : Below w.heap.size w w1 := by repeat (first | with_reducible assumption | with_reducible exact bw_refl _ | with_reducible refine bw_alloc ?_ _ | with_reducible refine bw_drew ?_ | with_reducible refine bw_drewN _ ?_ | refine bw_set ?_ (by simp; try omega) _ | refine bw_call (by with_reducible assumption) ?_)
  clear hb1 HL hm HH
  change _ at *
  rw [show lowI (4096 - k * k) (128 * k) (4096 + k * k) (4096 - k * k) = quX k from rfl, show lowI (4096 - k * k) (128 * k) (4096 + k * k) (128 * k) = quY k from rfl, show lowI (4096 - k * k) (128 * k) (4096 + k * k) (4096 + k * k) = quD k from rfl]
  generalize hX : quX k = X at *
  generalize hY : quY k = Y at *
  generalize hD : quD k = D at *
  have HX := Lib.hid hX
  have HY := Lib.hid hY
  have HD := Lib.hid hD
  clear hX hY hD
  have b0_0 : w1.cell? ⟨w.heap.size, 0, none⟩ = some (.int .i64 0) := b0.cell 0
  have b0_1 : w1.cell? ⟨w.heap.size, 1, none⟩ = some (.int .i64 0) := b0.cell 1
  have b0_2 : w1.cell? ⟨w.heap.size, 2, none⟩ = some (.int .i64 0) := b0.cell 2
  have b0_f := b0.frozen
  have b0_l := b0.lt
  go_wp2
  go_loopg [22] q (fun m ix wr => ∃ i : Nat, i ≤ q ∧ m = q - i ∧ ix = .int .i64 i ∧ wr = w1.alloc (.cells #[.int .i64 (tX i X Y), .int .i64 (tY i X Y), .int .i64 (D : Nat)] 106))
  case atStart => exact ⟨0, by omega, by omega, rfl, by simp [tX, tY]⟩
  case round =>
    obtain ⟨i, hi, hm, rfl, rfl⟩ := hrel
    obtain ⟨u1, u2⟩ := tX_bd i X Y 10000 (by omega) (by omega) (by omega) (by omega)
    obtain ⟨u3, u4⟩ := tY_bd i X Y 10000 (by omega) (by omega) (by omega) (by omega)
    by_cases hlt : i < q
    · have HS := Lib.hid (tXY_succ i X Y (by omega) (by omega))
      go_wp2
      go_roundg (q - (i + 1))
      case measure => omega
      case rel => exact ⟨i + 1, by omega, rfl, by simp, by have h1 := HS.out.1; have h2 := HS.out.2; simp only [Int.natCast_add, Int.cast_ofNat_Int]; rw [h1, h2]⟩
    · obtain rfl : i = q := by omega
      go_wp2
      exact bodyPost_ret (v := .agg #[.int .i64 (tX i X Y), .int .i64 (tY i X Y), .int .i64 (D : Nat)]) (by simp [results, Try.results110, go_sem, b0_0, b0_1, b0_2, b0_l]) rfl ⟨by rw [HX.out, HY.out, HD.out], by repeat (first | with_reducible assumption | with_reducible exact bw_refl _ | with_reducible refine bw_alloc ?_ _ | with_reducible refine bw_drew ?_ | with_reducible refine bw_drewN _ ?_ | refine bw_set ?_ (by simp; try omega) _ | refine bw_call (by with_reducible assumption) ?_)⟩

end Go.Proofs.Ytbjkbjiglcomkaa
