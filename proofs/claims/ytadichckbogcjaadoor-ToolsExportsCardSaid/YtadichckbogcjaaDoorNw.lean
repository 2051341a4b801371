/- Words of numbers, decimal forms: plain; loops that run a few times. -/
import Derived.Test.YtadichckbogcjaaDoorXs
import Derived.LoopN
import Derived.Lib.ItoaMem
set_option linter.all false
namespace Go.Proofs.YtadichckbogcjaaDoor.En
open Go.RowKit
set_option maxRecDepth 100000

/-- n rounds of a loop -/
def rndX (C : Ctx) (c : Code) (K : Kx) (n : Nat) : Cx :=
  Nat.rec (motive := fun _ => Cx) (fun _ _ _ => False) (fun _ ih tm ob K' => xcode C c tm ob fun e tm ob => match e with
    | .normal => ih tm ob K'
    | .exit i => K (.exit i) tm ob
    | .ret => K .ret tm ob
    | _ => False) n
theorem LoopX_n (n : Nat) {C : Ctx} {c : Code} {tm : List (Nat × SV)} {ob : List OB} {K : Kx} (hT : TabOk C.P C.T) (h : rndX C c K n tm ob K) : LoopX C c tm ob K := by
  unfold LoopX
  intro σ fp a w hr
  refine wp_loop_rounds n ?_
  induction n generalizing tm ob σ fp a w with
  | zero => exact h.elim
  | succ n ih =>
    rw [rounds_succ]
    have h' : xcode C c tm ob fun e tm ob => match e with
      | .normal => rndX C c K n tm ob K
      | .exit i => K (.exit i) tm ob
      | .ret => K .ret tm ob
      | _ => False := h
    refine wp_mono (xcode_sound hT c h' hr) ?_
    rintro e a' w' ⟨tm', ob', σ', fp', hk, hr'⟩
    cases e with
    | normal => exact ih hk σ' fp' a' w' hr'
    | exit i => exact ⟨tm', ob', σ', fp', hk, hr'⟩
    | ret => exact ⟨tm', ob', σ', fp', hk, hr'⟩
    | goto l => exact hk.elim
    | panic l => exact hk.elim
    | outgrown => exact hk.elim

/-! ### words -/
def encW (x : Int) : List Value := [.int .u32 x]
def trR : List Int → List Int
  | [] => []
  | x :: r => if x = 0 then trR r else x :: r
/-- words without leading zeros -/
def trW (m : List Int) : List Int := (trR m.reverse).reverse
theorem trW_nil : trW [] = [] := rfl
theorem trW_zero (l : List Int) : trW (l ++ [0]) = trW l := by simp [trW, trR]
theorem trW_last (l : List Int) {x : Int} (h : x ≠ 0) : trW (l ++ [x]) = l ++ [x] := by simp [trW, trR, h]
theorem trR_len : ∀ m : List Int, (trR m).length ≤ m.length
  | [] => Nat.le_refl _
  | x :: r => by
    unfold trR
    have := trR_len r
    split
    · simp; omega
    · simp
theorem trW_len (m : List Int) : (trW m).length ≤ m.length := by
  have := trR_len m.reverse
  simpa [trW] using this
/-- the words of a number below 2^64 -/
def wN (v : Int) : List Int := if v = 0 then [] else if v < 4294967296 then [v] else [v % 4294967296, v / 4294967296]
theorem wN_0 : wN 0 = [] := rfl
theorem wN_1 {v : Int} (h0 : 0 < v) (h : v < 4294967296) : wN v = [v] := by
  unfold wN
  rw [if_neg (by omega), if_pos h]
theorem wN_2 {v : Int} (h : 4294967296 ≤ v) : wN v = [v % 4294967296, v / 4294967296] := by
  unfold wN
  rw [if_neg (by omega), if_neg (by omega)]
theorem wN_tr {lo hi v : Int} (h1 : 0 ≤ lo) (h2 : lo < 4294967296) (h3 : 0 ≤ hi) (hv : lo + 4294967296 * hi = v) : trW [lo, hi] = wN v := by
  by_cases h : hi = 0
  · subst h
    have e : trW [lo, 0] = trW [lo] := trW_zero [lo]
    rw [e]
    by_cases h' : lo = 0
    · subst h'
      have : v = 0 := by omega
      subst this
      rfl
    · rw [wN_1 (by omega) (by omega)]
      have e2 : trW [lo] = [lo] := trW_last [] h'
      rw [e2, show lo = v by omega]
  · rw [wN_2 (by omega)]
    have e2 : trW [lo, hi] = [lo, hi] := trW_last [lo] h
    rw [e2, show v % 4294967296 = lo by omega, show v / 4294967296 = hi by omega]
theorem wN_trim {v : Int} (h0 : 0 ≤ v) : trW (wN v) = wN v := by
  by_cases h : v = 0
  · subst h
    rfl
  · by_cases h1 : v < 4294967296
    · rw [wN_1 (by omega) h1]
      exact trW_last [] h
    · rw [wN_2 (by omega)]
      exact trW_last [_] (by omega)
theorem wN_one {v : Int} (h0 : 0 ≤ v) (h : v < 4294967296) : trW [v] = wN v := by
  by_cases h' : v = 0
  · subst h'
    rfl
  · rw [wN_1 (by omega) h]
    exact trW_last [] h'
theorem wN_len (v : Int) : (wN v).length ≤ 2 := by
  unfold wN
  split
  · simp
  · split <;> simp
theorem wN_pos {v : Int} (h : 0 < v) : 0 < (wN v).length := by
  unfold wN
  rw [if_neg (by omega)]
  split <;> simp
/-! ### decimal forms -/
def dig (v : Int) : List UInt8 := Lib.decDigits v.toNat
theorem dig_small {v : Int} (h0 : 0 ≤ v) (h : v < 10) : dig v = [UInt8.ofNat (48 + v.toNat)] := by
  unfold dig
  rw [Lib.decDigits, dif_pos (by omega)]
theorem dig_big {v : Int} (h : 10 ≤ v) : dig v = dig (v / 10) ++ [UInt8.ofNat (48 + (v % 10).toNat)] := by
  unfold dig
  rw [Lib.decDigits, dif_neg (by omega), show v.toNat / 10 = (v / 10).toNat by omega, show v.toNat % 10 = (v % 10).toNat by omega]
/-- the digits of what is left, and those that are there: one step -/
theorem dig_step {v : Int} {acc d : List UInt8} (h0 : 0 < v) (h : dig v ++ acc = d) : if v / 10 = 0 then UInt8.ofNat (48 + (v % 10).toNat) :: acc = d else dig (v / 10) ++ (UInt8.ofNat (48 + (v % 10).toNat) :: acc) = d := by
  split
  · rw [dig_small (by omega) (by omega)] at h
    rw [show v % 10 = v by omega]
    exact h
  · rw [dig_big (by omega), List.append_assoc] at h
    exact h
def txt (neg : Bool) (v : Int) : List UInt8 := if v = 0 then [48] else if neg then 45 :: dig v else dig v
theorem txt_itoa (n : Int) : txt (decide (n < 0)) (if n < 0 then -n else n) = Lib.itoa n := by
  unfold txt dig Lib.itoa
  by_cases h : n < 0
  · simp only [h, decide_true, if_true]
    rw [if_neg (by omega), show (-n).toNat = n.natAbs by omega]
  · simp only [h, decide_false, if_false, Bool.false_eq_true]
    by_cases h0 : n = 0
    · subst h0
      rw [if_pos rfl]
      simp [Lib.decDigits]
    · rw [if_neg h0]
theorem digN_len (k : Nat) : ∀ v : Nat, v < 10 ^ (k + 1) → (Lib.decDigits v).length ≤ k + 1 := by
  induction k with
  | zero =>
    intro v h
    rw [Lib.decDigits, dif_pos (by omega)]
    simp
  | succ k ih =>
    intro v h
    rw [Lib.decDigits]
    split
    · simp
    · rw [List.length_append]
      have := ih (v / 10) (by rw [Nat.pow_succ] at h; omega)
      simp only [List.length_cons, List.length_nil]
      omega
theorem dig_len {v : Int} (h0 : 0 ≤ v) (h : v < 18446744073709551616) : (dig v).length ≤ 20 := digN_len 19 v.toNat (by omega)
/-- the value of digits, behind a value -/
def vD (v : Int) : List UInt8 → Option Int
  | [] => some v
  | c :: r => if 48 ≤ c.toNat ∧ c.toNat ≤ 57 then vD (v * 10 + ((c.toNat : Int) - 48)) r else none
theorem vD_append (a b : List UInt8) : ∀ v, vD v (a ++ b) = (vD v a).bind fun x => vD x b := by
  induction a with
  | nil => intro v; rfl
  | cons c r ih =>
    intro v
    simp only [List.cons_append, vD]
    split
    · exact ih _
    · rfl
theorem ofNat_dig {n : Nat} (h : n < 10) : (UInt8.ofNat (48 + n)).toNat = 48 + n := by
  rw [UInt8.toNat_ofNat']
  omega
theorem vD_dig : ∀ (n : Nat), vD 0 (Lib.decDigits n) = some (n : Int) := by
  intro n
  induction n using Nat.strongRecOn with
  | _ n ih =>
    rw [Lib.decDigits]
    split
    · rename_i h
      simp only [vD, ofNat_dig h]
      rw [if_pos (by omega)]
      congr 1
      omega
    · rename_i h
      rw [vD_append, ih (n / 10) (by omega)]
      simp only [Option.bind_some, vD, ofNat_dig (show n % 10 < 10 by omega)]
      rw [if_pos (by omega)]
      congr 1
      omega
theorem vD_bd : ∀ (l : List UInt8) (v x : Int) (k : Nat), 0 ≤ v → v < 10 ^ k → vD v l = some x → 0 ≤ x ∧ x < 10 ^ (k + l.length)
  | [], v, x, k, h0, h, e => by
    simp only [vD, Option.some.injEq] at e
    subst e
    exact ⟨h0, by simpa using h⟩
  | c :: r, v, x, k, h0, h, e => by
    simp only [vD] at e
    split at e
    · have := vD_bd r (v * 10 + ((c.toNat : Int) - 48)) x (k + 1) (by omega) (by rw [Int.pow_succ]; omega) e
      rwa [show k + 1 + r.length = k + (c :: r).length by simp; omega] at this
    · cases e
end Go.Proofs.YtadichckbogcjaaDoor.En
