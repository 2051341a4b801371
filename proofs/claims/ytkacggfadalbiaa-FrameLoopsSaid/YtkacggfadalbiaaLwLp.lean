/- The walk of FrameLoops. -/
import Derived.Test.YtkacggfadalbiaaAw
import Derived.Test.YtkacggfadalbiaaRh
import Derived.Test.YtkacggfadalbiaaPl1
import Derived.Test.YtkacggfadalbiaaOs
namespace Go.Proofs.Ytkacggfadalbiaa
open Go.RowKit

/-- the script that a slice of relations reads as -/
def relsOf (V : Nat → Nat → Int) (n : Nat) : List Rel := (List.range n).map fun i => (V i 0, V i 1, (V i 2, V i 3, V i 4))
theorem relsOf_len (V : Nat → Nat → Int) (n : Nat) : (relsOf V n).length = n := by simp [relsOf]
theorem relsOf_take (V : Nat → Nat → Int) (n k : Nat) (h : k ≤ n) : (relsOf V n).take k = relsOf V k := by
  simp [relsOf, ← List.map_take, List.take_range, Nat.min_eq_left h]
theorem relsOf_succ (V : Nat → Nat → Int) (k : Nat) : relsOf V (k + 1) = relsOf V k ++ [(V k 0, V k 1, (V k 2, V k 3, V k 4))] := by
  simp [relsOf, List.range_succ]

def LpI (V : Nat → Nat → Int) (n : Nat) (w : World) (rb : Nat) (g : Nat) (i : Value) (wr : World) : Prop :=
  ∃ (k : Nat) (ob : Option Nat), k ≤ n ∧ g = n - k ∧ i = .int .i64 k ∧ RObj wr rb ob (addAll [] (relsOf V k)) ∧ (∀ b, ob = some b → w.heap.size ≤ b) ∧ Below w.heap.size w wr

def LpJ (rs : List Rel) (w : World) (rb : Nat) (ob : Option Nat) (fb : Nat) (f : Fr) (g : Nat) (i : Value) (wr : World) : Prop :=
  ∃ c : Nat, c ≤ 8 ∧ g = 8 - c ∧ i = .int .i64 c ∧ RObj wr rb ob rs ∧ Bk wr fb 23 #[.int .i64 f.1, .int .i64 f.2.1, .int .i64 f.2.2] ∧ Below w.heap.size w wr

set_option maxRecDepth 100000 in
set_option maxHeartbeats 2000000 in
theorem loops_walk (A : Option Addr) (n cap : Nat) (V : Nat → Nat → Int) (a b : Int) (w : World) (hs : SlO w A n 5 V) (hcap : n ≤ cap) (_hcm : cap ≤ maxLen) :
    Calls Try.prog 9 #[.slice A n cap, .int .i64 a, .int .i64 b] w fun e w' => e = .returned (.bool true) ∧ Below w.heap.size w w' := by
  have HS := Lib.hid hs
  unfold maxLen at _hcm
  clear hs
  obtain ⟨an, han⟩ : ∃ k : Nat, (k : Int) = a % 8 := ⟨(a % 8).toNat, by omega⟩
  obtain ⟨bn, hbn⟩ : ∃ k : Nat, (k : Int) = b % 8 := ⟨(b % 8).toNat, by omega⟩
  have ha8 : an < 8 := by omega
  have hb8 : bn < 8 := by omega
  have HMa := Lib.hid (fun W => mod_any a 8 W (by omega) (by omega))
  have HMb := Lib.hid (fun W => mod_any b 8 W (by omega) (by omega))
  rw [← han] at HMa
  rw [← hbn] at HMb
  clear han hbn
  by_cases hn : n ≤ 20
  · go_enter Try.func9, Try.ntmps9
    go_wp2_with fail
    refine (awake_any _).mono ?_
    rintro e w1 ⟨rfl, hb1⟩
    go_wp2_with fail
    refine (New_any _).mono ?_
    rintro e w2 ⟨rfl, rfl⟩
    go_wp2_with fail
    go_loopg [8] n (fun g i wr => LpI V n w w1.heap.size g i wr)
    case atStart => exact ⟨0, none, by omega, by omega, by simp, RObj.new w1, by simp, bw_alloc hb1 _⟩
    case round =>
      obtain ⟨k, ob, hk, hgk, rfl, hr, hob, hbl⟩ := hrel
      have HG := Lib.hid hgk
      have HR := Lib.hid hr
      have HO := Lib.hid hob
      clear hgk hr hob
      by_cases hlt : k < n
      · obtain ⟨ad, rfl, hc0, hcell⟩ := (HS.out.below hbl).get hlt (by omega)
        have hc1 := hcell 1 (by omega) (by omega)
        have hc2 := hcell 2 (by omega) (by omega)
        have hc3 := hcell 3 (by omega) (by omega)
        have hc4 := hcell 4 (by omega) (by omega)
        clear hcell
        have hln := addAll_len (relsOf V k) []
        rw [relsOf_len] at hln
        have Hln := Lib.hid hln
        clear hln
        go_wp2_with fail
        have HAd := Add_any w1.heap.size ob (addAll [] (relsOf V k)) (V k 0, V k 1, (V k 2, V k 3, V k 4)) wr HR.out (by have := Hln.out; simp at this; omega)
        refine HAd.mono ?_
        clear HAd hc0 hc1 hc2 hc3 hc4
        rintro e w3 ⟨rfl, ob', hr', ho', hon⟩
        have hbl3 : Below w.heap.size w w3 := Only.trans_new hbl hon hb1.size HO.out
        have HR' := Lib.hid hr'
        have HO' := Lib.hid (show ∀ b, ob' = some b → w.heap.size ≤ b from fun b hb => by
          rcases ho' with h | ⟨g, h1, h2⟩
          · exact HO.out b (h ▸ hb)
          · rw [h1] at hb; injection hb with hb; subst hb; exact Nat.le_trans hbl.size h2)
        clear hr' ho' hon hbl
        go_wp2
        go_roundg (n - (k + 1))
        case measure => have := HG.out; omega
        case rel => exact ⟨k + 1, ob', by omega, rfl, by go_num, by rw [relsOf_succ, addAll_snoc]; exact HR'.out, HO'.out, hbl3⟩
      · obtain rfl : k = n := by omega
        clear HG
        have hln := addAll_len (relsOf V k) []
        rw [relsOf_len] at hln
        have hacc : Acc (addAll [] (relsOf V k)) := addAll_acc _ .nil
        generalize addAll [] (relsOf V k) = rs at *
        have hrl : rs.length ≤ 20 := by simp at hln; omega
        have Ha := Lib.hid hacc
        clear hln hacc
        go_wp2_with fail
        refine (HMa.out _).mono ?_
        rintro e W1 ⟨rfl, rfl⟩
        go_wp2_with fail
        refine (HMb.out _).mono ?_
        rintro e W2 ⟨rfl, rfl⟩
        clear HMa HMb
        go_wp2_with fail
        refine (Groups_any w1.heap.size ob rs _ HR.out (by omega)).mono ?_
        rintro e w3 ⟨rfl, hG, hb3⟩
        have hbw3 : Below w.heap.size w w3 := bw_call hb3 hbl
        have HR3 := Lib.hid (HR.out.below hb3)
        have hwr3 : wr.heap.size < w3.heap.size := hG.lt
        clear hb3 hbl HR
        go_wp2_with fail
        refine (Between_any w1.heap.size ob rs an bn _ HR3.out (by omega)).mono ?_
        rintro e w4 ⟨he, hb4⟩
        have hG4 := hG.call hb4
        have HR4 := Lib.hid (HR3.out.below hb4)
        have hbw4 : Below w.heap.size w w4 := bw_call hb4 hbw3
        have hw34 := hb4.size
        clear hb4 hG HR3 hbw3
        have hb0 : (0 : Int) ≤ bn := by omega
        have ha0 : (0 : Int) ≤ an := by omega
        have hb7 : (bn : Int) < 8 := by omega
        have ha7 : (an : Int) < 8 := by omega
        cases hbt : btF rs an bn with
        | none =>
          rw [hbt] at he
          simp only [btV] at he
          subst he
          have hba : btF rs bn an = none := by
            have h1 : ¬ Conn rs an bn := fun h => by have := (btF_conn Ha.out.ok ha0 ha7 hb0 hb7).2 h; rw [hbt] at this; cases this
            have h2 : ¬ (btF rs bn an).isSome = true := fun h => h1 ((btF_conn Ha.out.ok hb0 hb7 ha0 ha7).1 h).symm
            simpa using h2
          have hgr : ¬ grp rs an = grp rs bn := fun h => by
            have := (btF_conn Ha.out.ok ha0 ha7 hb0 hb7).2 ((grp_iff ha0 ha7 hb0 hb7 Ha.out.ok).1 h); rw [hbt] at this; cases this
          have HBA := Lib.hid hba
          clear hbt hba
          go_wp2_with fail
          refine (Between_any w1.heap.size ob rs bn an _ (HR4.out.below (by repeat (first | with_reducible assumption | with_reducible exact bw_refl _ | with_reducible refine bw_alloc ?_ _ | with_reducible refine bw_drew ?_ | with_reducible refine bw_drewN _ ?_ | refine bw_set ?_ (by simp; try omega) _ | refine bw_call (by with_reducible assumption) ?_))) (by omega)).mono ?_
          rintro e w5 ⟨he, hb5⟩
          rw [HBA.out] at he
          simp only [btV] at he
          subst he
          have hG5 : Bk w5 wr.heap.size 3 (arrG rs 8) := Bk.call (by repeat (first | with_reducible assumption | with_reducible refine Bk.drew ?_ | with_reducible refine Bk.drewN ?_ _ | with_reducible exact Bk.new _ _ _ | with_reducible exact Bk.new1 _ _ _ _ | with_reducible exact Bk.new2 _ _ _ _ _ | with_reducible exact Bk.new3 _ _ _ _ _ _ | with_reducible refine Bk.alloc ?_ _ | with_reducible exact Bk.set6 (by repeat (first | with_reducible assumption | ((with_reducible refine Bk.far' ?_ ?_); (focus (first | (simp; done) | (simp; omega)))) | with_reducible refine Bk.drew ?_ | with_reducible refine Bk.alloc ?_ _)) _ _ _ _ _ _ | with_reducible exact Bk.set3 (by repeat (first | with_reducible assumption | ((with_reducible refine Bk.far' ?_ ?_); (focus (first | (simp; done) | (simp; omega)))) | with_reducible refine Bk.drew ?_ | with_reducible refine Bk.alloc ?_ _)) _ _ _ | with_reducible exact Bk.set2 (by repeat (first | with_reducible assumption | ((with_reducible refine Bk.far' ?_ ?_); (focus (first | (simp; done) | (simp; omega)))) | with_reducible refine Bk.drew ?_ | with_reducible refine Bk.alloc ?_ _)) _ _ | ((with_reducible refine Bk.far' ?_ ?_); (focus (first | (simp; done) | (simp; omega)))))) hb5
          have f0 : Bk w5 (w4.heap.size) 23 #[.int .i64 0, .int .i64 0, .int .i64 0] := Bk.call (by repeat (first | with_reducible assumption | with_reducible refine Bk.drew ?_ | with_reducible refine Bk.drewN ?_ _ | with_reducible exact Bk.new _ _ _ | with_reducible exact Bk.new1 _ _ _ _ | with_reducible exact Bk.new2 _ _ _ _ _ | with_reducible exact Bk.new3 _ _ _ _ _ _ | with_reducible refine Bk.alloc ?_ _ | with_reducible exact Bk.set6 (by repeat (first | with_reducible assumption | ((with_reducible refine Bk.far' ?_ ?_); (focus (first | (simp; done) | (simp; omega)))) | with_reducible refine Bk.drew ?_ | with_reducible refine Bk.alloc ?_ _)) _ _ _ _ _ _ | with_reducible exact Bk.set3 (by repeat (first | with_reducible assumption | ((with_reducible refine Bk.far' ?_ ?_); (focus (first | (simp; done) | (simp; omega)))) | with_reducible refine Bk.drew ?_ | with_reducible refine Bk.alloc ?_ _)) _ _ _ | with_reducible exact Bk.set2 (by repeat (first | with_reducible assumption | ((with_reducible refine Bk.far' ?_ ?_); (focus (first | (simp; done) | (simp; omega)))) | with_reducible refine Bk.drew ?_ | with_reducible refine Bk.alloc ?_ _)) _ _ | ((with_reducible refine Bk.far' ?_ ?_); (focus (first | (simp; done) | (simp; omega)))))) hb5
          have hbw5 : Below w.heap.size w w5 := by repeat (first | with_reducible assumption | with_reducible exact bw_refl _ | with_reducible refine bw_alloc ?_ _ | with_reducible refine bw_drew ?_ | with_reducible refine bw_drewN _ ?_ | refine bw_set ?_ (by simp; try omega) _ | refine bw_call (by with_reducible assumption) ?_)
          clear  hbw4 hb5
          have f0_0 : w5.cell? ⟨w4.heap.size, 0, none⟩ = some (.int .i64 0) := f0.cell 0
          have f0_1 : w5.cell? ⟨w4.heap.size, 1, none⟩ = some (.int .i64 0) := f0.cell 1
          have f0_2 : w5.cell? ⟨w4.heap.size, 2, none⟩ = some (.int .i64 0) := f0.cell 2
          have f0_f := f0.frozen
          have f0_l := f0.lt
          have hca := (hG5.cell an).trans (arrG_get rs 8 an ha8)
          have hcb := (hG5.cell bn).trans (arrG_get rs 8 bn hb8)
          rw [if_pos ha8] at hca
          rw [if_pos hb8] at hcb
          have hgl := hG5.lt
          generalize grp rs an = ga at *
          generalize grp rs bn = gb at *
          have hg1 : (ga == gb) = false := by simpa using hgr
          have hg2 : decide (ga = gb) = false := by simpa using hgr
          clear hG4 hG5 HBA HR4
          go_wp2_with fail
          go_quiet (fail)
          go_wp2
          go_ret
          exact ⟨rfl, by repeat (first | with_reducible assumption | with_reducible exact bw_refl _ | with_reducible refine bw_alloc ?_ _ | with_reducible refine bw_drew ?_ | with_reducible refine bw_drewN _ ?_ | refine bw_set ?_ (by simp; try omega) _ | refine bw_call (by with_reducible assumption) ?_)⟩
        | some f =>
          obtain ⟨fq, fx, fy⟩ := f
          rw [hbt] at he
          simp only [btV, frV] at he
          subst he
          have hba := loops_back Ha.out ha0 ha7 hb0 hb7 hbt
          have hgr : grp rs bn = grp rs an := ((grp_iff ha0 ha7 hb0 hb7 Ha.out.ok).2 ((btF_conn Ha.out.ok ha0 ha7 hb0 hb7).1 (by rw [hbt]; rfl))).symm
          obtain ⟨d1, d2, d3, d4, d5, d6⟩ := btF_bd Ha.out.ok hbt
          simp only at d1 d2 d3 d4 d5 d6
          have HBT := Lib.hid hbt
          have HIN := Lib.hid (show InvV fq fx fy = .tuple #[frV (invF (fq, fx, fy)), .int .i64 0] by
            unfold InvV invF frV
            rw [szB_in (by omega) (by omega), szB_in (by omega) (by omega)]
            rfl)
          have HBA := Lib.hid hba
          clear hbt hba
          generalize invF (fq, fx, fy) = iv at *
          obtain ⟨iq, ix, iy⟩ := iv
          go_wp2_with fail
          refine (Between_any w1.heap.size ob rs bn an _ (HR4.out.below (by repeat (first | with_reducible assumption | with_reducible exact bw_refl _ | with_reducible refine bw_alloc ?_ _ | with_reducible refine bw_drew ?_ | with_reducible refine bw_drewN _ ?_ | refine bw_set ?_ (by simp; try omega) _ | refine bw_call (by with_reducible assumption) ?_))) (by omega)).mono ?_
          rintro e w5 ⟨he, hb5⟩
          rw [HBA.out] at he
          simp only [btV, frV] at he
          subst he
          have hG5 : Bk w5 wr.heap.size 3 (arrG rs 8) := Bk.call (by repeat (first | with_reducible assumption | with_reducible refine Bk.drew ?_ | with_reducible refine Bk.drewN ?_ _ | with_reducible exact Bk.new _ _ _ | with_reducible exact Bk.new1 _ _ _ _ | with_reducible exact Bk.new2 _ _ _ _ _ | with_reducible exact Bk.new3 _ _ _ _ _ _ | with_reducible refine Bk.alloc ?_ _ | with_reducible exact Bk.set6 (by repeat (first | with_reducible assumption | ((with_reducible refine Bk.far' ?_ ?_); (focus (first | (simp; done) | (simp; omega)))) | with_reducible refine Bk.drew ?_ | with_reducible refine Bk.alloc ?_ _)) _ _ _ _ _ _ | with_reducible exact Bk.set3 (by repeat (first | with_reducible assumption | ((with_reducible refine Bk.far' ?_ ?_); (focus (first | (simp; done) | (simp; omega)))) | with_reducible refine Bk.drew ?_ | with_reducible refine Bk.alloc ?_ _)) _ _ _ | with_reducible exact Bk.set2 (by repeat (first | with_reducible assumption | ((with_reducible refine Bk.far' ?_ ?_); (focus (first | (simp; done) | (simp; omega)))) | with_reducible refine Bk.drew ?_ | with_reducible refine Bk.alloc ?_ _)) _ _ | ((with_reducible refine Bk.far' ?_ ?_); (focus (first | (simp; done) | (simp; omega)))))) hb5
          have HR5 := Lib.hid ((HR4.out.below (w' := w5) (bw_call hb5 (by repeat (first | with_reducible assumption | with_reducible exact bw_refl _ | with_reducible refine bw_alloc ?_ _ | with_reducible refine bw_drew ?_ | with_reducible refine bw_drewN _ ?_ | refine bw_set ?_ (by simp; try omega) _ | refine bw_call (by with_reducible assumption) ?_)))))
          have f0 : Bk w5 (w4.heap.size) 23 #[.int .i64 fq, .int .i64 fx, .int .i64 fy] := Bk.call (by repeat (first | with_reducible assumption | with_reducible refine Bk.drew ?_ | with_reducible refine Bk.drewN ?_ _ | with_reducible exact Bk.new _ _ _ | with_reducible exact Bk.new1 _ _ _ _ | with_reducible exact Bk.new2 _ _ _ _ _ | with_reducible exact Bk.new3 _ _ _ _ _ _ | with_reducible refine Bk.alloc ?_ _ | with_reducible exact Bk.set6 (by repeat (first | with_reducible assumption | ((with_reducible refine Bk.far' ?_ ?_); (focus (first | (simp; done) | (simp; omega)))) | with_reducible refine Bk.drew ?_ | with_reducible refine Bk.alloc ?_ _)) _ _ _ _ _ _ | with_reducible exact Bk.set3 (by repeat (first | with_reducible assumption | ((with_reducible refine Bk.far' ?_ ?_); (focus (first | (simp; done) | (simp; omega)))) | with_reducible refine Bk.drew ?_ | with_reducible refine Bk.alloc ?_ _)) _ _ _ | with_reducible exact Bk.set2 (by repeat (first | with_reducible assumption | ((with_reducible refine Bk.far' ?_ ?_); (focus (first | (simp; done) | (simp; omega)))) | with_reducible refine Bk.drew ?_ | with_reducible refine Bk.alloc ?_ _)) _ _ | ((with_reducible refine Bk.far' ?_ ?_); (focus (first | (simp; done) | (simp; omega)))))) hb5
          have hbw5 : Below w.heap.size w w5 := by repeat (first | with_reducible assumption | with_reducible exact bw_refl _ | with_reducible refine bw_alloc ?_ _ | with_reducible refine bw_drew ?_ | with_reducible refine bw_drewN _ ?_ | refine bw_set ?_ (by simp; try omega) _ | refine bw_call (by with_reducible assumption) ?_)
          clear  hbw4 hb5
          have f0_0 : w5.cell? ⟨w4.heap.size, 0, none⟩ = some (.int .i64 fq) := f0.cell 0
          have f0_1 : w5.cell? ⟨w4.heap.size, 1, none⟩ = some (.int .i64 fx) := f0.cell 1
          have f0_2 : w5.cell? ⟨w4.heap.size, 2, none⟩ = some (.int .i64 fy) := f0.cell 2
          have f0_f := f0.frozen
          have f0_l := f0.lt
          have hca := (hG5.cell an).trans (arrG_get rs 8 an ha8)
          have hcb := (hG5.cell bn).trans (arrG_get rs 8 bn hb8)
          rw [if_pos ha8] at hca
          rw [if_pos hb8, hgr] at hcb
          have hgl := hG5.lt
          generalize grp rs an = ga at *
          clear hG4 hG5 HBA HR4 hgr
          go_wp2_with fail
          go_quiet (fail)
          clear hca hcb
          go_wp2_with fail
          refine (Inverse_any fq fx fy _).mono ?_
          rintro e w6 ⟨he, hb6⟩
          rw [HIN.out] at he
          simp only [frV] at he
          subst he
          have HR6 := Lib.hid ((HR5.out.below (w' := w6) (bw_call hb6 (by repeat (first | with_reducible assumption | with_reducible exact bw_refl _ | with_reducible refine bw_alloc ?_ _ | with_reducible refine bw_drew ?_ | with_reducible refine bw_drewN _ ?_ | refine bw_set ?_ (by simp; try omega) _ | refine bw_call (by with_reducible assumption) ?_)))))
          have g0 : Bk w6 (w4.heap.size) 23 #[.int .i64 fq, .int .i64 fx, .int .i64 fy] := Bk.call (by repeat (first | with_reducible assumption | with_reducible refine Bk.drew ?_ | with_reducible refine Bk.drewN ?_ _ | with_reducible exact Bk.new _ _ _ | with_reducible exact Bk.new1 _ _ _ _ | with_reducible exact Bk.new2 _ _ _ _ _ | with_reducible exact Bk.new3 _ _ _ _ _ _ | with_reducible refine Bk.alloc ?_ _ | with_reducible exact Bk.set6 (by repeat (first | with_reducible assumption | ((with_reducible refine Bk.far' ?_ ?_); (focus (first | (simp; done) | (simp; omega)))) | with_reducible refine Bk.drew ?_ | with_reducible refine Bk.alloc ?_ _)) _ _ _ _ _ _ | with_reducible exact Bk.set3 (by repeat (first | with_reducible assumption | ((with_reducible refine Bk.far' ?_ ?_); (focus (first | (simp; done) | (simp; omega)))) | with_reducible refine Bk.drew ?_ | with_reducible refine Bk.alloc ?_ _)) _ _ _ | with_reducible exact Bk.set2 (by repeat (first | with_reducible assumption | ((with_reducible refine Bk.far' ?_ ?_); (focus (first | (simp; done) | (simp; omega)))) | with_reducible refine Bk.drew ?_ | with_reducible refine Bk.alloc ?_ _)) _ _ | ((with_reducible refine Bk.far' ?_ ?_); (focus (first | (simp; done) | (simp; omega)))))) hb6
          have g1 : Bk w6 (w5.heap.size) 23 #[.int .i64 iq, .int .i64 ix, .int .i64 iy] := Bk.call (by repeat (first | with_reducible assumption | with_reducible refine Bk.drew ?_ | with_reducible refine Bk.drewN ?_ _ | with_reducible exact Bk.new _ _ _ | with_reducible exact Bk.new1 _ _ _ _ | with_reducible exact Bk.new2 _ _ _ _ _ | with_reducible exact Bk.new3 _ _ _ _ _ _ | with_reducible refine Bk.alloc ?_ _ | with_reducible exact Bk.set6 (by repeat (first | with_reducible assumption | ((with_reducible refine Bk.far' ?_ ?_); (focus (first | (simp; done) | (simp; omega)))) | with_reducible refine Bk.drew ?_ | with_reducible refine Bk.alloc ?_ _)) _ _ _ _ _ _ | with_reducible exact Bk.set3 (by repeat (first | with_reducible assumption | ((with_reducible refine Bk.far' ?_ ?_); (focus (first | (simp; done) | (simp; omega)))) | with_reducible refine Bk.drew ?_ | with_reducible refine Bk.alloc ?_ _)) _ _ _ | with_reducible exact Bk.set2 (by repeat (first | with_reducible assumption | ((with_reducible refine Bk.far' ?_ ?_); (focus (first | (simp; done) | (simp; omega)))) | with_reducible refine Bk.drew ?_ | with_reducible refine Bk.alloc ?_ _)) _ _ | ((with_reducible refine Bk.far' ?_ ?_); (focus (first | (simp; done) | (simp; omega)))))) hb6
          have hbw6 : Below w.heap.size w w6 := by repeat (first | with_reducible assumption | with_reducible exact bw_refl _ | with_reducible refine bw_alloc ?_ _ | with_reducible refine bw_drew ?_ | with_reducible refine bw_drewN _ ?_ | refine bw_set ?_ (by simp; try omega) _ | refine bw_call (by with_reducible assumption) ?_)
          clear f0 f0_0 f0_1 f0_2 f0_f f0_l hbw5 hb6
          have g0_0 : w6.cell? ⟨w4.heap.size, 0, none⟩ = some (.int .i64 fq) := g0.cell 0
          have g0_1 : w6.cell? ⟨w4.heap.size, 1, none⟩ = some (.int .i64 fx) := g0.cell 1
          have g0_2 : w6.cell? ⟨w4.heap.size, 2, none⟩ = some (.int .i64 fy) := g0.cell 2
          have g0_f := g0.frozen
          have g0_l := g0.lt
          have g1_0 : w6.cell? ⟨w5.heap.size, 0, none⟩ = some (.int .i64 iq) := g1.cell 0
          have g1_1 : w6.cell? ⟨w5.heap.size, 1, none⟩ = some (.int .i64 ix) := g1.cell 1
          have g1_2 : w6.cell? ⟨w5.heap.size, 2, none⟩ = some (.int .i64 iy) := g1.cell 2
          have g1_f := g1.frozen
          have g1_l := g1.lt
          clear HR5 HIN
          go_wp2_with fail
          go_loopg [16] 8 (fun g i wr => LpJ rs w w1.heap.size ob w4.heap.size (fq, fx, fy) g i wr)
          case atStart => exact ⟨0, by omega, by omega, by simp, HR6.out.below (by repeat (first | with_reducible assumption | with_reducible exact bw_refl _ | with_reducible refine bw_alloc ?_ _ | with_reducible refine bw_drew ?_ | with_reducible refine bw_drewN _ ?_ | refine bw_set ?_ (by simp; try omega) _ | refine bw_call (by with_reducible assumption) ?_)), by repeat (first | with_reducible assumption | with_reducible refine Bk.drew ?_ | with_reducible refine Bk.drewN ?_ _ | with_reducible exact Bk.new _ _ _ | with_reducible exact Bk.new1 _ _ _ _ | with_reducible exact Bk.new2 _ _ _ _ _ | with_reducible exact Bk.new3 _ _ _ _ _ _ | with_reducible refine Bk.alloc ?_ _ | with_reducible exact Bk.set6 (by repeat (first | with_reducible assumption | ((with_reducible refine Bk.far' ?_ ?_); (focus (first | (simp; done) | (simp; omega)))) | with_reducible refine Bk.drew ?_ | with_reducible refine Bk.alloc ?_ _)) _ _ _ _ _ _ | with_reducible exact Bk.set3 (by repeat (first | with_reducible assumption | ((with_reducible refine Bk.far' ?_ ?_); (focus (first | (simp; done) | (simp; omega)))) | with_reducible refine Bk.drew ?_ | with_reducible refine Bk.alloc ?_ _)) _ _ _ | with_reducible exact Bk.set2 (by repeat (first | with_reducible assumption | ((with_reducible refine Bk.far' ?_ ?_); (focus (first | (simp; done) | (simp; omega)))) | with_reducible refine Bk.drew ?_ | with_reducible refine Bk.alloc ?_ _)) _ _ | ((with_reducible refine Bk.far' ?_ ?_); (focus (first | (simp; done) | (simp; omega))))), by repeat (first | with_reducible assumption | with_reducible exact bw_refl _ | with_reducible refine bw_alloc ?_ _ | with_reducible refine bw_drew ?_ | with_reducible refine bw_drewN _ ?_ | refine bw_set ?_ (by simp; try omega) _ | refine bw_call (by with_reducible assumption) ?_)⟩
          case round =>
            clear g0 g0_0 g0_1 g0_2 g0_f g0_l g1 g1_0 g1_1 g1_2 g1_f g1_l HR6 hbw6
            obtain ⟨c, hc, hgc, rfl, hr7, hB7, hbw7⟩ := hrel
            have HG := Lib.hid hgc
            have HR7 := Lib.hid hr7
            clear hgc hr7
            by_cases hc8 : c < 8
            · have hch := loops_chain Ha.out ha0 ha7 hb0 hb7 (show (0 : Int) ≤ c by omega) (show (c : Int) < 8 by omega) HBT.out
              rcases hch with ⟨h1, h2⟩ | ⟨g, h1, h2⟩
              · have H1 := Lib.hid h1
                have H2 := Lib.hid h2
                clear h1 h2
                go_wp2_with fail
                refine (Between_any w1.heap.size ob rs bn c _ HR7.out (by omega)).mono ?_
                rintro e w8 ⟨he, hb8⟩
                rw [H1.out] at he
                simp only [btV] at he
                subst he
                have HR8 := Lib.hid (HR7.out.below hb8)
                have hB8 := hB7.call hb8
                have hbw8 : Below w.heap.size w w8 := bw_call hb8 hbw7
                clear hb8 HR7 hB7 hbw7
                go_wp2_with fail
                refine (Between_any w1.heap.size ob rs an c _ (HR8.out.below (by repeat (first | with_reducible assumption | with_reducible exact bw_refl _ | with_reducible refine bw_alloc ?_ _ | with_reducible refine bw_drew ?_ | with_reducible refine bw_drewN _ ?_ | refine bw_set ?_ (by simp; try omega) _ | refine bw_call (by with_reducible assumption) ?_))) (by omega)).mono ?_
                rintro e w9 ⟨he, hb9⟩
                rw [H2.out] at he
                simp only [btV] at he
                subst he
                have HR9 := Lib.hid (HR8.out.below (w' := w9) (bw_call hb9 (by repeat (first | with_reducible assumption | with_reducible exact bw_refl _ | with_reducible refine bw_alloc ?_ _ | with_reducible refine bw_drew ?_ | with_reducible refine bw_drewN _ ?_ | refine bw_set ?_ (by simp; try omega) _ | refine bw_call (by with_reducible assumption) ?_))))
                have hB9 : Bk w9 w4.heap.size 23 #[.int .i64 fq, .int .i64 fx, .int .i64 fy] := Bk.call (by repeat (first | with_reducible assumption | with_reducible refine Bk.drew ?_ | with_reducible refine Bk.drewN ?_ _ | with_reducible exact Bk.new _ _ _ | with_reducible exact Bk.new1 _ _ _ _ | with_reducible exact Bk.new2 _ _ _ _ _ | with_reducible exact Bk.new3 _ _ _ _ _ _ | with_reducible refine Bk.alloc ?_ _ | with_reducible exact Bk.set6 (by repeat (first | with_reducible assumption | ((with_reducible refine Bk.far' ?_ ?_); (focus (first | (simp; done) | (simp; omega)))) | with_reducible refine Bk.drew ?_ | with_reducible refine Bk.alloc ?_ _)) _ _ _ _ _ _ | with_reducible exact Bk.set3 (by repeat (first | with_reducible assumption | ((with_reducible refine Bk.far' ?_ ?_); (focus (first | (simp; done) | (simp; omega)))) | with_reducible refine Bk.drew ?_ | with_reducible refine Bk.alloc ?_ _)) _ _ _ | with_reducible exact Bk.set2 (by repeat (first | with_reducible assumption | ((with_reducible refine Bk.far' ?_ ?_); (focus (first | (simp; done) | (simp; omega)))) | with_reducible refine Bk.drew ?_ | with_reducible refine Bk.alloc ?_ _)) _ _ | ((with_reducible refine Bk.far' ?_ ?_); (focus (first | (simp; done) | (simp; omega)))))) hb9
                have hbw9 : Below w.heap.size w w9 := by repeat (first | with_reducible assumption | with_reducible exact bw_refl _ | with_reducible refine bw_alloc ?_ _ | with_reducible refine bw_drew ?_ | with_reducible refine bw_drewN _ ?_ | refine bw_set ?_ (by simp; try omega) _ | refine bw_call (by with_reducible assumption) ?_)
                clear hb9 HR8 hB8 hbw8
                go_wp2
                go_roundg (8 - (c + 1))
                case measure => have := HG.out; omega
                case rel => exact ⟨c + 1, by omega, rfl, by go_num, HR9.out.below (by repeat (first | with_reducible assumption | with_reducible exact bw_refl _ | with_reducible refine bw_alloc ?_ _ | with_reducible refine bw_drew ?_ | with_reducible refine bw_drewN _ ?_ | refine bw_set ?_ (by simp; try omega) _ | refine bw_call (by with_reducible assumption) ?_)), by repeat (first | with_reducible assumption | with_reducible refine Bk.drew ?_ | with_reducible refine Bk.drewN ?_ _ | with_reducible exact Bk.new _ _ _ | with_reducible exact Bk.new1 _ _ _ _ | with_reducible exact Bk.new2 _ _ _ _ _ | with_reducible exact Bk.new3 _ _ _ _ _ _ | with_reducible refine Bk.alloc ?_ _ | with_reducible exact Bk.set6 (by repeat (first | with_reducible assumption | ((with_reducible refine Bk.far' ?_ ?_); (focus (first | (simp; done) | (simp; omega)))) | with_reducible refine Bk.drew ?_ | with_reducible refine Bk.alloc ?_ _)) _ _ _ _ _ _ | with_reducible exact Bk.set3 (by repeat (first | with_reducible assumption | ((with_reducible refine Bk.far' ?_ ?_); (focus (first | (simp; done) | (simp; omega)))) | with_reducible refine Bk.drew ?_ | with_reducible refine Bk.alloc ?_ _)) _ _ _ | with_reducible exact Bk.set2 (by repeat (first | with_reducible assumption | ((with_reducible refine Bk.far' ?_ ?_); (focus (first | (simp; done) | (simp; omega)))) | with_reducible refine Bk.drew ?_ | with_reducible refine Bk.alloc ?_ _)) _ _ | ((with_reducible refine Bk.far' ?_ ?_); (focus (first | (simp; done) | (simp; omega))))), by repeat (first | with_reducible assumption | with_reducible exact bw_refl _ | with_reducible refine bw_alloc ?_ _ | with_reducible refine bw_drew ?_ | with_reducible refine bw_drewN _ ?_ | refine bw_set ?_ (by simp; try omega) _ | refine bw_call (by with_reducible assumption) ?_)⟩
              · obtain ⟨gq, gx, gy⟩ := g
                have H1 := Lib.hid h1
                have H2 := Lib.hid h2
                obtain ⟨e1, e2, e3, e4, e5, e6⟩ := btF_bd Ha.out.ok h1
                have e7 := btF_bd Ha.out.ok h2
                simp only at e1 e2 e3 e4 e5 e6
                have HC := Lib.hid (show CmpV fq fx fy gq gx gy = .tuple #[frV (cmpF (fq, fx, fy) (gq, gx, gy)), .int .i64 0] by
                  obtain ⟨_, _, e9, e10, e11, e12⟩ := e7
                  unfold cmpF at *
                  unfold CmpV frV
                  simp only at e9 e10 e11 e12 ⊢
                  rw [szB_in (by omega) (by omega), szB_in (by omega) (by omega), szB_in (by omega) (by omega), szB_in (by omega) (by omega), szB_in (by omega) (by omega), szB_in (by omega) (by omega)]
                  rfl)
                clear h1 h2 e7
                generalize cmpF (fq, fx, fy) (gq, gx, gy) = cm at *
                obtain ⟨cq, cx, cy⟩ := cm
                go_wp2_with fail
                refine (Between_any w1.heap.size ob rs bn c _ HR7.out (by omega)).mono ?_
                rintro e w8 ⟨he, hb8⟩
                rw [H1.out] at he
                simp only [btV, frV] at he
                subst he
                have HR8 := Lib.hid (HR7.out.below hb8)
                have hB8 := hB7.call hb8
                have hbw8 : Below w.heap.size w w8 := bw_call hb8 hbw7
                clear hb8 HR7 hB7 hbw7
                go_wp2_with fail
                refine (Between_any w1.heap.size ob rs an c _ (HR8.out.below (by repeat (first | with_reducible assumption | with_reducible exact bw_refl _ | with_reducible refine bw_alloc ?_ _ | with_reducible refine bw_drew ?_ | with_reducible refine bw_drewN _ ?_ | refine bw_set ?_ (by simp; try omega) _ | refine bw_call (by with_reducible assumption) ?_))) (by omega)).mono ?_
                rintro e w9 ⟨he, hb9⟩
                rw [H2.out] at he
                simp only [btV, frV] at he
                subst he
                have HR9 := Lib.hid (HR8.out.below (w' := w9) (bw_call hb9 (by repeat (first | with_reducible assumption | with_reducible exact bw_refl _ | with_reducible refine bw_alloc ?_ _ | with_reducible refine bw_drew ?_ | with_reducible refine bw_drewN _ ?_ | refine bw_set ?_ (by simp; try omega) _ | refine bw_call (by with_reducible assumption) ?_))))
                have k0 : Bk w9 (w4.heap.size) 23 #[.int .i64 fq, .int .i64 fx, .int .i64 fy] := Bk.call (by repeat (first | with_reducible assumption | with_reducible refine Bk.drew ?_ | with_reducible refine Bk.drewN ?_ _ | with_reducible exact Bk.new _ _ _ | with_reducible exact Bk.new1 _ _ _ _ | with_reducible exact Bk.new2 _ _ _ _ _ | with_reducible exact Bk.new3 _ _ _ _ _ _ | with_reducible refine Bk.alloc ?_ _ | with_reducible exact Bk.set6 (by repeat (first | with_reducible assumption | ((with_reducible refine Bk.far' ?_ ?_); (focus (first | (simp; done) | (simp; omega)))) | with_reducible refine Bk.drew ?_ | with_reducible refine Bk.alloc ?_ _)) _ _ _ _ _ _ | with_reducible exact Bk.set3 (by repeat (first | with_reducible assumption | ((with_reducible refine Bk.far' ?_ ?_); (focus (first | (simp; done) | (simp; omega)))) | with_reducible refine Bk.drew ?_ | with_reducible refine Bk.alloc ?_ _)) _ _ _ | with_reducible exact Bk.set2 (by repeat (first | with_reducible assumption | ((with_reducible refine Bk.far' ?_ ?_); (focus (first | (simp; done) | (simp; omega)))) | with_reducible refine Bk.drew ?_ | with_reducible refine Bk.alloc ?_ _)) _ _ | ((with_reducible refine Bk.far' ?_ ?_); (focus (first | (simp; done) | (simp; omega)))))) hb9
                have k1 : Bk w9 (w8.heap.size) 23 #[.int .i64 gq, .int .i64 gx, .int .i64 gy] := Bk.call (by repeat (first | with_reducible assumption | with_reducible refine Bk.drew ?_ | with_reducible refine Bk.drewN ?_ _ | with_reducible exact Bk.new _ _ _ | with_reducible exact Bk.new1 _ _ _ _ | with_reducible exact Bk.new2 _ _ _ _ _ | with_reducible exact Bk.new3 _ _ _ _ _ _ | with_reducible refine Bk.alloc ?_ _ | with_reducible exact Bk.set6 (by repeat (first | with_reducible assumption | ((with_reducible refine Bk.far' ?_ ?_); (focus (first | (simp; done) | (simp; omega)))) | with_reducible refine Bk.drew ?_ | with_reducible refine Bk.alloc ?_ _)) _ _ _ _ _ _ | with_reducible exact Bk.set3 (by repeat (first | with_reducible assumption | ((with_reducible refine Bk.far' ?_ ?_); (focus (first | (simp; done) | (simp; omega)))) | with_reducible refine Bk.drew ?_ | with_reducible refine Bk.alloc ?_ _)) _ _ _ | with_reducible exact Bk.set2 (by repeat (first | with_reducible assumption | ((with_reducible refine Bk.far' ?_ ?_); (focus (first | (simp; done) | (simp; omega)))) | with_reducible refine Bk.drew ?_ | with_reducible refine Bk.alloc ?_ _)) _ _ | ((with_reducible refine Bk.far' ?_ ?_); (focus (first | (simp; done) | (simp; omega)))))) hb9
                have hbw9 : Below w.heap.size w w9 := by repeat (first | with_reducible assumption | with_reducible exact bw_refl _ | with_reducible refine bw_alloc ?_ _ | with_reducible refine bw_drew ?_ | with_reducible refine bw_drewN _ ?_ | refine bw_set ?_ (by simp; try omega) _ | refine bw_call (by with_reducible assumption) ?_)
                clear  hbw8 hb9
                have k0_0 : w9.cell? ⟨w4.heap.size, 0, none⟩ = some (.int .i64 fq) := k0.cell 0
                have k0_1 : w9.cell? ⟨w4.heap.size, 1, none⟩ = some (.int .i64 fx) := k0.cell 1
                have k0_2 : w9.cell? ⟨w4.heap.size, 2, none⟩ = some (.int .i64 fy) := k0.cell 2
                have k0_f := k0.frozen
                have k0_l := k0.lt
                have k1_0 : w9.cell? ⟨w8.heap.size, 0, none⟩ = some (.int .i64 gq) := k1.cell 0
                have k1_1 : w9.cell? ⟨w8.heap.size, 1, none⟩ = some (.int .i64 gx) := k1.cell 1
                have k1_2 : w9.cell? ⟨w8.heap.size, 2, none⟩ = some (.int .i64 gy) := k1.cell 2
                have k1_f := k1.frozen
                have k1_l := k1.lt
                clear HR8 hB8
                go_wp2_with fail
                refine (Compose_any fq fx fy gq gx gy _).mono ?_
                rintro e w10 ⟨he, hb10⟩
                rw [HC.out] at he
                simp only [frV] at he
                subst he
                have HR10 := Lib.hid (HR9.out.below (w' := w10) (bw_call hb10 (by repeat (first | with_reducible assumption | with_reducible exact bw_refl _ | with_reducible refine bw_alloc ?_ _ | with_reducible refine bw_drew ?_ | with_reducible refine bw_drewN _ ?_ | refine bw_set ?_ (by simp; try omega) _ | refine bw_call (by with_reducible assumption) ?_))))
                have m0 : Bk w10 (w4.heap.size) 23 #[.int .i64 fq, .int .i64 fx, .int .i64 fy] := Bk.call (by repeat (first | with_reducible assumption | with_reducible refine Bk.drew ?_ | with_reducible refine Bk.drewN ?_ _ | with_reducible exact Bk.new _ _ _ | with_reducible exact Bk.new1 _ _ _ _ | with_reducible exact Bk.new2 _ _ _ _ _ | with_reducible exact Bk.new3 _ _ _ _ _ _ | with_reducible refine Bk.alloc ?_ _ | with_reducible exact Bk.set6 (by repeat (first | with_reducible assumption | ((with_reducible refine Bk.far' ?_ ?_); (focus (first | (simp; done) | (simp; omega)))) | with_reducible refine Bk.drew ?_ | with_reducible refine Bk.alloc ?_ _)) _ _ _ _ _ _ | with_reducible exact Bk.set3 (by repeat (first | with_reducible assumption | ((with_reducible refine Bk.far' ?_ ?_); (focus (first | (simp; done) | (simp; omega)))) | with_reducible refine Bk.drew ?_ | with_reducible refine Bk.alloc ?_ _)) _ _ _ | with_reducible exact Bk.set2 (by repeat (first | with_reducible assumption | ((with_reducible refine Bk.far' ?_ ?_); (focus (first | (simp; done) | (simp; omega)))) | with_reducible refine Bk.drew ?_ | with_reducible refine Bk.alloc ?_ _)) _ _ | ((with_reducible refine Bk.far' ?_ ?_); (focus (first | (simp; done) | (simp; omega)))))) hb10
                have m1 : Bk w10 (w9.heap.size) 23 #[.int .i64 cq, .int .i64 cx, .int .i64 cy] := Bk.call (by repeat (first | with_reducible assumption | with_reducible refine Bk.drew ?_ | with_reducible refine Bk.drewN ?_ _ | with_reducible exact Bk.new _ _ _ | with_reducible exact Bk.new1 _ _ _ _ | with_reducible exact Bk.new2 _ _ _ _ _ | with_reducible exact Bk.new3 _ _ _ _ _ _ | with_reducible refine Bk.alloc ?_ _ | with_reducible exact Bk.set6 (by repeat (first | with_reducible assumption | ((with_reducible refine Bk.far' ?_ ?_); (focus (first | (simp; done) | (simp; omega)))) | with_reducible refine Bk.drew ?_ | with_reducible refine Bk.alloc ?_ _)) _ _ _ _ _ _ | with_reducible exact Bk.set3 (by repeat (first | with_reducible assumption | ((with_reducible refine Bk.far' ?_ ?_); (focus (first | (simp; done) | (simp; omega)))) | with_reducible refine Bk.drew ?_ | with_reducible refine Bk.alloc ?_ _)) _ _ _ | with_reducible exact Bk.set2 (by repeat (first | with_reducible assumption | ((with_reducible refine Bk.far' ?_ ?_); (focus (first | (simp; done) | (simp; omega)))) | with_reducible refine Bk.drew ?_ | with_reducible refine Bk.alloc ?_ _)) _ _ | ((with_reducible refine Bk.far' ?_ ?_); (focus (first | (simp; done) | (simp; omega)))))) hb10
                have hbw10 : Below w.heap.size w w10 := by repeat (first | with_reducible assumption | with_reducible exact bw_refl _ | with_reducible refine bw_alloc ?_ _ | with_reducible refine bw_drew ?_ | with_reducible refine bw_drewN _ ?_ | refine bw_set ?_ (by simp; try omega) _ | refine bw_call (by with_reducible assumption) ?_)
                clear k0 k0_0 k0_1 k0_2 k0_f k0_l k1 k1_0 k1_1 k1_2 k1_f k1_l hbw9 hb10
                have m0_0 : w10.cell? ⟨w4.heap.size, 0, none⟩ = some (.int .i64 fq) := m0.cell 0
                have m0_1 : w10.cell? ⟨w4.heap.size, 1, none⟩ = some (.int .i64 fx) := m0.cell 1
                have m0_2 : w10.cell? ⟨w4.heap.size, 2, none⟩ = some (.int .i64 fy) := m0.cell 2
                have m0_f := m0.frozen
                have m0_l := m0.lt
                have m1_0 : w10.cell? ⟨w9.heap.size, 0, none⟩ = some (.int .i64 cq) := m1.cell 0
                have m1_1 : w10.cell? ⟨w9.heap.size, 1, none⟩ = some (.int .i64 cx) := m1.cell 1
                have m1_2 : w10.cell? ⟨w9.heap.size, 2, none⟩ = some (.int .i64 cy) := m1.cell 2
                have m1_f := m1.frozen
                have m1_l := m1.lt
                clear HR9
                go_wp2
                go_roundg (8 - (c + 1))
                case measure => have := HG.out; omega
                case rel => exact ⟨c + 1, by omega, rfl, by go_num, HR10.out.below (by repeat (first | with_reducible assumption | with_reducible exact bw_refl _ | with_reducible refine bw_alloc ?_ _ | with_reducible refine bw_drew ?_ | with_reducible refine bw_drewN _ ?_ | refine bw_set ?_ (by simp; try omega) _ | refine bw_call (by with_reducible assumption) ?_)), by repeat (first | with_reducible assumption | with_reducible refine Bk.drew ?_ | with_reducible refine Bk.drewN ?_ _ | with_reducible exact Bk.new _ _ _ | with_reducible exact Bk.new1 _ _ _ _ | with_reducible exact Bk.new2 _ _ _ _ _ | with_reducible exact Bk.new3 _ _ _ _ _ _ | with_reducible refine Bk.alloc ?_ _ | with_reducible exact Bk.set6 (by repeat (first | with_reducible assumption | ((with_reducible refine Bk.far' ?_ ?_); (focus (first | (simp; done) | (simp; omega)))) | with_reducible refine Bk.drew ?_ | with_reducible refine Bk.alloc ?_ _)) _ _ _ _ _ _ | with_reducible exact Bk.set3 (by repeat (first | with_reducible assumption | ((with_reducible refine Bk.far' ?_ ?_); (focus (first | (simp; done) | (simp; omega)))) | with_reducible refine Bk.drew ?_ | with_reducible refine Bk.alloc ?_ _)) _ _ _ | with_reducible exact Bk.set2 (by repeat (first | with_reducible assumption | ((with_reducible refine Bk.far' ?_ ?_); (focus (first | (simp; done) | (simp; omega)))) | with_reducible refine Bk.drew ?_ | with_reducible refine Bk.alloc ?_ _)) _ _ | ((with_reducible refine Bk.far' ?_ ?_); (focus (first | (simp; done) | (simp; omega))))), by repeat (first | with_reducible assumption | with_reducible exact bw_refl _ | with_reducible refine bw_alloc ?_ _ | with_reducible refine bw_drew ?_ | with_reducible refine bw_drewN _ ?_ | refine bw_set ?_ (by simp; try omega) _ | refine bw_call (by with_reducible assumption) ?_)⟩
            · obtain rfl : c = 8 := by omega
              go_wp2
              go_ret
              exact ⟨rfl, hbw7⟩
  · go_enter Try.func9, Try.ntmps9
    go_wp2_with fail
    refine (awake_any _).mono ?_
    rintro e w1 ⟨rfl, hb1⟩
    go_wp2_with fail
    refine (awake_any _).mono ?_
    rintro e w2 ⟨rfl, hb2⟩
    go_wp2
    go_ret
    exact ⟨rfl, bw_call hb2 hb1⟩
end Go.Proofs.Ytkacggfadalbiaa
