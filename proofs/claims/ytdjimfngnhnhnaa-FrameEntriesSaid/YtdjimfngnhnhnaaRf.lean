/- The walk of (*Relations).from: the map of the reached robots. -/
import Derived.Test.YtdjimfngnhnhnaaFr3
import Derived.Test.YtdjimfngnhnhnaaRp
set_option linter.all false
namespace Go.Proofs.Ytdjimfngnhnhnaa
open Go.RowKit

theorem zeroFr (w : World) : (zeroValue 23).run Try.prog w = .ok (.agg #[.int .i64 0, .int .i64 0, .int .i64 0]) w := by kernel_rfl

/-- the rules of a map of frames at block b that holds m, for a walk's context -/
theorem map_rules (b : Nat) (M : List (Int × Value)) :
    (∀ (W : World) (k : Int), MapAt W b M → (Instr.lookup 124 (.map (some b)) (.int .i64 k) true).run Try.prog W = .ok (.tuple #[mGet M k (.agg #[.int .i64 0, .int .i64 0, .int .i64 0]), .bool (mHas M k)]) W) ∧
    (∀ (W : World) (k : Int) (u : Value), MapAt W b M → mLook M k = none → (Instr.mapUpdate 124 (.map (some b)) (.int .i64 k) u).run Try.prog W = .ok () (putM W b M k u)) :=
  ⟨fun _ k h => run_lookup_mp Try.underlying124 Try.underlying3 zeroFr h k, fun _ k u h hn => run_up_mp Try.underlying124 Try.underlying3 h k hn u⟩

/-- the slice of relations at address A reads as rs -/
def RelsAt (w : World) (A : Option Addr) (rs : List Rel) : Prop :=
  rs = [] ∨ ∃ g, A = some ⟨g, 0, none⟩ ∧ ∀ (i : Nat) (r : Rel), rs[i]? = some r →
    w.cell? ⟨g, i * 5, none⟩ = some (.int .i64 r.1) ∧ w.cell? ⟨g, i * 5 + 1, none⟩ = some (.int .i64 r.2.1) ∧ w.cell? ⟨g, i * 5 + 2, none⟩ = some (.int .i64 r.2.2.1) ∧
    w.cell? ⟨g, i * 5 + 3, none⟩ = some (.int .i64 r.2.2.2.1) ∧ w.cell? ⟨g, i * 5 + 4, none⟩ = some (.int .i64 r.2.2.2.2)

theorem Below.cell0 {B : Nat} {w w' : World} (h : Below B w w') {b o : Nat} {v : Value} (hB : B = w.heap.size) (hc : w.cell? ⟨b, o, none⟩ = some v) : w'.cell? ⟨b, o, none⟩ = some v := by
  subst hB
  exact (h.cell (p := ⟨b, o, none⟩) (World.block_lt_of_cell? w _ hc)).trans hc

def FromI (rs : List Rel) (a : Int) (w : World) (k : Nat) (fd : Value) (wr : World) : Prop :=
  ∃ (i : Nat) (b : Bool), fd = .bool b ∧ i + 1 ≤ (iterM rs i [(a, (0, 0, 0))]).length ∧ (b = false → passM rs (iterM rs i [(a, (0, 0, 0))]) = iterM rs i [(a, (0, 0, 0))]) ∧
    MapAt wr w.heap.size (encM (iterM rs i [(a, (0, 0, 0))])) ∧ Below w.heap.size w wr ∧ w.heap.size < wr.heap.size ∧ MOk (iterM rs i [(a, (0, 0, 0))]) ∧ k = (if b then 10 - i else 0)

def FromJ (rs : List Rel) (m : List (Int × Fr)) (w : World) (k : Nat) (fd ix : Value) (wr : World) : Prop :=
  ∃ (j : Nat) (b : Bool), j ≤ rs.length ∧ k = rs.length - j ∧ ix = .int .i64 j ∧ fd = .bool b ∧ (b = true ↔ m.length < (passM (rs.take j) m).length) ∧
    MapAt wr w.heap.size (encM (passM (rs.take j) m)) ∧ Below w.heap.size w wr ∧ w.heap.size < wr.heap.size ∧ MOk (passM (rs.take j) m)

theorem passM_take_succ {rs : List Rel} {j : Nat} {r : Rel} (h : rs[j]? = some r) (m : List (Int × Fr)) : passM (rs.take (j + 1)) m = stepM (passM (rs.take j) m) r := by
  obtain ⟨hj, rfl⟩ := List.getElem?_eq_some_iff.1 h
  rw [List.take_succ_eq_append_getElem hj, passM_snoc]

theorem FromJ.skip {rs : List Rel} {m : List (Int × Fr)} {w wr : World} {j : Nat} {b : Bool} {r : Rel} (hj : rs[j]? = some r) (hs : stepM (passM (rs.take j) m) r = passM (rs.take j) m)
    (hb : b = true ↔ m.length < (passM (rs.take j) m).length) (hm : MapAt wr w.heap.size (encM (passM (rs.take j) m))) (hl : Below w.heap.size w wr) (hz : w.heap.size < wr.heap.size) (ho : MOk (passM (rs.take j) m)) :
    FromJ rs m w (rs.length - (j + 1)) (.bool b) (.int .i64 ((j : Int) + 1)) wr := by
  have hlt : j < rs.length := (List.getElem?_eq_some_iff.1 hj).1
  refine ⟨j + 1, b, by omega, rfl, by simp, rfl, ?_, ?_, hl, hz, ?_⟩ <;> rw [passM_take_succ hj, hs] <;> assumption

theorem FromJ.grow {rs : List Rel} {m : List (Int × Fr)} {w wr : World} {j : Nat} {r : Rel} {k : Int} {f : Fr} (hj : rs[j]? = some r) (hr : RelOk r) (hs : stepM (passM (rs.take j) m) r = passM (rs.take j) m ++ [(k, f)])
    (hm : MapAt wr w.heap.size (encM (passM (rs.take j) m) ++ [(k, frV f)])) (hl : Below w.heap.size w wr) (hz : w.heap.size < wr.heap.size) (ho : MOk (passM (rs.take j) m)) :
    FromJ rs m w (rs.length - (j + 1)) (.bool true) (.int .i64 ((j : Int) + 1)) wr := by
  have hlt : j < rs.length := (List.getElem?_eq_some_iff.1 hj).1
  have h1 := (passM_len (rs.take j) m).1
  have h2 := stepM_ok ho hr
  refine ⟨j + 1, true, by omega, rfl, by simp, rfl, ?_, ?_, hl, hz, ?_⟩
  · rw [passM_take_succ hj, hs, List.length_append]; simp; omega
  · rw [passM_take_succ hj, hs, encM_snoc]; exact hm
  · rw [passM_take_succ hj]; exact h2

set_option maxRecDepth 100000 in
set_option maxHeartbeats 1000000 in
theorem from_any (rb : Nat) (A : Option Addr) (c : Nat) (rs : List Rel) (a : Int) (w : World) (hp : w.cell? ⟨rb, 0, none⟩ = some (.slice A rs.length c)) (hr : RelsAt w A rs) (hok : ∀ r ∈ rs, RelOk r)
    (hn : rs.length ≤ 100) (ha0 : 0 ≤ a) (ha1 : a < 8) :
    Calls Try.prog 93 #[.pointer (some ⟨rb, 0, none⟩), .int .i64 a] w fun e w' => e = .returned (.map (some w.heap.size)) ∧ MapAt w' w.heap.size (encM (fromL rs a)) ∧ Below w.heap.size w w' := by
  have hmm := @run_makeMap Try.prog
  have hst := MOk.start a ha0 ha1
  have hrb := World.block_lt_of_cell? w _ hp
  have HR := Lib.hid hr
  have HOK := Lib.hid hok
  have HP := Lib.hid hp
  clear hr hok hp
  go_enter Try.func93, Try.ntmps93
  have hmade := MapAt.made w
  have hup := run_up_mp (P := Try.prog) Try.underlying124 Try.underlying3 hmade a rfl (.agg #[.int .i64 0, .int .i64 0, .int .i64 0])
  go_wp2
  clear hmm hup
  have hm1 := putM_map hmade a (.agg #[.int .i64 0, .int .i64 0, .int .i64 0])
  have hb1 := putM_below (bw_alloc (bw_refl w) _) hmade (Nat.le_refl _) a (.agg #[.int .i64 0, .int .i64 0, .int .i64 0])
  have hz1 : w.heap.size < (putM (w.alloc (.map #[] 0)) w.heap.size [] a (.agg #[.int .i64 0, .int .i64 0, .int .i64 0])).heap.size := by rw [putM_size]; simp
  go_loopg [6] 10 (fun k fd wr => FromI rs a w k fd wr)
  case atStart => exact ⟨0, true, rfl, by simp [iterM], by simp, hm1, hb1, hz1, hst, by simp⟩
  case round =>
    clear hm1 hb1 hz1 hmade
    obtain ⟨i, b, rfl, hi, hfix, hm, hbl, hsz, hmo, hk⟩ := hrel
    have hc0 := Below.cell0 hbl rfl HP.out
    cases b
    · have HF := Lib.hid (fromL_of (by have := hmo.len; omega) (hfix rfl))
      clear hfix hk
      go_wp2
      go_ret
      refine ⟨rfl, ?_, hbl⟩
      rw [← HF.out]; exact hm
    · clear hfix
      have HK := Lib.hid (show gk = 10 - i by simpa using hk)
      clear hk
      generalize hM : iterM rs i [(a, (0, 0, 0))] = m at *
      have HM := Lib.hid hM
      clear hM
      go_wp2
      go_loopg [6, 23] rs.length (fun k fd ix wr => FromJ rs m w k fd ix wr)
      case atStart => exact ⟨0, false, by omega, by omega, by simp, rfl, by simp [passM], hm, hbl, hsz, hmo⟩
      case round =>
        clear hm hbl hsz hmo
        obtain ⟨j, b, hj, hgk, rfl, rfl, hbt, hm, hbl, hsz, hmo⟩ := hrel
        by_cases hlt : j < rs.length
        · obtain ⟨r, hr⟩ : ∃ r, rs[j]? = some r := ⟨_, List.getElem?_eq_getElem hlt⟩
          have hro := HOK.out r (List.mem_of_getElem? hr)
          rcases HR.out with hnil | ⟨g, hA, hcs⟩
          · rw [hnil] at hlt; simp at hlt
          · obtain ⟨d0, d1, d2, d3, d4⟩ := hcs j r hr
            have c0 := Below.cell0 hbl rfl d0
            have c1 := Below.cell0 hbl rfl d1
            have c2 := Below.cell0 hbl rfl d2
            have c3 := Below.cell0 hbl rfl d3
            have c4 := Below.cell0 hbl rfl d4
            have hg := World.block_lt_of_cell? _ _ c0
            clear d0 d1 d2 d3 d4 hcs
            subst hA
            obtain ⟨ra, rbb, rq, rx, ry⟩ := r
            simp only at c0 c1 c2 c3 c4
            generalize hM' : passM (rs.take j) m = m' at *
            have HM' := Lib.hid hM'; clear hM'
            have HJ := Lib.hid hr; clear hr
            have HB' := Lib.hid hbt; clear hbt
            have hml := hmo.len
            obtain ⟨R1, R2⟩ := map_rules w.heap.size (encM m')
            have R3 := hm.many
            have hpc := fun W k u p (h : MapAt W w.heap.size (encM m')) => putM_cell h k u p
            obtain ⟨_, _, _, _, _, q0, q1, x0, x1, y0, y1⟩ := id hro
            simp only at q0 q1 x0 x1 y0 y1
            have hib := invF_bd (rq, rx, ry) 1024 (by simp only; omega)
            simp only [invF] at hib
            obtain ⟨i0, i1, i2, i3, i4, i5⟩ := hib
            cases ha : fLook m' ra with
            | none =>
              cases hb : fLook m' rbb with
              | none =>
                obtain ⟨A1, A2, A3⟩ := mGet_none ha (.agg #[.int .i64 0, .int .i64 0, .int .i64 0])
                obtain ⟨B1, B2, B3⟩ := mGet_none hb (.agg #[.int .i64 0, .int .i64 0, .int .i64 0])
                have HA := Lib.hid ha; clear ha
                have HB := Lib.hid hb; clear hb
                clear A3 B3
                go_wp2
                go_roundg (rs.length - (j + 1))
                case measure => omega
                case rel =>
                  have := HM'.out
                  subst this
                  exact FromJ.skip HJ.out (by simp [stepM, HA.out, HB.out]) HB'.out (((hm.alloc _).alloc _).alloc _) (bw_alloc (bw_alloc (bw_alloc hbl _) _) _) (by simp; omega) hmo
              | some gg =>
                obtain ⟨gq, gx, gy⟩ := gg
                obtain ⟨A1, A2, A3⟩ := mGet_none ha (.agg #[.int .i64 0, .int .i64 0, .int .i64 0])
                obtain ⟨B1, B2⟩ := mGet_some hb (.agg #[.int .i64 0, .int .i64 0, .int .i64 0])
                simp only [frV] at B1
                have HA := Lib.hid ha; clear ha
                have HB := Lib.hid hb; clear hb
                have hfb := hmo.fr _ (fLook_mem HB.out)
                simp only at hfb
                obtain ⟨h1, h2, h3, h4, h5, h6⟩ := hfb
                go_wp2
                go_region_held3 (fun w' => w'.cell? ⟨wr.heap.size, 0, none⟩ = some (.int .i64 ra) ∧ w'.cell? ⟨wr.heap.size, 2, none⟩ = some (.int .i64 rq) ∧ w'.cell? ⟨wr.heap.size, 3, none⟩ = some (.int .i64 rx) ∧ w'.cell? ⟨wr.heap.size, 4, none⟩ = some (.int .i64 ry) ∧
                    w'.cell? ⟨wr.heap.size + 2, 0, none⟩ = some (.int .i64 gq) ∧ w'.cell? ⟨wr.heap.size + 2, 1, none⟩ = some (.int .i64 gx) ∧ w'.cell? ⟨wr.heap.size + 2, 2, none⟩ = some (.int .i64 gy)) (simp [go_sem, World.cell?_alloc_past, R3, hpc])
                  (first
                    | (go_at_call 68; refine (inverse_any _ _ _ _ (by omega) (by omega) (by omega) (by omega)).mono ?_; rintro e w' ⟨rfl, rfl⟩)
                    | (go_at_call 118; refine (compose_any _ _ _ _ _ _ _ (by omega) (by omega) (by omega) (by omega) (by omega) (by omega) (by omega) (by omega)).mono ?_; rintro e w' ⟨rfl, rfl⟩))
                go_wp2
                go_roundg (rs.length - (j + 1))
                case measure => omega
                case rel =>
                  have := HM'.out
                  subst this
                  refine FromJ.grow (k := ra) (f := cmpF (gq, gx, gy) (invF (rq, rx, ry))) HJ.out hro (by simp [stepM, HA.out, HB.out]) ?_ ?_ ?_ hmo
                  · simp only [frV, cmpF, invF]
                    rw [show (gq + -rq % 4) % 4 = (gq + -rq) % 4 by omega]
                    refine putM_map ?_ _ _
                    repeat (first | exact hm | refine MapAt.drew ?_ | refine MapAt.alloc ?_ _)
                  · refine putM_below ?_ ?_ (Nat.le_refl _) _ _
                    · repeat (first | with_reducible assumption | with_reducible exact bw_refl _ | with_reducible refine bw_alloc ?_ _ | with_reducible refine bw_drew ?_ | with_reducible refine bw_drewN _ ?_ | refine bw_set ?_ (by simp; try omega) _ | refine bw_call (by with_reducible assumption) ?_)
                    · repeat (first | exact hm | refine MapAt.drew ?_ | refine MapAt.alloc ?_ _)
                  · rw [putM_size]; simp; omega
            | some ff =>
              obtain ⟨fq, fx, fy⟩ := ff
              cases hb : fLook m' rbb with
              | none =>
                obtain ⟨A1, A2⟩ := mGet_some ha (.agg #[.int .i64 0, .int .i64 0, .int .i64 0])
                simp only [frV] at A1
                obtain ⟨B1, B2, B3⟩ := mGet_none hb (.agg #[.int .i64 0, .int .i64 0, .int .i64 0])
                have HA := Lib.hid ha; clear ha
                have HB := Lib.hid hb; clear hb
                have hfb := hmo.fr _ (fLook_mem HA.out)
                simp only at hfb
                obtain ⟨h1, h2, h3, h4, h5, h6⟩ := hfb
                go_wp2
                go_region_held3 (fun w' => w'.cell? ⟨wr.heap.size, 1, none⟩ = some (.int .i64 rbb) ∧ w'.cell? ⟨wr.heap.size, 2, none⟩ = some (.int .i64 rq) ∧ w'.cell? ⟨wr.heap.size, 3, none⟩ = some (.int .i64 rx) ∧ w'.cell? ⟨wr.heap.size, 4, none⟩ = some (.int .i64 ry) ∧
                    w'.cell? ⟨wr.heap.size + 1, 0, none⟩ = some (.int .i64 fq) ∧ w'.cell? ⟨wr.heap.size + 1, 1, none⟩ = some (.int .i64 fx) ∧ w'.cell? ⟨wr.heap.size + 1, 2, none⟩ = some (.int .i64 fy)) (simp [go_sem, World.cell?_alloc_past, R3, hpc])
                  (first
                    | (go_at_call 118; refine (compose_any _ _ _ _ _ _ _ (by omega) (by omega) (by omega) (by omega) (by omega) (by omega) (by omega) (by omega)).mono ?_; rintro e w' ⟨rfl, rfl⟩))
                go_wp2
                go_roundg (rs.length - (j + 1))
                case measure => omega
                case rel =>
                  have := HM'.out
                  subst this
                  refine FromJ.grow (k := rbb) (f := cmpF (fq, fx, fy) (rq, rx, ry)) HJ.out hro (by simp [stepM, HA.out, HB.out]) ?_ ?_ ?_ hmo
                  · simp only [frV, cmpF]
                    refine putM_map ?_ _ _
                    repeat (first | exact hm | refine MapAt.drew ?_ | refine MapAt.alloc ?_ _)
                  · refine putM_below ?_ ?_ (Nat.le_refl _) _ _
                    · repeat (first | with_reducible assumption | with_reducible exact bw_refl _ | with_reducible refine bw_alloc ?_ _ | with_reducible refine bw_drew ?_ | with_reducible refine bw_drewN _ ?_ | refine bw_set ?_ (by simp; try omega) _ | refine bw_call (by with_reducible assumption) ?_)
                    · repeat (first | exact hm | refine MapAt.drew ?_ | refine MapAt.alloc ?_ _)
                  · rw [putM_size]; simp; omega
              | some gg =>
                obtain ⟨gq, gx, gy⟩ := gg
                obtain ⟨A1, A2⟩ := mGet_some ha (.agg #[.int .i64 0, .int .i64 0, .int .i64 0])
                simp only [frV] at A1
                obtain ⟨B1, B2⟩ := mGet_some hb (.agg #[.int .i64 0, .int .i64 0, .int .i64 0])
                simp only [frV] at B1
                have HA := Lib.hid ha; clear ha
                have HB := Lib.hid hb; clear hb
                go_wp2
                go_roundg (rs.length - (j + 1))
                case measure => omega
                case rel =>
                  have := HM'.out
                  subst this
                  exact FromJ.skip HJ.out (by simp [stepM, HA.out, HB.out]) HB'.out (((hm.alloc _).alloc _).alloc _) (bw_alloc (bw_alloc (bw_alloc hbl _) _) _) (by simp; omega) hmo
        · obtain rfl : j = rs.length := by omega
          have ht : rs.take rs.length = rs := List.take_length
          rw [ht] at hbt hm hmo
          clear ht
          have hl := hmo.len
          have hpl := passM_len rs m
          have hl1 := hpl.1
          have HI := Lib.hid (show iterM rs (i + 1) [(a, (0, 0, 0))] = passM rs m by rw [iterM_succ, HM.out])
          cases b
          · have HP' := Lib.hid (hpl.2 (by have := hpl.1; simp at hbt; omega))
            clear hbt hpl
            go_wp2
            go_roundg 0
            case measure => have := HK.out; omega
            case rel =>
              refine ⟨i, false, rfl, ?_, fun _ => ?_, ?_, hbl, hsz, ?_, by simp⟩ <;> rw [HM.out]
              · exact hi
              · exact HP'.out
              · rw [HP'.out] at hm; exact hm
              · rw [HP'.out] at hmo; exact hmo
          · have hlt2 : m.length < (passM rs m).length := hbt.1 rfl
            clear hbt hpl
            go_wp2
            go_roundg (10 - (i + 1))
            case measure => have := HK.out; omega
            case rel =>
              refine ⟨i + 1, true, rfl, ?_, (fun h => by cases h), ?_, hbl, hsz, ?_, by simp⟩ <;> rw [HI.out]
              · omega
              · exact hm
              · exact hmo

end Go.Proofs.Ytdjimfngnhnhnaa
