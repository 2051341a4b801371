/- Relations: Add. -/
import Derived.Test.YtdjimfngnhnhnaaRa
set_option linter.all false
namespace Go.Proofs.Ytdjimfngnhnhnaa
open Go.RowKit

/-- only block rb, block ob and what is new may have changed -/
structure Only (w w' : World) (rb : Nat) (ob : Option Nat) : Prop where
  os : w'.os = w.os
  tape : w'.tape = w.tape
  output : w'.output = w.output
  size : w.heap.size ≤ w'.heap.size
  block : ∀ i, i < w.heap.size → i ≠ rb → some i ≠ ob → w'.heap[i]? = w.heap[i]?
theorem Only.of_below {w w' : World} (h : Below w.heap.size w w') (rb : Nat) (ob : Option Nat) : Only w w' rb ob := ⟨h.os, h.tape, h.output, h.size, fun i hi _ _ => h.block i hi⟩

def addOk (x : Rel) : Bool := rbB x.1 && rbB x.2.1 && !(x.1 == x.2.1) && szB x.2.2.2.1 1024 && szB x.2.2.2.2 1024
def addX (x : Rel) : Rel := (x.1, x.2.1, (x.2.2.1 % 4, x.2.2.2.1, x.2.2.2.2))
/-- Add: its error, and the list behind it -/
def addF (rs : List Rel) (x : Rel) : Int × List Rel :=
  if addOk x then
    match btF rs x.1 x.2.1 with
    | none => (0, rs ++ [addX x])
    | some f => if f = (addX x).2.2 then (0, rs) else (11, rs)
  else (1, rs)
def AddPost (w : World) (rb : Nat) (ob : Option Nat) (r : Int × List Rel) (e : Ending) (w' : World) : Prop :=
  e = .returned (.int .i64 r.1) ∧ ∃ ob', RObj w' rb ob' r.2 ∧ (ob' = ob ∨ ∃ g, ob' = some g ∧ w.heap.size ≤ g) ∧ Only w w' rb ob

theorem AddPost.same {w w' : World} {rb : Nat} {ob : Option Nat} {rs : List Rel} {r : Int × List Rel} {c : Int} (hr : RObj w rb ob rs) (hb : Below w.heap.size w w') (h : r = (c, rs)) : AddPost w rb ob r (.returned (.int .i64 c)) w' := by
  subst h
  exact ⟨rfl, ob, hr.below hb, .inl rfl, Only.of_below hb _ _⟩

theorem addX_ok {x : Rel} (h : addOk x = true) : RelOk (addX x) := by
  obtain ⟨a, b, q, x, y⟩ := x
  simp [addOk, rbB, szB] at h
  simp [RelOk, addX]
  omega

set_option maxHeartbeats 1000000 in
theorem Add_bad (rb : Nat) (ob : Option Nat) (rs : List Rel) (xa xb xq xx xy : Int) (w : World) (hr : RObj w rb ob rs) (hbad : addOk (xa, xb, xq, xx, xy) = false) :
    Calls Try.prog 53 #[.pointer (some ⟨rb, 0, none⟩), .agg #[.int .i64 xa, .int .i64 xb, .int .i64 xq, .int .i64 xx, .int .i64 xy]] w (AddPost w rb ob (addF rs (xa, xb, xq, xx, xy))) := by
  have HF := Lib.hid (show addF rs (xa, xb, xq, xx, xy) = (1, rs) by simp [addF, hbad])
  have HR := Lib.hid hr
  clear hr
  cases h1 : rbB xa
  · clear hbad
    go_enter Try.func53, Try.ntmps53
    go_wp2_with (first | (go_at_call 92; refine (robot_any _ _).mono ?_; rintro e w1 ⟨rfl, rfl⟩) | (go_at_call 64; refine (size_any _ _ _ (by omega) (by omega)).mono ?_; rintro e w1 ⟨rfl, rfl⟩))
    go_ret
    exact AddPost.same HR.out (by repeat (first | with_reducible assumption | with_reducible exact bw_refl _ | with_reducible refine bw_alloc ?_ _ | with_reducible refine bw_drew ?_ | with_reducible refine bw_drewN _ ?_ | refine bw_set ?_ (by simp; try omega) _ | refine bw_call (by with_reducible assumption) ?_)) HF.out
  · cases h2 : rbB xb
    · clear hbad
      go_enter Try.func53, Try.ntmps53
      go_wp2_with (first | (go_at_call 92; refine (robot_any _ _).mono ?_; rintro e w1 ⟨rfl, rfl⟩) | (go_at_call 64; refine (size_any _ _ _ (by omega) (by omega)).mono ?_; rintro e w1 ⟨rfl, rfl⟩))
      go_ret
      exact AddPost.same HR.out (by repeat (first | with_reducible assumption | with_reducible exact bw_refl _ | with_reducible refine bw_alloc ?_ _ | with_reducible refine bw_drew ?_ | with_reducible refine bw_drewN _ ?_ | refine bw_set ?_ (by simp; try omega) _ | refine bw_call (by with_reducible assumption) ?_)) HF.out
    · cases h3 : (xa == xb)
      · cases h4 : szB xx 1024
        · clear hbad
          go_enter Try.func53, Try.ntmps53
          go_wp2_with (first | (go_at_call 92; refine (robot_any _ _).mono ?_; rintro e w1 ⟨rfl, rfl⟩) | (go_at_call 64; refine (size_any _ _ _ (by omega) (by omega)).mono ?_; rintro e w1 ⟨rfl, rfl⟩))
          go_ret
          exact AddPost.same HR.out (by repeat (first | with_reducible assumption | with_reducible exact bw_refl _ | with_reducible refine bw_alloc ?_ _ | with_reducible refine bw_drew ?_ | with_reducible refine bw_drewN _ ?_ | refine bw_set ?_ (by simp; try omega) _ | refine bw_call (by with_reducible assumption) ?_)) HF.out
        · have h5 : szB xy 1024 = false := by simpa [addOk, h1, h2, h3, h4] using hbad
          clear hbad
          go_enter Try.func53, Try.ntmps53
          go_wp2_with (first | (go_at_call 92; refine (robot_any _ _).mono ?_; rintro e w1 ⟨rfl, rfl⟩) | (go_at_call 64; refine (size_any _ _ _ (by omega) (by omega)).mono ?_; rintro e w1 ⟨rfl, rfl⟩))
          go_ret
          exact AddPost.same HR.out (by repeat (first | with_reducible assumption | with_reducible exact bw_refl _ | with_reducible refine bw_alloc ?_ _ | with_reducible refine bw_drew ?_ | with_reducible refine bw_drewN _ ?_ | refine bw_set ?_ (by simp; try omega) _ | refine bw_call (by with_reducible assumption) ?_)) HF.out
      · clear hbad
        go_enter Try.func53, Try.ntmps53
        go_wp2_with (first | (go_at_call 92; refine (robot_any _ _).mono ?_; rintro e w1 ⟨rfl, rfl⟩) | (go_at_call 64; refine (size_any _ _ _ (by omega) (by omega)).mono ?_; rintro e w1 ⟨rfl, rfl⟩))
        go_ret
        exact AddPost.same HR.out (by repeat (first | with_reducible assumption | with_reducible exact bw_refl _ | with_reducible refine bw_alloc ?_ _ | with_reducible refine bw_drew ?_ | with_reducible refine bw_drewN _ ?_ | refine bw_set ?_ (by simp; try omega) _ | refine bw_call (by with_reducible assumption) ?_)) HF.out

set_option maxHeartbeats 1000000 in
theorem Add_known (rb : Nat) (ob : Option Nat) (rs : List Rel) (xa xb xq xx xy : Int) (f : Fr) (w : World) (hr : RObj w rb ob rs) (hn : rs.length ≤ 100) (hgood : addOk (xa, xb, xq, xx, xy) = true) (hf : btF rs xa xb = some f) :
    Calls Try.prog 53 #[.pointer (some ⟨rb, 0, none⟩), .agg #[.int .i64 xa, .int .i64 xb, .int .i64 xq, .int .i64 xx, .int .i64 xy]] w (AddPost w rb ob (addF rs (xa, xb, xq, xx, xy))) := by
  have HR := Lib.hid hr
  have HB := Lib.hid hf
  obtain ⟨⟨⟨⟨h1, h2⟩, h3⟩, h4⟩, h5⟩ : (((rbB xa = true ∧ rbB xb = true) ∧ (xa == xb) = false) ∧ szB xx 1024 = true) ∧ szB xy 1024 = true := by simpa [addOk, and_assoc] using hgood
  have ha := and3
  obtain ⟨fq, fx, fy⟩ := f
  by_cases he : (fq, fx, fy) = (xq % 4, xx, xy)
  · have HF := Lib.hid (show addF rs (xa, xb, xq, xx, xy) = (0, rs) by simp [addF, hgood, hf, addX]; simpa using he)
    clear hgood hf hr
    simp only [Prod.mk.injEq] at he
    obtain ⟨rfl, rfl, rfl⟩ := he
    go_enter Try.func53, Try.ntmps53
    go_wp2_with (first | (go_at_call 92; refine (robot_any _ _).mono ?_; rintro e w1 ⟨rfl, rfl⟩) | (go_at_call 64; refine (size_any _ _ _ (by omega) (by omega)).mono ?_; rintro e w1 ⟨rfl, rfl⟩))
    refine (Between_any rb ob rs xa xb _ (HR.out.alloc _) hn).mono ?_
    rintro e w1 ⟨rfl, hbl⟩
    rw [HB.out]
    simp only [btV, frV]
    have hs := hbl.size
    simp at hs
    have s0 : w.heap.size < w1.heap.size := by omega
    obtain ⟨hcc, hff⟩ := bcell hbl
    go_wp2_with fail
    go_ret
    exact AddPost.same HR.out (by repeat (first | with_reducible assumption | with_reducible exact bw_refl _ | with_reducible refine bw_alloc ?_ _ | with_reducible refine bw_drew ?_ | with_reducible refine bw_drewN _ ?_ | refine bw_set ?_ (by simp; try omega) _ | refine bw_call (by with_reducible assumption) ?_)) HF.out
  · have HF := Lib.hid (show addF rs (xa, xb, xq, xx, xy) = (11, rs) by simp [addF, hgood, hf, addX]; simpa using he)
    clear hgood hf hr
    simp only [Prod.mk.injEq] at he
    by_cases e1 : fq = xq % 4
    · by_cases e2 : fx = xx
      · have t3 : (fy == xy) = false := by simp; omega
        clear he
        subst e1 e2
        go_enter Try.func53, Try.ntmps53
        go_wp2_with (first | (go_at_call 92; refine (robot_any _ _).mono ?_; rintro e w1 ⟨rfl, rfl⟩) | (go_at_call 64; refine (size_any _ _ _ (by omega) (by omega)).mono ?_; rintro e w1 ⟨rfl, rfl⟩))
        refine (Between_any rb ob rs xa xb _ (HR.out.alloc _) hn).mono ?_
        rintro e w1 ⟨rfl, hbl⟩
        rw [HB.out]
        simp only [btV, frV]
        have hs := hbl.size
        simp at hs
        have s0 : w.heap.size < w1.heap.size := by omega
        obtain ⟨hcc, hff⟩ := bcell hbl
        go_wp2_with fail
        go_ret
        exact AddPost.same HR.out (by repeat (first | with_reducible assumption | with_reducible exact bw_refl _ | with_reducible refine bw_alloc ?_ _ | with_reducible refine bw_drew ?_ | with_reducible refine bw_drewN _ ?_ | refine bw_set ?_ (by simp; try omega) _ | refine bw_call (by with_reducible assumption) ?_)) HF.out
      · have t2 : (fx == xx) = false := by simp; omega
        clear he
        subst e1
        go_enter Try.func53, Try.ntmps53
        go_wp2_with (first | (go_at_call 92; refine (robot_any _ _).mono ?_; rintro e w1 ⟨rfl, rfl⟩) | (go_at_call 64; refine (size_any _ _ _ (by omega) (by omega)).mono ?_; rintro e w1 ⟨rfl, rfl⟩))
        refine (Between_any rb ob rs xa xb _ (HR.out.alloc _) hn).mono ?_
        rintro e w1 ⟨rfl, hbl⟩
        rw [HB.out]
        simp only [btV, frV]
        have hs := hbl.size
        simp at hs
        have s0 : w.heap.size < w1.heap.size := by omega
        obtain ⟨hcc, hff⟩ := bcell hbl
        go_wp2_with fail
        go_ret
        exact AddPost.same HR.out (by repeat (first | with_reducible assumption | with_reducible exact bw_refl _ | with_reducible refine bw_alloc ?_ _ | with_reducible refine bw_drew ?_ | with_reducible refine bw_drewN _ ?_ | refine bw_set ?_ (by simp; try omega) _ | refine bw_call (by with_reducible assumption) ?_)) HF.out
    · have t1 : (fq == xq % 4) = false := by simp; omega
      clear he
      go_enter Try.func53, Try.ntmps53
      go_wp2_with (first | (go_at_call 92; refine (robot_any _ _).mono ?_; rintro e w1 ⟨rfl, rfl⟩) | (go_at_call 64; refine (size_any _ _ _ (by omega) (by omega)).mono ?_; rintro e w1 ⟨rfl, rfl⟩))
      refine (Between_any rb ob rs xa xb _ (HR.out.alloc _) hn).mono ?_
      rintro e w1 ⟨rfl, hbl⟩
      rw [HB.out]
      simp only [btV, frV]
      have hs := hbl.size
      simp at hs
      have s0 : w.heap.size < w1.heap.size := by omega
      obtain ⟨hcc, hff⟩ := bcell hbl
      go_wp2_with fail
      go_ret
      exact AddPost.same HR.out (by repeat (first | with_reducible assumption | with_reducible exact bw_refl _ | with_reducible refine bw_alloc ?_ _ | with_reducible refine bw_drew ?_ | with_reducible refine bw_drewN _ ?_ | refine bw_set ?_ (by simp; try omega) _ | refine bw_call (by with_reducible assumption) ?_)) HF.out

theorem hcell_robj {w : World} {rb : Nat} {ob : Option Nat} {rs : List Rel} (h : RObj w rb ob rs) : ∃ v : Value, v.ownBlock = ob ∧ w.cell? ⟨rb, 0, none⟩ = some v ∧ w.frozen? ⟨rb, 0, none⟩ = false ∧ w.ownsRow 0 82 5 v rs.length (relsCells rs) := by
  obtain ⟨v, hv, hh, ho, _, _⟩ := h
  exact ⟨v, hv, by simpa using cell_of_row w rb 0 #[v] 122 (0, 0) hh, by simp [World.frozen?, hh], ho⟩

theorem ownsRow_below {w w' : World} {base : Nat} {e : TypeId} {size : Nat} {v : Value} {n : Nat} {xs : List Value} (h : w.ownsRow base e size v n xs) (hb : Below w.heap.size w w') : w'.ownsRow base e size v n xs := by
  refine ⟨h.1, ?_⟩
  rcases h.2 with hn | ⟨g, cap, cur, rfl, h1, hgg, rest⟩
  · exact .inl hn
  · exact .inr ⟨g, cap, cur, rfl, h1, (hb.block g (h.lt g rfl).2).trans hgg, rest⟩

theorem after_append {W w2 : World} {row : Option Nat} (hg : W.grownBy w2 row) {rb : Nat} {v : Value} (h : W.cell? ⟨rb, 0, none⟩ = some v ∧ W.frozen? ⟨rb, 0, none⟩ = false) (hne : row ≠ some rb) : w2.cell? ⟨rb, 0, none⟩ = some v ∧ w2.frozen? ⟨rb, 0, none⟩ = false := by
  have hb := hg.block rb (World.block_lt_of_cell? W _ h.1) (fun e => hne e.symm)
  exact ⟨(World.cell?_of_block (a := ⟨rb, 0, none⟩) hb).trans h.1, (World.frozen?_of_block (a := ⟨rb, 0, none⟩) hb).trans h.2⟩
theorem two_more {W : World} {rb : Nat} {v : Value} (h : W.cell? ⟨rb, 0, none⟩ = some v ∧ W.frozen? ⟨rb, 0, none⟩ = false) (o1 o2 : Obj) : ((W.alloc o1).alloc o2).drew.cell? ⟨rb, 0, none⟩ = some v ∧ ((W.alloc o1).alloc o2).drew.frozen? ⟨rb, 0, none⟩ = false := by
  have hb := World.block_lt_of_cell? W _ h.1
  have h1 : ((W.alloc o1).alloc o2).drew.heap[rb]? = W.heap[rb]? := by
    show ((W.alloc o1).alloc o2).heap[rb]? = W.heap[rb]?
    rw [Below.heap_alloc _ _ _ (by simp; simp at hb; omega), Below.heap_alloc _ _ _ hb]
  exact ⟨(World.cell?_of_block (a := ⟨rb, 0, none⟩) h1).trans h.1, (World.frozen?_of_block (a := ⟨rb, 0, none⟩) h1).trans h.2⟩

theorem AddPost.grow {w W w2 : World} {rb : Nat} {ob : Option Nat} {rs : List Rel} {x : Rel} {v : Value} {g cap : Nat} (hr : RObj w rb ob rs) (hW : Below w.heap.size w W) (hv : v.ownBlock = ob) (hg : W.grownBy w2 v.ownBlock)
    (hown : w2.ownsRow 0 82 5 (.slice (some ⟨g, 0, none⟩) (rs.length + 1) cap) (rs.length + 1) (relsCells rs ++ relCells (addX x))) (hat : v.ownBlock = some g ∨ g = W.heap.size) (hx : addOk x = true)
    (hF : addF rs x = (0, rs ++ [addX x])) : AddPost w rb ob (addF rs x) (.returned (.int .i64 0)) (w2.setCell ⟨rb, 0, none⟩ (.slice (some ⟨g, 0, none⟩) (rs.length + 1) cap)) := by
  rw [hF]
  have hlt := hr.lt
  obtain ⟨v0, hv0, hh, _, hne, hok⟩ := hr
  have hsz := hW.size
  have hgr : g ≠ rb := by
    rintro rfl
    rcases hat with h | h
    · exact hne (hv.symm.trans h)
    · omega
  have hb2 : w2.heap[rb]? = some (.cells #[v0] 122) := by
    rw [hg.block rb (by omega) (by rw [hv]; exact fun e => hne e.symm), hW.block rb hlt.1, hh]
  refine ⟨rfl, some g, ⟨.slice (some ⟨g, 0, none⟩) (rs.length + 1) cap, rfl, ?_, ?_, by simpa using hgr, ?_⟩, ?_, ?_⟩
  · simp [World.setCell, Array.getElem?_modify, hb2]
  · simp only [List.length_append, List.length_cons, List.length_nil]
    rw [relsCells_snoc]
    refine ⟨hown.1, ?_⟩
    rcases hown.2 with hn | ⟨g', cap', cur, h1, h2, h3, rest⟩
    · exact .inl hn
    · have e1 : g' = g := by simp at h1; exact h1.1.symm
      exact .inr ⟨g', cap', cur, h1, h2, (Below.heap_setCell _ _ _ _ (by rw [e1]; exact hgr)).trans h3, rest⟩
  · intro r hrm
    rcases List.mem_append.1 hrm with h | h
    · exact hok r h
    · simp at h; subst h; exact addX_ok hx
  · rcases hat with h | h
    · exact .inl (h.symm.trans hv)
    · exact .inr ⟨g, rfl, by omega⟩
  · refine ⟨hg.os.trans hW.os, hg.tape.trans hW.tape, hg.output.trans hW.output, ?_, fun i hi h1 h2 => ?_⟩
    · have := hg.size
      simp [World.setCell]
      omega
    · rw [Below.heap_setCell _ _ _ _ h1, hg.block i (by omega) (by rw [hv]; exact h2), hW.block i hi]

theorem infoRel : (Try.prog.info? 82).map (fun i => (i.zero, i.size, i.bytes)) = some (some (.agg #[.int .i64 0, .int .i64 0, .int .i64 0, .int .i64 0, .int .i64 0]), 5, 40) := by kernel_rfl

set_option maxRecDepth 100000 in
set_option maxHeartbeats 1000000 in
theorem Add_new (rb : Nat) (ob : Option Nat) (rs : List Rel) (xa xb xq xx xy : Int) (w : World) (hr : RObj w rb ob rs) (hn : rs.length ≤ 99) (hgood : addOk (xa, xb, xq, xx, xy) = true) (hf : btF rs xa xb = none) :
    Calls Try.prog 53 #[.pointer (some ⟨rb, 0, none⟩), .agg #[.int .i64 xa, .int .i64 xb, .int .i64 xq, .int .i64 xx, .int .i64 xy]] w (AddPost w rb ob (addF rs (xa, xb, xq, xx, xy))) := by
  have HR := Lib.hid hr
  have HB := Lib.hid hf
  obtain ⟨⟨⟨⟨h1, h2⟩, h3⟩, h4⟩, h5⟩ : (((rbB xa = true ∧ rbB xb = true) ∧ (xa == xb) = false) ∧ szB xx 1024 = true) ∧ szB xy 1024 = true := by simpa [addOk, and_assoc] using hgood
  have ha := and3
  have HF := Lib.hid (show addF rs (xa, xb, xq, xx, xy) = (0, rs ++ [addX (xa, xb, xq, xx, xy)]) by simp [addF, hgood, hf])
  have HG := Lib.hid hgood
  have hlr := hr.lt.1
  clear hgood hf hr
  obtain ⟨i0, hi0, hz0, hz1, hz2⟩ := info_parts infoRel
  go_enter Try.func53, Try.ntmps53
  go_wp2_with (first | (go_at_call 92; refine (robot_any _ _).mono ?_; rintro e w1 ⟨rfl, rfl⟩) | (go_at_call 64; refine (size_any _ _ _ (by omega) (by omega)).mono ?_; rintro e w1 ⟨rfl, rfl⟩))
  refine (Between_any rb ob rs xa xb _ (HR.out.alloc _) (by omega)).mono ?_
  rintro e w1 ⟨rfl, hbl⟩
  rw [HB.out]
  simp only [btV]
  have hs := hbl.size
  simp at hs
  have s0 : w.heap.size < w1.heap.size := by omega
  have s1 : rb < w1.heap.size := by omega
  obtain ⟨hcc, hff⟩ := bcell hbl
  obtain ⟨v, hv, hc, hz, hown0⟩ := hcell_robj HR.out
  have hown := ownsRow_below (hown0.alloc _) hbl
  clear hown0
  have HV := Lib.hid hv
  have HO := Lib.hid hown
  have hw1 := Lib.hid (show w1.cell? ⟨rb, 0, none⟩ = some v ∧ w1.frozen? ⟨rb, 0, none⟩ = false by
    rw [hcc rb 0 (by simp; omega), hff rb 0 (by simp; omega)]
    simp [go_sem, hlr, hc, hz])
  have hne := Lib.hid (show v.ownBlock ≠ some rb by rw [hv]; exact HR.out.choose_spec.2.2.2.1)
  clear hv hown
  have hnb := Lib.hid (show ((w1.alloc (.cells #[.int .i64 0, .int .i64 0, .int .i64 0] 23)).alloc (.cells #[.int .i64 xa, .int .i64 xb, .int .i64 (xq % 4), .int .i64 xx, .int .i64 xy] 82)).heap[w1.heap.size + 1]? = some (.cells #[.int .i64 xa, .int .i64 xb, .int .i64 (xq % 4), .int .i64 xx, .int .i64 xy] 82) by
    have h := heap_alloc_new (w1.alloc (.cells #[.int .i64 0, .int .i64 0, .int .i64 0] 23)) (.cells #[.int .i64 xa, .int .i64 xb, .int .i64 (xq % 4), .int .i64 xx, .int .i64 xy] 82)
    rw [World.size_alloc] at h
    exact h)
  go_wp2_with fail
  go_region_law ((refine step_append_lies _ (by rfl) (.tmp 64) (.tmp 66) 120 (by rfl) 0 82 i0 _ 5 40 Try.underlying120 hi0 hz0 hz1 hz2 rfl (by omega) v rs.length (relsCells rs) (by rfl) (((HO.out.alloc _).alloc _).drew) ⟨w1.heap.size + 1, 0, none⟩ 1 1 [.int .i64 xa, .int .i64 xb, .int .i64 (xq % 4), .int .i64 xx, .int .i64 xy] (by rfl) (by rfl) ?_ (by simp [Value.oneCell']) (by omega) (by simp only [maxLen]; omega) (by omega) (by simp) (w1.heap.size + 2) (by simp) ?_; (exact World.news_of_block (cs := #[.int .i64 xa, .int .i64 xb, .int .i64 (xq % 4), .int .i64 xx, .int .i64 xy]) (t := 82) (fr := (0, 0)) hnb.out); intro g cap w2 hown2 hgrow hat hlt; obtain ⟨c2, z2⟩ := after_append hgrow (two_more hw1.out _ _) hne.out))
  all_goals
    go_wp2
    go_ret
    exact AddPost.grow (x := (xa, xb, xq, xx, xy)) HR.out (by repeat (first | with_reducible assumption | with_reducible exact bw_refl _ | with_reducible refine bw_alloc ?_ _ | with_reducible refine bw_drew ?_ | with_reducible refine bw_drewN _ ?_ | refine bw_set ?_ (by simp; try omega) _ | refine bw_call (by with_reducible assumption) ?_)) HV.out hgrow hown2 (by simpa using hat) HG.out HF.out

theorem Add_any (rb : Nat) (ob : Option Nat) (rs : List Rel) (x : Rel) (w : World) (hr : RObj w rb ob rs) (hn : rs.length ≤ 99) :
    Calls Try.prog 53 #[.pointer (some ⟨rb, 0, none⟩), .agg #[.int .i64 x.1, .int .i64 x.2.1, .int .i64 x.2.2.1, .int .i64 x.2.2.2.1, .int .i64 x.2.2.2.2]] w (AddPost w rb ob (addF rs x)) := by
  obtain ⟨a, b, q, x, y⟩ := x
  cases h1 : addOk (a, b, q, x, y)
  · exact Add_bad rb ob rs a b q x y w hr h1
  · cases h2 : btF rs a b with
    | none => exact Add_new rb ob rs a b q x y w hr hn h1 h2
    | some f => exact Add_known rb ob rs a b q x y f w hr (by omega) h1 h2

end Go.Proofs.Ytdjimfngnhnhnaa
