/- maps.Values at a tally: its iterator, for every loop body. -/
import Derived.Test.YtdjimfngnhnhnaaTa
set_option linter.all false
namespace Go.Proofs.Ytdjimfngnhnhnaa.En
open Go.RowKit Go.Shelf Go.Maps Go.MapKept

set_option maxRecDepth 100000 in
set_option maxHeartbeats 1000000 in
theorem values1_in (F : Fence) (n : Nat) (hf : F.fn 139) (hro : F.round = none) (hn : 1 ≤ n) (l Bm b : Nat) (L : List EntT) (J Jx : List EntT → World → Prop)
    (hY : ∀ pre x W, J pre W → pre.length < L.length → YieldAt F (n - 1) Try.prog l #[encA x] W fun e W' =>
      (e = .returned (.bool true) ∧ J (pre ++ [x]) W' ∧ KeepsWalks W W') ∨ (e = .returned (.bool false) ∧ Jx (pre ++ [x]) W'))
    (W : World) (hJ : AbidesFrom W.heap.size J) (hm : W.cell? ⟨Bm, 0, none⟩ = some (.map (some b))) (hT : TalAt W b L) (h0 : J [] W) :
    CallsIn F n Try.prog 139 #[.func (.yield l) #[] #[], .pointer (some ⟨Bm, 0, none⟩)] W fun e W' => (∃ v, e = .returned v) ∧
      ((∃ xs, xs.Perm L ∧ J xs W') ∨ (∃ pre, Jx pre W')) := by
  refine callsIn_of_wp Try.func139 rfl hf ?_ hro
  simp only [Try.ntmps139, List.size_toArray, List.length_cons, List.length_nil, Nat.reduceAdd, Nat.reduceSub, Array.replicate_succ, Array.replicate_zero, List.push_toArray, List.append_toArray, List.nil_append, List.cons_append]
  gi_wp2_with (first
    | (gi_at_range; refine wpListIn_range_tal rfl _ 98 rfl 32 36 Try.underlying98 rfl hT ?_)
    | gi_in)
  go_frame
  have hbl := hT.lt
  gi_loopw [4] (fun _ wr => ∃ idx : List Nat, wr.heap[W.heap.size]? = some (.mapIter (some b) L.length idx.toArray L.length) ∧ TalAt wr b L ∧ idx.Nodup ∧ (∀ i ∈ idx, i < L.length) ∧ J (idx.map fun i => L.getD i e0) wr)
    (fun _ wr => match wr.heap[W.heap.size]? with | some (.mapIter _ _ seen _) => L.length - seen.size | _ => 0)
  case atStart =>
    refine ⟨[], World.alloc_heap_new W _, hT.ext (Below.heap_alloc _ _ b hbl), by simp, by simp, ?_⟩
    exact hJ [] W _ none h0 (World.grownBy_alloc W _ none) (fun r e => by cases e)
  case round =>
    obtain ⟨idx, hr, hTr, hnd, hlt, hJs⟩ := hrel
    gi_wp2_with (first
      | (gi_at_next; refine wpListIn_next_tal rfl _ rfl rfl hr hTr (by omega) ?_ ?_)
      | gi_in)
    · intro hall
      gi_wp2
      go_end0
      exact ⟨⟨_, rfl⟩, .inl ⟨_, perm_of_idx hnd hlt hall, hJs⟩⟩
    · intro i w2 hi hni hr2 hT2 hg2 hs2 hen
      have hJ2 : J (idx.map fun i => L.getD i e0) w2 := hJ _ wr w2 (some W.heap.size) hJs hg2 (fun r e => by cases e; exact ⟨Nat.le_refl _, _, hr, rfl⟩)
      have hlen : idx.length < L.length := by
        have h1 : (idx ++ [i]).Nodup := by
          rw [List.nodup_append]
          refine ⟨hnd, by simp, fun a ha b hb => ?_⟩
          simp at hb
          subst hb
          intro e
          exact hni (e ▸ ha)
        have h2 : (idx ++ [i]) ⊆ List.range L.length := by
          intro j hj
          rcases List.mem_append.1 hj with h | h
          · simpa using hlt j h
          · simp at h
            simpa [h] using hi
        have := h1.length_le_of_subset h2
        simp at this
        omega
      generalize hx : L[i]?.getD e0 = x at *
      have hJ3 : J (idx.map fun i => L.getD i e0) (w2.alloc (.cells #[.int .i64 x.1, .int .i64 x.2.1, .int .i64 x.2.2.1, .int .i64 x.2.2.2] 36)) := hJ _ w2 _ none hJ2 (World.grownBy_alloc w2 _ none) (fun r e => by cases e)
      obtain ⟨fn, tmps, assign, body, hy, hR⟩ := hY _ x _ hJ3 (by simpa using hlen)
      clear hs2
      gi_wp2
      refine hR.mono ?_
      have hnd2 : (idx ++ [i]).Nodup := by
        rw [List.nodup_append]
        refine ⟨hnd, by simp, fun a ha b hb => ?_⟩
        simp at hb
        subst hb
        intro e
        exact hni (e ▸ ha)
      have hlt2 : ∀ j ∈ idx ++ [i], j < L.length := by
        intro j hj
        rcases List.mem_append.1 hj with h | h
        · exact hlt j h
        · simp at h
          rw [h]
          exact hi
      have hmap : (idx ++ [i]).map (fun i => L.getD i e0) = (idx.map fun i => L.getD i e0) ++ [x] := by
        rw [List.map_append]
        simp [hx]
      have hsz := hg2.size
      have hr3 : (w2.alloc (.cells #[.int .i64 x.1, .int .i64 x.2.1, .int .i64 x.2.2.1, .int .i64 x.2.2.2] 36)).heap[W.heap.size]? = some (.mapIter (some b) L.length (idx ++ [i]).toArray L.length) :=
        (Below.heap_alloc _ _ _ (Array.getElem?_eq_some_iff.1 hr2).1).trans hr2
      have hT3 := hT2.ext (Below.heap_alloc w2 (.cells #[.int .i64 x.1, .int .i64 x.2.1, .int .i64 x.2.2.1, .int .i64 x.2.2.2] 36) b hT2.lt)
      rintro e W3 (⟨rfl, hJ4, hk4⟩ | ⟨rfl, hJx4⟩)
      · gi_wp2
        have hr4 := hk4.same _ _ hr3 rfl
        have hT4 : TalAt W3 b L := hk4.same _ _ hT3 rfl
        go_roundw
        case rel => exact ⟨idx ++ [i], hr4, hT4, hnd2, hlt2, by rw [hmap]; exact hJ4⟩
        case measure =>
          rw [hr4, hr]
          simp
          omega
      · gi_wp2
        refine bodyPost_ret (results_none rfl _ _ _) rfl ?_
        exact ⟨⟨_, rfl⟩, .inr ⟨_, hJx4⟩⟩

/-- maps.Values hands back such an iterator -/
theorem values_stops (F : Fence) (n : Nat) (hf : F.fn 139) (hro : F.round = none) (hn : 1 ≤ n) (Bm b : Nat) (L : List EntT) (w : World) (hBm : Bm < w.heap.size)
    (hm : w.cell? ⟨Bm, 0, none⟩ = some (.map (some b))) (hT : TalAt w b L) :
    SeqStopsK F n Try.prog 139 #[.pointer (some ⟨Bm, 0, none⟩)] (fun x : EntT => #[encA x]) KeepsWalks (fun xs => xs.Perm L) (fun _ => True) L.length w := fun l J Jx W hW hJ _ hY h0 => by
  refine (values1_in F n hf hro hn l Bm b L J Jx hY W hJ ((hW.cell (p := ⟨Bm, 0, none⟩) hBm).trans hm) (hT.ext (hW.block b hT.lt)) h0).mono ?_
  rintro e W' ⟨h1, h2 | ⟨pre, h2⟩⟩
  · exact ⟨h1, .inl h2⟩
  · exact ⟨h1, .inr ⟨pre, trivial, h2⟩⟩
end Go.Proofs.Ytdjimfngnhnhnaa.En
