/- A field of an element of an own row is stored; law17's same by the executor -/
import Derived.Test.YtodaijlclbngbaaGreatRz
set_option linter.all false
namespace Go.Proofs.YtodaijlclbngbaaGreat.En
open Go.RowKit
set_option maxRecDepth 100000

section
variable {C : Ctx} {ob : List OB} {A : Option Addr} {n c sz e : Nat} {els : List (List Value)}
theorem flat_setF {sz fo : Nat} {v : Value} (hfo : fo < sz) : ∀ {els : List (List Value)} {i : Nat} {x : List Value}, (∀ e ∈ els, e.length = sz) → els[i]? = some x → (els.set i (x.set fo v)).flatten = els.flatten.set (i * sz + fo) v
  | [], i, _, _, h => by simp at h
  | y :: r, 0, x, hs, h => by
    simp at h
    subst h
    have hy := hs y (by simp)
    rw [List.set_cons_zero, List.flatten_cons, List.flatten_cons, Nat.zero_mul, Nat.zero_add, List.set_append_left _ _ (by omega)]
  | y :: r, i + 1, x, hs, h => by
    have hy := hs y (by simp)
    have ih := flat_setF (v := v) hfo (els := r) (i := i) (x := x) (fun e he => hs e (by simp [he])) (by simpa using h)
    rw [List.set_cons_succ, List.flatten_cons, List.flatten_cons, ih, List.set_append_right _ _ (by rw [hy, Nat.add_mul]; omega)]
    congr 2
    rw [hy, Nat.add_mul]
    omega
theorem OpX_storeF {o : Oper} {t : TypeId} {x y : Operand} {i : Int} {fo : Nat} {k : SV → List OB → Prop} {te : TI} {u : Value} {xe : List Value} (j : Nat) (hT : TabOk C.P C.T) (ho : o.op = .store t x y) (hj : nth ob j = some (.row e sz A n c els))
    (ht : lookT C.T t = some te) (hz : te.zero.length = 1) (h1v : Value.oneCell' u = true) (hfo : fo < sz) (hxe : els[i.toNat]? = some xe)
    (hk : force (setN ob j (.row e sz A n c (els.set i.toNat (xe.set fo u)))) fun ob => k (.v undef) ob) : OpX C o [.v (.pointer (some ((elA A i sz).add fo))), .v u] ob k := by
  unfold OpX
  intro σ fp w ρ hm hx
  obtain ⟨hid, hti⟩ := hT t te ht
  obtain ⟨⟨hown, hlen, hsize, hone, hF⟩, hjl⟩ := nth_row hm hj
  have h1 : i.toNat < n := by have := (List.getElem?_eq_some_iff.1 hxe).1; omega
  have hxl : xe.length = sz := hsize xe (List.mem_of_getElem? hxe)
  rcases hown.2 with ⟨_, h0⟩ | ⟨g, cap, cur, hsl, hbg, hg, hnc, hcm, hcs, htake⟩
  · omega
  simp at hsl
  obtain ⟨rfl, rfl⟩ := hsl
  rw [ho] at hx
  simp [Op.operands, SV.vals, SV.val, elA] at hx
  have hle : i.toNat * sz + sz ≤ n * sz := by
    have : (i.toNat + 1) * sz ≤ n * sz := Nat.mul_le_mul_right _ (by omega)
    rw [Nat.add_mul, Nat.one_mul] at this
    exact this
  have hle2 : n * sz ≤ c * sz := Nat.mul_le_mul_right _ hnc
  have hst := run_storeCells_at (P := C.P) g (i.toNat * sz + fo) e [u] 0 cur w hg (by rw [hcs]; simp; omega) (by simpa using h1v)
  simp only [Nat.add_zero] at hst
  have hsz := hti.run_size w
  rw [hid, hz] at hsz
  have hcv : u.cells = #[u] := by cases u <;> first | rfl | cases h1v
  obtain ⟨dst, op, ty, pos, after, guard⟩ := o
  simp only at ho
  subst ho
  have hset : cur.toList.take (i.toNat * sz + fo) ++ [u] ++ cur.toList.drop (i.toNat * sz + fo + [u].length) = cur.toList.set (i.toNat * sz + fo) u := by
    rw [List.set_eq_take_append_cons_drop, if_pos (by rw [Array.length_toList, hcs]; omega)]
    simp
  rw [hset] at hst
  have hex : (execOp ρ ⟨dst, .store t x y, ty, pos, after, guard⟩).run C.P w = .ok .skip (w.setRow g (cur.toList.set (i.toNat * sz + fo) u).toArray) := by
    have hx1 := hx.1
    rw [Addr.add_mid] at hx1
    simp only [execOp, Instr.storeAt, hx1, hx.2, Instr.sureAddr, Sem.run_bind, Sem.run_pure, Result.andThen_ok, storeVar, hsz, hcv, List.size_toArray, List.length_cons, List.length_nil, ne_eq, not_true, if_false, Nat.zero_add]
    simp only [hst, Result.andThen_ok]
  rw [hex]
  have hrow := setRow_heap w g cur (cur.toList.set (i.toNat * sz + fo) u).toArray e (0, 0) hg
  have hfl := flat_setF (v := u) hfo hsize hxe
  have hfs : ∀ q ∈ els.set i.toNat (xe.set fo u), q.length = sz := by
    intro q hq
    rcases List.mem_or_eq_of_mem_set hq with h | h
    · exact hsize q h
    · rw [h, List.length_set, hxl]
  have hown' : (w.setRow g (cur.toList.set (i.toNat * sz + fo) u).toArray).ownsRow 0 e sz (.slice (some ⟨g, 0, none⟩) n c) n (els.set i.toNat (xe.set fo u)).flatten := by
    refine ⟨by rw [flat_len hfs]; simp [hlen], .inr ⟨g, c, _, rfl, Nat.zero_le _, hrow, hnc, hcm, ?_, ?_⟩⟩
    · simp only [List.size_toArray, List.length_set, Array.length_toList]
      exact hcs
    · rw [hfl, ← htake, List.take_set]
  have hsz2 : w.heap.size ≤ (w.setRow g (cur.toList.set (i.toNat * sz + fo) u).toArray).heap.size := by simp [World.setRow]
  have hsame : ∀ q, q < w.heap.size → ¬ fp j q → (w.setRow g (cur.toList.set (i.toNat * sz + fo) u).toArray).heap[q]? = w.heap[q]? := by
    intro q hq hnq
    have : q ≠ g := fun e' => hnq ((hF q).2 (by simp [Value.ownBlock, e']))
    simp [World.setRow, Array.getElem?_modify, this.symm]
  have hM := hm.change (w' := w.setRow g (cur.toList.set (i.toNat * sz + fo) u).toArray) hjl (.row e sz (some ⟨g, 0, none⟩) n c (els.set i.toNat (xe.set fo u))) (fp j) ⟨hown', by simp [hlen], hfs, (by
      intro q hq
      obtain ⟨l, hl, hql⟩ := List.mem_flatten.1 hq
      rcases List.mem_or_eq_of_mem_set hl with h | h
      · exact hone q (List.mem_flatten.2 ⟨l, h, hql⟩)
      · rw [h] at hql
        rcases List.mem_or_eq_of_mem_set hql with h | h
        · exact hone q (List.mem_flatten.2 ⟨xe, List.mem_of_getElem? hxe, h⟩)
        · rw [h]; exact h1v), hF⟩ (fun i hi => .inl hi) (by
      intro q hq
      have := hm.hi j hjl q hq
      simpa [World.setRow] using this) rfl rfl rfl hsz2 hsame (fun _ => Nat.le_refl _)
  rw [force_eq, setN_eq] at hk
  exact ⟨.v undef, _, σ, _, hk, fun _ _ => rfl, by simp, rfl, trivial, hM, Frm.changed hjl (by simp) (fun i hi => .inl hi) hsz2 hsame⟩
end
set_option maxHeartbeats 4000000 in
theorem same17_m (b1 b2 b : Nat) (m : List (Int × SlT)) (q : List (Int × PlT)) (r : RfT) (hok : okS m) (hr : okR r) (h : absM (m, q) = absR r) :
    CallM Tryz.prog 14 [.p 0 0, pR b] (fun _ _ => True) [atB b1 b2, scO b1 m, plO b2 q, rfO b r] (fun _ : Unit => B true) (fun _ => [atB b1 b2, scO b1 m, plO b2 q, rfO b r]) := by
  have ki := Ids_m b1 b2 m q
  have kr := rIds_m b r (idsF (hasM m q) 64) (by rw [hasR_abs hr, ← h, has_sem]; rfl)
  have hlen := idsF_len (hasM m q) 64
  have ksc := fun k => Scan_m b1 b2 m q k hok
  have kwh := fun k => Where_m b1 b2 m q k
  have krs := fun k => rScan_m b r k hr
  have krw := fun k => rWhere_m b r k hr
  have hab := abs_ref hr h
  have ho := hok.of
  generalize idsF (hasM m q) 64 = L at *
  refine CallM.of (m := 4) Tryz.func14 rfl tabOk rfl rfl rfl rfl (by simp [SV.wfs, SV.wf]) fun w M π _ => ?_
  (conv => whnf); repeat' (first | ((with_reducible refine isC ?_); first | ((with_reducible refine isF 33 ?_); ((refine CallX_m ki [0, 1, 2] rfl ⟨⟨rfl, rfl, by simp [SV.wf, SV.wfs]⟩, fun _ _ h => h, fun _ _ h => h, trivial⟩ (by decide) (fun _ _ _ _ => trivial) ?_; intro r2; obtain ⟨A2, c2⟩ := r2)); conv => whnf) | ((with_reducible refine isF 39 ?_); ((refine CallX_m kr [3] rfl ⟨fun _ _ h => h, trivial⟩ (by decide) (fun _ _ _ _ => trivial) ?_; intro r3; obtain ⟨A3, c3⟩ := r3)); conv => whnf) | ((with_reducible refine isF 36 ?_); ((refine CallX_w (Ints_w A2 A3 c2 c3 L rfl (by omega)) (fun σ fp w hm => ⟨ArgSl.row 4 rfl σ fp w hm, ArgSl.row 5 rfl σ fp w hm⟩) ?_)); conv => whnf)) | ((with_reducible refine isW ?_); first | ((with_reducible refine xwr_ok (by omega) (by omega) ?_); conv => whnf) | ((with_reducible refine xwr_raw ?_); conv => whnf)) | (with_reducible exact rfl) | ((with_reducible refine xif_kt (by with_reducible assumption) ?_); conv => whnf) | ((with_reducible refine xif_kf (by with_reducible assumption) ?_); conv => whnf) | (((with_reducible refine xif_s ?_ ?_) <;> (intro hb; (try simp (disch := omega) only [hbS] at hb))) <;> (conv => whnf)))
  all_goals try (exfalso; omega)
  refine LoopX_inv tabOk (α := Int) (fun s => -1 ≤ s ∧ s ≤ 65) (fun s => [(0, .p 0 0), (1, pR b), (5, I s)]) (fun _ => [atB b1 b2, scO b1 m, plO b2 q, rfO b r]) (fun s => (65 - s).toNat) (-1) [0, 1, 2, 3] (by decide) ?_ ?_
  · ((refine ⟨?_, ?_, ?_, ?_⟩) <;> (repeat' ((conv => whnf); apply And.intro)) <;> (try (first | exact trivial | decide)))
    all_goals first | rfl | exact fun _ _ h => h | (simp [SV.wf, SV.wfs]; done) | trace_state
  · intro k hk
    by_cases hlt : k ≤ 64
    · obtain ⟨e1, e2, e3, e4⟩ := hab k
      have k1 := ksc k
      have k2 := kwh k
      have k3 := krs k
      have k4 := krw k
      have hl32 := ho k
      rw [e2] at k1
      rw [e3, e4] at k2
      have hrf : ∀ {C : Ctx} {ob : List OB}, nth ob 3 = some (rfO b r) → ∀ σ fp w, Mem C σ fp ob w → ArgSl w (rsOf r k).1 (rsOf r k).2.2.length 2 ((rsOf r k).2.2.map encBm) := by
        intro C ob h3 σ fp w hm
        unfold rsOf
        rcases Bool.eq_false_or_eq_true (r.h k) with hh | hh
        · have hv : vId k = true := by
            rcases Bool.eq_false_or_eq_true (vId k) with hv | hv
            · exact hv
            · rw [((hr k).2.2.2.2 hv).1] at hh
              cases hh
          simp only [vId, Bool.and_eq_true, decide_eq_true_eq] at hv
          obtain ⟨i, rfl⟩ := Int.eq_ofNat_of_zero_le hv.1
          rw [hh]
          exact ArgSl.rf 3 i (by omega) h3 σ fp w hm
        · rw [hh]
          exact ⟨rfl, by simp, by simp, fun h => (h rfl).elim⟩
      rw [e1] at k1 hl32
      clear ksc kwh krs krw hab ki kr
      generalize hS : rsOf r k = s at *
      obtain ⟨A5, c5, bs⟩ := s
      dsimp only at *
      generalize r.h k = g1 at *
      generalize rpB r k = g2 at *
      generalize r.p k = p at *
      (conv => whnf); repeat' (first | ((with_reducible refine isC ?_); first | ((with_reducible refine isF 34 ?_); ((refine CallX_m k1 [0, 1, 2] rfl ⟨⟨rfl, rfl, by simp [SV.wf, SV.wfs]⟩, fun _ _ h => h, fun _ _ h => h, trivial⟩ (by decide) (fun _ _ _ _ => trivial) ?_; intro r6; obtain ⟨A6, c6⟩ := r6)); conv => whnf) | ((with_reducible refine isF 26 ?_); ((refine CallX_m k2 [0, 1, 2] rfl ⟨⟨rfl, rfl, by simp [SV.wf, SV.wfs]⟩, fun _ _ h => h, fun _ _ h => h, trivial⟩ (by decide) (fun _ _ _ _ => trivial) ?_; intro r7)); conv => whnf) | ((with_reducible refine isF 40 ?_); ((refine CallX_m k3 [3] rfl ⟨fun _ _ h => h, trivial⟩ (by decide) (fun _ _ _ _ => trivial) ?_; intro r8)); conv => whnf) | ((with_reducible refine isF 41 ?_); ((refine CallX_m k4 [3] rfl ⟨fun _ _ h => h, trivial⟩ (by decide) (fun _ _ _ _ => trivial) ?_; intro r9)); conv => whnf) | ((with_reducible refine isF 42 ?_); ((refine CallX_w (Beams_w A6 A5 c6 c5 bs rfl (by omega)) (fun σ fp w hm => ⟨ArgSl.bm (s := (A6, c6, bs)) 4 rfl σ fp w hm, hrf rfl σ fp w hm⟩) ?_)); conv => whnf)) | ((with_reducible refine isW ?_); first | ((with_reducible refine xwr_ok (by omega) (by omega) ?_); conv => whnf) | ((with_reducible refine xwr_raw ?_); conv => whnf)) | (with_reducible exact rfl) | ((with_reducible refine xif_kt (by with_reducible assumption) ?_); conv => whnf) | ((with_reducible refine xif_kf (by with_reducible assumption) ?_); conv => whnf) | (((with_reducible refine xif_s ?_ ?_) <;> (intro hb; (try simp (disch := omega) only [hbS] at hb))) <;> (conv => whnf)))
      all_goals try (exfalso; omega)
      all_goals try (exfalso; simp at hb; done)
      refine ⟨k + 1, [0, 1, 2, 3], by (try dsimp only); omega, ?_, by (try dsimp only); omega⟩
      ((refine ⟨?_, ?_, ?_, ?_⟩) <;> (repeat' ((conv => whnf); apply And.intro)) <;> (try (first | exact trivial | decide)))
      all_goals first | rfl | exact fun _ _ h => h | (simp [SV.wf, SV.wfs]; done) | trace_state
    · obtain rfl : k = 65 := by omega
      (conv => whnf); repeat' (first | ((with_reducible refine isW ?_); first | ((with_reducible refine xwr_ok (by omega) (by omega) ?_); conv => whnf) | ((with_reducible refine xwr_raw ?_); conv => whnf)) | (with_reducible exact rfl) | ((with_reducible refine xif_kt (by with_reducible assumption) ?_); conv => whnf) | ((with_reducible refine xif_kf (by with_reducible assumption) ?_); conv => whnf) | (((with_reducible refine xif_s ?_ ?_) <;> (intro hb; (try simp (disch := omega) only [hbS] at hb))) <;> (conv => whnf)))
      all_goals try (exfalso; omega)
      exact Fin_m () [0, 1, 2, 3] ⟨rfl, by simp [SV.wf, SV.wfs]⟩ ⟨⟨rfl, rfl, by simp [SV.wf, SV.wfs]⟩, fun _ _ h => h, fun _ _ h => h, fun _ _ h => h, trivial⟩ (by decide) rfl
theorem rs_read {r : RfT} (hr : okR r) {b : Nat} {C : Ctx} {ob : List OB} (j : Nat) (k : Int) (h3 : nth ob j = some (rfO b r)) : ∀ σ fp w, Mem C σ fp ob w → ArgSl w (rsOf r k).1 (rsOf r k).2.2.length 2 ((rsOf r k).2.2.map encBm) := by
  intro σ fp w hm
  unfold rsOf
  rcases Bool.eq_false_or_eq_true (r.h k) with hh | hh
  · have hv : vId k = true := by
      rcases Bool.eq_false_or_eq_true (vId k) with hv | hv
      · exact hv
      · rw [((hr k).2.2.2.2 hv).1] at hh
        cases hh
    simp only [vId, Bool.and_eq_true, decide_eq_true_eq] at hv
    obtain ⟨i, rfl⟩ := Int.eq_ofNat_of_zero_le hv.1
    rw [hh]
    exact ArgSl.rf j i (by omega) h3 σ fp w hm
  · rw [hh]
    exact ⟨rfl, by simp, by simp, fun h => (h rfl).elim⟩
end Go.Proofs.YtodaijlclbngbaaGreat.En
