import Derived.Test.YtlnplelandimeaaGreatZbfa22
import Derived.Test.YtlnplelandimeaaGreatZbfa17
import Derived.Test.YtlnplelandimeaaGreatZbfa11
import Derived.Test.YtlnplelandimeaaGreatZbfa15
import Derived.Test.YtlnplelandimeaaGreatZbfa20
set_option linter.all false
section
namespace Go.Proofs.YtlnplelandimeaaGreat.En
open Go.RowKit
set_option maxRecDepth 100000
def mapF (a : AtT) (ids : List Int) : List EntT := ids.foldl (fun o k => (combE 1 o (partA a k)).1) []
theorem part_len (a : AtT) (k : Int) : (partA a k).length ≤ 1048576 := by
  unfold partA
  split
  · split
    · simp
    · exact ofE_len _ _
  · simp
theorem map_len (a : AtT) (ids : List Int) : (mapF a ids).length ≤ 1048576 := by
  unfold mapF
  have : ∀ (ids : List Int) (o : List EntT), o.length ≤ 1048576 → (ids.foldl (fun o k => (combE 1 o (partA a k)).1) o).length ≤ 1048576 := by
    intro ids
    induction ids with
    | nil => exact fun o h => h
    | cons k ids ih => exact fun o _ => ih _ (comb_len 1 _ _)
  exact this ids [] (by simp)
set_option maxHeartbeats 2000000 in
theorem Map_m (b1 b2 : Nat) (m : List (Int × SlT)) (q : List (Int × PlT)) (hok : okS m) (L : List Int) (hL : idsF (hasM m q) 64 = L) :
    CallM Tryz.prog 53 [.p 0 0] (fun _ _ => True) [atB b1 b2, scO b1 m, plO b2 q]
      (fun r : Option Addr × Nat => .v (.slice r.1 (mapF (absM (m, q)) L).length r.2)) (fun r => [atB b1 b2, scO b1 m, plO b2 q, .row 89 4 r.1 (mapF (absM (m, q)) L).length r.2 ((mapF (absM (m, q)) L).map encE)]) := by
  have ki := Ids_m b1 b2 m q
  have hlen := idsF_len (hasM m q) 64
  rw [hL] at ki hlen
  have kp := fun k => Part_m b1 b2 m q k hok
  have hpl := fun k => part_len (absM (m, q)) k
  have hml : ∀ t, (mapF (absM (m, q)) (L.take t)).length ≤ 1048576 := fun t => map_len _ _
  have hnx : ∀ t, t < L.length → mapF (absM (m, q)) (L.take (t + 1)) = (combE 1 (mapF (absM (m, q)) (L.take t)) (partA (absM (m, q)) (L.getD t 0))).1 := fun t ht => fold_take (fun o k => (combE 1 o (partA (absM (m, q)) k)).1) [] (d := 0) ht
  have hend : mapF (absM (m, q)) (L.take L.length) = mapF (absM (m, q)) L := by rw [List.take_length]
  have h0 : mapF (absM (m, q)) (L.take 0) = [] := rfl
  rw [← hend]
  generalize partA (absM (m, q)) = pt at *
  generalize mapF (absM (m, q)) = mp at *
  refine CallM.of (m := 3) Tryz.func53 rfl tabOk rfl rfl rfl rfl (by simp [SV.wfs, SV.wf]) fun w M π _ => ?_
  (conv => whnf); repeat' (first | ((with_reducible refine isC ?_); first | ((with_reducible refine isF 45 ?_); ((refine CallX_m ki [0, 1, 2] rfl ⟨⟨rfl, rfl, by simp [SV.wf, SV.wfs]⟩, fun _ _ h => h, fun _ _ h => h, trivial⟩ (by decide) (fun _ _ _ _ => trivial) ?_; intro r2; obtain ⟨A2, c2⟩ := r2)); conv => whnf)) | ((with_reducible refine isW ?_); first | ((with_reducible refine xwr_ok (by omega) (by omega) ?_); conv => whnf) | ((with_reducible refine xwr_raw ?_); conv => whnf)) | (with_reducible exact rfl) | ((with_reducible refine xif_kt (by with_reducible assumption) ?_); conv => whnf) | ((with_reducible refine xif_kf (by with_reducible assumption) ?_); conv => whnf) | (((with_reducible refine xif_s ?_ ?_) <;> (intro hb; (try simp (disch := omega) only [hbS] at hb))) <;> (conv => whnf)))
  refine LoopX_addNil 89 4 ?_
  conv => whnf
  refine LoopX_inv tabOk (α := Nat × Option Addr × Nat) (fun s => s.1 ≤ L.length) (fun s => [(0, .p 0 0), (3, .v (.slice s.2.1 (mp (L.take s.1)).length s.2.2)), (7, .v (.slice A2 L.length c2)), (8, I L.length), (9, I s.1)])
    (fun s => [atB b1 b2, scO b1 m, plO b2 q, .row 3 1 A2 L.length c2 (L.map fun x => [encI x]), .row 89 4 s.2.1 (mp (L.take s.1)).length s.2.2 ((mp (L.take s.1)).map encE)]) (fun s => L.length - s.1) (0, none, 0) [0, 1, 2, 3, 4] (Nat.zero_le _) ?_ ?_
  · dsimp only
    rw [h0]
    ((refine ⟨?_, ?_, ?_, ?_⟩) <;> (repeat' ((conv => whnf); apply And.intro)) <;> (try (first | exact trivial | decide)))
    all_goals first | rfl | exact fun _ _ h => h | (simp [SV.wf, SV.wfs]; done) | trace_state
  · rintro ⟨t, A, c⟩ ht
    dsimp only at ht ⊢
    by_cases hlt : t < L.length
    · have kpt := kp (L.getD t 0)
      have hpt := hpl (L.getD t 0)
      have hnt := hnx t hlt
      have hmt := hml t
      clear kp hpl hnx hml hend h0 ki
      generalize hq : pt (L.getD t 0) = p at *
      generalize mp (L.take t) = o at *
      (conv => whnf); repeat' (first | ((with_reducible refine isC ?_); first | ((with_reducible refine isF 98 ?_); ((refine CallX_m kpt [0, 1, 2] rfl ⟨⟨rfl, rfl, by simp [SV.wf, SV.wfs]⟩, fun _ _ h => h, fun _ _ h => h, trivial⟩ (by decide) (fun _ _ _ _ => trivial) ?_; intro r3; obtain ⟨A3, c3⟩ := r3)); conv => whnf) | ((with_reducible refine isF 54 ?_); ((refine CallX_m (Add_m A A3 c c3 o p rfl rfl (by unfold maxLen; omega) (by unfold maxLen; omega)) [] rfl trivial (by decide) (fun σ fp w hm => ⟨ArgN.row 4 rfl (m := 0) (fun j hj => by omega) σ fp w hm, ArgN.row 5 rfl (m := 0) (fun j hj => by omega) σ fp w hm⟩) ?_; intro r4; obtain ⟨A4, c4⟩ := r4)); conv => whnf)) | ((with_reducible refine isV ?_); first | ((refine ValX_index tabOk rfl (ArgSl.row 3 rfl) rfl ?_ ?_ ?_) <;> first | omega | (with_reducible show (_ : Int) ≤ _) | (with_reducible show (_ : Int) < _) | (with_reducible show (_ : Nat) ≤ _) | (with_reducible show (_ : Nat) < _) | (conv => whnf)) | ((with_reducible refine nat_idx ?_); (refine ValX_load1n _ _ (0) tabOk rfl rfl rfl (ArgSl.row 3 rfl) ?_ ?_ ?_) <;> first | rfl | omega | (with_reducible show (_ : Int) ≤ _) | (with_reducible show (_ : Int) < _) | (with_reducible show (_ : Nat) ≤ _) | (with_reducible show (_ : Nat) < _) | (conv => whnf)) | ((refine ValX_load1 _ _ (0) tabOk rfl rfl rfl (ArgSl.row 3 rfl) ?_ ?_ ?_) <;> first | rfl | omega | (with_reducible show (_ : Int) ≤ _) | (with_reducible show (_ : Int) < _) | (with_reducible show (_ : Nat) ≤ _) | (with_reducible show (_ : Nat) < _) | (conv => whnf))) | ((with_reducible refine isW ?_); first | ((with_reducible refine xwr_ok (by omega) (by omega) ?_); conv => whnf) | ((with_reducible refine xwr_raw ?_); conv => whnf)) | (with_reducible exact rfl) | ((with_reducible refine xif_kt (by with_reducible assumption) ?_); conv => whnf) | ((with_reducible refine xif_kf (by with_reducible assumption) ?_); conv => whnf) | (((with_reducible refine xif_s ?_ ?_) <;> (intro hb; (try simp (disch := omega) only [hbS] at hb))) <;> (conv => whnf)))
      all_goals try (exfalso; omega)
      refine ⟨(t + 1, A4, c4), [0, 1, 2, 3, 6], by (try dsimp only); omega, ?_, by (try dsimp only); omega⟩
      dsimp only
      rw [hnt]
      ((refine ⟨?_, ?_, ?_, ?_⟩) <;> (repeat' ((conv => whnf); apply And.intro)) <;> (try (first | exact trivial | decide)))
      all_goals first | rfl | exact fun _ _ h => h | (simp [SV.wf, SV.wfs]; done) | trace_state
    · obtain rfl : t = L.length := by omega
      (conv => whnf); repeat' (first | ((with_reducible refine isW ?_); first | ((with_reducible refine xwr_ok (by omega) (by omega) ?_); conv => whnf) | ((with_reducible refine xwr_raw ?_); conv => whnf)) | (with_reducible exact rfl) | ((with_reducible refine xif_kt (by with_reducible assumption) ?_); conv => whnf) | ((with_reducible refine xif_kf (by with_reducible assumption) ?_); conv => whnf) | (((with_reducible refine xif_s ?_ ?_) <;> (intro hb; (try simp (disch := omega) only [hbS] at hb))) <;> (conv => whnf)))
      all_goals try (exfalso; omega)
      exact Fin_m (A, c) [0, 1, 2, 4] ⟨rfl, by simp [SV.wf, SV.wfs]⟩ ⟨⟨rfl, rfl, by simp [SV.wf, SV.wfs]⟩, fun _ _ h => h, fun _ _ h => h, ⟨rfl, rfl, rfl, rfl, rfl, rfl⟩, trivial⟩ (by decide) rfl
end Go.Proofs.YtlnplelandimeaaGreat.En
end
section
namespace Go.Proofs.YtlnplelandimeaaGreat.En
open Go.RowKit
set_option maxRecDepth 100000
end Go.Proofs.YtlnplelandimeaaGreat.En
end
section
namespace Go.Proofs.YtlnplelandimeaaGreat.En
open Go.RowKit
set_option maxRecDepth 100000
end Go.Proofs.YtlnplelandimeaaGreat.En
end
section
namespace Go.Proofs.YtlnplelandimeaaGreat.En
open Go.RowKit
set_option maxRecDepth 100000
structure RfT where
  h : Int → Bool
  s : Int → SlT
  p : Int → PlT
def plC (p : PlT) : Nat → Value
  | 0 => .int .i64 p.1
  | 1 => .bool p.2.1
  | 2 => .int .i64 p.2.2.1
  | 3 => .int .i64 p.2.2.2.1
  | _ => .int .i64 p.2.2.2.2
def rfC (r : RfT) (k : Nat) : Value := if k < 64 then encS (r.s k) else if k < 128 then .bool (r.h ((k - 64 : Nat) : Int)) else plC (r.p (((k - 128) / 5 : Nat) : Int)) ((k - 128) % 5)
def RfAt (w : World) (b : Nat) (r : RfT) : Prop := ∃ L : List Value, w.heap[b]? = some (.cells L.toArray 155 (0, 0)) ∧ L.length = 448 ∧ ∀ k, k < 448 → L[k]? = some (rfC r k)
theorem RfAt.get {w : World} {b : Nat} {r : RfT} (h : RfAt w b r) {k : Nat} (hk : k < 448) : w.cell? ⟨b, k, none⟩ = some (rfC r k) := by
  obtain ⟨L, h1, h2, h3⟩ := h
  rw [cell_of_row w b k L.toArray _ (0, 0) h1]
  simpa using h3 k hk
theorem RfAt.ext {w w' : World} {b : Nat} {r : RfT} (h : RfAt w b r) (hw : w'.heap[b]? = w.heap[b]?) : RfAt w' b r := by
  obtain ⟨L, h1, h2, h3⟩ := h
  exact ⟨L, hw.trans h1, h2, h3⟩
section
variable {C : Ctx} {ob : List OB} {b : Nat} {r : RfT}
theorem ValX_arr {o : Oper} {t e : TypeId} {x ix : Operand} {i : Int} {n sz : Nat} {te : TI} {ad : Addr} {K : SV → Prop} (hT : TabOk C.P C.T) (ho : o.op = .indexAddr t x ix) (ht : C.P.underlying t = some (.array n e)) (hte : lookT C.T e = some te) (hz : te.zero.length = sz)
    (h0 : 0 ≤ i) (h1 : i < n) (hK : K (.v (.pointer (some (ad.add (i.toNat * sz)))))) : ValX C o [.v (.pointer (some ad)), I i] ob K := by
  unfold ValX
  intro σ fp w ρ hm hx
  obtain ⟨hid, hti⟩ := hT e te hte
  refine ⟨_, hK, ?_, trivial⟩
  rw [ho] at hx
  simp [Op.operands, SV.vals, SV.val] at hx
  have hsz := hti.run_size w
  rw [hid, hz] at hsz
  obtain ⟨dst, op, ty, pos, after, guard⟩ := o
  simp only at ho
  subst ho
  have hc : (0 ≤ i ∧ i < (n : Int)) := ⟨h0, h1⟩
  simp only [execOp, hx, Instr.indexAt, asIntOf, Instr.sureAddr, Sem.run_bind, Sem.run_pure, Result.andThen_ok, run_underlying ht, hc, and_self, if_true, hsz, SV.val]
end
end Go.Proofs.YtlnplelandimeaaGreat.En
namespace Go.Proofs.YtlnplelandimeaaGreat.En
open Go.RowKit
set_option maxRecDepth 100000
abbrev pR (b : Nat) : SV := .v (.pointer (some ⟨b, 0, none⟩))
end Go.Proofs.YtlnplelandimeaaGreat.En
namespace Go.Proofs.YtlnplelandimeaaGreat.En
open Go.RowKit
set_option maxRecDepth 100000
section
variable {C : Ctx} {ob : List OB} {b : Nat} {r : RfT} {o : Oper} {t : TypeId} {x y : Operand} {te : TI}
end
end Go.Proofs.YtlnplelandimeaaGreat.En
namespace Go.Proofs.YtlnplelandimeaaGreat.En
open Go.RowKit
set_option maxRecDepth 100000
end Go.Proofs.YtlnplelandimeaaGreat.En
end
section
namespace Go.Proofs.YtlnplelandimeaaGreat.En
open Go.RowKit
set_option maxRecDepth 100000
section
variable {C : Ctx} {ob : List OB} {A : Option Addr} {n c sz e : Nat} {els : List (List Value)}
end
end Go.Proofs.YtlnplelandimeaaGreat.En
end
