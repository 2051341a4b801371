import Derived.Test.YtlnplelandimeaaGreatZFleetNew20
import Derived.Test.YtlnplelandimeaaGreatZFleetNew22
import Derived.Test.YtlnplelandimeaaGreatZFleetNew08
import Derived.Test.YtlnplelandimeaaGreatZFleetNew01
set_option linter.all false
section
namespace Go.Proofs.YtlnplelandimeaaGreat.En
open Go.RowKit
set_option maxRecDepth 100000
structure RfT where
  h : Int → Bool
  s : Int → SlT
  p : Int → PlT
def plC (p : PlT) : Nat → Value
  | 0 => .int .i64 p.1
  | 1 => .bool p.2.1
  | 2 => .int .i64 p.2.2.1
  | 3 => .int .i64 p.2.2.2.1
  | _ => .int .i64 p.2.2.2.2
def rfC (r : RfT) (k : Nat) : Value := if k < 64 then encS (r.s k) else if k < 128 then .bool (r.h ((k - 64 : Nat) : Int)) else plC (r.p (((k - 128) / 5 : Nat) : Int)) ((k - 128) % 5)
def RfAt (w : World) (b : Nat) (r : RfT) : Prop := ∃ L : List Value, w.heap[b]? = some (.cells L.toArray 155 (0, 0)) ∧ L.length = 448 ∧ ∀ k, k < 448 → L[k]? = some (rfC r k)
theorem RfAt.get {w : World} {b : Nat} {r : RfT} (h : RfAt w b r) {k : Nat} (hk : k < 448) : w.cell? ⟨b, k, none⟩ = some (rfC r k) := by
  obtain ⟨L, h1, h2, h3⟩ := h
  rw [cell_of_row w b k L.toArray _ (0, 0) h1]
  simpa using h3 k hk
theorem RfAt.ext {w w' : World} {b : Nat} {r : RfT} (h : RfAt w b r) (hw : w'.heap[b]? = w.heap[b]?) : RfAt w' b r := by
  obtain ⟨L, h1, h2, h3⟩ := h
  exact ⟨L, hw.trans h1, h2, h3⟩
section
variable {C : Ctx} {ob : List OB} {b : Nat} {r : RfT}
theorem ValX_arr {o : Oper} {t e : TypeId} {x ix : Operand} {i : Int} {n sz : Nat} {te : TI} {ad : Addr} {K : SV → Prop} (hT : TabOk C.P C.T) (ho : o.op = .indexAddr t x ix) (ht : C.P.underlying t = some (.array n e)) (hte : lookT C.T e = some te) (hz : te.zero.length = sz)
    (h0 : 0 ≤ i) (h1 : i < n) (hK : K (.v (.pointer (some (ad.add (i.toNat * sz)))))) : ValX C o [.v (.pointer (some ad)), I i] ob K := by
  unfold ValX
  intro σ fp w ρ hm hx
  obtain ⟨hid, hti⟩ := hT e te hte
  refine ⟨_, hK, ?_, trivial⟩
  rw [ho] at hx
  simp [Op.operands, SV.vals, SV.val] at hx
  have hsz := hti.run_size w
  rw [hid, hz] at hsz
  obtain ⟨dst, op, ty, pos, after, guard⟩ := o
  simp only at ho
  subst ho
  have hc : (0 ≤ i ∧ i < (n : Int)) := ⟨h0, h1⟩
  simp only [execOp, hx, Instr.indexAt, asIntOf, Instr.sureAddr, Sem.run_bind, Sem.run_pure, Result.andThen_ok, run_underlying ht, hc, and_self, if_true, hsz, SV.val]
end
end Go.Proofs.YtlnplelandimeaaGreat.En
namespace Go.Proofs.YtlnplelandimeaaGreat.En
open Go.RowKit
set_option maxRecDepth 100000
abbrev pR (b : Nat) : SV := .v (.pointer (some ⟨b, 0, none⟩))
end Go.Proofs.YtlnplelandimeaaGreat.En
namespace Go.Proofs.YtlnplelandimeaaGreat.En
open Go.RowKit
set_option maxRecDepth 100000
section
variable {C : Ctx} {ob : List OB} {b : Nat} {r : RfT} {o : Oper} {t : TypeId} {x y : Operand} {te : TI}
end
end Go.Proofs.YtlnplelandimeaaGreat.En
namespace Go.Proofs.YtlnplelandimeaaGreat.En
open Go.RowKit
set_option maxRecDepth 100000
end Go.Proofs.YtlnplelandimeaaGreat.En
end
section
namespace Go.Proofs.YtlnplelandimeaaGreat.En
open Go.RowKit
set_option maxRecDepth 100000
section
variable {C : Ctx} {ob : List OB} {A : Option Addr} {n c sz e : Nat} {els : List (List Value)}
end
end Go.Proofs.YtlnplelandimeaaGreat.En
end
section
namespace Go.Proofs.YtlnplelandimeaaGreat.En
open Go.RowKit
set_option maxRecDepth 100000
theorem ext_getD {α : Type} {xs ys : List α} {n : Nat} (d : α) (hx : xs.length = n) (hy : ys.length = n) (h : ∀ j, j < n → xs.getD j d = ys.getD j d) : xs = ys := by
  refine List.ext_getElem (by omega) fun i h1 h2 => ?_
  have := h i (by omega)
  simpa [h1, h2] using this
theorem EqualI_g (A1 A2 : Option Addr) (c1 c2 : Nat) (xs ys : List Int) {n m : Nat} (hx : xs.length = n) (hy : ys.length = m) (hn : n ≤ 1000000000) (hm : m ≤ 1000000000) :
    CallW Tryz.prog 109 [.v (.slice A1 n c1), .v (.slice A2 m c2)] (fun w => ArgSl w A1 n 1 (xs.map fun x => [encI x]) ∧ ArgSl w A2 m 1 (ys.map fun x => [encI x])) (B (decide (xs = ys))) := by
  by_cases h : n = m
  · subst h
    refine CallW.of Tryz.func109 rfl tabOk rfl rfl rfl (by simp [SV.wfs, SV.wf]) (by simp [SV.wfs, SV.wf]) fun w hpre => ?_
    obtain ⟨h1, h2⟩ := hpre
    (conv => whnf); repeat' (first | ((with_reducible refine isW ?_); first | ((with_reducible refine xwr_ok (by omega) (by omega) ?_); conv => whnf) | ((with_reducible refine xwr_raw ?_); conv => whnf)) | ((refine DrawX_s tabOk folOk ?_); conv => whnf) | ((refine DrawS_i (by kernel_rfl) ?_); conv => whnf) | ((with_reducible refine andX_i ?_ ?_) <;> (conv => whnf)) | (with_reducible exact rfl) | ((with_reducible refine xif_kt (by with_reducible assumption) ?_); conv => whnf) | ((with_reducible refine xif_kf (by with_reducible assumption) ?_); conv => whnf) | (((with_reducible refine xif_s ?_ ?_) <;> (intro hb; (try simp (disch := omega) only [hbS] at hb))) <;> (conv => whnf)))
    all_goals try (exfalso; omega)
    refine LoopX_inv tabOk (α := Nat) (fun k => k ≤ n ∧ ∀ j, j < k → xs.getD j 0 = ys.getD j 0) (fun k => [(0, .v (.slice A1 n c1)), (1, .v (.slice A2 n c2)), (12, I n), (13, I k)]) (fun _ => []) (fun k => n - k) 0 [] ⟨Nat.zero_le _, fun j hj => by omega⟩ ?_ ?_
    · ((refine ⟨?_, ?_, ?_, ?_⟩) <;> (repeat' ((conv => whnf); apply And.intro)) <;> (try (first | exact trivial | decide)))
      all_goals first | rfl | exact fun _ _ h => h | simp [SV.wf, SV.wfs]
    · rintro k ⟨hk, hall⟩
      by_cases hlt : k < n
      · (conv => whnf); repeat' (first | ((with_reducible refine isV ?_); first | ((refine ValX_index tabOk rfl (h1.mem (by decide) rfl) rfl ?_ ?_ ?_) <;> first | omega | (with_reducible show (_ : Int) ≤ _) | (with_reducible show (_ : Int) < _) | (with_reducible show (_ : Nat) ≤ _) | (with_reducible show (_ : Nat) < _) | (conv => whnf)) | ((with_reducible refine nat_idx ?_); (refine ValX_load1n _ _ (0) tabOk rfl rfl rfl (h1.mem (by decide) rfl) ?_ ?_ ?_) <;> first | rfl | omega | (with_reducible show (_ : Int) ≤ _) | (with_reducible show (_ : Int) < _) | (with_reducible show (_ : Nat) ≤ _) | (with_reducible show (_ : Nat) < _) | (conv => whnf)) | ((refine ValX_load1 _ _ (0) tabOk rfl rfl rfl (h1.mem (by decide) rfl) ?_ ?_ ?_) <;> first | rfl | omega | (with_reducible show (_ : Int) ≤ _) | (with_reducible show (_ : Int) < _) | (with_reducible show (_ : Nat) ≤ _) | (with_reducible show (_ : Nat) < _) | (conv => whnf)) | ((refine ValX_index tabOk rfl (h2.mem (by decide) rfl) rfl ?_ ?_ ?_) <;> first | omega | (with_reducible show (_ : Int) ≤ _) | (with_reducible show (_ : Int) < _) | (with_reducible show (_ : Nat) ≤ _) | (with_reducible show (_ : Nat) < _) | (conv => whnf)) | ((with_reducible refine nat_idx ?_); (refine ValX_load1n _ _ (0) tabOk rfl rfl rfl (h2.mem (by decide) rfl) ?_ ?_ ?_) <;> first | rfl | omega | (with_reducible show (_ : Int) ≤ _) | (with_reducible show (_ : Int) < _) | (with_reducible show (_ : Nat) ≤ _) | (with_reducible show (_ : Nat) < _) | (conv => whnf)) | ((refine ValX_load1 _ _ (0) tabOk rfl rfl rfl (h2.mem (by decide) rfl) ?_ ?_ ?_) <;> first | rfl | omega | (with_reducible show (_ : Int) ≤ _) | (with_reducible show (_ : Int) < _) | (with_reducible show (_ : Nat) ≤ _) | (with_reducible show (_ : Nat) < _) | (conv => whnf))) | ((with_reducible refine isW ?_); first | ((with_reducible refine xwr_ok (by omega) (by omega) ?_); conv => whnf) | ((with_reducible refine xwr_raw ?_); conv => whnf)) | ((refine DrawX_s tabOk folOk ?_); conv => whnf) | ((refine DrawS_i (by kernel_rfl) ?_); conv => whnf) | ((with_reducible refine andX_i ?_ ?_) <;> (conv => whnf)) | (with_reducible exact rfl) | ((with_reducible refine xif_kt (by with_reducible assumption) ?_); conv => whnf) | ((with_reducible refine xif_kf (by with_reducible assumption) ?_); conv => whnf) | (((with_reducible refine xif_s ?_ ?_) <;> (intro hb; (try simp (disch := omega) only [hbS] at hb))) <;> (conv => whnf)))
        all_goals try (exfalso; omega)
        · refine Fin_pure rfl (B_eq ?_) trivial
          rw [decide_eq_false]
          intro e
          rw [e] at hb
          exact hb rfl
        · refine ⟨k + 1, [], ⟨by (try dsimp only); omega, fun j hj => ?_⟩, ?_, by (try dsimp only); omega⟩
          · by_cases e : j = k
            · rw [e]; exact hb
            · exact hall j (by omega)
          · ((refine ⟨?_, ?_, ?_, ?_⟩) <;> (repeat' ((conv => whnf); apply And.intro)) <;> (try (first | exact trivial | decide)))
            all_goals first | rfl | exact fun _ _ h => h | (simp [SV.wf, SV.wfs]; done) | trace_state
      · obtain rfl : k = n := by omega
        (conv => whnf); repeat' (first | ((with_reducible refine isW ?_); first | ((with_reducible refine xwr_ok (by omega) (by omega) ?_); conv => whnf) | ((with_reducible refine xwr_raw ?_); conv => whnf)) | ((refine DrawX_s tabOk folOk ?_); conv => whnf) | ((refine DrawS_i (by kernel_rfl) ?_); conv => whnf) | ((with_reducible refine andX_i ?_ ?_) <;> (conv => whnf)) | (with_reducible exact rfl) | ((with_reducible refine xif_kt (by with_reducible assumption) ?_); conv => whnf) | ((with_reducible refine xif_kf (by with_reducible assumption) ?_); conv => whnf) | (((with_reducible refine xif_s ?_ ?_) <;> (intro hb; (try simp (disch := omega) only [hbS] at hb))) <;> (conv => whnf)))
        all_goals try (exfalso; omega)
        refine Fin_pure rfl (B_eq ?_) trivial
        rw [decide_eq_true]
        exact ext_getD 0 hx hy hall
  · refine CallW.of Tryz.func109 rfl tabOk rfl rfl rfl (by simp [SV.wfs, SV.wf]) (by simp [SV.wfs, SV.wf]) fun w hpre => ?_
    (conv => whnf); repeat' (first | ((with_reducible refine isW ?_); first | ((with_reducible refine xwr_ok (by omega) (by omega) ?_); conv => whnf) | ((with_reducible refine xwr_raw ?_); conv => whnf)) | ((refine DrawX_s tabOk folOk ?_); conv => whnf) | ((refine DrawS_i (by kernel_rfl) ?_); conv => whnf) | ((with_reducible refine andX_i ?_ ?_) <;> (conv => whnf)) | (with_reducible exact rfl) | ((with_reducible refine xif_kt (by with_reducible assumption) ?_); conv => whnf) | ((with_reducible refine xif_kf (by with_reducible assumption) ?_); conv => whnf) | (((with_reducible refine xif_s ?_ ?_) <;> (intro hb; (try simp (disch := omega) only [hbS] at hb))) <;> (conv => whnf)))
    all_goals try (exfalso; omega)
    refine Fin_pure rfl (B_eq ?_) trivial
    rw [decide_eq_false]
    rintro rfl
    omega
end Go.Proofs.YtlnplelandimeaaGreat.En
end
section
namespace Go.Proofs.YtlnplelandimeaaGreat.En
open Go.RowKit
set_option maxRecDepth 100000
end Go.Proofs.YtlnplelandimeaaGreat.En
end
section
namespace Go.Proofs.YtlnplelandimeaaGreat.En
open Go.RowKit
set_option maxRecDepth 100000
theorem joinA_none (a : AtT) : joinA at0 a = a := by
  unfold joinA at0
  refine Prod.ext (funext fun k => ?_) (funext fun k => ?_)
  · dsimp only
    cases a.1 k <;> rfl
  · dsimp only
    cases a.2 k <;> rfl
set_option maxHeartbeats 2000000 in
theorem AClone_m (a1 a2 : Nat) (m : List (Int × SlT)) (q : List (Int × PlT)) (h1 : okS m) (hg : goodA (absM (m, q))) :
    CallM Tryz.prog 75 [.p 0 0] (fun _ _ => True) [atB a1 a2, scO a1 m, plO a2 q]
      (fun _ : (Nat × Nat) × StI (absM (m, q)) => .p 3 0) (fun r => [atB a1 a2, scO a1 m, plO a2 q, atB r.1.1 r.1.2, scO r.1.1 r.2.1.1, plO r.1.2 r.2.1.2]) := by
  have hok0 : okS [] := by intro e he; cases he
  refine CallM.of (m := 3) Tryz.func75 rfl tabOk rfl rfl rfl rfl (by simp [SV.wfs, SV.wf]) fun w M π _ => ?_
  (conv => whnf); repeat' (first | ((with_reducible refine isC ?_); first | ((with_reducible refine isF 82 ?_); (refine CallX_m New_m [] rfl trivial (by decide) (fun _ _ _ _ => trivial) ?_; intro b; obtain ⟨b1, b2⟩ := b); conv => whnf) | ((with_reducible refine isF 77 ?_); (refine CallX_m (Join_m b1 b2 a1 a2 [] m [] q hok0 h1 hg) [3, 4, 5, 0, 1, 2] rfl ⟨⟨rfl, rfl, by simp [SV.wf, SV.wfs]⟩, fun _ _ h => h, fun _ _ h => h, ⟨rfl, rfl, by simp [SV.wf, SV.wfs]⟩, fun _ _ h => h, fun _ _ h => h, trivial⟩ (by decide) (fun _ _ _ _ => trivial) ?_; intro r); conv => whnf)) | (with_reducible exact rfl) | ((with_reducible refine xif_kt (by with_reducible assumption) ?_); conv => whnf) | ((with_reducible refine xif_kf (by with_reducible assumption) ?_); conv => whnf) | (((with_reducible refine xif_s ?_ ?_) <;> (intro hb; (try simp (disch := omega) only [hbS] at hb))) <;> (conv => whnf)))
  exact Fin_m ⟨(b1, b2), r.1, r.2.1, r.2.2.trans (joinA_none _)⟩ [0, 1, 2, 3, 4, 5] ⟨rfl, by simp [SV.wf, SV.wfs]⟩ ⟨⟨rfl, rfl, by simp [SV.wf, SV.wfs]⟩, fun _ _ h => h, fun _ _ h => h, ⟨rfl, rfl, by simp [SV.wf, SV.wfs]⟩, fun _ _ h => h, fun _ _ h => h, trivial⟩ (by decide) rfl
abbrev nilP : SV := .v (.pointer none)
abbrev nilS : SV := .v (.slice none 0 0)
theorem nIds_x : PureX Tryz.prog 45 [nilP] nilS := by
  refine PureX.of Tryz.func45 rfl tabOk rfl rfl rfl (by simp [SV.wfs, SV.wf]) (by simp [SV.wfs, SV.wf]) fun w => ?_
  (conv => whnf); repeat' (first | ((with_reducible refine isO ?_); first | ((refine OpX_build0 tabOk rfl rfl rfl ?_); intro bN; conv => whnf) | ((refine OpX_build tabOk rfl rfl rfl rfl rfl ?_); intro bN; conv => whnf)) | ((with_reducible refine isW ?_); first | ((with_reducible refine xwr_ok (by omega) (by omega) ?_); conv => whnf) | ((with_reducible refine xwr_raw ?_); conv => whnf)) | (with_reducible exact rfl) | ((with_reducible refine xif_kt (by with_reducible assumption) ?_); conv => whnf) | ((with_reducible refine xif_kf (by with_reducible assumption) ?_); conv => whnf) | (((with_reducible refine xif_s ?_ ?_) <;> (intro hb; (try simp (disch := omega) only [hbS] at hb))) <;> (conv => whnf)))
  exact Fin_pure rfl rfl trivial
theorem empty_all {c : Nat} {A : Option Addr} {w : World} : ArgSl w (none : Option Addr) 0 1 (([] : List Int).map fun x => [encI x]) := ⟨rfl, by simp, by simp, fun h => (h rfl).elim⟩
theorem nSame_m (a1 a2 : Nat) (m : List (Int × SlT)) (q : List (Int × PlT)) : CallM Tryz.prog 73 [nilP, .p 0 0] (fun _ _ => True) [atB a1 a2, scO a1 m, plO a2 q] (fun _ : Unit => B (decide (([] : List Int) = idsF (hasM m q) 64))) (fun _ => [atB a1 a2, scO a1 m, plO a2 q]) := by
  refine CallM.of (m := 3) Tryz.func73 rfl tabOk rfl rfl rfl rfl (by simp [SV.wfs, SV.wf]) fun w M π _ => ?_
  have k2 := Ids_m a1 a2 m q
  have hlen := idsF_len (hasM m q) 64
  generalize idsF (hasM m q) 64 = L at *
  (conv => whnf); repeat' (first | ((with_reducible refine isC ?_); first | ((with_reducible refine CallX_pure (nIds_x) ?_) <;> first | omega | (with_reducible show (_ : Int) ≤ _) | (with_reducible show (_ : Int) < _) | (with_reducible show (_ : Nat) ≤ _) | (with_reducible show (_ : Nat) < _) | (conv => whnf)) | ((with_reducible refine isF 45 ?_); ((refine CallX_m k2 [0, 1, 2] rfl ⟨⟨rfl, rfl, by simp [SV.wf, SV.wfs]⟩, fun _ _ h => h, fun _ _ h => h, trivial⟩ (by decide) (fun _ _ _ _ => trivial) ?_; intro r2; obtain ⟨A2, c2⟩ := r2)); conv => whnf)) | ((with_reducible refine isW ?_); first | ((with_reducible refine xwr_ok (by omega) (by omega) ?_); conv => whnf) | ((with_reducible refine xwr_raw ?_); conv => whnf)) | (with_reducible exact rfl) | ((with_reducible refine xif_kt (by with_reducible assumption) ?_); conv => whnf) | ((with_reducible refine xif_kf (by with_reducible assumption) ?_); conv => whnf) | (((with_reducible refine xif_s ?_ ?_) <;> (intro hb; (try simp (disch := omega) only [hbS] at hb))) <;> (conv => whnf)))
  refine CallX_w (EqualI_g none A2 0 c2 [] L rfl rfl (by omega) (by omega)) (fun σ fp w hm => ⟨empty_all (c := 0) (A := none), ArgSl.row 3 rfl σ fp w hm⟩) ?_
  by_cases hL : ([] : List Int) = L
  rotate_left
  · rw [decide_eq_false hL]
    (conv => whnf); repeat' (first | ((with_reducible refine isW ?_); first | ((with_reducible refine xwr_ok (by omega) (by omega) ?_); conv => whnf) | ((with_reducible refine xwr_raw ?_); conv => whnf)) | (with_reducible exact rfl) | ((with_reducible refine xif_kt (by with_reducible assumption) ?_); conv => whnf) | ((with_reducible refine xif_kf (by with_reducible assumption) ?_); conv => whnf) | (((with_reducible refine xif_s ?_ ?_) <;> (intro hb; (try simp (disch := omega) only [hbS] at hb))) <;> (conv => whnf)))
    exact Fin_m () [0, 1, 2] ⟨rfl, by simp [SV.wf, SV.wfs]⟩ ⟨⟨rfl, rfl, by simp [SV.wf, SV.wfs]⟩, fun _ _ h => h, fun _ _ h => h, trivial⟩ (by decide) rfl
  · rw [decide_eq_true hL]
    (conv => whnf); repeat' (first | ((with_reducible refine isC ?_); first | ((with_reducible refine CallX_pure (nIds_x) ?_) <;> first | omega | (with_reducible show (_ : Int) ≤ _) | (with_reducible show (_ : Int) < _) | (with_reducible show (_ : Nat) ≤ _) | (with_reducible show (_ : Nat) < _) | (conv => whnf))) | ((with_reducible refine isW ?_); first | ((with_reducible refine xwr_ok (by omega) (by omega) ?_); conv => whnf) | ((with_reducible refine xwr_raw ?_); conv => whnf)) | (with_reducible exact rfl) | ((with_reducible refine xif_kt (by with_reducible assumption) ?_); conv => whnf) | ((with_reducible refine xif_kf (by with_reducible assumption) ?_); conv => whnf) | (((with_reducible refine xif_s ?_ ?_) <;> (intro hb; (try simp (disch := omega) only [hbS] at hb))) <;> (conv => whnf)))
    refine LoopX_inv tabOk (α := Unit) (fun _ => True) (fun _ => [(22, nilS), (23, I 0), (24, I 0)]) (fun _ => [atB a1 a2, scO a1 m, plO a2 q]) (fun _ => 0) () [0, 1, 2] trivial ?_ ?_
    · ((refine ⟨?_, ?_, ?_, ?_⟩) <;> (repeat' ((conv => whnf); apply And.intro)) <;> (try (first | exact trivial | decide)))
      all_goals first | rfl | exact fun _ _ h => h | (simp [SV.wf, SV.wfs]; done) | trace_state
    · intro _ _
      (conv => whnf); repeat' (first | ((with_reducible refine isW ?_); first | ((with_reducible refine xwr_ok (by omega) (by omega) ?_); conv => whnf) | ((with_reducible refine xwr_raw ?_); conv => whnf)) | (with_reducible exact rfl) | ((with_reducible refine xif_kt (by with_reducible assumption) ?_); conv => whnf) | ((with_reducible refine xif_kf (by with_reducible assumption) ?_); conv => whnf) | (((with_reducible refine xif_s ?_ ?_) <;> (intro hb; (try simp (disch := omega) only [hbS] at hb))) <;> (conv => whnf)))
      exact Fin_m () [0, 1, 2] ⟨rfl, by simp [SV.wf, SV.wfs]⟩ ⟨⟨rfl, rfl, by simp [SV.wf, SV.wfs]⟩, fun _ _ h => h, fun _ _ h => h, trivial⟩ (by decide) rfl
theorem Samen_m (a1 a2 : Nat) (m : List (Int × SlT)) (q : List (Int × PlT)) : CallM Tryz.prog 73 [.p 0 0, nilP] (fun _ _ => True) [atB a1 a2, scO a1 m, plO a2 q] (fun _ : Unit => B (decide (([] : List Int) = idsF (hasM m q) 64))) (fun _ => [atB a1 a2, scO a1 m, plO a2 q]) := by
  refine CallM.of (m := 3) Tryz.func73 rfl tabOk rfl rfl rfl rfl (by simp [SV.wfs, SV.wf]) fun w M π _ => ?_
  have k2 := Ids_m a1 a2 m q
  have hlen := idsF_len (hasM m q) 64
  generalize idsF (hasM m q) 64 = L at *
  (conv => whnf); repeat' (first | ((with_reducible refine isC ?_); first | ((with_reducible refine CallX_pure (nIds_x) ?_) <;> first | omega | (with_reducible show (_ : Int) ≤ _) | (with_reducible show (_ : Int) < _) | (with_reducible show (_ : Nat) ≤ _) | (with_reducible show (_ : Nat) < _) | (conv => whnf)) | ((with_reducible refine isF 45 ?_); ((refine CallX_m k2 [0, 1, 2] rfl ⟨⟨rfl, rfl, by simp [SV.wf, SV.wfs]⟩, fun _ _ h => h, fun _ _ h => h, trivial⟩ (by decide) (fun _ _ _ _ => trivial) ?_; intro r2; obtain ⟨A2, c2⟩ := r2)); conv => whnf)) | ((with_reducible refine isW ?_); first | ((with_reducible refine xwr_ok (by omega) (by omega) ?_); conv => whnf) | ((with_reducible refine xwr_raw ?_); conv => whnf)) | (with_reducible exact rfl) | ((with_reducible refine xif_kt (by with_reducible assumption) ?_); conv => whnf) | ((with_reducible refine xif_kf (by with_reducible assumption) ?_); conv => whnf) | (((with_reducible refine xif_s ?_ ?_) <;> (intro hb; (try simp (disch := omega) only [hbS] at hb))) <;> (conv => whnf)))
  refine CallX_w (EqualI_g A2 none c2 0 L [] rfl rfl (by omega) (by omega)) (fun σ fp w hm => ⟨ArgSl.row 3 rfl σ fp w hm, empty_all (c := 0) (A := none)⟩) ?_
  by_cases hL : ([] : List Int) = L
  rotate_left
  · rw [decide_eq_false hL, decide_eq_false (fun e => hL e.symm)]
    (conv => whnf); repeat' (first | ((with_reducible refine isW ?_); first | ((with_reducible refine xwr_ok (by omega) (by omega) ?_); conv => whnf) | ((with_reducible refine xwr_raw ?_); conv => whnf)) | (with_reducible exact rfl) | ((with_reducible refine xif_kt (by with_reducible assumption) ?_); conv => whnf) | ((with_reducible refine xif_kf (by with_reducible assumption) ?_); conv => whnf) | (((with_reducible refine xif_s ?_ ?_) <;> (intro hb; (try simp (disch := omega) only [hbS] at hb))) <;> (conv => whnf)))
    exact Fin_m () [0, 1, 2] ⟨rfl, by simp [SV.wf, SV.wfs]⟩ ⟨⟨rfl, rfl, by simp [SV.wf, SV.wfs]⟩, fun _ _ h => h, fun _ _ h => h, trivial⟩ (by decide) rfl
  · subst hL
    rw [decide_eq_true rfl]
    (conv => whnf); repeat' (first | ((with_reducible refine isC ?_); first | ((with_reducible refine isF 45 ?_); ((refine CallX_m k2 [0, 1, 2] rfl ⟨⟨rfl, rfl, by simp [SV.wf, SV.wfs]⟩, fun _ _ h => h, fun _ _ h => h, trivial⟩ (by decide) (fun _ _ _ _ => trivial) ?_; intro r3; obtain ⟨A3, c3⟩ := r3)); conv => whnf)) | ((with_reducible refine isW ?_); first | ((with_reducible refine xwr_ok (by omega) (by omega) ?_); conv => whnf) | ((with_reducible refine xwr_raw ?_); conv => whnf)) | (with_reducible exact rfl) | ((with_reducible refine xif_kt (by with_reducible assumption) ?_); conv => whnf) | ((with_reducible refine xif_kf (by with_reducible assumption) ?_); conv => whnf) | (((with_reducible refine xif_s ?_ ?_) <;> (intro hb; (try simp (disch := omega) only [hbS] at hb))) <;> (conv => whnf)))
    refine LoopX_inv tabOk (α := Unit) (fun _ => True) (fun _ => [(23, I 0), (24, I 0)]) (fun _ => [atB a1 a2, scO a1 m, plO a2 q]) (fun _ => 0) () [0, 1, 2] trivial ?_ ?_
    · ((refine ⟨?_, ?_, ?_, ?_⟩) <;> (repeat' ((conv => whnf); apply And.intro)) <;> (try (first | exact trivial | decide)))
      all_goals first | rfl | exact fun _ _ h => h | (simp [SV.wf, SV.wfs]; done) | trace_state
    · intro _ _
      (conv => whnf); repeat' (first | ((with_reducible refine isW ?_); first | ((with_reducible refine xwr_ok (by omega) (by omega) ?_); conv => whnf) | ((with_reducible refine xwr_raw ?_); conv => whnf)) | (with_reducible exact rfl) | ((with_reducible refine xif_kt (by with_reducible assumption) ?_); conv => whnf) | ((with_reducible refine xif_kf (by with_reducible assumption) ?_); conv => whnf) | (((with_reducible refine xif_s ?_ ?_) <;> (intro hb; (try simp (disch := omega) only [hbS] at hb))) <;> (conv => whnf)))
      exact Fin_m () [0, 1, 2] ⟨rfl, by simp [SV.wf, SV.wfs]⟩ ⟨⟨rfl, rfl, by simp [SV.wf, SV.wfs]⟩, fun _ _ h => h, fun _ _ h => h, trivial⟩ (by decide) rfl
end Go.Proofs.YtlnplelandimeaaGreat.En
end
section
namespace Go.Proofs.YtlnplelandimeaaGreat.En
open Go.RowKit
set_option maxRecDepth 100000
end Go.Proofs.YtlnplelandimeaaGreat.En
end
section
namespace Go.Proofs.YtlnplelandimeaaGreat
open Go.RowKit
set_option maxHeartbeats 400000 in
theorem compose_any (fq fx fy gq gx gy : Int) (w : World) (h1 : -1000000000 ≤ fx) (h2 : fx ≤ 1000000000) (h3 : -1000000000 ≤ fy) (h4 : fy ≤ 1000000000)
    (h5 : -1000000000 ≤ gx) (h6 : gx ≤ 1000000000) (h7 : -1000000000 ≤ gy) (h8 : gy ≤ 1000000000) :
    Calls Tryz.prog 103 #[.agg #[.int .i64 fq, .int .i64 fx, .int .i64 fy], .agg #[.int .i64 gq, .int .i64 gx, .int .i64 gy]] w fun e w' =>
      e = .returned (.agg #[.int .i64 ((fq + gq) % 4), .int .i64 (tX (fq % 4) gx gy + fx), .int .i64 (tY (fq % 4) gx gy + fy)]) ∧
      ((w.alloc (.cells #[.int .i64 fq, .int .i64 fx, .int .i64 fy] 37)).alloc (.cells #[.int .i64 gq, .int .i64 gx, .int .i64 gy] 37)).alloc
        (.cells #[.int .i64 ((fq + gq) % 4), .int .i64 (tX (fq % 4) gx gy + fx), .int .i64 (tY (fq % 4) gx gy + fy)] 37) = w' := by
  have ha := and3
  obtain ⟨b1, b2⟩ := tX_bd (fq % 4) gx gy 1000000000 h5 h6 h7 h8
  obtain ⟨b3, b4⟩ := tY_bd (fq % 4) gx gy 1000000000 h5 h6 h7 h8
  go_enter Tryz.func103, Tryz.ntmps103
  go_wp2_with (go_at_call 126; refine (turned_any _ _ _ _ (by omega) (by omega) (by omega) (by omega)).mono ?_; rintro e w' ⟨rfl, rfl⟩)
  exact bodyPost_ret (v := .agg #[.int .i64 ((fq + gq) % 4), .int .i64 (tX (fq % 4) gx gy + fx), .int .i64 (tY (fq % 4) gx gy + fy)]) (by simp [results, Tryz.results103, go_sem]) rfl
    ⟨rfl, rfl⟩
theorem szB2_of {n k m : Int} (h : (szB n m && szB k m) = true) : -m ≤ n ∧ n ≤ m ∧ -m ≤ k ∧ k ≤ m := by
  simp [szB] at h; omega
end Go.Proofs.YtlnplelandimeaaGreat
namespace Go.Proofs.YtlnplelandimeaaGreat
open Go.RowKit
theorem wneg4 (q : Int) : wrap64 (-q) % 4 = (-q) % 4 := by unfold wrap64; omega
set_option maxHeartbeats 400000 in
theorem inverse_any (fq fx fy : Int) (w : World) (h1 : -1000000000 ≤ fx) (h2 : fx ≤ 1000000000) (h3 : -1000000000 ≤ fy) (h4 : fy ≤ 1000000000) :
    Calls Tryz.prog 104 #[.agg #[.int .i64 fq, .int .i64 fx, .int .i64 fy]] w fun e w' =>
      e = .returned (.agg #[.int .i64 ((-fq) % 4), .int .i64 (tX ((-fq) % 4) (-fx) (-fy)), .int .i64 (tY ((-fq) % 4) (-fx) (-fy))]) ∧
      (w.alloc (.cells #[.int .i64 fq, .int .i64 fx, .int .i64 fy] 37)).alloc (.cells #[.int .i64 ((-fq) % 4), .int .i64 (tX ((-fq) % 4) (-fx) (-fy)), .int .i64 (tY ((-fq) % 4) (-fx) (-fy))] 37) = w' := by
  have ha := and3
  have hb := wneg4
  go_enter Tryz.func104, Tryz.ntmps104
  go_wp2_with (go_at_call 126; refine (turned_any _ _ _ _ (by omega) (by omega) (by omega) (by omega)).mono ?_; rintro e w' ⟨rfl, rfl⟩)
  exact bodyPost_ret (v := .agg #[.int .i64 ((-fq) % 4), .int .i64 (tX ((-fq) % 4) (-fx) (-fy)), .int .i64 (tY ((-fq) % 4) (-fx) (-fy))]) (by simp [results, Tryz.results104, go_sem]) rfl
    ⟨rfl, rfl⟩
def InvV (fq fx fy : Int) : Value :=
  if szB fx 8192 && szB fy 8192 then .tuple #[.agg #[.int .i64 ((-fq) % 4), .int .i64 (tX ((-fq) % 4) (-fx) (-fy)), .int .i64 (tY ((-fq) % 4) (-fx) (-fy))], .int .i64 0]
  else .tuple #[.agg #[.int .i64 0, .int .i64 0, .int .i64 0], .int .i64 1]
set_option maxHeartbeats 400000 in
theorem Inverse_any (fq fx fy : Int) (w : World) :
    Calls Tryz.prog 111 #[.agg #[.int .i64 fq, .int .i64 fx, .int .i64 fy]] w fun e w' => e = .returned (InvV fq fx fy) ∧ Below w.heap.size w w' := by
  cases hf : (szB fx 8192 && szB fy 8192)
  · have HS := Lib.hid (show InvV fq fx fy = .tuple #[.agg #[.int .i64 0, .int .i64 0, .int .i64 0], .int .i64 1] by simp [InvV, hf])
    go_enter Tryz.func111, Tryz.ntmps111
    go_wp2_with (go_at_call 91; refine (valid_any _ _ _ _).mono ?_; rintro e w1 ⟨rfl, rfl⟩)
    refine bodyPost_ret (v := .tuple #[.agg #[.int .i64 0, .int .i64 0, .int .i64 0], .int .i64 1]) (by simp [results, Tryz.results111, go_sem]) rfl ⟨by rw [HS.out], ?_⟩
    repeat (first | exact bw_refl _ | refine bw_alloc ?_ _)
  · have HS := Lib.hid (show InvV fq fx fy = .tuple #[.agg #[.int .i64 ((-fq) % 4), .int .i64 (tX ((-fq) % 4) (-fx) (-fy)), .int .i64 (tY ((-fq) % 4) (-fx) (-fy))], .int .i64 0] by simp [InvV, hf])
    obtain ⟨f1, f2, f3, f4⟩ := szB2_of hf
    go_enter Tryz.func111, Tryz.ntmps111
    go_wp2_with (first | (go_at_call 91; refine (valid_any _ _ _ _).mono ?_; rintro e w1 ⟨rfl, rfl⟩) | (go_at_call 104; refine (inverse_any _ _ _ _ (by omega) (by omega) (by omega) (by omega)).mono ?_; rintro e w1 ⟨rfl, rfl⟩))
    refine bodyPost_ret (v := .tuple #[.agg #[.int .i64 ((-fq) % 4), .int .i64 (tX ((-fq) % 4) (-fx) (-fy)), .int .i64 (tY ((-fq) % 4) (-fx) (-fy))], .int .i64 0]) (by simp [results, Tryz.results111, go_sem]) rfl ⟨by rw [HS.out], ?_⟩
    repeat (first | exact bw_refl _ | refine bw_alloc ?_ _)
end Go.Proofs.YtlnplelandimeaaGreat
namespace Go.Proofs.YtlnplelandimeaaGreat
open Go.RowKit
def PtV (fq fx fy x y : Int) : Value :=
  if szB fx 8192 && szB fy 8192 && (szB x 1048576 && szB y 1048576) then
    if szB (tX (fq % 4) x y + 64 * fx) 1048576 && szB (tY (fq % 4) x y + 64 * fy) 1048576 then .tuple #[.agg #[.int .i64 (tX (fq % 4) x y + 64 * fx), .int .i64 (tY (fq % 4) x y + 64 * fy)], .int .i64 0]
    else .tuple #[.agg #[.int .i64 0, .int .i64 0], .int .i64 2]
  else .tuple #[.agg #[.int .i64 0, .int .i64 0], .int .i64 1]
end Go.Proofs.YtlnplelandimeaaGreat
namespace Go.Proofs.YtlnplelandimeaaGreat
open Go.RowKit
end Go.Proofs.YtlnplelandimeaaGreat
end
