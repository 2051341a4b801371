/- strconv.Itoa by the kit's contract; tools.Export by the executor. -/
import Derived.Test.YtadichckbogcjaaDoorXc
import Derived.Test.YtadichckbogcjaaDoorEp
import Derived.Test.YtadichckbogcjaaDoorLyItoa
import Derived.Shelf.Strconv.Itoa3
import Derived.Lib.ItoaLen
import Derived.Lib.LaidTab
set_option linter.all false
namespace Go.Proofs.YtadichckbogcjaaDoor.En
open Go.RowKit Go.Sort
set_option maxRecDepth 100000

/-- the name of the table of powers of ten, as the given rows have it -/
def p10N : String := Rows.toolsPicturesRow.named.headD default
/-- the table of powers of ten is as its initialiser lays it -/
def p10W (w : World) : Prop := Lib.TabIs Tryd.prog w p10N .u64 Lib.pow10Tab
theorem p10W.at {w : World} (h : p10W w) {w' : World} (hs : w'.heap[3]? = w.heap[3]?) : p10W w' := by
  unfold p10W Lib.TabIs World.var? at *
  have hg : Tryd.prog.globalNamed p10N = some 3 := by kernel_rfl
  rw [hg] at h ⊢
  simp only [Option.bind_some] at h ⊢
  rw [hs]
  exact h
theorem p10W.lt {w : World} (h : p10W w) : 3 < w.heap.size := by
  unfold p10W Lib.TabIs World.var? at h
  have hg : Tryd.prog.globalNamed p10N = some 3 := by kernel_rfl
  rw [hg] at h
  simp only [Option.bind_some] at h
  rcases Nat.lt_or_ge 3 w.heap.size with h' | h'
  · exact h'
  · simp [Array.getElem?_eq_none h'] at h
/-- it stays so while an own function runs that changes nothing of what came in -/
theorem p10W.mem {C : Ctx} {ob : List OB} (h : p10W C.w0) (hM : C.M = fun _ => False) : ∀ σ fp w, Mem C σ fp ob w → p10W w := by
  intro σ fp w hm
  exact h.at (hm.kept.block _ h.lt (by rw [hM]; exact id))
theorem Itoa_w (n : Int) (h0 : -9223372036854775808 ≤ n) (h1 : n ≤ 9223372036854775807) : CallW Tryd.prog 29 [I n] p10W (S (Lib.itoa n)) := by
  refine ⟨Entr.of Tryd.func29 rfl rfl, trivial, fun σ w hp => ?_⟩
  refine (Any.strconv_Itoa Itoa n h0 h1 w hp).mono ?_
  rintro e w' ⟨rfl, k, os, rfl⟩
  refine ⟨rfl, ?_⟩
  exact ⟨rfl, rfl, rfl, by simp [grow], fun i hi => heap_grow_old _ _ (by simpa using hi)⟩
/-- a line of an exported list -/
def lineE (e : EntT) : List UInt8 := Lib.itoa e.1 ++ [32] ++ Lib.itoa e.2.1 ++ [32] ++ Lib.itoa e.2.2.1 ++ [32] ++ Lib.itoa e.2.2.2 ++ [10]
def exportS (l : List EntT) : List UInt8 := (l.map lineE).flatten
theorem exportS_succ {l : List EntT} {k : Nat} (hk : k < l.length) : exportS (l.take (k + 1)) = exportS (l.take k) ++ lineE (l.getD k e0) := by
  unfold exportS
  rw [List.take_succ_eq_append_getElem hk, List.map_append, List.flatten_append]
  simp [hk]
theorem szB_iff {x n : Int} : szB x n = true ↔ -n ≤ x ∧ x ≤ n := by simp [szB]
theorem lineE_len {e : EntT} (h : goodB e = true) : (lineE e).length ≤ 88 := by
  simp only [goodB, countB, szB, Bool.and_eq_true, decide_eq_true_eq] at h
  have a1 := Lib.itoa_length_le e.1 (by omega) (by omega)
  have a2 := Lib.itoa_length_le e.2.1 (by omega) (by omega)
  have a3 := Lib.itoa_length_le e.2.2.1 (by omega) (by omega)
  have a4 := Lib.itoa_length_le e.2.2.2 (by omega) (by omega)
  simp only [lineE, List.length_append, List.length_cons, List.length_nil]
  omega
theorem exportS_len {l : List EntT} (h : ∀ e ∈ l, goodB e = true) : (exportS l).length ≤ 88 * l.length := by
  induction l with
  | nil => simp [exportS]
  | cons x l ih =>
    have h1 := lineE_len (h x (by simp))
    have h2 := ih fun e he => h e (by simp [he])
    have h3 : exportS (x :: l) = lineE x ++ exportS l := rfl
    rw [h3, List.length_append, List.length_cons]
    omega
theorem exportS_ge (l : List EntT) : l.length ≤ (exportS l).length := by
  induction l with
  | nil => simp
  | cons x l ih =>
    have h3 : exportS (x :: l) = lineE x ++ exportS l := rfl
    rw [h3, List.length_append, List.length_cons]
    have : 1 ≤ (lineE x).length := by
      simp only [lineE, List.length_append, List.length_cons, List.length_nil]
      omega
    omega
theorem bld_ren {x0 : SV} (hx : x0 = .v (.pointer none) ∨ x0 = .p 0 0) (y : Value) (r : List Nat) : [x0, SV.v y] = SV.rens (0 :: r) [x0, .v y] := by
  rcases hx with rfl | rfl <;> rfl
theorem bld_wf {x0 : SV} (hx : x0 = .v (.pointer none) ∨ x0 = .p 0 0) (y : Value) {n : Nat} : SV.wfs (n + 1) [x0, SV.v y] := by
  rcases hx with rfl | rfl <;> simp [SV.wf, SV.wfs]
set_option maxHeartbeats 4000000 in
theorem Export_w (A : Option Addr) (c : Nat) (l : List EntT) {n : Nat} (hl : l.length = n) (hn : n ≤ maxLen) :
    CallW Tryd.prog 12 [.v (.slice A n c)] (fun w => ArgSl w A n 4 (l.map encE) ∧ p10W w) (S (if vE l then exportS l else [])) := by
  have kv := Valid_v A c l hl hn
  rcases Bool.eq_false_or_eq_true (vE l) with hv | hv
  rotate_left
  · rw [hv] at kv ⊢
    refine CallW.of Tryd.func12 rfl tabOk rfl rfl rfl (by simp [SV.wfs, SV.wf]) (by simp [SV.wfs, SV.wf]) fun w hpre => ?_
    (conv=>whnf);repeat' (first|((with_reducible refine isC ?_);first|(((with_reducible refine isF 23 ?_;refine CallX_v (kv) ?_ ?_);(focus exact hpre.1.mem (by decide) rfl));conv=>whnf))|((with_reducible refine isW ?_;first|refine xwr_ok (by omega) (by omega) ?_|refine xwr_raw ?_);conv=>whnf)|((first|refine DrawX_s tabOk folOk ?_|refine DrawS_i (by kernel_rfl) ?_|with_reducible refine andX_i ?_ ?_)<;>conv=>whnf)|with_reducible exact rfl|((with_reducible first|refine xif_kt (by assumption) ?_|refine xif_kf (by assumption) ?_);conv=>whnf)|((with_reducible refine xif_s ?_ ?_)<;>(intro hb;(try simp (disch:=omega) only [hbS] at hb)<;>conv=>whnf)))
    exact Fin_pure rfl rfl trivial
  · rw [hv] at kv ⊢
    have hg : ∀ e ∈ l, goodB e = true := fun e he => vE_good hv he
    have hlen : l.length ≤ 1048576 := by
      simp only [vE, Bool.and_eq_true, decide_eq_true_eq] at hv
      exact hv.1
    refine CallW.of Tryd.func12 rfl tabOk rfl rfl rfl (by simp [SV.wfs, SV.wf]) (by simp [SV.wfs, SV.wf]) fun w hpre => ?_
    obtain ⟨hpre, htab⟩ := hpre
    (conv=>whnf);repeat' (first|((with_reducible refine isC ?_);first|(((with_reducible refine isF 23 ?_;refine CallX_v (kv) ?_ ?_);(focus exact hpre.mem (by decide) rfl));conv=>whnf))|((with_reducible refine isW ?_;first|refine xwr_ok (by omega) (by omega) ?_|refine xwr_raw ?_);conv=>whnf)|((first|refine DrawX_s tabOk folOk ?_|refine DrawS_i (by kernel_rfl) ?_|with_reducible refine andX_i ?_ ?_)<;>conv=>whnf)|with_reducible exact rfl|((with_reducible first|refine xif_kt (by assumption) ?_|refine xif_kf (by assumption) ?_);conv=>whnf)|((with_reducible refine xif_s ?_ ?_)<;>(intro hb;(try simp (disch:=omega) only [hbS] at hb)<;>conv=>whnf)))
    refine LoopX_addNil 5 1 ?_
    conv => whnf
    refine LoopX_inv tabOk (α := Nat × (Option Addr × Nat) × {x0 : SV // x0 = .v (.pointer none) ∨ x0 = .p 0 0}) (fun s => s.1 ≤ n ∧ (s.1 = 0 → s.2.1.1 = none)) (fun s => [(3, .p 0 0), (9, .v (.slice A n c)), (10, I n), (11, I s.1)])
      (fun s => [bldB s.2.2.1 s.2.1.1 (exportS (l.take s.1)).length s.2.1.2, bldR s.2.1.1 (exportS (l.take s.1)).length s.2.1.2 (exportS (l.take s.1))]) (fun s => n - s.1) (0, (none, 0), ⟨.v (.pointer none), .inl rfl⟩) [0, 1] ⟨Nat.zero_le _, fun _ => rfl⟩ ?_ ?_
    · ((refine ⟨?_, ?_, ?_, ?_⟩) <;> (repeat' ((conv => whnf); apply And.intro)) <;> (try (first | exact trivial | decide)))
      all_goals first | rfl | exact fun _ _ h => h | (simp [SV.wf, SV.wfs]; done) | trace_state
    · rintro ⟨k, ⟨A1, c1⟩, x0, hx0⟩ ⟨hk, hz⟩
      dsimp only at hk hz ⊢
      have hbd : (exportS (l.take k)).length ≤ 88 * 1048576 := by
        have := exportS_len (l := l.take k) fun e he => hg e (List.mem_of_mem_take he)
        rw [List.length_take] at this
        omega
      by_cases hlt : k < n
      · have hnx := exportS_succ (l := l) (k := k) (by omega)
        have hge := hg (l.getD k e0) (by simp [show k < l.length by omega])
        have hll := lineE_len hge
        simp only [goodB, countB, szB, Bool.and_eq_true, decide_eq_true_eq] at hge
        have i1 := Itoa_w (l.getD k e0).1 (by omega) (by omega)
        have i2 := Itoa_w (l.getD k e0).2.1 (by omega) (by omega)
        have i3 := Itoa_w (l.getD k e0).2.2.1 (by omega) (by omega)
        have i4 := Itoa_w (l.getD k e0).2.2.2 (by omega) (by omega)
        have htm := fun {ob : List OB} => p10W.mem (C := ⟨Tryd.prog, tab, Tryd.f12.ntmps, w, fun _ => False, 0, id, false⟩) (ob := ob) htab rfl
        generalize exportS (l.take k) = X at *
        have hll2 := hll
        unfold lineE at hll2
        simp only [List.length_append, List.length_cons, List.length_nil] at hll2
        have kw := WriteString_m x0 hx0 A1 X.length c1 X (lineE (l.getD k e0)) _ rfl (by omega)
        unfold lineE at kw
        (conv=>whnf);repeat' (first|((with_reducible refine isC ?_);first|((first|(with_reducible refine isF 29 ?_;refine CallX_w (i1) ?_ ?_);(focus exact htm)|(with_reducible refine isF 29 ?_;refine CallX_w (i2) ?_ ?_);(focus exact htm)|(with_reducible refine isF 29 ?_;refine CallX_w (i3) ?_ ?_);(focus exact htm)|(with_reducible refine isF 29 ?_;refine CallX_w (i4) ?_ ?_);(focus exact htm)|(with_reducible refine isF 28 ?_;refine CallX_m (kw) [0, 1] ?_ ?_ ?_ ?_ ?_);(focus exact rfl);(focus exact ⟨⟨rfl, bld_ren hx0 _ _, bld_wf hx0 _⟩, ⟨rfl, rfl, rfl, rfl, rfl, rfl⟩, trivial⟩);(focus decide);(focus exact (fun _ _ _ _ => trivial));intro q; obtain ⟨A2, c2⟩ := q; dsimp only);conv=>whnf))|((with_reducible refine isV ?_);first|((first|refine ValX_index tabOk rfl (hpre.mem (by decide) rfl) rfl ?_ ?_ ?_|(with_reducible refine nat_idx ?_);refine ValX_loadEn _ _ (e0) tabOk rfl rfl rfl rfl (hpre.mem (by decide) rfl) ?_ ?_ ?_|refine ValX_loadE _ _ (e0) tabOk rfl rfl rfl rfl (hpre.mem (by decide) rfl) ?_ ?_ ?_)<;>first|rfl|omega|with_reducible refine isP ?_|conv=>whnf)|(refine ValX_sAdd rfl (by simp only [List.length_append, List.length_cons, List.length_nil]; omega) ?_; conv => whnf))|((with_reducible refine isW ?_;first|refine xwr_ok (by omega) (by omega) ?_|refine xwr_raw ?_);conv=>whnf)|((first|refine DrawX_s tabOk folOk ?_|refine DrawS_i (by kernel_rfl) ?_|with_reducible refine andX_i ?_ ?_)<;>conv=>whnf)|with_reducible exact rfl|((with_reducible first|refine xif_kt (by assumption) ?_|refine xif_kf (by assumption) ?_);conv=>whnf)|((with_reducible refine xif_s ?_ ?_)<;>(intro hb;(try simp (disch:=omega) only [hbS] at hb)<;>conv=>whnf)))
        all_goals try (exfalso; omega)
        refine ⟨(k + 1, (A2, c2), ⟨.p 0 0, .inr rfl⟩), [0, 1], ⟨by (try dsimp only); omega, fun h => by cases h⟩, ?_, by (try dsimp only); omega⟩
        dsimp only
        rw [hnx, show (X ++ lineE (l.getD k e0)).length = X.length + (lineE (l.getD k e0)).length from List.length_append]
        unfold lineE
        ((refine ⟨?_, ?_, ?_, ?_⟩) <;> (repeat' ((conv => whnf); apply And.intro)) <;> (try (first | exact trivial | decide)))
        all_goals first | rfl | exact fun _ _ h => h | (simp [SV.wf, SV.wfs]; done) | trace_state
      · obtain rfl : k = n := by omega
        have ks := BString_m A1 _ c1 (exportS (l.take k)) rfl (by
          intro h0
          have := exportS_ge (l.take k)
          rw [List.length_take] at this
          exact hz (by omega)) (by omega) x0 hx0
        rw [List.take_of_length_le (by omega)] at ks ⊢
        (conv=>whnf);repeat' (first|((with_reducible refine isC ?_);first|(((with_reducible refine isF 30 ?_;refine CallX_m (ks) [0, 1] ?_ ?_ ?_ ?_ ?_);(focus exact rfl);(focus exact ⟨⟨rfl, bld_ren hx0 _ _, bld_wf hx0 _⟩, ⟨rfl, rfl, rfl, rfl, rfl, rfl⟩, trivial⟩);(focus decide);(focus exact (fun _ _ _ _ => trivial));intro q);conv=>whnf))|((with_reducible refine isW ?_;first|refine xwr_ok (by omega) (by omega) ?_|refine xwr_raw ?_);conv=>whnf)|((first|refine DrawX_s tabOk folOk ?_|refine DrawS_i (by kernel_rfl) ?_|with_reducible refine andX_i ?_ ?_)<;>conv=>whnf)|with_reducible exact rfl|((with_reducible first|refine xif_kt (by assumption) ?_|refine xif_kf (by assumption) ?_);conv=>whnf)|((with_reducible refine xif_s ?_ ?_)<;>(intro hb;(try simp (disch:=omega) only [hbS] at hb)<;>conv=>whnf)))
        all_goals try (exfalso; omega)
        exact Fin_pure rfl rfl trivial
end Go.Proofs.YtadichckbogcjaaDoor.En
