import Derived.Test.YtkflmidichikjaaGreatDoorZSystemReplays35
import Derived.Test.YtkflmidichikjaaGreatDoorZSystemReplays33
import Derived.Test.YtkflmidichikjaaGreatDoorZSystemReplays31
import Derived.Test.YtkflmidichikjaaGreatDoorZSystemReplays23
set_option linter.all false
section
namespace Go.Proofs.YtkflmidichikjaaGreatDoor.V
open Go.RowKit
set_option maxRecDepth 100000
open Sys
theorem CF_calls {P : Program} {f : FuncId} {args : List SV} {r : Value} (h : CF P f false args (.v r) []) (he : Entr P f) {w : World} (hw : SV.wfs ⟨allG w, 0⟩ args) : Calls P f (SV.vals (fun _ => 0) args).toArray w fun e w' => e = .returned r ∧ Below w.heap.size w w' := by
 have hM : Mem ⟨P,[],0,w,MOf 0 (fun _ _=>False),0,fun _=>0,false,allG w⟩ (fun _=>0) (allG w) (fun _ _=>False) [] w :=
  ⟨fun k o hk=>by simp at hk,fun j k hj=>by simp at hj,fun k hk=>by simp at hk,fun k hk=>by simp at hk,⟨rfl,rfl,rfl,Nat.le_refl _,fun _ _ _=>rfl⟩,fun b o hb=>⟨hb,fun k hk=>by simp at hk⟩,fun b o hb=>.inr (.inr hb),⟨Nat.le_refl _,fun j hj=>by cases hj⟩,fun _=>Nat.le_refl _⟩
 have h1:=h.2 (fun _=>0) (allG w) (fun _ _=>False) w hM hw
 unfold CallsE at h1
 rw [he] at h1
 refine Calls.mono h1 ?_
 rintro e w' ⟨i,σ',G',fp',rfl,_,hm,_⟩
 refine ⟨rfl,hm.kept.os,hm.kept.tape,hm.kept.output,hm.kept.size,fun i hi=>hm.kept.block i hi ?_⟩
 rintro ⟨j,hj,_⟩
 cases hj
theorem map_of {α β : Type} {f : α → β} {p : α → Prop} : ∀ {l : List β}, (∀ x ∈ l, ∃ a, x = f a ∧ p a) → ∃ X : List α, l = X.map f ∧ ∀ a ∈ X, p a
 | [],_=>⟨[],rfl,by simp⟩
 | x :: r,h=>by
   obtain ⟨a,h1,h2⟩:=h x (by simp)
   obtain ⟨X,h3,h4⟩:=map_of (l:=r) fun y hy=>h y (by simp [hy])
   refine ⟨a :: X,by rw [List.map_cons,← h1,← h3],fun b hb=>?_⟩
   rcases List.mem_cons.1 hb with rfl|hb
   ·exact h2
   ·exact h4 b hb
theorem sh_int {k : IntKind} {x : List DV} (h : Sh.hasL [.int k] x) : ∃ n : Int, x = [.v (.int k n)] ∧ (Lit.int k n).wf = true := by
 obtain ⟨d,l,rfl,h1,h2⟩:=Sh.hasL_inv h
 obtain rfl:=Sh.hasL_inv0 h2
 obtain ⟨n,rfl,h3⟩:=Sh.has_i.1 h1
 exact ⟨n,rfl,h3⟩
theorem sh_bytes {els : List (List DV)} (h : ∀ x ∈ els, Sh.hasL [.int .u8] x) : ∃ X : List Int, els = fl ye X ∧ ∀ n ∈ X, 0 ≤ n := by
 obtain ⟨X,h1,h2⟩:=map_of (f:=fun n : Int=>[DV.v (.int .u8 n)]) (p:=fun n=>(Lit.int .u8 n).wf=true) fun x hx=>sh_int (h x hx)
 refine ⟨X,h1,fun n hn=>?_⟩
 have:=h2 n hn
 simp [Lit.wf,IntKind.min,IntKind.max,IntKind.signed,IntKind.bits] at this
 omega
theorem sh_ints {els : List (List DV)} (h : ∀ x ∈ els, Sh.hasL [.int .i64] x) : ∃ X : List Int, els = fl ie X := by
 obtain ⟨X,h1,_⟩:=map_of (f:=fun n : Int=>[DV.v (.int .i64 n)]) (p:=fun n=>(Lit.int .i64 n).wf=true) fun x hx=>sh_int (h x hx)
 exact ⟨X,h1⟩
theorem inv_i {k : IntKind} {r : List Sh} {x : List DV} (h : Sh.hasL (.int k :: r) x) : ∃ (n : Int) (l : List DV), x = .v (.int k n) :: l ∧ Sh.hasL r l := by
 obtain ⟨d,l,rfl,h1,h2⟩:=Sh.hasL_inv h
 obtain ⟨n,rfl,_⟩:=Sh.has_i.1 h1
 exact ⟨n,l,rfl,h2⟩
theorem inv_b {r : List Sh} {x : List DV} (h : Sh.hasL (.bool :: r) x) : ∃ (b : Bool) (l : List DV), x = .v (.bool b) :: l ∧ Sh.hasL r l := by
 obtain ⟨d,l,rfl,h1,h2⟩:=Sh.hasL_inv h
 obtain ⟨n,rfl⟩:=Sh.has_b.1 h1
 exact ⟨n,l,rfl,h2⟩
theorem inv_sl {sz : Nat} {q : List Sh} {r : List Sh} {x : List DV} (h : Sh.hasL (.sl sz q :: r) x) : ∃ (els : List (List DV)) (l : List DV), x = .fz sz els :: l ∧ els.length ≤ maxLen ∧ (∀ y ∈ els, Sh.hasL q y) ∧ Sh.hasL r l := by
 obtain ⟨d,l,rfl,h1,h2⟩:=Sh.hasL_inv h
 obtain ⟨els,rfl,h3,h4⟩:=Sh.has_sl.1 h1
 exact ⟨els,l,rfl,h3,h4,h2⟩
abbrev i64s (n : Nat) : List Sh := List.replicate n (.int .i64)
theorem sh_boxes {els : List (List DV)} (h : ∀ x ∈ els, Sh.hasL (i64s 6) x) : ∃ X : List Box, els = fl Box.e X := by
 obtain ⟨X,h1,_⟩:=map_of (f:=fun b : Box=>(Box.e b).map DV.v) (p:=fun _=>True) fun x hx=>by
  obtain ⟨a,l_2,rfl,h1_1⟩:=inv_i (h x hx)
  obtain ⟨b,l_4,rfl,h1_3⟩:=inv_i h1_1
  obtain ⟨c,l_6,rfl,h1_5⟩:=inv_i h1_3
  obtain ⟨d,l_8,rfl,h1_7⟩:=inv_i h1_5
  obtain ⟨e,l_10,rfl,h1_9⟩:=inv_i h1_7
  obtain ⟨f,l_12,rfl,h1_11⟩:=inv_i h1_9
  obtain rfl:=Sh.hasL_inv0 h1_11
  exact ⟨⟨a,b,c,d,e,f⟩,rfl,trivial⟩
 exact ⟨X,h1⟩
abbrev shSetup : List Sh := [.int .i64, .int .i64, .sl 1 [.int .u8], .int .i64, .int .i64, .sl 1 [.int .u8], .int .i64, .int .i64, .int .i64, .int .i64, .int .i64, .int .i64, .int .i64, .sl 6 (i64s 6), .sl 1 [.int .i64], .int .i64, .int .i64]
abbrev shInp : List Sh := [.int .i64, .int .i64, .bool, .bool, .bool, .int .i64, .int .i64, .int .i64, .int .i64, .sl 1 [.int .i64]]
theorem shSetup_ok : shOf Tryz.prog 6 38 = some shSetup := by kernel_rfl
theorem shInps_ok : shOf Tryz.prog 6 33 = some [.sl 10 shInp] := by kernel_rfl
theorem sh_inps {els : List (List DV)} (h : ∀ x ∈ els, Sh.hasL shInp x) : ∃ X : List Inp, els = flD Inp.e X := by
 obtain ⟨X,h1,_⟩:=map_of (f:=Inp.e) (p:=fun _=>True) fun x hx=>by
  obtain ⟨a,l_14,rfl,h1_13⟩:=inv_i (h x hx)
  obtain ⟨b,l_16,rfl,h1_15⟩:=inv_i h1_13
  obtain ⟨c,l_18,rfl,h1_17⟩:=inv_b h1_15
  obtain ⟨d,l_20,rfl,h1_19⟩:=inv_b h1_17
  obtain ⟨e,l_22,rfl,h1_21⟩:=inv_b h1_19
  obtain ⟨f,l_24,rfl,h1_23⟩:=inv_i h1_21
  obtain ⟨g,l_26,rfl,h1_25⟩:=inv_i h1_23
  obtain ⟨i,l_28,rfl,h1_27⟩:=inv_i h1_25
  obtain ⟨j,l_30,rfl,h1_29⟩:=inv_i h1_27
  obtain ⟨k,l_32,rfl,h2,h3,h1_31⟩:=inv_sl h1_29
  obtain rfl:=Sh.hasL_inv0 h1_31
  obtain ⟨E,rfl⟩:=sh_ints h3
  exact ⟨⟨⟨a,b⟩,c,d,e,⟨f,g,i,j⟩,E⟩,rfl,trivial⟩
 exact ⟨X,h1⟩
theorem rd_v {G : Fz} {v : Value} {r : List DV} {y : List Value} (h : rdL G (.v v :: r) y) : ∃ l, y = v :: l ∧ rdL G r l := by
 cases y with
 | nil=>exact h.elim
 | cons u l=>exact ⟨l,by rw [h.1.2],h.2⟩
theorem rd_fz {G : Fz} {sz : Nat} {els : List (List DV)} {r : List DV} {y : List Value} (h : rdL G (.fz sz els :: r) y) : ∃ (A : Option Addr) (c : Nat) (l : List Value), y = .slice A els.length c :: l ∧ (DV.fz sz els).rd G (.slice A els.length c) ∧ rdL G r l := by
 cases y with
 | nil=>exact h.elim
 | cons u l =>
   obtain ⟨A,c,rfl,h2⟩:=h.1.2
   exact ⟨A,c,l,rfl,⟨A,c,rfl,h2⟩,h.2⟩
theorem rd_nil {G : Fz} {y : List Value} (h : rdL G [] y) : y = [] := by
 cases y with
 | nil=>rfl
 | cons u l=>exact h.elim
theorem open_setup {G : Fz} {ds : List DV} {cs : List Value} (h : Sh.hasL shSetup ds) (hr : rdL G ds cs) : ∃ (s : Setup) (g : Ga), Value.agg cs.toArray = (s.s g).val (fun _ => 0) ∧ (s.s g).wf ⟨G, 0⟩ ∧ (∀ x ∈ s.known.cells, 0 ≤ x) ∧ s.set.length ≤ maxLen := by
 obtain ⟨a1,l_34,rfl,h_33⟩:=inv_i h
 obtain ⟨a2,l_36,rfl,h_35⟩:=inv_i h_33
 obtain ⟨e1,l_38,rfl,_,k1,h_37⟩:=inv_sl h_35
 obtain ⟨a3,l_40,rfl,h_39⟩:=inv_i h_37
 obtain ⟨a4,l_42,rfl,h_41⟩:=inv_i h_39
 obtain ⟨e2,l_44,rfl,_,k2,h_43⟩:=inv_sl h_41
 obtain ⟨a5,l_46,rfl,h_45⟩:=inv_i h_43
 obtain ⟨a6,l_48,rfl,h_47⟩:=inv_i h_45
 obtain ⟨a7,l_50,rfl,h_49⟩:=inv_i h_47
 obtain ⟨a8,l_52,rfl,h_51⟩:=inv_i h_49
 obtain ⟨a9,l_54,rfl,h_53⟩:=inv_i h_51
 obtain ⟨b1,l_56,rfl,h_55⟩:=inv_i h_53
 obtain ⟨b2,l_58,rfl,h_57⟩:=inv_i h_55
 obtain ⟨e3,l_60,rfl,m3,k3,h_59⟩:=inv_sl h_57
 obtain ⟨e4,l_62,rfl,_,k4,h_61⟩:=inv_sl h_59
 obtain ⟨b3,l_64,rfl,h_63⟩:=inv_i h_61
 obtain ⟨b4,l_66,rfl,h_65⟩:=inv_i h_63
 obtain rfl:=Sh.hasL_inv0 h_65
 obtain ⟨X1,rfl,_⟩:=sh_bytes k1
 obtain ⟨X2,rfl,p2⟩:=sh_bytes k2
 obtain ⟨X3,rfl⟩:=sh_boxes k3
 obtain ⟨X4,rfl⟩:=sh_ints k4
 obtain ⟨l_68,rfl,hr_67⟩:=rd_v hr
 obtain ⟨l_70,rfl,hr_69⟩:=rd_v hr_67
 obtain ⟨A1,c1,l_72,rfl,r1,hr_71⟩:=rd_fz hr_69
 obtain ⟨l_74,rfl,hr_73⟩:=rd_v hr_71
 obtain ⟨l_76,rfl,hr_75⟩:=rd_v hr_73
 obtain ⟨A2,c2,l_78,rfl,r2,hr_77⟩:=rd_fz hr_75
 obtain ⟨l_80,rfl,hr_79⟩:=rd_v hr_77
 obtain ⟨l_82,rfl,hr_81⟩:=rd_v hr_79
 obtain ⟨l_84,rfl,hr_83⟩:=rd_v hr_81
 obtain ⟨l_86,rfl,hr_85⟩:=rd_v hr_83
 obtain ⟨l_88,rfl,hr_87⟩:=rd_v hr_85
 obtain ⟨l_90,rfl,hr_89⟩:=rd_v hr_87
 obtain ⟨l_92,rfl,hr_91⟩:=rd_v hr_89
 obtain ⟨A3,c3,l_94,rfl,r3,hr_93⟩:=rd_fz hr_91
 obtain ⟨A4,c4,l_96,rfl,r4,hr_95⟩:=rd_fz hr_93
 obtain ⟨l_98,rfl,hr_97⟩:=rd_v hr_95
 obtain ⟨l_100,rfl,hr_99⟩:=rd_v hr_97
 obtain rfl:=rd_nil hr_99
 rw [fl_len] at m3
 exact ⟨⟨⟨a1,a2,X1⟩,⟨a3,a4,X2⟩,⟨a5,a6,a7,a8⟩,⟨a9,b1,b2⟩,X3,X4,b3,b4⟩,⟨(A1,c1),(A2,c2),(A3,c3),(A4,c4)⟩,rfl,
  ⟨trivial,trivial,r1,trivial,trivial,r2,trivial,trivial,trivial,trivial,trivial,trivial,trivial,r3,r4,trivial,trivial,trivial⟩,p2,m3⟩
theorem open_inps {G : Fz} {ds : List DV} {cs : List Value} (h : Sh.hasL [.sl 10 shInp] ds) (hr : rdL G ds cs) : ∃ (l : List Inp) (A : Option Addr) (c : Nat), cs = [.slice A (flD Inp.e l).length c] ∧ SV.wf ⟨G, 0⟩ (.fz A c 10 (flD Inp.e l)) ∧ l.length ≤ maxLen := by
 obtain ⟨e,l_102,rfl,m,k,h_101⟩:=inv_sl h
 obtain rfl:=Sh.hasL_inv0 h_101
 obtain ⟨X,rfl⟩:=sh_inps k
 obtain ⟨A,c,l_104,rfl,r,hr_103⟩:=rd_fz hr
 obtain rfl:=rd_nil hr_103
 rw [flD_len] at m
 exact ⟨X,A,c,rfl,r,m⟩
end Go.Proofs.YtkflmidichikjaaGreatDoor.V
end
section
namespace Go.Proofs.YtkflmidichikjaaGreatDoor.V
open Go.RowKit
set_option maxRecDepth 100000
set_option maxHeartbeats 16000000
open Heading BoxP Drive PlanP Known Contr Loc Jou Atl RobotP Mon Mot Sys
namespace Sys
structure okS (S : SS) : Prop where
 (h1 : S.rob.p.cells.length≤1000000000) (h2 : S.marks.length≤32) (h3 : S.marks.any wrongM=false) (h4 : 0≤S.rob.n∧S.rob.n≤1000000) (h5 : 0≤S.rob.bumps∧S.rob.bumps≤1000000)
 (h6 : S.ft.set.length≤1000000000) (h7 : S.ft.p.cells.length≤1000000000) (h8 : 0≤S.mon.age∧S.mon.age≤1073741824) (h9 : S.je.length≤1000000)
 (h10 : 1≤S.every) (h11 : 0≤S.ticks∧S.ticks≤1000000) (h12 : 0≤S.scans) (h13 : lkM S.sc S.scans=none) (h14 : lkM S.pl S.scans=none) (h15 : lastE S.je < S.rob.n + 1)
end Sys
theorem gate_ok {m : Mon.St} {c : Command} {s : Bool} : vCmd (gate m c s) = true := by
 unfold gate
 split
 ·rename_i h
  exact h.2.2
 ·exact vCmd_iff.2 (by decide)
theorem tick_no1 {g : Gh} {S : SS} {t f : Int} {au sp rs : Bool} {a b c d : Int} {A : Option Addr} {k : Nat} {E : List Int} (h : vCmd ⟨t, f⟩ = false) :
 CMe 13 Unit true (fun _=>[.p 3 0,.a [I t,I f,B au,B sp,B rs,I a,I b,I c,I d,.fz A k 1 (fl ie E)]]) (fun _=>sysO g S) (fun _=>S.jb.length≤1000000000) Unit (fun _ _=>.t [.a [I 0,I 0,I 0,I 0,I 0,I 0,B false,nilS,I 0,B false,I 0],I 1]) (fun _ _=>sysO g S):=⟨fun _ p1=>by
 dsimp only [sysO] at *
 have h':=cmd_no h
 refine CM.of Tryz.func13 rfl tabOk rfl rfl rfl rfl (by simp [SV.nms,SV.nm]) fun w_ M_ π_ G0_=>?_
 refine roA (a1 ?_)
 all_goals intros
 refine Fin_ja () ?_
 conv=>whnf
 exact ⟨rfl,rfl,rfl⟩⟩
end Go.Proofs.YtkflmidichikjaaGreatDoor.V
end
section
namespace Go.Proofs.YtkflmidichikjaaGreatDoor.V
open Go.RowKit
set_option maxRecDepth 100000
open Heading BoxP Drive PlanP FloorP RayP RobotP Contr
theorem mapE_mem {α β : Type} {f : Nat → α → β × Int} {y : β} : ∀ {M : List α} {s : Nat}, y ∈ (mapE f M s).1 → ∃ i x, x ∈ M ∧ y = (f i x).1 ∧ (f i x).2 = 0
 | [],_,h=>by simp [mapE] at h
 | x :: r,s,h=>by
   unfold mapE at h
   split at h
   ·simp at h
   ·rename_i h0
    split at h
    ·simp at h
    ·rcases List.mem_cons.1 h with rfl|h
     ·exact ⟨s,x,by simp,rfl,by simpa using h0⟩
     ·obtain ⟨i,x',h1,h2⟩:=mapE_mem h
      exact ⟨i,x',by simp [h1],h2⟩
theorem mapE_len' {α β : Type} {f : Nat → α → β × Int} : ∀ (M : List α) (s : Nat), (mapE f M s).1.length ≤ M.length
 | [],_=>by simp [mapE]
 | x :: r,s=>by
   have:=mapE_len' (f:=f) r (s + 1)
   unfold mapE
   split
   ·simp
   ·split
    ·simp
    ·simp only [List.length_cons];omega
theorem sweep_len32 {p : Plan} {a : Pose} {M E : List Int} {rng : Int} : (sweepR p a M rng E).1.length ≤ 32 := by
 unfold sweepR
 split
 ·simp
 ·have:=mapE_len' (f:=swpF p a rng E) M 0
  omega
theorem meas_ok {p : Plan} {a : Pose} {k rng err : Int} (h : (measR p a k rng err).2 = 0) : -1 ≤ (measR p a k rng err).1 ∧ (measR p a k rng err).1 ≤ 1024 := by
 unfold measR at h ⊢
 split at h
 ·cases h
 ·rename_i h1
  rw [if_neg h1]
  split at h
  ·cases h
  ·rename_i h2
   rw [if_neg h2]
   split
   ·simp
   ·split
    ·simp
    ·rename_i h3
     simp only
     omega
theorem scan_ok {R : Rob} {c : Command} {s : Slip} {M E : List Int} (hM : M.any wrongM = false) : vScan (scanR R c s M E) = true ∧ (scanR R c s M E).length ≤ 32 := by
 unfold scanR
 have hl:=sweep_len32 (p:=R.p) (a:=(stepD R.p R.at_ c (clip R.b s).1).1) (M:=M) (E:=E) (rng:=R.b.Range)
 refine ⟨vScan_iff.2 ⟨fun b hb=>?_,hl⟩,hl⟩
 unfold sweepR at hb
 split at hb
 ·cases hb
 ·obtain ⟨i,x,h1,h2,h3⟩:=mapE_mem hb
  have hx : wrongM x=false:=by
   have:=List.any_eq_false.1 hM x h1
   simpa using this
  unfold swpF at h2 h3
  simp only at h2 h3
  have:=meas_ok h3
  unfold wrongM at hx
  simp only [Bool.or_eq_false_iff,decide_eq_false_iff_not] at hx
  refine vBeam_iff.2 ?_
  rw [h2]
  simp only
  omega
end Go.Proofs.YtkflmidichikjaaGreatDoor.V
end
section
namespace Go.Proofs.YtkflmidichikjaaGreatDoor.V
open Go.RowKit
set_option maxRecDepth 100000
open Heading BoxP Drive PlanP Contr Jou Wire
theorem uint_lt : ∀ (f k : Nat) (n : Int), 0 ≤ n → n < 128 ^ (k + 1) → k ≤ f → (uintN f n).length ≤ k + 1
 | 0,k,n,_,_,_=>by simp [uintN]
 | f + 1,k,n,h0,h1,h2=>by
   unfold uintN
   split
   ·rename_i h3
    cases k with
    | zero=>omega
    | succ k =>
      have h4 : n / 128 < 128 ^ (k + 1):=by
       rw [Int.pow_succ] at h1
       omega
      have:=uint_lt f k (n / 128) (by omega) h4 (by omega)
      simp only [List.length_cons]
      omega
   ·simp
theorem uintB_lt {k : Nat} {n : Int} (h0 : 0 ≤ n) (h1 : n < 128 ^ (k + 1)) (h2 : k ≤ 9) : (uintB n).length ≤ k + 1 := by
 unfold uintB
 exact uint_lt 9 k n h0 h1 h2
theorem xor0 {a : Int} (h0 : 0 ≤ a) (h1 : a < 18446744073709551616) : bits .xor .u64 a 0 = a := by
 have h : (BitVec.ofInt 64 a ^^^ BitVec.ofInt 64 0).toNat=a.toNat:=by
  simp [BitVec.toNat_ofInt]
  omega
 show IntKind.u64.wrap ((BitVec.ofInt 64 a ^^^ BitVec.ofInt 64 0).toNat : Nat)=a
 rw [h]
 unfold IntKind.wrap
 simp [IntKind.bits,IntKind.signed]
 omega
theorem intB_pos {n : Int} {k : Nat} (h0 : 0 ≤ n) (h1 : n * 2 < 128 ^ (k + 1)) (h2 : k ≤ 8) : (intB n).length ≤ k + 1 := by
 have hk : (128 : Int) ^ (k + 1)≤128 ^ 9:=by
  have : (128 : Nat) ^ (k + 1)≤128 ^ 9:=Nat.pow_le_pow_right (by decide) (by omega)
  exact_mod_cast this
 have h9 : (128 : Int) ^ 9=9223372036854775808:=rfl
 have hn : n * 2 < 9223372036854775808:=by omega
 unfold intB
 rw [show n / 9223372036854775808 % 18446744073709551616=0 by omega,show n % 18446744073709551616 * 2 % 18446744073709551616=n * 2 by omega,xor0 (by omega) (by omega)]
 exact uintB_lt (by omega) h1 (by omega)
theorem intB_small {u : Int} (h : -32 ≤ u ∧ u ≤ 32) : (intB u).length = 1 := by
 have all : ∀ i : _root_.Fin 65,(intB ((i.val : Int) - 32)).length=1:=by decide +kernel
 have:=all ⟨(u + 32).toNat,by omega⟩
 simp only at this
 rwa [show (((u + 32).toNat : Nat) : Int) - 32=u by omega] at this
theorem beamB_len {b : Beam} (h : vBeam b = true) : (beamB b).length ≤ 4 := by
 obtain ⟨h1,h2⟩:=vBeam_iff.1 h
 have e1:=uintB_lt (k:=1) (n:=b.Mark) (by omega) (by have : (128 : Int) ^ (1 + 1)=16384:=rfl;omega) (by omega)
 have e2:=uintB_lt (k:=1) (n:=b.Reading + 1) (by omega) (by have : (128 : Int) ^ (1 + 1)=16384:=rfl;omega) (by omega)
 simp only [beamB,List.length_append]
 omega
theorem beamsB_len : ∀ {s : List Beam}, (∀ b ∈ s, vBeam b = true) → (s.flatMap beamB).length ≤ 4 * s.length
 | [],_=>by simp
 | b :: r,h=>by
   have h1:=beamB_len (h b (by simp))
   have h2:=beamsB_len (s:=r) fun x hx=>h x (by simp [hx])
   simp only [List.flatMap_cons,List.length_append,List.length_cons]
   omega
theorem encB_256 {t u f : Int} {b : Bool} {s : List Beam} (ht : 0 ≤ t ∧ t ≤ 1000000000) (hc : vCmd ⟨u, f⟩ = true) (hs : Contr.vScan s = true) : (encB t u f b s).length ≤ 137 := by
 obtain ⟨h1,h2⟩:=vScan_iff.1 hs
 obtain ⟨h3,h4⟩:=vCmd_iff.1 hc
 simp only at h3 h4
 have e1:=intB_pos (k:=4) (n:=t) ht.1 (by have : (128 : Int) ^ (4 + 1)=34359738368:=rfl;omega) (by omega)
 have e2:=intB_small h3
 have e3:=intB_small (u:=f) ⟨by omega,h4.2⟩
 have e4:=uintB_lt (k:=0) (n:=(s.length : Int)) (by omega) (by have : (128 : Int) ^ (0 + 1)=128:=rfl;omega) (by omega)
 have e5:=beamsB_len h1
 unfold encB
 simp only [List.length_append,List.length_cons,List.length_nil]
 omega
theorem frm_256 {t u f : Int} {b : Bool} {s : List Beam} (ht : 0 ≤ t ∧ t ≤ 1000000000) (hc : vCmd ⟨u, f⟩ = true) (hs : Contr.vScan s = true) : (frmJ t u f b s).length ≤ 256 := by
 have h1:=encB_256 (b:=b) ht hc hs
 have h2:=frameB_len (k:=1) (X:=encB t u f b s)
 unfold frmJ
 omega
end Go.Proofs.YtkflmidichikjaaGreatDoor.V
end
section
namespace Go.Proofs.YtkflmidichikjaaGreatDoor.V
open Go.RowKit
set_option maxRecDepth 100000
set_option maxHeartbeats 16000000
open Heading BoxP Drive PlanP Known Contr Loc Jou Atl RobotP Mon Mot Sys
namespace Sys
def cmd0 (S : SS) (i : Inp) : Command := gate (monT S i) i.want false
def cmd1 (S : SS) (i : Inp) : Command := gate (monT S i) i.want (safeP S.ft.p S.ft.set i.want S.bd).1
end Sys
theorem cmd_l {S : SS} {i : Inp} (h : S.ft.lost = true) : cmdT S i = cmd0 S i := by unfold cmdT cmd0 safeT; rw [if_pos h]
theorem cmd_n {S : SS} {i : Inp} (h : S.ft.lost = false) : cmdT S i = cmd1 S i := by unfold cmdT cmd1 safeT; rw [if_neg (by simp [h])]
abbrev Sys.Inp.s (i : Inp) (A : Option Addr) (k : Nat) : SV := .a [I i.want.Turn, I i.want.Forward, B i.auto, B i.stop, B i.reset, I i.slip.Turn, I i.slip.Length, I i.slip.X, I i.slip.Y, .fz A k 1 (fl ie i.errs)]
abbrev TickC (g : Gh) (S : SS) (i : Inp) (A : Option Addr) (k : Nat) (cm : Command) (o : Bool) : Prop := okS S ∧ i.errs.length ≤ 1000000000 → CM Tryz.prog 13 true [.p 3 0, i.s A k] (sysO g S)
 (fun q : Gh × Option Addr × Nat=>.t [(repG S i (monT S i) cm o).s q.2,I 0]) (fun q=>sysN q.1 (tickG S i (monT S i) cm o))
theorem see_len {F : Filt} {s : List Beam} (h : F.set.length ≤ 1000000000) : (seeP F s).1.set.length ≤ 1000000000 := by
 unfold seeP
 split
 ·exact h
 ·split
  ·exact h
  ·split
   ·exact h
   ·split
    ·simp only
     unfold compL
     have l1:=refineR_len (p:=F.p) (S:=F.set) (s:=s) (rng:=F.b.Range)
     have l3:=compact_n (X:=(Contr.refineR F.p F.set s F.b.Range 32).1) (most:=16)
     rw [List.length_take]
     omega
    ·exact h
theorem follow_len {F : Filt} {c : Command} {b : Bool} {s : List Beam} {o : Bool} (h : F.set.length ≤ 1000000000) : (followF F c b s o).set.length ≤ 1000000000 := by
 unfold followF
 have m1:=move_len (F:=F) (c:=c) (b:=b)
 split
 ·exact h
 ·split
  ·exact see_len (by omega)
  ·omega
theorem scan_c {g : Gh} {S : SS} {t : Int} (v : Bool) (h : scanS S.every t = v) (h0 : 0 ≤ t) (h1 : 1 ≤ S.every) : CMe 52 Unit true (fun _ => [.p 3 0, I t]) (fun _ => sysO g S) (fun _ => True) Unit (fun _ _ => B v) (fun _ _ => sysO g S) :=
 ⟨fun _ _=>by
  subst h
  exact CMe.out (f:=52) (g,S,t) ⟨h0,h1⟩⟩
theorem rusA {G L : Prop} (h1 : L) (h : Hold L → G := by intro hl; ((conv=>whnf);repeat' (first|with_reducible exact trivial|with_reducible exact Unit.unit|((fail_if_success (with_reducible show CallX _ 52 _ _ _));(fail_if_success (with_reducible show CallX _ 53 _ _ _));(fail_if_success (with_reducible show CallX _ 57 _ _ _));(fail_if_success (with_reducible show CallX _ 58 _ _ _));(fail_if_success (with_reducible show CallX _ 55 _ _ _));(fail_if_success (with_reducible show CallX _ 56 _ _ _));(fail_if_success (with_reducible show CallX _ 59 _ _ _));(first|((with_reducible show CallX _ _ _ _ _);first|refine CallX_i ?_ zSi|(refine AR_has ?_;(first|(refine AR_chk 1 ?_;apply CallX_me (_);(conv=>whnf);refine ⟨⟨rfl,rfl⟩,zSi,by kernel_rfl,fun hb => ?_⟩)|(refine AR_chk 2 ?_;apply CallX_me (_, _);(conv=>whnf);refine ⟨⟨rfl,rfl⟩,zSi,by kernel_rfl,fun hb => ?_⟩)|(refine AR_chk 3 ?_;apply CallX_me (_, _, _);(conv=>whnf);refine ⟨⟨rfl,rfl⟩,zSi,by kernel_rfl,fun hb => ?_⟩)|(refine AR_chk 4 ?_;apply CallX_me (_, _, _, _);(conv=>whnf);refine ⟨⟨rfl,rfl⟩,zSi,by kernel_rfl,fun hb => ?_⟩)|(refine AR_chk 5 ?_;apply CallX_me (_, _, _, _, _);(conv=>whnf);refine ⟨⟨rfl,rfl⟩,zSi,by kernel_rfl,fun hb => ?_⟩)|(refine AR_chk 6 ?_;apply CallX_me (_, _, _, _, _, _);(conv=>whnf);refine ⟨⟨rfl,rfl⟩,zSi,by kernel_rfl,fun hb => ?_⟩)|(refine AR_chk 7 ?_;apply CallX_me (_, _, _, _, _, _, _);(conv=>whnf);refine ⟨⟨rfl,rfl⟩,zSi,by kernel_rfl,fun hb => ?_⟩)|(refine AR_chk 8 ?_;apply CallX_me (_, _, _, _, _, _, _, _);(conv=>whnf);refine ⟨⟨rfl,rfl⟩,zSi,by kernel_rfl,fun hb => ?_⟩)|(refine AR_chk 9 ?_;apply CallX_me (_, _, _, _, _, _, _, _, _);(conv=>whnf);refine ⟨⟨rfl,rfl⟩,zSi,by kernel_rfl,fun hb => ?_⟩)|(refine AR_chk 10 ?_;apply CallX_me (_, _, _, _, _, _, _, _, _, _);(conv=>whnf);refine ⟨⟨rfl,rfl⟩,zSi,by kernel_rfl,fun hb => ?_⟩)|(refine AR_chk 11 ?_;apply CallX_me (_, _, _, _, _, _, _, _, _, _, _);(conv=>whnf);refine ⟨⟨rfl,rfl⟩,zSi,by kernel_rfl,fun hb => ?_⟩)|(refine AR_chk 12 ?_;apply CallX_me (_, _, _, _, _, _, _, _, _, _, _, _);(conv=>whnf);refine ⟨⟨rfl,rfl⟩,zSi,by kernel_rfl,fun hb => ?_⟩)|(refine AR_chk 13 ?_;apply CallX_me (_, _, _, _, _, _, _, _, _, _, _, _, _);(conv=>whnf);refine ⟨⟨rfl,rfl⟩,zSi,by kernel_rfl,fun hb => ?_⟩)|(refine AR_chk 14 ?_;apply CallX_me (_, _, _, _, _, _, _, _, _, _, _, _, _, _);(conv=>whnf);refine ⟨⟨rfl,rfl⟩,zSi,by kernel_rfl,fun hb => ?_⟩)|(refine AR_chk 15 ?_;apply CallX_me (_, _, _, _, _, _, _, _, _, _, _, _, _, _, _);(conv=>whnf);refine ⟨⟨rfl,rfl⟩,zSi,by kernel_rfl,fun hb => ?_⟩)|(refine AR_chk 16 ?_;apply CallX_me (_, _, _, _, _, _, _, _, _, _, _, _, _, _, _, _);(conv=>whnf);refine ⟨⟨rfl,rfl⟩,zSi,by kernel_rfl,fun hb => ?_⟩))))|(first |(with_reducible show xwr64 _ _);refine xwr_a ?_ |(with_reducible show CallX _ _ _ _ _);(first|refine CallX_i ?_ zSi|(refine AQ_has ?_;(first|(refine AQ_chk 1 ?_;apply CallX_mp (_);(conv=>whnf);refine ⟨⟨rfl,rfl⟩,zSi,by kernel_rfl,?_⟩)|(refine AQ_chk 2 ?_;apply CallX_mp (_, _);(conv=>whnf);refine ⟨⟨rfl,rfl⟩,zSi,by kernel_rfl,?_⟩)|(refine AQ_chk 3 ?_;apply CallX_mp (_, _, _);(conv=>whnf);refine ⟨⟨rfl,rfl⟩,zSi,by kernel_rfl,?_⟩)|(refine AQ_chk 4 ?_;apply CallX_mp (_, _, _, _);(conv=>whnf);refine ⟨⟨rfl,rfl⟩,zSi,by kernel_rfl,?_⟩)|(refine AQ_chk 5 ?_;apply CallX_mp (_, _, _, _, _);(conv=>whnf);refine ⟨⟨rfl,rfl⟩,zSi,by kernel_rfl,?_⟩)|(refine AQ_chk 6 ?_;apply CallX_mp (_, _, _, _, _, _);(conv=>whnf);refine ⟨⟨rfl,rfl⟩,zSi,by kernel_rfl,?_⟩)|(refine AQ_chk 7 ?_;apply CallX_mp (_, _, _, _, _, _, _);(conv=>whnf);refine ⟨⟨rfl,rfl⟩,zSi,by kernel_rfl,?_⟩)|(refine AQ_chk 8 ?_;apply CallX_mp (_, _, _, _, _, _, _, _);(conv=>whnf);refine ⟨⟨rfl,rfl⟩,zSi,by kernel_rfl,?_⟩)|(refine AQ_chk 9 ?_;apply CallX_mp (_, _, _, _, _, _, _, _, _);(conv=>whnf);refine ⟨⟨rfl,rfl⟩,zSi,by kernel_rfl,?_⟩)|(refine AQ_chk 10 ?_;apply CallX_mp (_, _, _, _, _, _, _, _, _, _);(conv=>whnf);refine ⟨⟨rfl,rfl⟩,zSi,by kernel_rfl,?_⟩)|(refine AQ_chk 11 ?_;apply CallX_mp (_, _, _, _, _, _, _, _, _, _, _);(conv=>whnf);refine ⟨⟨rfl,rfl⟩,zSi,by kernel_rfl,?_⟩)|(refine AQ_chk 12 ?_;apply CallX_mp (_, _, _, _, _, _, _, _, _, _, _, _);(conv=>whnf);refine ⟨⟨rfl,rfl⟩,zSi,by kernel_rfl,?_⟩)))|(refine CallX_v fun φ => ?_;(conv=>whnf);(repeat ((with_reducible show ViewE _ _ _ _);(first|refine view_w zLn ?_|refine view_pf zSd ?_|refine view_p zSd ?_);(conv=>whnf)));(with_reducible show CallB _ _ _ _ _);refine CallB_i ?_ zSi)) |(with_reducible show CallB _ _ _ _ _);(with_reducible show CallB _ _ _ _ _);refine CallB_i ?_ zSi |(with_reducible show ValX _ _ _ _ _);(first|refine ValX_idxF tabOk rfl rfl zSd zSd ?_|refine ValX_idxS tabOk rfl rfl rfl zLn zSd zSd zSd ?_|refine ValX_loadF tabOk rfl rfl rfl rfl rfl zSd ?_|refine ValX_loadQ tabOk rfl rfl rfl rfl rfl rfl ?_|refine ValX_sl1 tabOk rfl rfl rfl zLn zSd zSd ?_|refine ValX_slLo tabOk rfl rfl rfl zLn zSd zSd zSd ?_|refine ValX_slHi tabOk rfl rfl rfl zLn zSd zSd zSd ?_|refine ValX_max3 rfl ?_|refine ValX_cpl rfl ?_|refine ValX_fzNil tabOk rfl rfl rfl (fun hb=>?_) ?_|refine ValX_bldA rfl rfl ?_ (fun w => by kernel_rfl)|refine ValX_bldB rfl rfl ?_ (fun w => by kernel_rfl)|refine ValX_ixA1 rfl rfl rfl rfl ?_ (fun w => by kernel_rfl)|refine ValX_ixA2 rfl rfl rfl rfl ?_ (fun w => by kernel_rfl)) |(with_reducible show OpX _ _ _ _ _);(first|refine OpX_storeF tabOk rfl rfl rfl (by rfl) (by rfl) zSd ?_|refine OpX_appF tabOk rfl rfl zLn rfl rfl zSe rfl zSd zSd ?_|refine OpX_appP tabOk rfl rfl rfl rfl zSe rfl zSd zSd zSd zSd ?_|refine OpX_build_a tabOk rfl rfl rfl ?_ (by rfl)|refine OpX_make_a tabOk rfl rfl rfl ?_ (by rfl) (by rfl) zSd zSd zSd|refine OpX_build0_a tabOk rfl rfl rfl ?_|refine OpX_nil_a rfl rfl ?_) |(with_reducible show DrawX _ _ _ _ _);refine DrawX_s tabOk folOk ?_ |(with_reducible show DrawS _ _ _ _ _ _ _);refine DrawS_i (by kernel_rfl) ?_ |(with_reducible show ViewE _ _ _ _);(first|refine view_w zLn ?_|refine view_pf zSd ?_|refine view_p zSd ?_) |(with_reducible show xquo64 _ _ _);(first|refine xquo_a ?_|refine xquo_b ?_) |(with_reducible show xrem64 _ _ _);(first|refine xrem_a ?_|refine xrem_b ?_) |(with_reducible show xshr _ _ _ _);(first|refine xshr_1 ?_|refine xshr_32 ?_|refine xshr_6 ?_|refine xshr_7 ?_|refine xshr_8 ?_|refine xshr_63 ?_) |(with_reducible show xshl _ _ _ _);(first|refine xshl_1u ?_|refine xshl_0u ?_|refine xshl_7u ?_) |(with_reducible show andX _ _);refine andX_i ?_ ?_ |(with_reducible show need _ _);refine need_i zSd ?_ |(with_reducible show xwru _ _ _);(first|refine xwru_64 (by omega) (by omega) ?_|refine xwru_32 (by omega) (by omega) ?_|refine xwru_32m ?_) |(with_reducible show xquou _ _ _ _);refine xquou_nn (by omega) (by omega) (by omega) ?_ |(with_reducible show xremu _ _ _);refine xremu_nn (by omega) (by omega) ?_ |(with_reducible show xcv _ _ _);(first|refine xcv_i64 (by omega) (by omega) ?_|refine xcv_u8 (by omega) (by omega) ?_|refine xcv_u32 (by omega) (by omega) ?_|refine xcv_u64 (by omega) (by omega) ?_|refine xcv_u8m ?_|refine xcv_u32m ?_|refine xcv_u64m ?_))|(first |(with_reducible show OpX _ _ _ _ _);(first|refine OpX_clearF tabOk rfl rfl rfl rfl rfl rfl zSd ?_|refine OpX_buildD tabOk rfl rfl rfl rfl (by rfl) ?_|refine OpX_appD tabOk rfl rfl zLd rfl rfl zSf rfl zSd zSd ?_|refine OpX_appZ tabOk rfl rfl rfl rfl (by rfl) zSd zSd zSd ?_) |(with_reducible show ValX _ _ _ _ _);(first|refine ValX_idxD tabOk rfl rfl zSd zSd ?_|refine ValX_loadA tabOk rfl rfl (by rfl) (by rfl) ?_|refine ValX_loadZD tabOk rfl rfl rfl (by rfl) (by rfl) zSd ?_|refine ValX_idxS tabOk rfl rfl rfl (flD_len _ _) zSd zSd zSd ?_|refine ValX_cap0 tabOk rfl rfl ?_|refine ValX_slNil tabOk rfl rfl ?_|refine ValX_fld rfl rfl rfl (fun σ w => by kernel_rfl) ?_|refine ValX_idxL tabOk rfl rfl (by decide) (by simp;done) rfl ?_) |(with_reducible show CallX _ _ _ _ _);(first|(apply CallX_me (.unit);(conv=>whnf);refine ⟨⟨rfl,rfl⟩,zSi,by kernel_rfl,fun hb => ?_⟩)|(refine AQ_has ?_;(first|(refine AQ_chk 1 ?_;apply CallX_mv (_);intro φ;(conv=>whnf);refine ⟨rfl,?_⟩;(repeat ((with_reducible show ViewE _ _ _ _);(first|refine view_w zLn ?_|refine view_pf zSd ?_|refine view_p zSd ?_);(conv=>whnf)));refine ⟨rfl,zSi,by kernel_rfl,?_⟩)|(refine AQ_chk 2 ?_;apply CallX_mv (_, _);intro φ;(conv=>whnf);refine ⟨rfl,?_⟩;(repeat ((with_reducible show ViewE _ _ _ _);(first|refine view_w zLn ?_|refine view_pf zSd ?_|refine view_p zSd ?_);(conv=>whnf)));refine ⟨rfl,zSi,by kernel_rfl,?_⟩)|(refine AQ_chk 3 ?_;apply CallX_mv (_, _, _);intro φ;(conv=>whnf);refine ⟨rfl,?_⟩;(repeat ((with_reducible show ViewE _ _ _ _);(first|refine view_w zLn ?_|refine view_pf zSd ?_|refine view_p zSd ?_);(conv=>whnf)));refine ⟨rfl,zSi,by kernel_rfl,?_⟩)|(refine AQ_chk 4 ?_;apply CallX_mv (_, _, _, _);intro φ;(conv=>whnf);refine ⟨rfl,?_⟩;(repeat ((with_reducible show ViewE _ _ _ _);(first|refine view_w zLn ?_|refine view_pf zSd ?_|refine view_p zSd ?_);(conv=>whnf)));refine ⟨rfl,zSi,by kernel_rfl,?_⟩)|(refine AQ_chk 5 ?_;apply CallX_mv (_, _, _, _, _);intro φ;(conv=>whnf);refine ⟨rfl,?_⟩;(repeat ((with_reducible show ViewE _ _ _ _);(first|refine view_w zLn ?_|refine view_pf zSd ?_|refine view_p zSd ?_);(conv=>whnf)));refine ⟨rfl,zSi,by kernel_rfl,?_⟩)|(refine AQ_chk 6 ?_;apply CallX_mv (_, _, _, _, _, _);intro φ;(conv=>whnf);refine ⟨rfl,?_⟩;(repeat ((with_reducible show ViewE _ _ _ _);(first|refine view_w zLn ?_|refine view_pf zSd ?_|refine view_p zSd ?_);(conv=>whnf)));refine ⟨rfl,zSi,by kernel_rfl,?_⟩)|(refine AQ_chk 7 ?_;apply CallX_mv (_, _, _, _, _, _, _);intro φ;(conv=>whnf);refine ⟨rfl,?_⟩;(repeat ((with_reducible show ViewE _ _ _ _);(first|refine view_w zLn ?_|refine view_pf zSd ?_|refine view_p zSd ?_);(conv=>whnf)));refine ⟨rfl,zSi,by kernel_rfl,?_⟩)|(refine AQ_chk 8 ?_;apply CallX_mv (_, _, _, _, _, _, _, _);intro φ;(conv=>whnf);refine ⟨rfl,?_⟩;(repeat ((with_reducible show ViewE _ _ _ _);(first|refine view_w zLn ?_|refine view_pf zSd ?_|refine view_p zSd ?_);(conv=>whnf)));refine ⟨rfl,zSi,by kernel_rfl,?_⟩)|(refine AQ_chk 9 ?_;apply CallX_mv (_, _, _, _, _, _, _, _, _);intro φ;(conv=>whnf);refine ⟨rfl,?_⟩;(repeat ((with_reducible show ViewE _ _ _ _);(first|refine view_w zLn ?_|refine view_pf zSd ?_|refine view_p zSd ?_);(conv=>whnf)));refine ⟨rfl,zSi,by kernel_rfl,?_⟩)|(refine AQ_chk 10 ?_;apply CallX_mv (_, _, _, _, _, _, _, _, _, _);intro φ;(conv=>whnf);refine ⟨rfl,?_⟩;(repeat ((with_reducible show ViewE _ _ _ _);(first|refine view_w zLn ?_|refine view_pf zSd ?_|refine view_p zSd ?_);(conv=>whnf)));refine ⟨rfl,zSi,by kernel_rfl,?_⟩)|(refine AQ_chk 11 ?_;apply CallX_mv (_, _, _, _, _, _, _, _, _, _, _);intro φ;(conv=>whnf);refine ⟨rfl,?_⟩;(repeat ((with_reducible show ViewE _ _ _ _);(first|refine view_w zLn ?_|refine view_pf zSd ?_|refine view_p zSd ?_);(conv=>whnf)));refine ⟨rfl,zSi,by kernel_rfl,?_⟩)|(refine AQ_chk 12 ?_;apply CallX_mv (_, _, _, _, _, _, _, _, _, _, _, _);intro φ;(conv=>whnf);refine ⟨rfl,?_⟩;(repeat ((with_reducible show ViewE _ _ _ _);(first|refine view_w zLn ?_|refine view_pf zSd ?_|refine view_p zSd ?_);(conv=>whnf)));refine ⟨rfl,zSi,by kernel_rfl,?_⟩)))|(refine CallX_w fun φ => ?_;(conv=>whnf);(repeat ((with_reducible show ViewE _ _ _ _);(first|refine view_w zLn ?_|refine view_pf zSd ?_|refine view_p zSd ?_);(conv=>whnf)));(with_reducible show CallR _ _ _ _ _);refine CallR_i ?_ zSi)|(refine CallX_v fun φ => ?_;(conv=>whnf);(repeat ((with_reducible show ViewE _ _ _ _);(first|refine view_w zLn ?_|refine view_pf zSd ?_|refine view_p zSd ?_);(conv=>whnf)));(with_reducible show CallB _ _ _ _ _);refine CallB_di ?_ zSi)) |(with_reducible show CallB _ _ _ _ _);refine CallB_di ?_ zSi))<;>conv=>whnf)|((with_reducible show ∀ (_ : Nat → Option Addr × Nat), _);intro hb;conv=>whnf)|((with_reducible show _=_);rfl)|((with_reducible refine xif_s ?_ ?_)<;>(intro hb;((try simp (disch:=omega) only [hbS,fl_len] at hb);(try have hb:=bnd hb))<;>first|(exfalso;omega)|(exact (cfl hb (by with_reducible assumption)).elim)|(exact (cfl (by with_reducible assumption) hb).elim)|conv=>whnf))));all_goals ((repeat revert hb);first|with_reducible exact hl.out.1|with_reducible exact hl.out.2.1|with_reducible exact hl.out.2.2.1|with_reducible exact hl.out.2.2.2.1|with_reducible exact hl.out.2.2.2.2.1|with_reducible exact hl.out.2.2.2.2.2.1|with_reducible exact hl.out.2.2.2.2.2.2.1|with_reducible exact hl.out.2.2.2.2.2.2.2.1|with_reducible exact hl.out.2.2.2.2.2.2.2.2.1|with_reducible exact hl.out.2.2.2.2.2.2.2.2.2.1|with_reducible exact hl.out.2.2.2.2.2.2.2.2.2.2.1|with_reducible exact hl.out.2.2.2.2.2.2.2.2.2.2.2.1)) : G := h ⟨h1⟩
end Go.Proofs.YtkflmidichikjaaGreatDoor.V
end
section
namespace Go.Proofs.YtkflmidichikjaaGreatDoor.V
open Go.RowKit
set_option maxRecDepth 100000
open Heading BoxP Drive PlanP Known Contr Loc Sys
namespace Grow
def goodC (X : List Int) : Prop := ∀ i, i < X.length → 0 ≤ gt X i ∧ gt X i ≤ 2
theorem maxN_le {X : List Int} {m : Int} : ∀ n, maxN X n ≤ m ↔ ∀ i, i ≤ n → gt X i ≤ m
 | 0=>by
   show gt X 0≤m↔_
   refine ⟨fun h i hi=>?_,fun h=>h 0 (Nat.le_refl _)⟩
   obtain rfl : i=0:=by omega
   exact h
 | n + 1=>by
   show max (maxN X n) (gt X (n + 1))≤m↔_
   rw [Int.max_le,maxN_le n]
   constructor
   ·rintro ⟨h1,h2⟩ i hi
    by_cases h : i=n + 1
    ·rw [h];exact h2
    ·exact h1 i (by omega)
   ·exact fun h=>⟨fun i hi=>h i (by omega),h _ (Nat.le_refl _)⟩
theorem good_of {p : Plan} (h : vPlan p = true) (h0 : ∀ x ∈ p.cells, 0 ≤ x) : goodC p.cells := by
 intro i hi
 refine ⟨h0 _ (gt_mem hi),?_⟩
 obtain ⟨_,_,_,h4⟩:=vPlan_iff.1 h
 exact (maxN_le _).1 h4 i (by omega)
theorem good_vPlan {p : Plan} {q : List Int} (h : vPlan p = true) (hl : q.length = p.cells.length) (hg : goodC q) : vPlan ⟨p.W, p.H, q⟩ = true := by
 obtain ⟨h1,h2,h3,h4⟩:=vPlan_iff.1 h
 refine vPlan_iff.2 ⟨h1,h2,by simp only [hl];exact h3,?_⟩
 have hb:=wh_bnd h1 h2
 refine (maxN_le _).2 fun i hi=>(hg i ?_).2
 simp only at hi
 omega
def Ext (X Y : List Int) : Prop := Y.length = X.length ∧ goodC Y ∧ ∀ i, i < X.length → gt X i ≠ 0 → gt Y i = gt X i
theorem Ext.refl {X : List Int} (h : goodC X) : Ext X X := ⟨rfl, h, fun _ _ _ => rfl⟩
theorem Ext.trans {X Y Z : List Int} (h : Ext X Y) (h' : Ext Y Z) : Ext X Z := by
 obtain ⟨h1,h2,h3⟩:=h
 obtain ⟨k1,k2,k3⟩:=h'
 refine ⟨k1.trans h1,k2,fun i hi h0=>?_⟩
 rw [k3 i (by omega) (by rw [h3 i hi h0];exact h0),h3 i hi h0]
theorem gt_set' {X : List Int} {i j : Nat} {v : Int} : gt (X.set i v) j = if i = j ∧ j < X.length then v else gt X j := by
 simp only [gt,List.getD_eq_getElem?_getD,List.getElem?_set]
 by_cases h : i=j
 ·subst h
  by_cases h2 : i < X.length
  ·simp [h2]
  ·simp [h2]
 ·simp [h]
theorem Ext.set {X : List Int} (hg : goodC X) {i : Nat} {v : Int} (hv : v = 1 ∨ v = 2) (h : i < X.length → gt X i = 0 ∨ gt X i = v) : Ext X (X.set i v) := by
 refine ⟨by simp,fun j hj=>?_,fun j hj h0=>?_⟩
 ·rw [List.length_set] at hj
  rw [gt_set']
  split
  ·omega
  ·exact hg j hj
 ·rw [gt_set']
  split
  ·rename_i e
   obtain ⟨rfl,_⟩:=e
   rcases h hj with h|h
   ·exact (h0 h).elim
   ·exact h.symm
  ·rfl
theorem free_ext {p : Plan} : ∀ {L : List Cell} {q q' : List Int}, freeL p L q = some q' → goodC q → Ext q q'
 | [],q,q',h,hg=>by
   unfold freeL at h
   cases h
   exact .refl hg
 | c :: r,q,q',h,hg=>by
   unfold freeL at h
   split at h
   ·cases h
   ·rename_i h2
    have h1 : Ext q (q.set (idxC p c) 1):=.set hg (.inl rfl) fun hi=>by
     have:=hg _ hi
     omega
    exact h1.trans (free_ext h h1.2.1)
theorem wall_ext {p : Plan} {S : List Box} {rng : Int} (hv : vPlan p = true) : ∀ {s : List Beam} {q q' : List Int}, wallL p S rng s q = some q' → q.length = p.cells.length → goodC q → Ext q q'
 | [],q,q',h,hl,hg=>by
   unfold wallL at h
   cases h
   exact .refl hg
 | b :: r,q,q',h,hl,hg=>by
   unfold wallL at h
   split at h
   ·exact wall_ext hv h hl hg
   ·split at h
    ·cases h
    ·rename_i c l hf
     have hc : c∈(suspectsK S b rng).filter fun c=>!(at_ ⟨p.W,p.H,q⟩ c == 1):=by rw [hf];simp
     have hc2:=(List.mem_filter.1 hc).2
     split at h
     ·rename_i hin
      have h1 : Ext q (q.set (idxC p c) 2):=.set hg (.inr rfl) fun hi=>by
       have h3:=hg _ hi
       have hvq:=good_vPlan hv hl hg
       obtain ⟨-,e1,e2⟩:=hin
       rw [between_iff] at e1 e2
       unfold at_ at hc2
       rw [if_pos hvq,if_pos (by unfold insideP;simp only [Bool.and_eq_true,decide_eq_true_eq];omega)] at hc2
       have hc3 : gt q (idxC p c) ≠ 1:=by
        intro h
        unfold idxC at h
        simp only [h] at hc2
        cases hc2
       omega
      exact h1.trans (wall_ext hv h (by rw [h1.1,hl]) h1.2.1)
     ·exact wall_ext hv h hl hg
theorem learn_ext {p : Plan} {S : List Box} {s : List Beam} {rng : Int} (hv : vPlan p = true) (hg : goodC p.cells) (h0 : (learnK p S s rng).2 = 0) : (learnK p S s rng).1.W = p.W ∧ (learnK p S s rng).1.H = p.H ∧ Ext p.cells (learnK p S s rng).1.cells := by
 unfold learnK at h0 ⊢
 by_cases h1 : rightK p S s rng=true
 ·simp only [h1,if_true] at h0 ⊢
  by_cases h2 : taughtK S=true
  ·simp only [h2,if_true] at h0 ⊢
   cases h3 : freeL p (allK p S s rng) p.cells with
   | none=>simp [h3] at h0
   | some q =>
     simp only [h3] at h0 ⊢
     have h4:=free_ext h3 hg
     cases h5 : wallL p S rng s q with
     | none=>simp [h5] at h0
     | some q2=>refine ⟨?_,?_,h4.trans (wall_ext hv h5 h4.1 h4.2.1)⟩<;>first|trivial|rfl
  ·simp only [h2,if_false,Bool.false_eq_true] at h0 ⊢
   refine ⟨?_,?_,.refl hg⟩<;>first|trivial|rfl
 ·simp [h1] at h0
def Below (a b : Plan) : Prop := b.W = a.W ∧ b.H = a.H ∧ Ext a.cells b.cells
theorem Below.refl {a : Plan} (h : goodC a.cells) : Below a a := ⟨rfl, rfl, .refl h⟩
theorem Below.trans {a b c : Plan} (h : Below a b) (h' : Below b c) : Below a c := ⟨h'.1.trans h.1, h'.2.1.trans h.2.1, h.2.2.trans h'.2.2⟩
theorem Below.v {a b : Plan} (h : Below a b) (hv : vPlan a = true) : vPlan b = true := by
 obtain ⟨w,h',X⟩:=b
 obtain ⟨rfl,rfl,h3⟩:=h
 exact good_vPlan hv h3.1 h3.2.1
theorem move_p {F : Filt} {c : Command} {b : Bool} : (moveP F c b).1.p = F.p := by
 unfold moveP
 split
 ·rfl
 ·split
  ·rfl
  ·split<;>rfl
theorem see_below {F : Filt} {s : List Beam} (hv : vPlan F.p = true) (hg : goodC F.p.cells) : Below F.p (seeP F s).1.p := by
 unfold seeP
 split
 ·exact .refl hg
 ·split
  ·exact .refl hg
  ·split
   ·exact .refl hg
   ·split
    ·rename_i h
     exact learn_ext hv hg h
    ·exact .refl hg
theorem follow_below {F : Filt} {c : Command} {b : Bool} {s : List Beam} {o : Bool} (hv : vPlan F.p = true) (hg : goodC F.p.cells) : Below F.p (followF F c b s o).p := by
 unfold followF
 split
 ·exact .refl hg
 ·split
  ·have:=see_below (F:=(moveP F c b).1) (s:=s) (by rw [move_p];exact hv) (by rw [move_p];exact hg)
   rwa [move_p] at this
  ·rw [move_p]
   exact .refl hg
end Grow
end Go.Proofs.YtkflmidichikjaaGreatDoor.V
end
