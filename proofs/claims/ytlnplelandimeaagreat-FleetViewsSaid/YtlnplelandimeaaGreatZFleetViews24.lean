import Derived.Test.YtlnplelandimeaaGreatZFleetViews17
set_option linter.all false
section
namespace Go.Proofs.YtlnplelandimeaaGreat.En
open Go.RowKit
set_option maxRecDepth 100000
theorem bBeam_x (b : az5) : PureX Tryz.prog 141 [.a [I b.1, I b.2]] (B (!aka b)) := by
 refine PureX.of Tryz.func141 rfl aza rfl rfl rfl (by simp [SV.wfs,SV.wf]) (by simp [SV.wfs,SV.wf]) fun w=>?_
 (conv=>whnf);repeat' (first|with_reducible exact rfl|((with_reducible refine aze (by assumption) ?_);conv=>whnf)|((with_reducible refine azd ?_ ?_)<;>(intro hb;(try simp (disch:=omega) only [hbS] at hb)<;>conv=>whnf)))
 all_goals refine azk rfl (B_eq ?_) trivial
 all_goals first
  | (simp [aka,hb];done)
  | (rw [Bool.eq_iff_iff];simp [aka];omega)
theorem cj5 (A : Option Addr) (c : Nat) (l : List az5) {n : Nat} (hl : l.length = n) (hn : n ≤ maxLen) :
 CallW Tryz.prog 119 [.v (.slice A n c)] (fun w=>ArgSl w A n 2 (l.map encB)) (B (aq9 l)):=by
 unfold maxLen at hn
 refine CallW.of Tryz.func119 rfl aza rfl rfl rfl (by simp [SV.wfs,SV.wf]) (by simp [SV.wfs,SV.wf]) fun w hpre=>?_
 (conv=>whnf);repeat' (first|((with_reducible refine isW ?_;first|refine azg (by omega) (by omega) ?_|refine azc ?_);conv=>whnf)|with_reducible exact rfl|((with_reducible refine aze (by assumption) ?_);conv=>whnf)|((with_reducible refine azd ?_ ?_)<;>(intro hb;(try simp (disch:=omega) only [hbS] at hb)<;>conv=>whnf)))
 ·refine azk rfl (B_eq ?_) trivial
  unfold aq9
  rw [decide_eq_false (by omega)]
  rfl
 ·refine azr aza (α:=Nat) (fun k=>k≤n∧∀ j,j < k→aka (l.getD j b0)=false) (fun k=>[(0,.v (.slice A n c)),(3,I k)]) (fun _=>[]) (fun k=>n - k) 0 [] ⟨Nat.zero_le _,fun i hi=>by omega⟩ ?_ ?_
  ·(refine ⟨?_,?_,?_,?_⟩<;>(repeat' ((conv=>whnf);apply And.intro))<;>try (first|exact trivial|decide))
   all_goals first|rfl|exact fun _ _ h=>h|simp [SV.wf,SV.wfs]
  ·rintro k ⟨hk,hall⟩
   by_cases hlt : k < n
   ·have hx:=bBeam_x (l.getD k b0)
    cases hw : aka (l.getD k b0) with
    | true =>
      rw [hw] at hx
      (conv=>whnf);repeat' (first|((with_reducible refine isC ?_);first|((with_reducible refine azb (hx) ?_)<;>first|omega|with_reducible refine isP ?_|conv=>whnf))|((with_reducible refine isV ?_);first|((first|refine azf aza rfl (hpre.mem (by decide) rfl) rfl ?_ ?_ ?_|(with_reducible refine azq ?_);refine azw _ _ (b0) aza rfl rfl rfl rfl (hpre.mem (by decide) rfl) ?_ ?_ ?_|refine azy _ _ (b0) aza rfl rfl rfl rfl (hpre.mem (by decide) rfl) ?_ ?_ ?_)<;>first|rfl|omega|with_reducible refine isP ?_|conv=>whnf))|((with_reducible refine isW ?_;first|refine azg (by omega) (by omega) ?_|refine azc ?_);conv=>whnf)|with_reducible exact rfl|((with_reducible refine aze (by assumption) ?_);conv=>whnf)|((with_reducible refine azd ?_ ?_)<;>(intro hb;(try simp (disch:=omega) only [hbS] at hb)<;>conv=>whnf)))
      all_goals try (exfalso;omega)
      refine azk rfl (B_eq ?_) trivial
      have hany : l.any aka=true:=List.any_eq_true.2 ⟨l.getD k b0,by simp [hl,hlt],hw⟩
      unfold aq9
      rw [hany]
      simp
    | false =>
      rw [hw] at hx
      (conv=>whnf);repeat' (first|((with_reducible refine isC ?_);first|((with_reducible refine azb (hx) ?_)<;>first|omega|with_reducible refine isP ?_|conv=>whnf))|((with_reducible refine isV ?_);first|((first|refine azf aza rfl (hpre.mem (by decide) rfl) rfl ?_ ?_ ?_|(with_reducible refine azq ?_);refine azw _ _ (b0) aza rfl rfl rfl rfl (hpre.mem (by decide) rfl) ?_ ?_ ?_|refine azy _ _ (b0) aza rfl rfl rfl rfl (hpre.mem (by decide) rfl) ?_ ?_ ?_)<;>first|rfl|omega|with_reducible refine isP ?_|conv=>whnf))|((with_reducible refine isW ?_;first|refine azg (by omega) (by omega) ?_|refine azc ?_);conv=>whnf)|with_reducible exact rfl|((with_reducible refine aze (by assumption) ?_);conv=>whnf)|((with_reducible refine azd ?_ ?_)<;>(intro hb;(try simp (disch:=omega) only [hbS] at hb)<;>conv=>whnf)))
      all_goals try (exfalso;omega)
      refine ⟨k + 1,[],⟨by omega,fun j hj=>?_⟩,?_,by (try dsimp only);omega⟩
      ·by_cases hjk : j=k
       ·rw [hjk];exact hw
       ·exact hall j (by omega)
      ·(refine ⟨?_,?_,?_,?_⟩<;>(repeat' ((conv=>whnf);apply And.intro))<;>try (first|exact trivial|decide))
       all_goals first|rfl|exact fun _ _ h=>h|(simp [SV.wf,SV.wfs];done)|trace_state
   ·obtain rfl : k=n:=by omega
    (conv=>whnf);repeat' (first|((with_reducible refine isW ?_;first|refine azg (by omega) (by omega) ?_|refine azc ?_);conv=>whnf)|with_reducible exact rfl|((with_reducible refine aze (by assumption) ?_);conv=>whnf)|((with_reducible refine azd ?_ ?_)<;>(intro hb;(try simp (disch:=omega) only [hbS] at hb)<;>conv=>whnf)))
    all_goals try (exfalso;omega)
    refine azk rfl (B_eq ?_) trivial
    have hany : l.any aka=false:=by
     rw [List.any_eq_false]
     intro b hbm
     obtain ⟨i,hi,rfl⟩:=List.getElem_of_mem hbm
     have:=hall i (by omega)
     simp only [List.getD_eq_getElem?_getD,List.getElem?_eq_getElem hi,Option.getD_some] at this
     rw [this]
     simp
    unfold aq9
    rw [hany,decide_eq_true (by omega)]
    rfl
end Go.Proofs.YtlnplelandimeaaGreat.En
end
