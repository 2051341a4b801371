import Derived.Test.YtlnplelandimeaaGreatZFleetViews16
import Derived.Test.YtlnplelandimeaaGreatZFleetViews22
import Derived.Test.YtlnplelandimeaaGreatZFleetViews19
set_option linter.all false
section
namespace Go.Proofs.YtlnplelandimeaaGreat.En
open Go.RowKit
set_option maxRecDepth 100000
def frLe (a b : Int × Int) : Prop := a.1 * b.2 ≤ b.1 * a.2
theorem axl {a b c : Int × Int} (ha : 0 < a.2) (hb : 0 < b.2) (hc : 0 < c.2) (h1 : frLe a b) (h2 : frLe b c) : frLe a c := by
 unfold frLe at *
 have e1 : a.1 * b.2 * c.2≤b.1 * a.2 * c.2:=Int.mul_le_mul_of_nonneg_right h1 (by omega)
 have e2 : b.1 * c.2 * a.2≤c.1 * b.2 * a.2:=Int.mul_le_mul_of_nonneg_right h2 (by omega)
 have e3 : a.1 * c.2 * b.2≤c.1 * a.2 * b.2:=by
  rw [show a.1 * c.2 * b.2=a.1 * b.2 * c.2 by ac_rfl,show c.1 * a.2 * b.2=c.1 * b.2 * a.2 by ac_rfl]
  refine Int.le_trans e1 ?_
  rw [show b.1 * a.2 * c.2=b.1 * c.2 * a.2 by ac_rfl]
  exact e2
 exact Int.le_of_mul_le_mul_right e3 hb
theorem awa (a b : Int × Int) : frLe a b ∨ frLe b a := by unfold frLe; omega
theorem cxx {a b : Int × Int} : aj9 a b = true ↔ ¬ frLe b a := by
 simp only [aj9,frLe,decide_eq_true_eq];omega
theorem akh {a b : Int × Int} : aj9 a b = false ↔ frLe b a := by
 simp only [aj9,frLe,decide_eq_false_iff_not];omega
theorem ckk {s l t : Int × Int} (hs : 0 < s.2) (hl : 0 < l.2) (ht : 0 < t.2) : frLe (maxF s l) t ↔ frLe s t ∧ frLe l t := by
 unfold maxF
 split
 ·rename_i h
  rw [cxx] at h
  exact ⟨fun q=>⟨axl hs hl ht ((awa s l).resolve_right h) q,q⟩,fun q=>q.2⟩
 ·rename_i h
  rw [Bool.not_eq_true,akh] at h
  exact ⟨fun q=>⟨q,axl hl hs ht h q⟩,fun q=>q.1⟩
theorem ckl {s l t : Int × Int} (hs : 0 < s.2) (hl : 0 < l.2) (ht : 0 < t.2) : frLe t (minF s l) ↔ frLe t s ∧ frLe t l := by
 unfold minF
 split
 ·rename_i h
  rw [cxx] at h
  exact ⟨fun q=>⟨axl ht hl hs q ((awa s l).resolve_left fun c=>h c),q⟩,fun q=>q.2⟩
 ·rename_i h
  rw [Bool.not_eq_true,akh] at h
  exact ⟨fun q=>⟨q,axl ht hs hl q h⟩,fun q=>q.1⟩
def inS (s : SpT) (t : Int × Int) : Prop := frLe (s.1, s.2.1) t ∧ frLe t (s.2.2.1, s.2.2.2)
def inD (p d a b : Int) (t : Int × Int) : Prop := a * t.2 ≤ p * t.2 + t.1 * d ∧ p * t.2 + t.1 * d ≤ b * t.2
theorem ckm {p d a b : Int} (hd : d ≠ 0) (t : Int × Int) : frLe (akk p d a b) t ∧ frLe t (akl p d a b) ↔ inD p d a b t := by
 unfold akk akl frLe inD
 split
 ·dsimp only
  rw [Int.sub_mul,Int.sub_mul,Int.mul_sub];omega
 ·dsimp only
  rw [Int.sub_mul,Int.sub_mul];omega
theorem bqi {p d a b : Int} (hd : d ≠ 0) : 0 < (akk p d a b).2 := by unfold akk; split <;> dsimp only <;> omega
theorem bqj {p d a b : Int} (hd : d ≠ 0) : 0 < (akl p d a b).2 := by unfold akl; split <;> dsimp only <;> omega
def spP (s : SpT) : Prop := 0 < s.2.1 ∧ 0 < s.2.2.2
theorem cze {s l : Int × Int} (h1 : 0 < s.2) (h2 : 0 < l.2) : 0 < (maxF s l).2 := by unfold maxF; split <;> assumption
theorem czf {s l : Int × Int} (h1 : 0 < s.2) (h2 : 0 < l.2) : 0 < (minF s l).2 := by unfold minF; split <;> assumption
theorem slabF_pos {s : SpT} {p d a b : Int} (h : spP s) : spP (axx s p d a b).1 := by
 unfold axx
 split
 ·exact h
 ·rename_i h0
  exact ⟨cze h.1 (bqi h0),czf h.2 (bqj h0)⟩
theorem ajo {a b t : Int} (ht : 0 < t) : a * t ≤ b * t ↔ a ≤ b :=
 ⟨fun h=>Int.le_of_mul_le_mul_right h ht,fun h=>Int.mul_le_mul_of_nonneg_right h (by omega)⟩
theorem cwd {s : SpT} {p d a b : Int} (h : spP s) {t : Int × Int} (ht : 0 < t.2) :
 ((axx s p d a b).2=true→inS (axx s p d a b).1 t→inS s t∧inD p d a b t)∧(inS s t∧inD p d a b t→(axx s p d a b).2=true∧inS (axx s p d a b).1 t):=by
 unfold axx
 split
 ·rename_i h0
  subst h0
  simp only [inD,Int.mul_zero,Int.add_zero,ajo ht,Bool.and_eq_true,decide_eq_true_eq]
  exact ⟨fun q r=>⟨r,q⟩,fun q=>⟨q.2,q.1⟩⟩
 ·rename_i h0
  have hl:=bqi (p:=p) (a:=a) (b:=b) h0
  have hh:=bqj (p:=p) (a:=a) (b:=b) h0
  refine ⟨fun _ q=>?_,fun q=>?_⟩
  ·obtain ⟨q1,q2⟩:=q
   replace q1:=(ckk (s:=(s.1,s.2.1)) h.1 hl ht).1 q1
   replace q2:=(ckl (s:=(s.2.2.1,s.2.2.2)) h.2 hh ht).1 q2
   exact ⟨⟨q1.1,q2.1⟩,(ckm h0 t).1 ⟨q1.2,q2.2⟩⟩
  ·obtain ⟨⟨q1,q2⟩,q3⟩:=q
   have q4:=(ckm h0 t).2 q3
   have g1:=(ckk (s:=(s.1,s.2.1)) h.1 hl ht).2 ⟨q1,q4.1⟩
   have g2:=(ckl (s:=(s.2.2.1,s.2.2.2)) h.2 hh ht).2 ⟨q2,q4.2⟩
   refine ⟨?_,g1,g2⟩
   rw [Bool.not_eq_true',akh]
   exact axl (cze (s:=(s.1,s.2.1)) h.1 hl) ht (czf (s:=(s.2.2.1,s.2.2.2)) h.2 hh) g1 g2
theorem sp0_pos : spP sp0 := by unfold spP sp0; decide
def inR (p : PtT) (v : VecT) (r : aqv) (t : Int × Int) : Prop := inD p.1 v.1 r.1 r.2.2.1 t ∧ inD p.2 v.2.1 r.2.1 r.2.2.2 t
theorem sp0_in {t : Int × Int} : inS sp0 t ↔ 0 ≤ t.1 ∧ t.1 ≤ 8388608 * t.2 := by
 unfold inS frLe sp0;dsimp only;omega
theorem bvo {p : PtT} {v : VecT} {r : aqv} (ha : ax9 p v r = true) {t : Int × Int} (ht : 0 < t.2) :
 ((az0 p v r).2=true→inS (az0 p v r).1 t→inS sp0 t∧inR p v r t)∧(inS sp0 t∧inR p v r t→(az0 p v r).2=true∧inS (az0 p v r).1 t):=by
 unfold az0
 rw [if_pos ha]
 have a1:=cwd (s:=sp0) (p:=p.1) (d:=v.1) (a:=r.1) (b:=r.2.2.1) sp0_pos ht
 have a2:=cwd (s:=(axx sp0 p.1 v.1 r.1 r.2.2.1).1) (p:=p.2) (d:=v.2.1) (a:=r.2.1) (b:=r.2.2.2) (slabF_pos sp0_pos) ht
 refine ⟨fun q w=>?_,fun q=>?_⟩
 ·split at q
  ·rename_i h1
   rw [if_pos h1] at w
   split at q
   ·rename_i h2
    rw [if_pos h2] at w
    have b2:=a2.1 h2 w
    have b1:=a1.1 h1 b2.1
    exact ⟨b1.1,b1.2,b2.2⟩
   ·cases q
  ·cases q
 ·have b1:=a1.2 ⟨q.1,q.2.1⟩
  have b2:=a2.2 ⟨b1.2,q.2.2⟩
  rw [if_pos b1.1,if_pos b2.1]
  exact ⟨rfl,b2.2⟩
theorem bj6 {p : PtT} {v : VecT} {r : aqv} (h : (az0 p v r).2 = true) : spP (az0 p v r).1 ∧ ax9 p v r = true ∧ frLe ((az0 p v r).1.1, (az0 p v r).1.2.1) ((az0 p v r).1.2.2.1, (az0 p v r).1.2.2.2) := by
 have h0:=bk1 h
 refine ⟨⟨h0.1.1.2.2.1,h0.1.2.2.2.1⟩,h0.2,?_⟩
 have hn : ∀ {s : SpT} {p d a b : Int},frLe (s.1,s.2.1) (s.2.2.1,s.2.2.2)→(axx s p d a b).2=true→frLe ((axx s p d a b).1.1,(axx s p d a b).1.2.1) ((axx s p d a b).1.2.2.1,(axx s p d a b).1.2.2.2):=by
  intro s p d a b hs
  unfold axx
  split
  ·exact fun _=>hs
  ·intro q
   rw [Bool.not_eq_true',akh] at q
   exact q
 unfold az0 at h ⊢
 rw [h0.2,if_pos rfl] at h ⊢
 split
 ·rename_i h1
  rw [if_pos h1] at h
  split
  ·rename_i h2
   exact hn (hn (by unfold frLe sp0;decide) h1) h2
  ·rename_i h2
   rw [if_neg h2] at h
   cases h
 ·rename_i h1
  rw [if_neg h1] at h
  cases h
theorem cxy {p : PtT} {v : VecT} {lo hi : Int} {r : aqv} (ha : ax9 p v r = true) (h1 : 0 ≤ lo) (h2 : lo ≤ hi) (h3 : hi ≤ 65536) :
 cqq p v lo hi r=true↔∃ t : Int × Int,0 < t.2∧0≤t.1∧inR p v r t∧lo * t.2≤t.1 * v.2.2∧t.1 * v.2.2≤hi * t.2:=by
 have hv : 1≤v.2.2:=(ak5 ha).2.1.2.2.1
 unfold cqq
 simp only [Bool.and_eq_true,decide_eq_true_eq,h1,h2,h3,true_and]
 constructor
 ·rintro ⟨⟨q1,q2⟩,q3⟩
  obtain ⟨⟨g1,g2⟩,-,g3⟩:=bj6 q1
  have key : ∀ t : Int × Int,0 < t.2→inS (az0 p v r).1 t→frLe (lo,v.2.2) t→frLe t (hi,v.2.2)→∃ t : Int × Int,0 < t.2∧0≤t.1∧inR p v r t∧lo * t.2≤t.1 * v.2.2∧t.1 * v.2.2≤hi * t.2:=by
   intro t ht hs hl hh
   have hr:=(bvo ha ht).1 q1 hs
   exact ⟨t,ht,(sp0_in.1 hr.1).1,hr.2,hl,hh⟩
  have l2 : frLe (lo,v.2.2) ((az0 p v r).1.2.2.1,(az0 p v r).1.2.2.2):=q2
  have l3 : frLe ((az0 p v r).1.1,(az0 p v r).1.2.1) (hi,v.2.2):=q3
  by_cases hc : frLe ((az0 p v r).1.1,(az0 p v r).1.2.1) (lo,v.2.2)
  ·refine key (lo,v.2.2) (by dsimp only;omega) ⟨hc,l2⟩ (by unfold frLe;exact Int.le_refl _) ?_
   unfold frLe
   exact Int.mul_le_mul_of_nonneg_right h2 (by omega)
  ·exact key ((az0 p v r).1.1,(az0 p v r).1.2.1) g1 ⟨by unfold frLe;exact Int.le_refl _,g3⟩ ((awa _ _).resolve_left hc) l3
 ·rintro ⟨t,ht,t0,hr,hl,hh⟩
  have hs0 : inS sp0 t:=by
   rw [sp0_in]
   refine ⟨t0,?_⟩
   have e1 : t.1 * 1≤t.1 * v.2.2:=Int.mul_le_mul_of_nonneg_left hv t0
   have e2 : hi * t.2≤65536 * t.2:=Int.mul_le_mul_of_nonneg_right h3 (by omega)
   omega
  obtain ⟨k1,k2,k3⟩:=(bvo ha ht).2 ⟨hs0,hr⟩
  obtain ⟨⟨g1,g2⟩,-,-⟩:=bj6 k1
  refine ⟨⟨k1,?_⟩,?_⟩
  ·exact axl (a:=(lo,v.2.2)) (b:=t) (c:=((az0 p v r).1.2.2.1,(az0 p v r).1.2.2.2)) (by dsimp only;omega) ht g2 hl k3
  ·exact axl (a:=((az0 p v r).1.1,(az0 p v r).1.2.1)) (b:=t) (c:=(hi,v.2.2)) g1 ht (by dsimp only;omega) k2 hh
def inC (p : PtT) (v : VecT) (c : azx) (t : Int × Int) : Prop :=
 (c.1 * 64 * t.2≤p.1 * t.2 + t.1 * v.1∧p.1 * t.2 + t.1 * v.1≤(c.1 * 64 + 64) * t.2)∧c.2 * 64 * t.2≤p.2 * t.2 + t.1 * v.2.1∧p.2 * t.2 + t.1 * v.2.1≤(c.2 * 64 + 64) * t.2
theorem inD_sub {a b d x t1 t2 : Int} : inD 0 d (a - x) (b - x) (t1, t2) ↔ a * t2 ≤ x * t2 + t1 * d ∧ x * t2 + t1 * d ≤ b * t2 := by
 unfold inD
 dsimp only
 rw [Int.sub_mul,Int.sub_mul,Int.zero_mul]
 omega
theorem inR_inC {p : PtT} {v : VecT} {c : azx} {t : Int × Int} : inR (0, 0) v (subR (sqR c) (ptR p)) t ↔ inC p v c t := by
 unfold inR inC subR sqR ptR
 exact and_congr inD_sub inD_sub
theorem axis_in {x a D lo hi n e k : Int} (hD : 1 ≤ D) (he : 0 < e) (h1 : lo * e ≤ n * D) (h2 : n * D ≤ hi * e)
 (g1 : k * 64 * e≤x * e + n * a) (g2 : x * e + n * a≤(k * 64 + 64) * e) :
 (cw7 (ajd x x a D lo hi)).1≤k∧k≤(cw7 (ajd x x a D lo hi)).2:=by
 have hm : min (lo * a) (hi * a) * e≤n * a * D∧n * a * D≤max (lo * a) (hi * a) * e:=by
  rcases Int.le_total 0 a with h|h
  ·have e1 : lo * e * a≤n * D * a:=Int.mul_le_mul_of_nonneg_right h1 h
   have e2 : n * D * a≤hi * e * a:=Int.mul_le_mul_of_nonneg_right h2 h
   have e3 : min (lo * a) (hi * a) * e≤lo * a * e:=Int.mul_le_mul_of_nonneg_right (Int.min_le_left _ _) (by omega)
   have e4 : hi * a * e≤max (lo * a) (hi * a) * e:=Int.mul_le_mul_of_nonneg_right (Int.le_max_right _ _) (by omega)
   rw [show n * a * D=n * D * a by ac_rfl]
   rw [show lo * a * e=lo * e * a by ac_rfl] at e3
   rw [show hi * a * e=hi * e * a by ac_rfl] at e4
   omega
  ·have e1 : n * D * a≤lo * e * a:=Int.mul_le_mul_of_nonpos_right h1 h
   have e2 : hi * e * a≤n * D * a:=Int.mul_le_mul_of_nonpos_right h2 h
   have e3 : min (lo * a) (hi * a) * e≤hi * a * e:=Int.mul_le_mul_of_nonneg_right (Int.min_le_right _ _) (by omega)
   have e4 : lo * a * e≤max (lo * a) (hi * a) * e:=Int.mul_le_mul_of_nonneg_right (Int.le_max_left _ _) (by omega)
   rw [show n * a * D=n * D * a by ac_rfl]
   rw [show lo * a * e=lo * e * a by ac_rfl] at e4
   rw [show hi * a * e=hi * e * a by ac_rfl] at e3
   omega
 have f1 : min (lo * a) (hi * a)≤(k * 64 + 64 - x) * D:=by
  refine Int.le_of_mul_le_mul_right (a:=e) ?_ he
  refine Int.le_trans hm.1 ?_
  have : n * a≤(k * 64 + 64 - x) * e:=by rw [Int.sub_mul];omega
  have:=Int.mul_le_mul_of_nonneg_right this (show 0≤D by omega)
  rw [show (k * 64 + 64 - x) * D * e=(k * 64 + 64 - x) * e * D by ac_rfl]
  exact this
 have f2 : (k * 64 - x) * D≤max (lo * a) (hi * a):=by
  refine Int.le_of_mul_le_mul_right (a:=e) ?_ he
  refine Int.le_trans ?_ hm.2
  have : (k * 64 - x) * e≤n * a:=by rw [Int.sub_mul];omega
  have:=Int.mul_le_mul_of_nonneg_right this (show 0≤D by omega)
  rw [show (k * 64 - x) * D * e=(k * 64 - x) * e * D by ac_rfl]
  exact this
 have q1 : min (lo * a) (hi * a) / D≤k * 64 + 64 - x:=Int.ediv_le_of_le_mul (by omega) f1
 have q2 : k * 64 - x≤max (lo * a) (hi * a) / D:=(Int.le_ediv_iff_mul_le (by omega)).2 f2
 unfold cw7 ajd
 dsimp only
 omega
theorem bvp {p : PtT} {v : VecT} {lo hi : Int} (hp : -1048576 ≤ p.1 ∧ p.1 ≤ 1048576 ∧ -1048576 ≤ p.2 ∧ p.2 ≤ 1048576) (hv : vecB v = true) (h : 0 ≤ lo ∧ lo ≤ hi ∧ hi ≤ 2048) {c : azx} :
 c∈aji p v lo hi↔∃ t : Int × Int,0 < t.2∧0≤t.1∧inC p v c t∧lo * t.2≤t.1 * v.2.2∧t.1 * v.2.2≤hi * t.2:=by
 have hok : swOk (ptR p) v lo hi:=⟨hp.1,Int.le_refl _,hp.2.1,hp.2.2.1,Int.le_refl _,hp.2.2.2,by simp [ptR],by simp [ptR],hv,h.1,h.2.1,h.2.2⟩
 have hD : 1≤v.2.2:=by
  have:=hv
  simp only [vecB,Bool.and_eq_true,aqo] at this
  exact this.1.1
 have hargs : ∀ {r : aqv},aj8 r=true→ax9 (0,0) v r=true:=by
  intro r hr
  simp only [ax9,hv,hr,ptL,bqs,Bool.and_true]
  decide
 unfold aji
 rw [cq2]
 unfold hitR
 rw [Bool.and_eq_true]
 constructor
 ·rintro ⟨⟨h1,h2⟩,-,-⟩
  obtain ⟨t,a1,a2,a3,a4⟩:=(cxy (hargs h1) h.1 h.2.1 (by omega)).1 h2
  exact ⟨t,a1,a2,inR_inC.1 a3,a4⟩
 ·rintro ⟨t,a1,a2,a3,a4⟩
  have hx : (swX (ptR p) v lo hi).1≤c.1∧c.1≤(swX (ptR p) v lo hi).2:=axis_in hD a1 a4.1 a4.2 a3.1.1 a3.1.2
  have hy : (swY (ptR p) v lo hi).1≤c.2∧c.2≤(swY (ptR p) v lo hi).2:=axis_in hD a1 a4.1 a4.2 a3.2.1 a3.2.2
  have hr:=(cvd hok hx hy).2.2
  exact ⟨⟨hr,(cxy (hargs hr) h.1 h.2.1 (by omega)).2 ⟨t,a1,a2,inR_inC.2 a3,a4⟩⟩,hx,hy⟩
def allC (_ : azx) : Bool := true
def ptB (p : PtT) : Prop := -1048576 ≤ p.1 ∧ p.1 ≤ 1048576 ∧ -1048576 ≤ p.2 ∧ p.2 ≤ 1048576
theorem vec_pos {v : VecT} (hv : vecB v = true) : 1 ≤ v.2.2 := by
 simp only [vecB,Bool.and_eq_true,aqo] at hv
 exact hv.1.1
theorem bzp {b : az5} (hb : -1 ≤ b.2 ∧ b.2 ≤ 1024) : 0 ≤ axi b ∧ axi b ≤ 2048 := by
 unfold axi
 split<;>omega
theorem ckn {p : PtT} {v : VecT} {b : az5} (hp : ptB p) (hv : vecB v = true) (hb : -1 ≤ b.2 ∧ b.2 ≤ 1024) {c : azx} :
 c∈metL p v b↔∃ t : Int × Int,0 < t.2∧0≤t.1∧inC p v c t∧0 * t.2≤t.1 * v.2.2∧t.1 * v.2.2≤axi b * t.2 :=
 bvp hp hv ⟨Int.le_refl _,(bzp hb).1,(bzp hb).2⟩
theorem cwe {p : PtT} {v : VecT} {b : az5} (hp : ptB p) (hv : vecB v = true) (hb : -1 ≤ b.2 ∧ b.2 ≤ 1024) {c : azx} :
 c∈bqt p v b↔0≤b.2∧∃ t : Int × Int,0 < t.2∧0≤t.1∧inC p v c t∧b.2 * t.2≤t.1 * v.2.2∧t.1 * v.2.2≤b.2 * t.2:=by
 unfold bqt
 split
 ·simp only [List.not_mem_nil,false_iff]
  omega
 ·rw [bvp hp hv ⟨by omega,Int.le_refl _,by omega⟩]
  exact ⟨fun h=>⟨by omega,h⟩,fun h=>h.2⟩
theorem ends_met {p : PtT} {v : VecT} {b : az5} (hp : ptB p) (hv : vecB v = true) (hb : -1 ≤ b.2 ∧ b.2 ≤ 1024) {c : azx} (hc : c ∈ bqt p v b) : c ∈ metL p v b := by
 obtain ⟨h0,t,a1,a2,a3,a4,a5⟩:=(cwe hp hv hb).1 hc
 refine (ckn hp hv hb).2 ⟨t,a1,a2,a3,?_,?_⟩
 ·rw [Int.zero_mul]
  exact Int.mul_nonneg a2 (by have:=vec_pos hv;omega)
 ·rw [show axi b=b.2 by unfold axi;split<;>omega]
  exact a5
theorem abs4_x (n : Int) (h : -1000000000000 ≤ n ∧ n ≤ 1000000000000) : PureX Tryz.prog 210 [I n] (I (n.natAbs : Nat)) := by
 refine PureX.of Tryz.func210 rfl aza rfl rfl rfl (by simp [SV.wfs,SV.wf]) (by simp [SV.wfs,SV.wf]) fun w=>?_
 (conv=>whnf);repeat' (first|((with_reducible refine isW ?_;first|refine azg (by omega) (by omega) ?_|refine azc ?_);conv=>whnf)|with_reducible exact rfl|((with_reducible refine aze (by assumption) ?_);conv=>whnf)|((with_reducible refine azd ?_ ?_)<;>(intro hb;(try simp (disch:=omega) only [hbS] at hb)<;>conv=>whnf)))
 all_goals exact azk rfl (I_eq (by omega)) trivial
set_option maxHeartbeats 2000000 in
theorem gcd4_x (a b c : Nat) (ha : a ≤ 1000000000000) (hb0 : b ≤ 1000000000000) (hc : c ≤ 1000000000000) : PureX Tryz.prog 209 [I a, I b, I c] (I (Nat.gcd (Nat.gcd a b) c : Nat)) := by
 generalize hK1 : Nat.gcd a b=K1
 generalize hK : Nat.gcd K1 c=K
 have hb1 : K1≤1000000000000:=by
  rw [← hK1]
  rcases Nat.eq_zero_or_pos a with h|h
  ·rw [h,Nat.gcd_zero_left];omega
  ·have:=Nat.gcd_le_left b h;omega
 refine PureX.of Tryz.func209 rfl aza rfl rfl rfl (by simp [SV.wfs,SV.wf]) (by simp [SV.wfs,SV.wf]) fun w=>?_
 (conv=>whnf);repeat' (first|((with_reducible refine isR ?_;first|refine aq5 (by omega) (by omega) ?_|refine aqn (by omega) ?_);conv=>whnf)|((with_reducible refine aqk ?_ ?_)<;>first|omega|conv=>whnf)|with_reducible exact rfl|((with_reducible refine aze (by assumption) ?_);conv=>whnf)|((with_reducible refine azd ?_ ?_)<;>(intro hb;(try simp (disch:=omega) only [hbS] at hb)<;>conv=>whnf)))
 refine azr aza (α:=Nat × Nat) (fun s=>(s.1≤1000000000000∧s.2≤1000000000000)∧Nat.gcd s.1 s.2=K1) (fun s=>[(0,I s.1),(1,I s.2),(2,I c)]) (fun _=>[]) (fun s=>s.2) (a,b) [] ⟨by dsimp only;omega,hK1⟩ ?_ ?_
 ·(refine ⟨?_,?_,?_,?_⟩<;>(repeat' ((conv=>whnf);apply And.intro))<;>try (first|exact trivial|decide))
  all_goals first|rfl|exact fun _ _ h=>h|simp [SV.wf,SV.wfs]
 ·rintro ⟨g,n⟩ ⟨hj,hgk⟩
  dsimp only at hj hgk ⊢
  by_cases hn : n=0
  ·subst hn
   rw [Nat.gcd_zero_right] at hgk
   subst hgk
   (conv=>whnf);repeat' (first|((with_reducible refine isR ?_;first|refine aq5 (by omega) (by omega) ?_|refine aqn (by omega) ?_);conv=>whnf)|((with_reducible refine aqk ?_ ?_)<;>first|omega|conv=>whnf)|with_reducible exact rfl|((with_reducible refine aze (by assumption) ?_);conv=>whnf)|((with_reducible refine azd ?_ ?_)<;>(intro hb;(try simp (disch:=omega) only [hbS] at hb)<;>conv=>whnf)))
   all_goals try (exfalso;omega)
   refine azr aza (α:=Nat × Nat) (fun s=>(s.1≤1000000000000∧s.2≤1000000000000)∧Nat.gcd s.1 s.2=K) (fun s=>[(0,I s.1),(2,I s.2)]) (fun _=>[]) (fun s=>s.2) (g,c) [] ⟨by dsimp only;omega,hK⟩ ?_ ?_
   ·(refine ⟨?_,?_,?_,?_⟩<;>(repeat' ((conv=>whnf);apply And.intro))<;>try (first|exact trivial|decide))
    all_goals first|rfl|exact fun _ _ h=>h|simp [SV.wf,SV.wfs]
   ·rintro ⟨g2,m⟩ ⟨hj2,hgk2⟩
    dsimp only at hj2 hgk2 ⊢
    by_cases hm : m=0
    ·subst hm
     rw [Nat.gcd_zero_right] at hgk2
     (conv=>whnf);repeat' (first|((with_reducible refine isR ?_;first|refine aq5 (by omega) (by omega) ?_|refine aqn (by omega) ?_);conv=>whnf)|((with_reducible refine aqk ?_ ?_)<;>first|omega|conv=>whnf)|with_reducible exact rfl|((with_reducible refine aze (by assumption) ?_);conv=>whnf)|((with_reducible refine azd ?_ ?_)<;>(intro hb;(try simp (disch:=omega) only [hbS] at hb)<;>conv=>whnf)))
     all_goals try (exfalso;omega)
     exact azk rfl (I_eq (by omega)) trivial
    ·have hr2:=Nat.mod_lt g2 (show m > 0 by omega)
     have e : (g2 : Int) % (m : Int)=((g2 % m : Nat) : Int):=rfl
     (conv=>whnf);repeat' (first|((with_reducible refine isR ?_;first|refine aq5 (by omega) (by omega) ?_|refine aqn (by omega) ?_);conv=>whnf)|((with_reducible refine aqk ?_ ?_)<;>first|omega|conv=>whnf)|with_reducible exact rfl|((with_reducible refine aze (by assumption) ?_);conv=>whnf)|((with_reducible refine azd ?_ ?_)<;>(intro hb;(try simp (disch:=omega) only [hbS] at hb)<;>conv=>whnf)))
     all_goals try (exfalso;omega)
     refine ⟨(m,g2 % m),[],⟨by dsimp only;omega,?_⟩,?_,by (try dsimp only);omega⟩
     ·dsimp only
      rw [← hgk2,Nat.gcd_comm g2 m,Nat.gcd_rec m g2,Nat.gcd_comm]
     ·(refine ⟨?_,?_,?_,?_⟩<;>(repeat' ((conv=>whnf);apply And.intro))<;>try (first|exact trivial|decide))
      all_goals first|rfl|exact fun _ _ h=>h|simp [SV.wf,SV.wfs]
  ·have hr2:=Nat.mod_lt g (show n > 0 by omega)
   have e : (g : Int) % (n : Int)=((g % n : Nat) : Int):=rfl
   (conv=>whnf);repeat' (first|((with_reducible refine isR ?_;first|refine aq5 (by omega) (by omega) ?_|refine aqn (by omega) ?_);conv=>whnf)|((with_reducible refine aqk ?_ ?_)<;>first|omega|conv=>whnf)|with_reducible exact rfl|((with_reducible refine aze (by assumption) ?_);conv=>whnf)|((with_reducible refine azd ?_ ?_)<;>(intro hb;(try simp (disch:=omega) only [hbS] at hb)<;>conv=>whnf)))
   all_goals try (exfalso;omega)
   refine ⟨(n,g % n),[],⟨by dsimp only;omega,?_⟩,?_,by (try dsimp only);omega⟩
   ·dsimp only
    rw [← hgk,Nat.gcd_comm g n,Nat.gcd_rec n g,Nat.gcd_comm]
   ·(refine ⟨?_,?_,?_,?_⟩<;>(repeat' ((conv=>whnf);apply And.intro))<;>try (first|exact trivial|decide))
    all_goals first|rfl|exact fun _ _ h=>h|simp [SV.wf,SV.wfs]
theorem low4_x (x y d : Int) (hx : -1000000000000 ≤ x ∧ x ≤ 1000000000000) (hy : -1000000000000 ≤ y ∧ y ≤ 1000000000000) (hd : 1 ≤ d ∧ d ≤ 1000000000000) : PureX Tryz.prog 201 [I x, I y, I d] (.a [I (lowF x y d).1, I (lowF x y d).2.1, I (lowF x y d).2.2]) := by
 have k1:=abs4_x x hx
 have k2:=abs4_x y hy
 have k3 : PureX Tryz.prog 210 [I d] (I (d.natAbs : Nat)):=abs4_x d (by omega)
 have kg:=gcd4_x x.natAbs y.natAbs d.natAbs (by omega) (by omega) (by omega)
 have ed : ((d.natAbs : Nat) : Int)=d:=by omega
 rw [ed] at kg
 have hg:=bjh x y d hd.1 2
 have e : ((Nat.gcd (Nat.gcd x.natAbs y.natAbs) d.natAbs : Nat) : Int)=gsI x y d 2:=by
  rw [Nat.gcd_comm (Nat.gcd x.natAbs y.natAbs),← Nat.gcd_assoc]
  rfl
 rw [e] at kg
 have b1:=bz9 x (gsI x y d 2)
 have b2:=bz9 y (gsI x y d 2)
 unfold lowF
 generalize gsI x y d 2=g at *
 refine PureX.of Tryz.func201 rfl aza rfl rfl rfl (by simp [SV.wfs,SV.wf]) (by simp [SV.wfs,SV.wf]) fun w=>?_
 (conv=>whnf);repeat' (first|((with_reducible refine isC ?_);first|((first|with_reducible refine azb (k1) ?_|with_reducible refine azb (k2) ?_|with_reducible refine azb (kg) ?_)<;>first|omega|with_reducible refine isP ?_|conv=>whnf))|((with_reducible refine isQ ?_;first|refine aqg (by omega) (by omega) (by omega) ?_|refine aqh (by omega) (by omega) (by omega) ?_|refine az7 (by omega) ?_);conv=>whnf)|((with_reducible refine aqk ?_ ?_)<;>first|omega|conv=>whnf)|((first|refine azj aza azt ?_|refine azi (by kernel_rfl) ?_|with_reducible refine azo ?_ ?_)<;>conv=>whnf)|with_reducible exact rfl|((with_reducible refine aze (by assumption) ?_);conv=>whnf)|((with_reducible refine azd ?_ ?_)<;>(intro hb;(try simp (disch:=omega) only [hbS] at hb)<;>conv=>whnf)))
 all_goals try (exfalso;omega)
 exact azk rfl rfl (by simp [SV.wf,SV.wfs])
set_option maxHeartbeats 1000000 in
theorem cxz (v : VecT) : PureX Tryz.prog 208 [.a [I v.1, I v.2.1, I v.2.2]] (B (vecB v)) := by
 have hsz:=cvc v
 cases h : bwn v with
 | true =>
   obtain ⟨q1,q2,q3⟩:=cvb h
   have h':=aqo.1 h
   rw [h] at hsz
   simp only [Bool.true_eq,Bool.and_eq_true,decide_eq_true_eq] at hsz
   obtain ⟨⟨_,s1⟩,s2⟩:=hsz
   refine PureX.of Tryz.func208 rfl aza rfl rfl rfl (by simp [SV.wfs,SV.wf]) (by simp [SV.wfs,SV.wf]) fun w=>?_
   (conv=>whnf);repeat' (first|((with_reducible refine isC ?_);first|((with_reducible refine azb (ajz _ _ ?_ ?_) ?_)<;>first|omega|with_reducible refine isP ?_|conv=>whnf))|((with_reducible refine isW ?_;first|refine azg (by omega) (by omega) ?_|refine azc ?_);conv=>whnf)|with_reducible exact rfl|((with_reducible refine aze (by assumption) ?_);conv=>whnf)|((with_reducible refine azd ?_ ?_)<;>(intro hb;(try simp (disch:=omega) only [hbS] at hb)<;>conv=>whnf)))
   all_goals try (exfalso;omega)
   all_goals try exact (Bool.false_ne_true (hb.symm.trans s1)).elim
   all_goals try exact (Bool.false_ne_true (hb.symm.trans s2)).elim
   all_goals refine azk rfl (B_eq ?_) trivial
   all_goals simp [vecB,h]
   all_goals rfl
 | false =>
   have h' : ¬ (1≤v.2.2∧v.2.2≤67108864∧szB v.1 v.2.2=true∧szB v.2.1 v.2.2=true):=by
    rintro ⟨a1,a2,a3,a4⟩
    rw [h] at hsz
    simp [a1,a2,a3,a4] at hsz
   refine PureX.of Tryz.func208 rfl aza rfl rfl rfl (by simp [SV.wfs,SV.wf]) (by simp [SV.wfs,SV.wf]) fun w=>?_
   (conv=>whnf);repeat' (first|((with_reducible refine isC ?_);first|((with_reducible refine azb (ajz _ _ ?_ ?_) ?_)<;>first|omega|with_reducible refine isP ?_|conv=>whnf))|((with_reducible refine isW ?_;first|refine azg (by omega) (by omega) ?_|refine azc ?_);conv=>whnf)|with_reducible exact rfl|((with_reducible refine aze (by assumption) ?_);conv=>whnf)|((with_reducible refine azd ?_ ?_)<;>(intro hb;(try simp (disch:=omega) only [hbS] at hb)<;>conv=>whnf)))
   all_goals first
    | (refine azk rfl (B_eq ?_) trivial;simp [vecB,h];done)
    | exact (h' ⟨by omega,by omega,by assumption,by assumption⟩).elim
theorem cx0 (v : VecT) : PureX Tryz.prog 200 [.a [I v.1, I v.2.1, I v.2.2]] (B (vecB v)) := by
 have h:=cxz v
 refine PureX.of Tryz.func200 rfl aza rfl rfl rfl (by simp [SV.wfs,SV.wf]) (by simp [SV.wfs,SV.wf]) fun w=>?_
 (conv=>whnf);repeat' (first|((with_reducible refine isC ?_);first|((with_reducible refine azb (h) ?_)<;>first|omega|with_reducible refine isP ?_|conv=>whnf))|with_reducible exact rfl|((with_reducible refine aze (by assumption) ?_);conv=>whnf)|((with_reducible refine azd ?_ ?_)<;>(intro hb;(try simp (disch:=omega) only [hbS] at hb)<;>conv=>whnf)))
 exact azk rfl rfl trivial
theorem rTurn_x (a b : VecT) (ha : vecB a = true) (hb' : vecB b = true) (hD : a.2.2 * b.2.2 ≤ 67108864) : PureX Tryz.prog 186 [.a [I a.1, I a.2.1, I a.2.2], .a [I b.1, I b.2.1, I b.2.2]] (.t [.a [I (ak7 a b).1, I (ak7 a b).2.1, I (ak7 a b).2.2], I 0]) := by
 obtain ⟨m1,m2,m3,m4,m5⟩:=cjx ha hb' hD
 have hl:=low4_x (a.1 * b.1 - a.2.1 * b.2.1) (a.1 * b.2.1 + a.2.1 * b.1) (a.2.2 * b.2.2) (by omega) (by omega) (by omega)
 have hd : (ak7 a b).2.2≤67108864:=by
  have hg:=bjh (a.1 * b.1 - a.2.1 * b.2.1) (a.1 * b.2.1 + a.2.1 * b.1) (a.2.2 * b.2.2) m5 2
  show (a.2.2 * b.2.2) / _≤67108864
  have:=Int.ediv_le_self (gsI (a.1 * b.1 - a.2.1 * b.2.1) (a.1 * b.2.1 + a.2.1 * b.1) (a.2.2 * b.2.2) 2) (show 0≤a.2.2 * b.2.2 by omega)
  omega
 have hl' : PureX Tryz.prog 201 [I (a.1 * b.1 - a.2.1 * b.2.1),I (a.1 * b.2.1 + a.2.1 * b.1),I (a.2.2 * b.2.2)] (.a [I (ak7 a b).1,I (ak7 a b).2.1,I (ak7 a b).2.2]):=hl
 clear hl
 have hv1:=cx0 a
 have hv2:=cx0 b
 rw [ha] at hv1
 rw [hb'] at hv2
 generalize ak7 a b=v at *
 refine PureX.of Tryz.func186 rfl aza rfl rfl rfl (by simp [SV.wfs,SV.wf]) (by simp [SV.wfs,SV.wf]) fun w=>?_
 (conv=>whnf);repeat' (first|((with_reducible refine isC ?_);first|((first|with_reducible refine azb (hv1) ?_|with_reducible refine azb (hv2) ?_|with_reducible refine azb (hl') ?_)<;>first|omega|with_reducible refine isP ?_|conv=>whnf))|((with_reducible refine isW ?_;first|refine azg (by omega) (by omega) ?_|refine azc ?_);conv=>whnf)|with_reducible exact rfl|((with_reducible refine aze (by assumption) ?_);conv=>whnf)|((with_reducible refine azd ?_ ?_)<;>(intro hb;(try simp (disch:=omega) only [hbS] at hb)<;>conv=>whnf)))
 all_goals try (exfalso;omega)
 exact azk rfl rfl (by simp [SV.wf,SV.wfs])
theorem rDir_x (h : Int) : PureX Tryz.prog 187 [I h] (.a [I (dirF h).1, I (dirF h).2.1, I (dirF h).2.2]) := by
 unfold dirF
 have hk0 : 0≤h % 256∧h % 256 < 256:=by omega
 have hk1 : 0≤h % 256 % 64∧h % 256 % 64 < 64:=by omega
 have hq1 : 0≤h % 256 / 64∧h % 256 / 64 < 4:=by omega
 have kk:=ax2 (a:=h % 256 % 64) (b:=h % 256 % 64) (A:=63) (B:=63) (by omega) (by omega)
 have kk0 : 0≤(h % 256 % 64) * (h % 256 % 64):=Int.mul_nonneg hk1.1 hk1.1
 have hl:=low4_x (4096 - (h % 256 % 64) * (h % 256 % 64)) (128 * (h % 256 % 64)) (4096 + (h % 256 % 64) * (h % 256 % 64)) (by omega) (by omega) (by omega)
 have b1:=bz9 (4096 - (h % 256 % 64) * (h % 256 % 64)) (gsI (4096 - (h % 256 % 64) * (h % 256 % 64)) (128 * (h % 256 % 64)) (4096 + (h % 256 % 64) * (h % 256 % 64)) 2)
 have b2:=bz9 (128 * (h % 256 % 64)) (gsI (4096 - (h % 256 % 64) * (h % 256 % 64)) (128 * (h % 256 % 64)) (4096 + (h % 256 % 64) * (h % 256 % 64)) 2)
 have b3 : (quF (h % 256 % 64)).1.natAbs≤10000∧(quF (h % 256 % 64)).2.1.natAbs≤10000:=by
  show ((4096 - (h % 256 % 64) * (h % 256 % 64)).tdiv _).natAbs≤10000∧((128 * (h % 256 % 64)).tdiv _).natAbs≤10000
  omega
 have hl' : PureX Tryz.prog 201 [I (4096 - (h % 256 % 64) * (h % 256 % 64)),I (128 * (h % 256 % 64)),I (4096 + (h % 256 % 64) * (h % 256 % 64))] (.a [I (quF (h % 256 % 64)).1,I (quF (h % 256 % 64)).2.1,I (quF (h % 256 % 64)).2.2]):=hl
 clear hl b1 b2
 generalize quF (h % 256 % 64)=v at *
 refine PureX.of Tryz.func187 rfl aza rfl rfl rfl (by simp [SV.wfs,SV.wf]) (by simp [SV.wfs,SV.wf]) fun w=>?_
 (conv=>whnf);repeat' (first|((with_reducible refine isC ?_);first|((first|with_reducible refine azb (aqu _ _ ?_ ?_) ?_|with_reducible refine azb (hl') ?_)<;>first|omega|with_reducible refine isP ?_|conv=>whnf))|((with_reducible refine isW ?_;first|refine azg (by omega) (by omega) ?_|refine azc ?_);conv=>whnf)|((with_reducible refine isQ ?_;first|refine aqg (by omega) (by omega) (by omega) ?_|refine aqh (by omega) (by omega) (by omega) ?_|refine az7 (by omega) ?_);conv=>whnf)|((with_reducible refine isR ?_;first|refine aq5 (by omega) (by omega) ?_|refine aqn (by omega) ?_);conv=>whnf)|((with_reducible refine aqk ?_ ?_)<;>first|omega|conv=>whnf)|with_reducible exact rfl|((with_reducible refine aze (by assumption) ?_);conv=>whnf)|((with_reducible refine azd ?_ ?_)<;>(intro hb;(try simp (disch:=omega) only [hbS] at hb)<;>conv=>whnf)))
 all_goals try (exfalso;omega)
 clear hl'
 generalize hH : h % 256=H at *
 refine azr aza (α:=Nat) (fun i=>(i : Int)≤H / 64) (fun i=>[(0,I H),(2,.p 0 0),(4,.p 1 0),(5,I i)]) (fun i=>[.box 194 [I 0,I 0,I 0],.box 194 [I (tX i v.1 v.2.1),I (tY i v.1 v.2.1),I v.2.2]]) (fun i=>(H / 64).toNat - i) 0 [0,1] (by omega) ?_ ?_
 ·(refine ⟨?_,?_,?_,?_⟩<;>(repeat' ((conv=>whnf);apply And.intro))<;>try (first|exact trivial|decide))
  all_goals first|rfl|exact fun _ _ h=>h|(simp [tX,tY,SV.ren,SV.rens];done)|(simp [SV.wf,SV.wfs];done)|trace_state
 ·intro i hi
  have tb:=bkr (q:=(i : Int)) (x:=v.1) (y:=v.2.1) (m:=10000) (by omega)
  by_cases hlt : (i : Int) < H / 64
  ·(conv=>whnf);repeat' (first|((with_reducible refine isW ?_;first|refine azg (by omega) (by omega) ?_|refine azc ?_);conv=>whnf)|((with_reducible refine isQ ?_;first|refine aqg (by omega) (by omega) (by omega) ?_|refine aqh (by omega) (by omega) (by omega) ?_|refine az7 (by omega) ?_);conv=>whnf)|((with_reducible refine isR ?_;first|refine aq5 (by omega) (by omega) ?_|refine aqn (by omega) ?_);conv=>whnf)|((with_reducible refine aqk ?_ ?_)<;>first|omega|conv=>whnf)|with_reducible exact rfl|((with_reducible refine aze (by assumption) ?_);conv=>whnf)|((with_reducible refine azd ?_ ?_)<;>(intro hb;(try simp (disch:=omega) only [hbS] at hb)<;>conv=>whnf)))
   all_goals try (exfalso;omega)
   refine ⟨i + 1,[0,1],by omega,?_,by (try dsimp only);omega⟩
   have e : tX ((i + 1 : Nat) : Int) v.1 v.2.1=0 - tY i v.1 v.2.1∧tY ((i + 1 : Nat) : Int) v.1 v.2.1=tX i v.1 v.2.1:=by
    rcases (by omega : i=0∨i=1∨i=2) with rfl|rfl|rfl<;>simp [tX,tY]<;>omega
   dsimp only
   rw [e.1,e.2]
   (refine ⟨?_,?_,?_,?_⟩<;>(repeat' ((conv=>whnf);apply And.intro))<;>try (first|exact trivial|decide))
   all_goals first|rfl|exact fun _ _ h=>h|exact I_eq (by simp)|(simp [SV.wf,SV.wfs];done)|trace_state
  ·obtain hq : (i : Int)=H / 64:=by omega
   (conv=>whnf);repeat' (first|((with_reducible refine isW ?_;first|refine azg (by omega) (by omega) ?_|refine azc ?_);conv=>whnf)|((with_reducible refine isQ ?_;first|refine aqg (by omega) (by omega) (by omega) ?_|refine aqh (by omega) (by omega) (by omega) ?_|refine az7 (by omega) ?_);conv=>whnf)|((with_reducible refine isR ?_;first|refine aq5 (by omega) (by omega) ?_|refine aqn (by omega) ?_);conv=>whnf)|((with_reducible refine aqk ?_ ?_)<;>first|omega|conv=>whnf)|with_reducible exact rfl|((with_reducible refine aze (by assumption) ?_);conv=>whnf)|((with_reducible refine azd ?_ ?_)<;>(intro hb;(try simp (disch:=omega) only [hbS] at hb)<;>conv=>whnf)))
   all_goals try (exfalso;omega)
   rw [hq]
   exact azk rfl rfl (by simp [SV.wf,SV.wfs])
theorem rvBeam_x (h m : Int) : PureX Tryz.prog 167 [I h, I m] (.a [I (axs h m).1, I (axs h m).2.1, I (axs h m).2.2]) := by
 have hd1:=rDir_x h
 have hd2:=rDir_x m
 have ht:=rTurn_x (dirF h) (dirF m) (bqo h).1 (bqo m).1 (bq3 h m)
 unfold axs
 generalize ak7 (dirF h) (dirF m)=v at *
 generalize dirF h=a at *
 generalize dirF m=b at *
 refine PureX.of Tryz.func167 rfl aza rfl rfl rfl (by simp [SV.wfs,SV.wf]) (by simp [SV.wfs,SV.wf]) fun w=>?_
 (conv=>whnf);repeat' (first|((with_reducible refine isC ?_);first|((first|with_reducible refine azb (hd1) ?_|with_reducible refine azb (hd2) ?_|with_reducible refine azb (ht) ?_)<;>first|omega|with_reducible refine isP ?_|conv=>whnf))|with_reducible exact rfl|((with_reducible refine aze (by assumption) ?_);conv=>whnf)|((with_reducible refine azd ?_ ?_)<;>(intro hb;(try simp (disch:=omega) only [hbS] at hb)<;>conv=>whnf)))
 exact azk rfl rfl (by simp [SV.wf,SV.wfs])
end Go.Proofs.YtlnplelandimeaaGreat.En
end
