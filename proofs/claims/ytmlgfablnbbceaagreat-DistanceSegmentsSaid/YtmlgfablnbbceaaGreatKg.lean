/- What is proved: see the last text of this claim. -/
import Derived.Test.YtmlgfablnbbceaaGreatKf
import Derived.Test.YtmlgfablnbbceaaGreatKb
set_option linter.all false
namespace Go.Proofs.YtmlgfablnbbceaaGreat
namespace Am
open Go Go.RowKit
def Jc (c : CrvV) (v : VecV) : RootV := (J9 (Ju c.f v) (Ju c.t v))
theorem Xgn (c : CrvV) (v : VecV) : RootV.ht (Jc c v) ≤ 8 * (CrvV.ht c + VecV.ht v) + 34 := by
 rw [show (Jc c v) = (J9 (Ju c.f v) (Ju c.t v)) by unfold Jc; rfl]
 have := X3z c
 have := Xe6 c.f v
 have := X5b c
 have := Xe6 c.t v
 have := Xmd (Ju c.f v) (Ju c.t v)
 omega
theorem Xgl (c : CrvV) (v : VecV) (hs : CrvV.ht c + VecV.ht v ≤ 268435451) : CS Tryz.prog 64 [.rptr (Xz c), .rptr (Xt v)] (Xl (Jc c v)) := by
 refine cO 12 Tryz.func64 ?_
 have := X3z c
 have := X5b c
 have := Xe6 c.f v
 have := Xe6 c.t v
 refine sh 2 [tv 2 (pb 2), bv 2 (Xl (J9 (Ju c.f v) (Ju c.t v)))] (oS (oT 1 oN) (oS (oT 3 (oC (Xj0 c.f v (by omega)) (oT 3 (oC (Xj0 c.t v (by omega)) (oC (Xmo (Ju c.f v) (Ju c.t v) (by omega)) (oT 1 oN)))))) oN)) ?_
 exact Xg (lv Xl (J9 (Ju c.f v) (Ju c.t v)) (by unfold Jc; rfl))
def Yc (c : CrvV) (v : VecV) : RootV := (Xjk c (fun s1 => (bif (!(Kh s1 (Xb0 v))) then (Jc (CrvV.seg s1) v) else (Z6 (Xq (Xb v (Zc s1.l v)) (Xb v (Zc s1.l v)))))) (fun a2 => (bif (!(Ki (CrvV.arc a2) (Xb (Xv a2) v))) then (Jc (CrvV.arc a2) v) else (Yp (Xq (Xb (Xv a2) v) (Xb (Xv a2) v) + a2.k.q) (((-2) : Int) : Rat) (Xq (Xb (Xv a2) v) (Xb (Xv a2) v) * a2.k.q)))))
theorem Xcq (c : CrvV) (v : VecV) : RootV.ht (Yc c v) ≤ 16 * (CrvV.ht c + VecV.ht v) + 39 := by
 rcases c with s1 | a2
 ·
  rcases X7 (!(Kh s1 (Xb0 v))) with k6 | k6
  ·
   rw [show (Yc (CrvV.seg s1) v) = (Jc (CrvV.seg s1) v) by unfold Yc; simp only [k6, X72]]
   have : CrvV.ht (CrvV.seg s1) = SegV.ht s1 := rfl
   have := Xgn (CrvV.seg s1) v
   omega
  ·
   rw [show (Yc (CrvV.seg s1) v) = (Z6 (Xq (Xb v (Zc s1.l v)) (Xb v (Zc s1.l v)))) by unfold Yc; simp only [k6, X72]]
   have : CrvV.ht (CrvV.seg s1) = SegV.ht s1 := rfl
   have := SegV.htd s1
   have := Xg2 s1.l v
   have := Yz v (Zc s1.l v)
   have := Ko (Xb v (Zc s1.l v)) (Xb v (Zc s1.l v))
   have := Xfd (Xq (Xb v (Zc s1.l v)) (Xb v (Zc s1.l v)))
   omega
 ·
  rcases X7 (!(Ki (CrvV.arc a2) (Xb (Xv a2) v))) with k7 | k7
  ·
   rw [show (Yc (CrvV.arc a2) v) = (Jc (CrvV.arc a2) v) by unfold Yc; simp only [k7, X72]]
   have : CrvV.ht (CrvV.arc a2) = ArcV.ht a2 := rfl
   have := Xgn (CrvV.arc a2) v
   omega
  ·
   rw [show (Yc (CrvV.arc a2) v) = (Yp (Xq (Xb (Xv a2) v) (Xb (Xv a2) v) + a2.k.q) (((-2) : Int) : Rat) (Xq (Xb (Xv a2) v) (Xb (Xv a2) v) * a2.k.q)) by unfold Yc; simp only [k7, X72]]
   have : CrvV.ht (CrvV.arc a2) = ArcV.ht a2 := rfl
   have := Xcu a2
   have := Yz (Xv a2) v
   have := Ko (Xb (Xv a2) v) (Xb (Xv a2) v)
   have := ArcV.htd a2
   have := CiV.htd a2.k
   have := Xcc (Xq (Xb (Xv a2) v) (Xb (Xv a2) v)) a2.k.q
   have := J4 (-2) (by omega) (by omega)
   have := Z1 (Xq (Xb (Xv a2) v) (Xb (Xv a2) v)) a2.k.q
   have := Xbd (Xq (Xb (Xv a2) v) (Xb (Xv a2) v) + a2.k.q) (((-2) : Int) : Rat) (Xq (Xb (Xv a2) v) (Xb (Xv a2) v) * a2.k.q)
   omega
theorem Xcm (c : CrvV) (v : VecV) (hs : CrvV.ht c + VecV.ht v ≤ 71582784) : CS Tryz.prog 16 [Xz c, Xt v] (Xl (Yc c v)) := by
 refine cO 55 Tryz.func16 ?_
 refine sh 2 [tv 2 (pb 2), tv 3 (pb 3), tv 4 (pb 4), tv 5 (.clo 64 [(2, 1), (3, 1)]), (.b 2, ⟨1, false, Xz c⟩), (.b 3, ⟨1, false, Xt v⟩), bv 4 X61] (oS (oT 3 oN) (oS (oT 2 oN) oN)) ?_
 refine Xe ?_
 refine Xe ?_
 rcases c with s1 | a2
 ·
  refine rh [tv 2 (pb 2), tv 3 (pb 3), tv 4 (pb 4), tv 5 (.clo 64 [(2, 1), (3, 1)]), tv 12 (.bool true), (.b 2, ⟨1, false, Xz (CrvV.seg s1)⟩), (.b 3, ⟨1, false, Xt v⟩), bv 4 X61] (oT 1 (oO (oB false) (oO (oB true) (oA [.rptr (.bool false), .rptr (.bool true)] oN)))) ?_
  refine cB (true) (fun _ => ?_) (fun h => Bool.noConfusion h)
  refine Xe ?_
  refine Xe ?_
  have : CrvV.ht (CrvV.seg s1) = SegV.ht s1 := rfl
  have := Xuw v
  refine rh [tv 2 (pb 2), tv 3 (pb 3), tv 4 (pb 4), tv 5 (.clo 64 [(2, 1), (3, 1)]), tv 17 (.bool (!(Kh s1 (Xb0 v)))), (.b 2, ⟨1, false, Xz (CrvV.seg s1)⟩), (.b 3, ⟨1, false, Xt v⟩), bv 4 X61] (oT 2 (oC (Xvn v) (oC (Xlz s1 (Xb0 v) (by omega)) (oO (oB (!(Kh s1 (Xb0 v)))) (oA [.rptr (.bool (!(Kh s1 (Xb0 v))))] oN))))) ?_
  refine cB ((!(Kh s1 (Xb0 v)))) (fun h3 => ?_) (fun h3 => ?_)
  ·
   refine Xe ?_
   have : CrvV.ht (CrvV.seg s1) = SegV.ht s1 := rfl
   refine rh [tv 2 (pb 2), tv 3 (pb 3), tv 4 (pb 4), tv 5 (.clo 64 [(2, 1), (3, 1)]), (.b 2, ⟨1, false, Xz (CrvV.seg s1)⟩), (.b 3, ⟨1, false, Xt v⟩), bv 4 (Xl (Jc (CrvV.seg s1) v))] (oT 1 (oC (Xgl (CrvV.seg s1) v (by omega)) (oT 1 oN))) ?_
   exact Xg (lv Xl (Jc (CrvV.seg s1) v) (by unfold Yc; simp only [h3, Xdt h3, X72]))
  ·
   refine Xn ?_
   have : CrvV.ht (CrvV.seg s1) = SegV.ht s1 := rfl
   have := SegV.htd s1
   have := Xg2 s1.l v
   have : CrvV.ht (CrvV.seg s1) = SegV.ht s1 := rfl
   have := SegV.htd s1
   have := Xg2 s1.l v
   have := Yz v (Zc s1.l v)
   refine sh 2 [tv 2 (pb 2), tv 3 (pb 3), tv 4 (pb 4), tv 5 (.clo 64 [(2, 1), (3, 1)]), (.b 2, ⟨1, false, Xz (CrvV.seg s1)⟩), (.b 3, ⟨1, false, Xt v⟩), bv 4 (Xl (Z6 (Xq (Xb v (Zc s1.l v)) (Xb v (Zc s1.l v)))))] (oS (oT 4 (oC (Xpb s1.l v (by omega)) (oC (Kl v (Zc s1.l v) (by omega)) (oT 2 oN)))) (oS (oT 2 (oC (Xcd (Xb v (Zc s1.l v)) (Xb v (Zc s1.l v)) (by omega)) (oC (Xfa (Xq (Xb v (Zc s1.l v)) (Xb v (Zc s1.l v)))) (oT 1 oN)))) oN)) ?_
   exact Xg (lv Xl (Z6 (Xq (Xb v (Zc s1.l v)) (Xb v (Zc s1.l v)))) (by unfold Yc; simp only [h3, Xas h3, X72]))
 ·
  refine rh [tv 2 (pb 2), tv 3 (pb 3), tv 4 (pb 4), tv 5 (.clo 64 [(2, 1), (3, 1)]), tv 12 (.bool false), (.b 2, ⟨1, false, Xz (CrvV.arc a2)⟩), (.b 3, ⟨1, false, Xt v⟩), bv 4 X61] (oT 1 (oO (oB true) (oO (oB false) (oA [.rptr (.bool true), .rptr (.bool false)] oN)))) ?_
  refine cB (false) (fun h => Bool.noConfusion h) (fun _ => ?_)
  refine Xn ?_
  refine Xe ?_
  have : CrvV.ht (CrvV.arc a2) = ArcV.ht a2 := rfl
  have := Xcu a2
  refine rh [tv 2 (pb 2), tv 4 (pb 4), tv 5 (.clo 64 [(2, 1), (3, 1)]), tv 7 (pb 7), (.b 2, ⟨1, false, Xz (CrvV.arc a2)⟩), (.b 3, ⟨1, false, Xt v⟩), bv 4 X61, bv 7 (Xt (Xb (Xv a2) v))] (oT 1 (oC (Xlw a2) (oT 1 (oC (Kl (Xv a2) v (by omega)) (oT 2 oN))))) ?_
  refine Xe ?_
  refine Xe ?_
  have : CrvV.ht (CrvV.arc a2) = ArcV.ht a2 := rfl
  have := Xcu a2
  have := Yz (Xv a2) v
  refine rh [tv 2 (pb 2), tv 4 (pb 4), tv 5 (.clo 64 [(2, 1), (3, 1)]), tv 7 (pb 7), tv 37 (.bool (!(Ki (CrvV.arc a2) (Xb (Xv a2) v)))), (.b 2, ⟨1, false, Xz (CrvV.arc a2)⟩), (.b 3, ⟨1, false, Xt v⟩), bv 4 X61, bv 7 (Xt (Xb (Xv a2) v))] (oT 2 (oC (Xmj (CrvV.arc a2) (Xb (Xv a2) v) (by omega)) (oO (oB (!(Ki (CrvV.arc a2) (Xb (Xv a2) v)))) (oA [.rptr (.bool (!(Ki (CrvV.arc a2) (Xb (Xv a2) v))))] oN)))) ?_
  refine cB ((!(Ki (CrvV.arc a2) (Xb (Xv a2) v)))) (fun h4 => ?_) (fun h4 => ?_)
  ·
   refine Xe ?_
   have : CrvV.ht (CrvV.arc a2) = ArcV.ht a2 := rfl
   refine rh [tv 2 (pb 2), tv 4 (pb 4), tv 7 (pb 7), (.b 2, ⟨1, false, Xz (CrvV.arc a2)⟩), bv 4 (Xl (Jc (CrvV.arc a2) v)), bv 7 (Xt (Xb (Xv a2) v))] (oT 1 (oC (Xgl (CrvV.arc a2) v (by omega)) (oT 1 oN))) ?_
   exact Xg (lv Xl (Jc (CrvV.arc a2) v) (by unfold Yc; simp only [h4, Xdt h4, X72]))
  ·
   refine Xn ?_
   have : CrvV.ht (CrvV.arc a2) = ArcV.ht a2 := rfl
   have := Xcu a2
   have := Yz (Xv a2) v
   have : CrvV.ht (CrvV.arc a2) = ArcV.ht a2 := rfl
   have := Xcu a2
   have := Yz (Xv a2) v
   have := Ko (Xb (Xv a2) v) (Xb (Xv a2) v)
   have := ArcV.htd a2
   have := CiV.htd a2.k
   have := Xcc (Xq (Xb (Xv a2) v) (Xb (Xv a2) v)) a2.k.q
   have := J4 (-2) (by omega) (by omega)
   have := Z1 (Xq (Xb (Xv a2) v) (Xb (Xv a2) v)) a2.k.q
   refine sh 2 [tv 4 (pb 4), bv 4 (Xl (Yp (Xq (Xb (Xv a2) v) (Xb (Xv a2) v) + a2.k.q) (((-2) : Int) : Rat) (Xq (Xb (Xv a2) v) (Xb (Xv a2) v) * a2.k.q)))] (oS (oT 2 (oC (Xcd (Xb (Xv a2) v) (Xb (Xv a2) v) (by omega)) (oT 2 oN))) (oS (oT 4 (oC (Xe9 (Xq (Xb (Xv a2) v) (Xb (Xv a2) v)) a2.k.q (by omega)) (oC (Kr (-2) (by omega) (by omega)) (oT 4 (oC (Xaa (Xq (Xb (Xv a2) v) (Xb (Xv a2) v)) a2.k.q (by omega)) (oC (Xcf (Xq (Xb (Xv a2) v) (Xb (Xv a2) v) + a2.k.q) (((-2) : Int) : Rat) (Xq (Xb (Xv a2) v) (Xb (Xv a2) v) * a2.k.q) (by omega)) (oT 1 oN))))))) oN)) ?_
   exact Xg (lv Xl (Yp (Xq (Xb (Xv a2) v) (Xb (Xv a2) v) + a2.k.q) (((-2) : Int) : Rat) (Xq (Xb (Xv a2) v) (Xb (Xv a2) v) * a2.k.q)) (by unfold Yc; simp only [h4, Xas h4, X72]))
def Xdw (c : CrvV) (v : VecV) (r : Rat) : Int := (bif (decide (Int.sign (Rat.num r) < 0)) then 1 else (Yg (Yc c v) (r * r)))
theorem Xjr (c : CrvV) (v : VecV) (r : Rat) (hs : CrvV.ht c + VecV.ht v + X6p r ≤ 71582784) : CS Tryz.prog 21 [Xz c, Xt v, Xc r] (ki (Xdw c v r)) := by
 refine cO 17 Tryz.func21 ?_
 refine rt [tv 3 (pb 3), tv 4 (pb 4), tv 5 (pb 5), tv 6 (ki 0), bv 3 (Xz c), bv 4 (Xt v), bv 5 (Xc r)] (oT 4 oN) ?_
 refine Xe ?_
 refine rt [tv 3 (pb 3), tv 4 (pb 4), tv 5 (pb 5), tv 6 (ki 0), tv 9 (.bool (decide (Int.sign (Rat.num r) < 0))), bv 3 (Xz c), bv 4 (Xt v), bv 5 (Xc r)] (oT 1 (oC (Yd r) (oO (oB (decide (Int.sign (Rat.num r) < 0))) (oA [cT (decide (Int.sign (Rat.num r) < 0))] oN)))) ?_
 refine cB (decide (Int.sign (Rat.num r) < 0)) (fun h1 => ?_) (fun h1 => ?_)
 ·
  have h1' := of_decide_eq_true h1
  refine rt [tv 3 (pb 3), tv 4 (pb 4), tv 5 (pb 5), tv 6 (ki 1), bv 3 (Xz c), bv 4 (Xt v), bv 5 (Xc r)] (oT 1 oN) ?_
  exact Xg (lv ki 1 (by unfold Xdw; simp only [h1, X72]))
 ·
  have h1' := of_decide_eq_false h1
  refine Xn ?_
  refine Xe ?_
  have := Xcq c v
  have := Z1 r r
  refine rh [tv 6 (ki (Yg (Yc c v) (r * r)))] (oT 2 (oC (Xcm c v (by omega)) (oT 2 (oC (Xaa r r (by omega)) (oC (Xfx (Yc c v) (r * r) (by omega)) (oT 1 oN)))))) ?_
  exact Xg (lv ki (Yg (Yc c v) (r * r)) (by unfold Xdw; simp only [h1, X72]))
open Go Go.RowKit
def PtV.ok (p : PtV) : Prop := 0 ≤ p.c
def LnV.ok (l : LnV) : Prop := ¬ ((l.a * l.a) + (l.b * l.b)) = 0
def SegV.ok (s : SegV) : Prop := s.f.ok ∧ s.t.ok ∧ s.l.ok
def ArcV.ok (a : ArcV) : Prop := a.f.ok ∧ a.t.ok ∧ 0 ≤ a.k.q
def CrvV.ok (c : CrvV) : Prop := Xjk c SegV.ok ArcV.ok
theorem Xm7 (a b : Rat) {c : Rat} (h : 0 ≤ c) : ¬ Kj a b c = none := by
  unfold Kj
  have h1 : decide (Int.sign c.num < 0) = false := by
    have : 0 ≤ c.num := Rat.num_nonneg.2 h
    rw [decide_eq_false_iff_not, Int.sign_neg_iff]; omega
  rw [h1]
  rcases Xbs (Xg7 c) with h2 | ⟨x, h2⟩ <;> simp [h2, Xib, Xxh]
theorem Xp7 (r : RootV) : X2 r r = (r.c, true) := by
  unfold X2
  cases decide (Int.sign r.b.num = 0)
  · simp [Xs3]
  · rfl
theorem Xku (r : RootV) : ¬ Xay r r = none := by
  unfold Xay; rw [Xp7]; simp
def Zq (r : RootV) : RootV := (Xfb (Xay r r) (fun r2 => r2) (Y9 ((0 : Int) : Rat)))
theorem Xgo (r : RootV) : RootV.ht (Zq r) ≤ 8 * RootV.ht r + 8 := by
  rcases Xbs (Xay r r) with k3 | ⟨r2, k3⟩
  · exact absurd k3 (by first | exact Xku _ | exact Xm7 _ _ (by assumption) | exact Xrl _)
  ·
    rw [show (Zq r) = r2 by unfold Zq; simp only [k3, X72]]
    have := Xx8 r r _ k3
    omega
theorem Xlx (r : RootV) (hs : RootV.ht r ≤ 4294967296) : CS Tryz.prog 120 [Xl r] (Xl (Zq r)) := by
 refine cO 12 Tryz.func120 ?_
 refine rt [tv 1 (pb 1), tv 2 (pb 2), bv 1 (Xl r), bv 2 X61] (oT 2 oN) ?_
 refine Xe ?_
 rcases Xbs (Xay r r) with h1 | ⟨r2, h1⟩
 ·
  exact absurd h1 (by first | exact Xku _ | exact Xm7 _ _ (by assumption) | exact Xrl _)
 ·
  refine rh [tv 2 (pb 2), tv 3 (pb 3), bv 2 X61, bv 3 (Xl r2)] (oT 2 (oO (Jl (Xxf r r (by omega)) (by rw [h1]; rfl) : CS Tryz.prog 209 [Xl r, Xl r] (.tup [Xl r2, ki 0])) (oT 6 (oA [.tup [Xl r2, ki 0]] oN)))) ?_
  refine rt [tv 2 (pb 2), bv 2 (Xl r2)] (oT 2 oN) ?_
  exact Xg (lv Xl r2 (by unfold Zq; simp only [h1, X72]))
theorem Xwf (b : Rat) : (Int.sign b.num = 0) ↔ b = 0 := by
  rw [Int.sign_eq_zero_iff_zero, Rat.num_eq_zero]
theorem X39 (r : RootV) : (Zq r).b = 0 ∨ ((Zq r).c = r.c ∧ r.b ≠ 0) := by
  have h : Xay r r = some (Z4 ((r.a * r.a) + ((r.b * r.b) * r.c)) ((r.a * r.b) + (r.b * r.a)) r.c) := by
    unfold Xay; rw [Xp7]; rfl
  unfold Zq; rw [h, Xib]
  unfold Z4
  rcases X7 (decide (Int.sign ((r.a * r.b) + (r.b * r.a)).num = 0)) with h1 | h1
  · rw [h1]; exact Or.inl rfl
  · rw [h1]
    rcases X7 (decide (Int.sign r.c.num = 0)) with h2 | h2
    · rw [h2]; exact Or.inl rfl
    · rw [h2]; refine Or.inr ⟨rfl, fun hb => ?_⟩
      rw [decide_eq_false_iff_not, Xwf, hb] at h1
      exact h1 (by rw [Rat.mul_zero, Rat.zero_mul, Rat.add_zero])
theorem Xy8 {a b c : Rat} (h : (Zo a b c).b ≠ 0) : (Zo a b c).c = c := by
  unfold Zo at *
  rcases X7 (decide (Int.sign b.num = 0)) with h1 | h1 <;> rw [h1] at h ⊢
  · exact absurd rfl h
  · rfl
theorem Xrl (d : PtV) : ¬ Xbl (Zq (Yi d)) (Zq (Jk d)) = none := by
  unfold Xbl
  have : (X2 (Zq (Yi d)) (Zq (Jk d))).2 = true := by
    unfold X2
    rcases X39 (Yi d) with h | ⟨h, h'⟩
    · rw [h]; rfl
    · rcases X39 (Jk d) with k | ⟨k, k'⟩
      · rw [k]; cases decide (Int.sign (Zq (Yi d)).b.num = 0) <;> rfl
      · have e1 := Xy8 h'; have e2 := Xy8 k'
        have : (Yi d).c = (Jk d).c := e1.trans e2.symm
        rw [h, k, this]
        cases decide (Int.sign (Zq (Yi d)).b.num = 0) <;> cases decide (Int.sign (Zq (Jk d)).b.num = 0) <;> simp [Xs3]
  rw [this]; simp
theorem Xer {D : Rat} (h : decide (Int.sign D.num = 0) = false) : ¬ D + D = 0 := fun e => by
  rw [decide_eq_false_iff_not, Xwf] at h; exact h (by grind)
theorem Xdo (a b : Rat) (hs : X6p a + X6p b ≤ 17179869184) : CS Tryz.prog 140 [Xc a, Xc b] (Xc (a + b)) := by
 refine cO 8 Tryz.func140 ?_
 refine sh 2 [tv 4 (pb 4), bv 4 (Xc (a + b))] (oS (oT 3 oN) (oS (oT 2 (oC (Xby a b (by omega)) (oT 1 oN))) oN)) ?_
 refine Xg ?_
 exact X7i ((Xc (a + b))) (rfl)
theorem Xal (a b : Rat) : X6p (a + b) ≤ 1 * (X6p a + X6p b) + 1 := Xj1 a b
theorem Xdj (a b : Rat) (hs : X6p a + X6p b ≤ 17179869184) : CS Tryz.prog 143 [Xc a, Xc b] (Xc (a - b)) := by
 refine cO 8 Tryz.func143 ?_
 refine sh 2 [tv 4 (pb 4), bv 4 (Xc (a - b))] (oS (oT 3 oN) (oS (oT 2 (oC (Xc5 a b (by omega)) (oT 1 oN))) oN)) ?_
 refine Xg ?_
 exact X7i ((Xc (a - b))) (rfl)
theorem Y7 (a b : Rat) : X6p (a - b) ≤ 1 * (X6p a + X6p b) + 1 := Xnl a b
theorem K7 (a b : Rat) (hs : X6p a + X6p b ≤ 17179869184) : CS Tryz.prog 141 [Xc a, Xc b] (Xc (a * b)) := by
 refine cO 8 Tryz.func141 ?_
 refine sh 2 [tv 4 (pb 4), bv 4 (Xc (a * b))] (oS (oT 3 oN) (oS (oT 2 (oC (Ke a b (by omega)) (oT 1 oN))) oN)) ?_
 refine Xg ?_
 exact X7i ((Xc (a * b))) (rfl)
theorem Ym (a b : Rat) : X6p (a * b) ≤ 1 * (X6p a + X6p b) + 0 := Xmx a b
theorem Xrs (a b : Rat) (hs : X6p a + X6p b ≤ 17179869184) (hb : ¬ b = 0) : CS Tryz.prog 142 [Xc a, Xc b] (Xc (a / b)) := by
 refine cO 14 Tryz.func142 ?_
 refine sh 3 [tv 4 (pb 4), bv 4 (Xc (a / b))] (oS (oT 3 oN) (oS (oT 2 (oO (Jl (Xq1 a b (by omega)) (by unfold Xsp; rw [decide_eq_false hb]; rfl) : CS Tryz.prog 217 [Xc a, Xc b] (.tup [Xc (a / b), ki 0])) (oT 6 oN))) (oS (oT 2 (oA [.tup [Xc (a / b), ki 0]] oN)) oN))) ?_
 refine Xg ?_
 exact X7i ((Xc (a / b))) (rfl)
theorem Xkh (a b : Rat) (hb : ¬ b = 0) : X6p (a / b) ≤ 1 * (X6p a + X6p b) + 0 := Xu3 a b
def Zy (c : CiV) (p : PtV) : Bool := (bif (decide (0 < Zp (Jk p) c.y)) then (bif (decide (Zp (Jk p) c.y = 0)) then true else true) else (bif (decide (Zp (Jk p) c.y = 0)) then (decide (0 < Zp (Yi p) c.x)) else false))
theorem Xnp (c : CiV) (p : PtV) (hs : CiV.ht c + PtV.ht p ≤ 8589934585) : CS Tryz.prog 267 [Xbf c, Xr p] (.bool (Zy c p)) := by
 refine cO 25 Tryz.func267 ?_
 have := Xl9 p
 have := CiV.htd c
 refine sh 2 [tv 2 (pb 2), tv 3 (pb 3), tv 4 (.bool false), tv 5 (ki (Zp (Jk p) c.y)), bv 2 (Xbf c), bv 3 (Xr p)] (oS (oT 3 oN) (oS (oT 1 (oC (Xon p) (oT 2 (oC (Xlo (Jk p) c.y (by omega)) (oT 1 oN))))) oN)) ?_
 refine Xe ?_
 rcases X7 (decide (0 < Zp (Jk p) c.y)) with h1 | h1
 ·
  have h1' := of_decide_eq_true h1
  rcases X7 (decide (Zp (Jk p) c.y = 0)) with h2 | h2
  ·
   have h2' := of_decide_eq_true h2
   refine rh [tv 4 (.bool true)] (oT 1 (oO (aI trivial (h1 : (decide (0 < Zp (Jk p) c.y)) = true)) (oT 1 (oO (gn [false]) (oO (gn [true]) (oO (gn [true]) (oO (gn [false]) (oO (gn [true]) (oO (gn [false]) (oO (gn [true]) (oO (gn [true, true]) (oO (gn [true]) (oO (gn [true, true]) (oT 2 (oA [cT true, cT true, Xl (Yi p), ki (Zp (Yi p) c.x), cT (decide (0 < Zp (Yi p) c.x))] oN))))))))))))))) ?_
   exact Xg (lv AV.bool true (by unfold Zy; simp only [h1, h2, X72]))
  ·
   have h2' := of_decide_eq_false h2
   refine rh [tv 4 (.bool true)] (oT 1 (oO (aI trivial (h1 : (decide (0 < Zp (Jk p) c.y)) = true)) (oT 1 (oO (gn [false]) (oO (gn [true]) (oO (gn [true]) (oO (gn [false]) (oO (gn [true]) (oO (gn [false]) (oO (gn [true]) (oO (gn [true, true]) (oO (gn [true]) (oO (gn [true, true]) (oT 2 (oA [cT true, cT false, Xl (Yi p), ki (Zp (Yi p) c.x), cT (decide (0 < Zp (Yi p) c.x))] oN))))))))))))))) ?_
   exact Xg (lv AV.bool true (by unfold Zy; simp only [h1, h2, X72]))
 ·
  have h1' := of_decide_eq_false h1
  rcases X7 (decide (Zp (Jk p) c.y = 0)) with h3 | h3
  ·
   have h3' := of_decide_eq_true h3
   have := Xij p
   have := CiV.htd c
   refine rh [tv 4 (.bool (decide (0 < Zp (Yi p) c.x)))] (oT 1 (oO (aI trivial (h1 : (decide (0 < Zp (Jk p) c.y)) = false)) (oT 1 (oO (Xh 1 trivial) (oO (Xh 1 (aI trivial (h3 : (decide (Zp (Jk p) c.y = 0)) = true))) (oO (Xh 1 trivial) (oO (Xh 1 trivial) (oO (Xh 1 (Xkj p)) (oO (Xh 1 trivial) (oO (Xh 1 trivial) (oO (Xh 2 (Xlo (Yi p) c.x (by omega))) (oO (Xh 1 (oB (decide (0 < Zp (Yi p) c.x)))) (oO (Xh 2 trivial) (oT 2 (oA [cT false, cT true, Xl (Yi p), ki (Zp (Yi p) c.x), cT (decide (0 < Zp (Yi p) c.x))] oN))))))))))))))) ?_
   exact Xg (lv AV.bool (decide (0 < Zp (Yi p) c.x)) (by unfold Zy; simp only [h1, h3, X72]))
  ·
   have h3' := of_decide_eq_false h3
   refine rh [tv 4 (.bool false)] (oT 1 (oO (aI trivial (h1 : (decide (0 < Zp (Jk p) c.y)) = false)) (oT 1 (oO (Xh 1 trivial) (oO (Xh 1 (aI trivial (h3 : (decide (Zp (Jk p) c.y = 0)) = false))) (oO (Xh 1 trivial) (oO (gn [false]) (oO (gn [true]) (oO (gn [false]) (oO (gn [true]) (oO (gn [true, true]) (oO (gn [true]) (oO (Xh 1 trivial) (oT 2 (oA [cT false, cT false, Xl (Yi p), ki (Zp (Yi p) c.x), cT (decide (0 < Zp (Yi p) c.x))] oN))))))))))))))) ?_
   exact Xg (lv AV.bool false (by unfold Zy; simp only [h1, h3, X72]))
def Ka (p : PtV) : PtV := (⟨(-p.ax), (-p.bx), p.ay, p.byy, p.c⟩ : PtV)
theorem Xiw (p : PtV) : PtV.ht (Ka p) ≤ 1 * PtV.ht p + 0 := by
 rw [show (Ka p) = (⟨(-p.ax), (-p.bx), p.ay, p.byy, p.c⟩ : PtV) by unfold Ka; rfl]
 have := PtV.htd p
 have := Xe2 p.ax
 have := Xe2 p.bx
 have := PtV.htm (-p.ax) (-p.bx) p.ay p.byy p.c
 omega
theorem Xix (p : PtV) (hs : PtV.ht p ≤ 17179869184) : CS Tryz.prog 167 [Xr p] (Xr (Ka p)) := by
 refine cO 12 Tryz.func167 ?_
 have := PtV.htd p
 refine sh 3 [tv 2 (pb 2), bv 2 (.st [Xc (-p.ax), Xc (-p.bx), Xc p.ay, Xc p.byy, Xc p.c])] (oS (oT 2 oN) (oS (oT 2 (oC (Xe0 p.ax (by omega)) (oT 2 (oC (Xe0 p.bx (by omega)) (oT 4 oN))))) (oS (oT 2 oN) oN))) ?_
 exact Xg (lv Xr (⟨(-p.ax), (-p.bx), p.ay, p.byy, p.c⟩ : PtV) (by unfold Ka; rfl))
def Jh (a : VecV) (b : VecV) (c : VecV) : Int := (Xb3 ((b.x - a.x) * (c.y - a.y)) ((b.y - a.y) * (c.x - a.x)))
theorem Xvs (a : VecV) (b : VecV) (c : VecV) (hs : VecV.ht a + VecV.ht b + VecV.ht c ≤ 8589934590) : CS Tryz.prog 129 [Xt a, Xt b, Xt c] (ki (Jh a b c)) := by
 refine cO 34 Tryz.func129 ?_
 have := VecV.htd b
 have := VecV.htd a
 have := VecV.htd c
 have := Xch b.x a.x
 have := Xch c.y a.y
 have := VecV.htd b
 have := VecV.htd a
 have := VecV.htd c
 have := Xch b.y a.y
 have := Xch c.x a.x
 have := VecV.htd b
 have := VecV.htd a
 have := Xch b.x a.x
 have := VecV.htd c
 have := Xch c.y a.y
 have := Zb (b.x - a.x) (c.y - a.y)
 have := Xch b.y a.y
 have := Xch c.x a.x
 have := Zb (b.y - a.y) (c.x - a.x)
 refine sh 4 [tv 6 (ki (Xb3 ((b.x - a.x) * (c.y - a.y)) ((b.y - a.y) * (c.x - a.x))))] (oS (oT 4 oN) (oS (oT 4 (oC (Xc5 b.x a.x (by omega)) (oT 4 (oC (Xc5 c.y a.y (by omega)) (oC (Ke (b.x - a.x) (c.y - a.y) (by omega)) (oT 2 oN)))))) (oS (oT 4 (oC (Xc5 b.y a.y (by omega)) (oT 4 (oC (Xc5 c.x a.x (by omega)) (oC (Ke (b.y - a.y) (c.x - a.x) (by omega)) (oT 2 oN)))))) (oS (oT 2 (oC (Xh2 ((b.x - a.x) * (c.y - a.y)) ((b.y - a.y) * (c.x - a.x)) (by omega)) (oT 1 oN))) oN)))) ?_
 exact Xg (lv ki (Xb3 ((b.x - a.x) * (c.y - a.y)) ((b.y - a.y) * (c.x - a.x))) (by unfold Jh; rfl))
def Yb (s : SpotV) : VecV := (⟨Rat.divInt s.x (s.d + 1), Rat.divInt s.y (s.d + 1)⟩ : VecV)
theorem Xe1 (s : SpotV) (h0 : (-32768 ≤ s.x ∧ s.x < 32768) ∧ (-32768 ≤ s.y ∧ s.y < 32768) ∧ 0 ≤ s.d ∧ s.d < 256) : VecV.ht (Yb s) ≤ 6 := by
 rw [show (Yb s) = (⟨Rat.divInt s.x (s.d + 1), Rat.divInt s.y (s.d + 1)⟩ : VecV) by unfold Yb; rfl]
 have := Xpx s.x (s.d + 1) (by omega) (by omega) (by omega) (by omega)
 have := Xpx s.y (s.d + 1) (by omega) (by omega) (by omega) (by omega)
 have := VecV.htm (Rat.divInt s.x (s.d + 1)) (Rat.divInt s.y (s.d + 1))
 omega
theorem Xko (s : SpotV) (h0 : (-32768 ≤ s.x ∧ s.x < 32768) ∧ (-32768 ≤ s.y ∧ s.y < 32768) ∧ 0 ≤ s.d ∧ s.d < 256) : CS Tryz.prog 13 [Xcy s] (Xt (Yb s)) := by
 refine cO 19 Tryz.func13 ?_
 refine sh 3 [tv 2 (pb 2), bv 2 (Xt (⟨Rat.divInt s.x (s.d + 1), Rat.divInt s.y (s.d + 1)⟩ : VecV))] (oS (oT 2 oN) (oS (oT 2 (oO ((Xf0 (by omega) (by omega)).symm : s.d = IntKind.i64.wrap s.d) (oO (X3 (x := s.d) (y := 1) (by omega) (by omega)) (oT 1 oN)))) (oS (oT 2 (oO ((Xf0 (by omega) (by omega)).symm : s.x = IntKind.i64.wrap s.x) (oT 1 (oA [ki s.d, ki (s.d + 1), ki s.x] (oC (Xqf s.x (s.d + 1) (by omega) (by omega) (by omega) (by omega)) (oT 2 (oO ((Xf0 (by omega) (by omega)).symm : s.y = IntKind.i64.wrap s.y) (oT 1 (oA [ki s.y] (oC (Xqf s.y (s.d + 1) (by omega) (by omega) (by omega) (by omega)) (oT 2 oN))))))))))) oN))) ?_
 exact Xg (lv Xt (⟨Rat.divInt s.x (s.d + 1), Rat.divInt s.y (s.d + 1)⟩ : VecV) (by unfold Yb; rfl))
def Xa1 (p : PtV) (v : VecV) : RootV := (Xfb (Xbl (Zq (Yi (Yq p (Zx v)))) (Zq (Jk (Yq p (Zx v))))) (fun r2 => r2) (Y9 ((0 : Int) : Rat)))
theorem Xmc (p : PtV) (v : VecV) : RootV.ht (Xa1 p v) ≤ 32 * (PtV.ht p + VecV.ht v) + 296 := by
  rcases Xbs (Xbl (Zq (Yi (Yq p (Zx v)))) (Zq (Jk (Yq p (Zx v))))) with k3 | ⟨r2, k3⟩
  · exact absurd k3 (by first | exact Xku _ | exact Xm7 _ _ (by assumption) | exact Xrl _)
  ·
    rw [show (Xa1 p v) = r2 by unfold Xa1; simp only [k3, X72]]
    have := Xld v
    have := Xjg p (Zx v)
    have := Xij (Yq p (Zx v))
    have := Xgo (Yi (Yq p (Zx v)))
    have := Xl9 (Yq p (Zx v))
    have := Xgo (Jk (Yq p (Zx v)))
    have := Xx7 (Zq (Yi (Yq p (Zx v)))) (Zq (Jk (Yq p (Zx v)))) _ k3
    omega
theorem Xsk (p : PtV) (v : VecV) (hs : PtV.ht p + VecV.ht v ≤ 1073741815) : CS Tryz.prog 54 [Xr p, Xt v] (Xl (Xa1 p v)) := by
 refine cO 23 Tryz.func54 ?_
 have := Xld v
 refine sh 2 [tv 4 (pb 4), tv 5 (pb 5), bv 4 X61, bv 5 (Xr (Yq p (Zx v)))] (oS (oT 3 oN) (oS (oT 2 (oC (Xvg v (by omega)) (oC (Xof p (Zx v) (by omega)) (oT 2 oN)))) oN)) ?_
 refine Xe ?_
 rcases Xbs (Xbl (Zq (Yi (Yq p (Zx v)))) (Zq (Jk (Yq p (Zx v))))) with h1 | ⟨r2, h1⟩
 ·
  exact absurd h1 (by first | exact Xku _ | exact Xm7 _ _ (by assumption) | exact Xrl _)
 ·
  have := Xld v
  have := Xjg p (Zx v)
  have := Xij (Yq p (Zx v))
  have := Xl9 (Yq p (Zx v))
  have := Xgo (Yi (Yq p (Zx v)))
  have := Xgo (Jk (Yq p (Zx v)))
  refine rh [tv 4 (pb 4), tv 6 (pb 6), bv 4 X61, bv 6 (Xl r2)] (oT 1 (oC (Xkj (Yq p (Zx v))) (oC (Xlx (Yi (Yq p (Zx v))) (by omega)) (oT 1 (oC (Xon (Yq p (Zx v))) (oC (Xlx (Jk (Yq p (Zx v))) (by omega)) (oO (Jl (Xxk (Zq (Yi (Yq p (Zx v)))) (Zq (Jk (Yq p (Zx v)))) (by omega)) (by rw [h1]; rfl) : CS Tryz.prog 137 [Xl (Zq (Yi (Yq p (Zx v)))), Xl (Zq (Jk (Yq p (Zx v))))] (.tup [Xl r2, ki 0])) (oT 6 (oA [.tup [Xl r2, ki 0]] oN))))))))) ?_
  refine rt [tv 4 (pb 4), bv 4 (Xl r2)] (oT 2 oN) ?_
  exact Xg (lv Xl r2 (by unfold Xa1; simp only [h1, X72]))
def Xcr (l : LnV) (p : PtV) : RootV := (Xfb (Kj (((l.a * p.ax) + (l.b * p.ay)) - l.c) ((l.a * p.bx) + (l.b * p.byy)) p.c) (fun r2 => r2) (Y9 ((0 : Int) : Rat)))
theorem Xtj (l : LnV) (p : PtV) (hp : PtV.ok p) : RootV.ht (Xcr l p) ≤ 2 * (LnV.ht l + PtV.ht p) + 10 := by
  rcases Xbs (Kj (((l.a * p.ax) + (l.b * p.ay)) - l.c) ((l.a * p.bx) + (l.b * p.byy)) p.c) with k3 | ⟨r2, k3⟩
  · exact absurd k3 (by first | exact Xku _ | exact Xm7 _ _ (by assumption) | exact Xrl _)
  ·
    rw [show (Xcr l p) = r2 by unfold Xcr; simp only [k3, X72]]
    have := LnV.htd l
    have := PtV.htd p
    have := Ym l.a p.ax
    have := Ym l.b p.ay
    have := Xal (l.a * p.ax) (l.b * p.ay)
    have := Y7 ((l.a * p.ax) + (l.b * p.ay)) l.c
    have := Ym l.a p.bx
    have := Ym l.b p.byy
    have := Xal (l.a * p.bx) (l.b * p.byy)
    have := Xqb (((l.a * p.ax) + (l.b * p.ay)) - l.c) ((l.a * p.bx) + (l.b * p.byy)) p.c _ k3
    omega
theorem Xsw (l : LnV) (p : PtV) (hs : LnV.ht l + PtV.ht p ≤ 8589934590) (hp : PtV.ok p) : CS Tryz.prog 121 [Xea l, Xr p] (Xl (Xcr l p)) := by
 refine cO 41 Tryz.func121 ?_
 have := LnV.htd l
 have := PtV.htd p
 have := Ym l.a p.ax
 have := Ym l.b p.ay
 have := Xal (l.a * p.ax) (l.b * p.ay)
 refine sh 2 [tv 2 (pb 2), tv 3 (pb 3), tv 4 (pb 4), tv 5 (pb 5), bv 2 (Xea l), bv 3 (Xr p), bv 4 X61, bv 5 (Xc (((l.a * p.ax) + (l.b * p.ay)) - l.c))] (oS (oT 3 oN) (oS (oT 4 (oC (K7 l.a p.ax (by omega)) (oT 4 (oC (K7 l.b p.ay (by omega)) (oC (Xdo (l.a * p.ax) (l.b * p.ay) (by omega)) (oT 2 (oC (Xdj ((l.a * p.ax) + (l.b * p.ay)) l.c (by omega)) (oT 2 oN)))))))) oN)) ?_
 refine Xe ?_
 rcases Xbs (Kj (((l.a * p.ax) + (l.b * p.ay)) - l.c) ((l.a * p.bx) + (l.b * p.byy)) p.c) with h1 | ⟨r2, h1⟩
 ·
  exact absurd h1 (by first | exact Xku _ | exact Xm7 _ _ (by assumption) | exact Xrl _)
 ·
  have := LnV.htd l
  have := PtV.htd p
  have := Ym l.a p.bx
  have := Ym l.b p.byy
  have := Ym l.a p.ax
  have := Ym l.b p.ay
  have := Xal (l.a * p.ax) (l.b * p.ay)
  have := Y7 ((l.a * p.ax) + (l.b * p.ay)) l.c
  have := Xal (l.a * p.bx) (l.b * p.byy)
  refine rh [tv 4 (pb 4), tv 6 (pb 6), bv 4 X61, bv 6 (Xl r2)] (oT 5 (oC (K7 l.a p.bx (by omega)) (oT 4 (oC (K7 l.b p.byy (by omega)) (oC (Xdo (l.a * p.bx) (l.b * p.byy) (by omega)) (oT 2 (oO (Jl (Xpj (((l.a * p.ax) + (l.b * p.ay)) - l.c) ((l.a * p.bx) + (l.b * p.byy)) p.c (by omega)) (by rw [h1]; rfl) : CS Tryz.prog 49 [Xc (((l.a * p.ax) + (l.b * p.ay)) - l.c), Xc ((l.a * p.bx) + (l.b * p.byy)), Xc p.c] (.tup [Xl r2, ki 0])) (oT 6 (oA [.tup [Xl r2, ki 0]] oN))))))))) ?_
  refine rt [tv 4 (pb 4), bv 4 (Xl r2)] (oT 2 oN) ?_
  exact Xg (lv Xl r2 (by unfold Xcr; simp only [h1, X72]))
def Z2 (c : CiV) (p : PtV) (q : PtV) : Int := (bif (!(Zy c p == Zy c q)) then (bif (Zy c q) then (-1) else 1) else (bif (Zy c p) then (-(Zv (Yi p) (Yi q))) else (Zv (Yi p) (Yi q))))
theorem Xke (c : CiV) (p : PtV) (q : PtV) (hs : CiV.ht c + PtV.ht p + PtV.ht q ≤ 2147483630) : CS Tryz.prog 229 [Xbf c, Xr p, Xr q] (ki (Z2 c p q)) := by
 refine cO 29 Tryz.func229 ?_
 refine sh 2 [tv 4 (pb 4), tv 5 (pb 5), tv 6 (ki 0), tv 7 (.bool (Zy c p)), tv 8 (.bool (Zy c q)), bv 4 (Xr p), bv 5 (Xr q)] (oS (oT 4 oN) (oS (oT 2 (oC (Xnp c p (by omega)) (oT 2 (oC (Xnp c q (by omega)) (oT 2 oN))))) oN)) ?_
 refine Xe ?_
 refine rt [tv 4 (pb 4), tv 5 (pb 5), tv 6 (ki 0), tv 7 (.bool (Zy c p)), tv 8 (.bool (Zy c q)), tv 18 (.bool (!(Zy c p == Zy c q))), bv 4 (Xr p), bv 5 (Xr q)] (oT 2 (oO (oB (!(Zy c p == Zy c q))) (oA [cT (!(Zy c p == Zy c q))] oN))) ?_
 refine cB ((!(Zy c p == Zy c q))) (fun h1 => ?_) (fun h1 => ?_)
 ·
  refine Xe ?_
  refine rt [tv 4 (pb 4), tv 5 (pb 5), tv 6 (ki 0), tv 7 (.bool (Zy c p)), tv 19 (.bool (Zy c q)), bv 4 (Xr p), bv 5 (Xr q)] (oT 1 oN) ?_
  refine cB (Zy c q) (fun h2 => ?_) (fun h2 => ?_)
  ·
   refine rt [tv 4 (pb 4), tv 5 (pb 5), tv 6 (ki (-1)), tv 7 (.bool (Zy c p)), bv 4 (Xr p), bv 5 (Xr q)] (oT 1 oN) ?_
   exact Xg (lv ki (-1) (by unfold Z2; (try simp only [h1, X72]) <;> (try simp only [Xdt h1, X72]) <;> (try simp only [h2, X72])))
  ·
   refine Xn ?_
   refine rt [tv 4 (pb 4), tv 5 (pb 5), tv 6 (ki 1), tv 7 (.bool (Zy c p)), bv 4 (Xr p), bv 5 (Xr q)] (oT 1 oN) ?_
   exact Xg (lv ki 1 (by unfold Z2; (try simp only [h1, X72]) <;> (try simp only [Xdt h1, X72]) <;> (try simp only [h2, X72])))
 ·
  refine Xn ?_
  refine Xe ?_
  have := Xij p
  have := Xij q
  refine rh [tv 6 (ki 0), tv 7 (.bool (Zy c p)), tv 9 (ki (Zv (Yi p) (Yi q)))] (oT 1 (oC (Xkj p) (oT 1 (oC (Xkj q) (oC (Xkr (Yi p) (Yi q) (by omega)) (oT 1 oN)))))) ?_
  refine Xe ?_
  refine rt [tv 6 (ki 0), tv 9 (ki (Zv (Yi p) (Yi q))), tv 25 (.bool (Zy c p))] (oT 1 oN) ?_
  refine cB (Zy c p) (fun h3 => ?_) (fun h3 => ?_)
  ·
   refine Xe ?_
   have := (Xng (Yi p) (Yi q))
   refine rh [tv 6 (ki (-(Zv (Yi p) (Yi q)))), tv 9 (ki (Zv (Yi p) (Yi q)))] (oT 1 (oO (Xhm (by omega) (by omega) : (-(Zv (Yi p) (Yi q))) = IntKind.i64.wrap (0 - Zv (Yi p) (Yi q))) (oT 1 (oA [ki (-(Zv (Yi p) (Yi q)))] oN)))) ?_
   exact Xg (lv ki (-(Zv (Yi p) (Yi q))) (by unfold Z2; (try simp only [h1, X72]) <;> (try simp only [Xas h1, X72]) <;> (try simp only [h3, X72])))
  ·
   refine Xn ?_
   refine rt [tv 6 (ki (Zv (Yi p) (Yi q)))] (oT 2 oN) ?_
   exact Xg (lv ki (Zv (Yi p) (Yi q)) (by unfold Z2; (try simp only [h1, X72]) <;> (try simp only [Xas h1, X72]) <;> (try simp only [h3, X72])))
def J2 (a : ArcV) : ArcV := (⟨(⟨(-a.k.x), a.k.y, a.k.q⟩ : CiV), (!a.cw), Ka a.f, Ka a.t⟩ : ArcV)
theorem Xsj (a : ArcV) : ArcV.ht (J2 a) ≤ 1 * ArcV.ht a + 0 := by
 rw [show (J2 a) = (⟨(⟨(-a.k.x), a.k.y, a.k.q⟩ : CiV), (!a.cw), Ka a.f, Ka a.t⟩ : ArcV) by unfold J2; rfl]
 have := ArcV.htd a
 have := CiV.htd a.k
 have := Xe2 a.k.x
 have := CiV.htm (-a.k.x) a.k.y a.k.q
 have := Xiw a.f
 have := Xiw a.t
 have := ArcV.htm (⟨(-a.k.x), a.k.y, a.k.q⟩ : CiV) (!a.cw) (Ka a.f) (Ka a.t)
 omega
theorem Xsh (a : ArcV) (hs : ArcV.ht a ≤ 17179869184) : CS Tryz.prog 166 [Xz (CrvV.arc a)] (Xz (CrvV.arc (J2 a))) := by
 refine cO 22 Tryz.func166 ?_
 have := ArcV.htd a
 have := CiV.htd a.k
 have := ArcV.htd a
 refine sh 4 [tv 2 (pb 2), bv 2 (.st [.bool true, X61, .st [Xc (-a.k.x), Xc a.k.y, Xc a.k.q], .bool (!a.cw), Xr (Ka a.f), Xr (Ka a.t)])] (oS (oT 2 oN) (oS (oT 3 (oC (Xe0 a.k.x (by omega)) (oT 3 oN))) (oS (oT 2 (oC (Xix a.f (by omega)) (oT 2 (oC (Xix a.t (by omega)) (oT 1 (oO (oB a.cw) (oO (oB (!a.cw)) (oT 6 oN)))))))) (oS (oT 2 (oA [.rptr (.bool a.cw), .rptr (.bool (!a.cw))] oN)) oN)))) ?_
 refine Xg ?_
 have hl : (J2 a) = (⟨(⟨(-a.k.x), a.k.y, a.k.q⟩ : CiV), (!a.cw), Ka a.f, Ka a.t⟩ : ArcV) := by unfold J2; rfl
 show Xca TL _ _ = some (Xz (CrvV.arc (J2 a)))
 rw [hl]; kernel_rfl
def J6 (a : VecV) (b : VecV) : (Option LnV) := (bif (decide (Int.sign (Rat.num (a.y - b.y)) = 0)) then (bif (decide (Int.sign (Rat.num (b.x - a.x)) = 0)) then none else (some (⟨a.y - b.y, b.x - a.x, ((a.y - b.y) * a.x) + ((b.x - a.x) * a.y)⟩ : LnV))) else (some (⟨a.y - b.y, b.x - a.x, ((a.y - b.y) * a.x) + ((b.x - a.x) * a.y)⟩ : LnV)))
theorem Xqm (a : VecV) (b : VecV) : ∀ ro, J6 a b = some ro → LnV.ht ro ≤ 3 * (VecV.ht a + VecV.ht b) + 5 := by
 rcases X7 (decide (Int.sign (Rat.num (a.y - b.y)) = 0)) with k3 | k3
 ·
  rcases X7 (decide (Int.sign (Rat.num (b.x - a.x)) = 0)) with k4 | k4
  ·
   intro ro hr; unfold J6 at hr; simp only [k3, k4, X72] at hr; cases hr
  ·
   intro ro hr; unfold J6 at hr; simp only [k3, k4, X72] at hr; cases hr
   have := VecV.htd a
   have := VecV.htd b
   have := Y7 a.y b.y
   have := Y7 b.x a.x
   have := Ym (a.y - b.y) a.x
   have := Ym (b.x - a.x) a.y
   have := Xal ((a.y - b.y) * a.x) ((b.x - a.x) * a.y)
   have := LnV.htm (a.y - b.y) (b.x - a.x) (((a.y - b.y) * a.x) + ((b.x - a.x) * a.y))
   omega
 ·
  intro ro hr; unfold J6 at hr; simp only [k3, X72] at hr; cases hr
  have := VecV.htd a
  have := VecV.htd b
  have := Y7 a.y b.y
  have := Y7 b.x a.x
  have := Ym (a.y - b.y) a.x
  have := Ym (b.x - a.x) a.y
  have := Xal ((a.y - b.y) * a.x) ((b.x - a.x) * a.y)
  have := LnV.htm (a.y - b.y) (b.x - a.x) (((a.y - b.y) * a.x) + ((b.x - a.x) * a.y))
  omega
theorem Xlb (a : VecV) (b : VecV) (hs : VecV.ht a + VecV.ht b ≤ 8589934591) : CS Tryz.prog 128 [Xt a, Xt b] (Xdr Xea X61 (ki 0) (ki 6) (J6 a b)) := by
 refine Xge (N := 42) X6y Tryz.func128 rfl rfl rfl rfl rfl (Xg1 _ _ _ _ _) ?_
 have := VecV.htd a
 have := VecV.htd b
 refine sh 2 [tv 2 (pb 2), tv 4 (pb 4), tv 5 (ki 0), tv 6 (pb 6), bv 2 (Xt a), bv 4 X61, bv 6 (.st [Xc (a.y - b.y), Xc (b.x - a.x), zQ])] (oS (oT 4 oN) (oS (oT 4 (oC (Xdj a.y b.y (by omega)) (oT 4 (oC (Xdj b.x a.x (by omega)) (oT 3 oN))))) oN)) ?_
 refine Xe ?_
 refine Xe ?_
 rcases X7 (decide (Int.sign (Rat.num (a.y - b.y)) = 0)) with h1 | h1
 ·
  have h1' := of_decide_eq_true h1
  refine rh [tv 2 (pb 2), tv 4 (pb 4), tv 5 (ki 0), tv 6 (pb 6), tv 27 (.bool (decide (Int.sign (Rat.num (b.x - a.x)) = 0))), bv 2 (Xt a), bv 4 X61, bv 6 (.st [Xc (a.y - b.y), Xc (b.x - a.x), zQ])] (oT 2 (oC (Za (a.y - b.y)) (oO (aI trivial (h1 : (decide (Int.sign (Rat.num (a.y - b.y)) = 0)) = true)) (oT 1 (oO (Xh 1 trivial) (oO (Xh 1 trivial) (oO (Xh 1 (Za (b.x - a.x))) (oO (Xh 1 (oB (decide (Int.sign (Rat.num (b.x - a.x)) = 0)))) (oT 1 (oA [cT true, ki (Int.sign (Rat.num (b.x - a.x))), cT (decide (Int.sign (Rat.num (b.x - a.x)) = 0))] oN)))))))))) ?_
  refine cB (decide (Int.sign (Rat.num (b.x - a.x)) = 0)) (fun h2 => ?_) (fun h2 => ?_)
  ·
   have h2' := of_decide_eq_true h2
   refine rt [tv 2 (pb 2), tv 4 (pb 4), tv 5 (ki 6), tv 6 (pb 6), bv 2 (Xt a), bv 4 X61, bv 6 (.st [Xc (a.y - b.y), Xc (b.x - a.x), zQ])] (oT 3 oN) ?_
   refine Xg ?_
   have hl : (J6 a b) = none := by unfold J6; simp only [h1, h2, X72]
   show Xca TL _ _ = some (Xdr Xea X61 (ki 0) (ki 6) (J6 a b))
   rw [hl]; kernel_rfl
  ·
   have h2' := of_decide_eq_false h2
   refine Xn ?_
   have := VecV.htd a
   have := VecV.htd b
   have := Y7 a.y b.y
   have := Y7 b.x a.x
   have := Ym (a.y - b.y) a.x
   have := Ym (b.x - a.x) a.y
   refine sh 2 [tv 4 (pb 4), tv 5 (ki 0), bv 4 (.st [Xc (a.y - b.y), Xc (b.x - a.x), Xc (((a.y - b.y) * a.x) + ((b.x - a.x) * a.y))])] (oS (oT 4 (oC (K7 (a.y - b.y) a.x (by omega)) (oT 4 (oC (K7 (b.x - a.x) a.y (by omega)) (oC (Xdo ((a.y - b.y) * a.x) ((b.x - a.x) * a.y) (by omega)) (oT 2 oN)))))) (oS (oT 3 oN) oN)) ?_
   refine Xg ?_
   have hl : (J6 a b) = (some (⟨a.y - b.y, b.x - a.x, ((a.y - b.y) * a.x) + ((b.x - a.x) * a.y)⟩ : LnV)) := by unfold J6; simp only [h1, h2, X72]
   show Xca TL _ _ = some (Xdr Xea X61 (ki 0) (ki 6) (J6 a b))
   rw [hl]; kernel_rfl
 ·
  have h1' := of_decide_eq_false h1
  refine rh [tv 2 (pb 2), tv 4 (pb 4), tv 5 (ki 0), tv 6 (pb 6), tv 27 (.bool false), bv 2 (Xt a), bv 4 X61, bv 6 (.st [Xc (a.y - b.y), Xc (b.x - a.x), zQ])] (oT 2 (oC (Za (a.y - b.y)) (oO (aI trivial (h1 : (decide (Int.sign (Rat.num (a.y - b.y)) = 0)) = false)) (oT 1 (oO (gn [false]) (oO (gn [true]) (oO (gn [true]) (oO (gn [true]) (oT 1 (oA [cT false, ki (Int.sign (Rat.num (b.x - a.x))), cT (decide (Int.sign (Rat.num (b.x - a.x)) = 0))] oN)))))))))) ?_
  refine cB (false) (fun h => Bool.noConfusion h) (fun _ => ?_)
  refine Xn ?_
  have := VecV.htd a
  have := VecV.htd b
  have := Y7 a.y b.y
  have := Y7 b.x a.x
  have := Ym (a.y - b.y) a.x
  have := Ym (b.x - a.x) a.y
  refine sh 2 [tv 4 (pb 4), tv 5 (ki 0), bv 4 (.st [Xc (a.y - b.y), Xc (b.x - a.x), Xc (((a.y - b.y) * a.x) + ((b.x - a.x) * a.y))])] (oS (oT 4 (oC (K7 (a.y - b.y) a.x (by omega)) (oT 4 (oC (K7 (b.x - a.x) a.y (by omega)) (oC (Xdo ((a.y - b.y) * a.x) ((b.x - a.x) * a.y) (by omega)) (oT 2 oN)))))) (oS (oT 3 oN) oN)) ?_
  refine Xg ?_
  have hl : (J6 a b) = (some (⟨a.y - b.y, b.x - a.x, ((a.y - b.y) * a.x) + ((b.x - a.x) * a.y)⟩ : LnV)) := by unfold J6; simp only [h1, X72]
  show Xca TL _ _ = some (Xdr Xea X61 (ki 0) (ki 6) (J6 a b))
  rw [hl]; kernel_rfl
open Go Go.RowKit
def Xco (r : RootV) : Bool := (bif (decide (Int.sign (Rat.num r.b) = 0)) then (decide (Int.sign (Rat.num r.c) = 0)) else (bif (decide (Int.sign (Rat.num r.c) = 0)) then false else (Xfb (Xg7 r.c) (fun r4 => (bif (decide (0 < Int.sign (Rat.num r.c))) then false else false)) (bif (decide (0 < Int.sign (Rat.num r.c))) then true else false))))
theorem Xn3 (r : RootV) (hs : RootV.ht r ≤ 17179869184) : CS Tryz.prog 62 [Xl r] (.bool (Xco r)) := by
 refine cO 55 Tryz.func62 ?_
 refine rt [tv 1 (pb 1), tv 2 (.bool false), bv 1 (Xl r)] (oT 2 oN) ?_
 refine Xe ?_
 refine Xe ?_
 have := RootV.htd r
 refine rh [tv 1 (pb 1), tv 2 (.bool false), tv 20 (.bool false), bv 1 (Xl r)] (oT 2 (oC (Xhg r.a (by omega)) (oO (oB false) (oT 1 (oO (Xh 1 trivial) (oO (Xh 1 trivial) (oO (Xh 1 (Xhg r.b (by omega))) (oO (Xh 1 (oB false)) (oT 2 (oO (Xh 1 trivial) (oO (Xh 1 trivial) (oO (Xh 1 (Xhg r.c (by omega))) (oO (Xh 1 (oB false)) (oT 1 (oA [.rptr (.bool false), .bool true, .rptr (.bool false), .bool true, .rptr (.bool false)] oN))))))))))))))) ?_
 refine cB (false) (fun h => Bool.noConfusion h) (fun _ => ?_)
 refine Xn ?_
 refine Xe ?_
 refine Xe ?_
 rcases X7 (decide (Int.sign (Rat.num r.b) = 0)) with h1 | h1
 ·
  have h1' := of_decide_eq_true h1
  refine rh [tv 1 (pb 1), tv 2 (.bool false), tv 30 (.bool true), bv 1 (Xl r)] (oT 2 (oC (Za r.b) (oO (aI trivial (h1 : (decide (Int.sign (Rat.num r.b) = 0)) = true)) (oT 1 (oO (gn [false]) (oO (gn [true]) (oO (gn [true]) (oO (gn [true]) (oT 1 (oA [cT true, ki (Int.sign (Rat.num r.c)), cT (decide (Int.sign (Rat.num r.c) = 0))] oN)))))))))) ?_
  refine cB (true) (fun _ => ?_) (fun h => Bool.noConfusion h)
  refine rt [tv 1 (pb 1), tv 2 (.bool (decide (Int.sign (Rat.num r.c) = 0))), bv 1 (Xl r)] (oT 2 (oC (Za r.b) (oO (aI trivial (h1 : (decide (Int.sign (Rat.num r.b) = 0)) = true)) (oT 1 (oO (Xh 1 trivial) (oO (Xh 1 trivial) (oO (Xh 1 (Za r.c)) (oO (Xh 1 (oB (decide (Int.sign (Rat.num r.c) = 0)))) (oT 2 (oA [cT true, ki (Int.sign (Rat.num r.c)), cT (decide (Int.sign (Rat.num r.c) = 0))] oN)))))))))) ?_
  exact Xg (lv AV.bool (decide (Int.sign (Rat.num r.c) = 0)) (by unfold Xco; simp only [h1, X72]))
 ·
  have h1' := of_decide_eq_false h1
  refine rh [tv 1 (pb 1), tv 2 (.bool false), tv 30 (.bool (decide (Int.sign (Rat.num r.c) = 0))), bv 1 (Xl r)] (oT 2 (oC (Za r.b) (oO (aI trivial (h1 : (decide (Int.sign (Rat.num r.b) = 0)) = false)) (oT 1 (oO (Xh 1 trivial) (oO (Xh 1 trivial) (oO (Xh 1 (Za r.c)) (oO (Xh 1 (oB (decide (Int.sign (Rat.num r.c) = 0)))) (oT 1 (oA [cT false, ki (Int.sign (Rat.num r.c)), cT (decide (Int.sign (Rat.num r.c) = 0))] oN)))))))))) ?_
  refine cB (decide (Int.sign (Rat.num r.c) = 0)) (fun h2 => ?_) (fun h2 => ?_)
  ·
   have h2' := of_decide_eq_true h2
   refine rt [tv 1 (pb 1), tv 2 (.bool false), bv 1 (Xl r)] (oT 2 (oC (Za r.b) (oO (aI trivial (h1 : (decide (Int.sign (Rat.num r.b) = 0)) = false)) (oT 1 (oO (gn [false]) (oO (gn [true]) (oO (gn [true]) (oO (gn [true]) (oT 2 (oA [cT false, ki (Int.sign (Rat.num r.c)), cT true] oN)))))))))) ?_
   exact Xg (lv AV.bool false (by unfold Xco; simp only [h1, h2, X72]))
  ·
   have h2' := of_decide_eq_false h2
   refine Xn ?_
   refine Xe ?_
   rcases Xbs (Xg7 r.c) with h3 | ⟨r4, h3⟩
   ·
    have := RootV.htd r
    refine rh [tv 1 (pb 1), tv 2 (.bool false), tv 4 (.bool false), bv 1 (Xl r)] (oT 2 (oO (Jl (Xir r.c (by omega)) (by rw [h3]; rfl) : CS Tryz.prog 131 [Xc r.c] (.tup [zQ, .bool false])) (oT 2 (oO (oB false) (oT 3 (oA [.tup [zQ, .bool false], .rptr (.bool false)] oN)))))) ?_
    refine Xe ?_
    rcases X7 (decide (0 < Int.sign (Rat.num r.c))) with h5 | h5
    ·
     have h5' := of_decide_eq_true h5
     refine rh [tv 2 (.bool true)] (oT 2 (oC (Za r.c) (oO (aI trivial (h5 : (decide (0 < Int.sign (Rat.num r.c))) = true)) (oT 1 (oO (Xh 1 trivial) (oO (Xh 1 (oB true)) (oT 2 (oA [cT true, .rptr (.bool true)] oN)))))))) ?_
     exact Xg (lv AV.bool true (by unfold Xco; simp only [h1, h2, h3, h5, X72]))
    ·
     have h5' := of_decide_eq_false h5
     refine rh [tv 2 (.bool false)] (oT 2 (oC (Za r.c) (oO (aI trivial (h5 : (decide (0 < Int.sign (Rat.num r.c))) = false)) (oT 1 (oO (gn [false]) (oO (gn [true]) (oT 2 (oA [cT false, .rptr (.bool true)] oN)))))))) ?_
     exact Xg (lv AV.bool false (by unfold Xco; simp only [h1, h2, h3, h5, X72]))
   ·
    have := RootV.htd r
    refine rh [tv 1 (pb 1), tv 2 (.bool false), tv 4 (.bool true), bv 1 (Xl r)] (oT 2 (oO (Jl (Xir r.c (by omega)) (by rw [h3]; rfl) : CS Tryz.prog 131 [Xc r.c] (.tup [Xc r4, .bool true])) (oT 2 (oO (oB true) (oT 3 (oA [.tup [Xc r4, .bool true], .rptr (.bool true)] oN)))))) ?_
    refine Xe ?_
    rcases X7 (decide (0 < Int.sign (Rat.num r.c))) with h6 | h6
    ·
     have h6' := of_decide_eq_true h6
     refine rh [tv 2 (.bool false)] (oT 2 (oC (Za r.c) (oO (aI trivial (h6 : (decide (0 < Int.sign (Rat.num r.c))) = true)) (oT 1 (oO (Xh 1 trivial) (oO (Xh 1 (oB false)) (oT 2 (oA [cT true, .rptr (.bool false)] oN)))))))) ?_
     exact Xg (lv AV.bool false (by unfold Xco; simp only [h1, h2, h3, h6, X72]))
    ·
     have h6' := of_decide_eq_false h6
     refine rh [tv 2 (.bool false)] (oT 2 (oC (Za r.c) (oO (aI trivial (h6 : (decide (0 < Int.sign (Rat.num r.c))) = false)) (oT 1 (oO (gn [false]) (oO (gn [true]) (oT 2 (oA [cT false, .rptr (.bool false)] oN)))))))) ?_
     exact Xg (lv AV.bool false (by unfold Xco; simp only [h1, h2, h3, h6, X72]))
def Xgy (a : RootV) (want : RootV) : Bool := (bif (Xco a) then (Xdz a want) else false)
theorem Xl7 (a : RootV) (want : RootV) (hs : RootV.ht a + RootV.ht want ≤ 2147483642) : CS Tryz.prog 15 [Xl a, Xl want] (.bool (Xgy a want)) := by
 refine cO 12 Tryz.func15 ?_
 refine rt [tv 2 (pb 2), tv 3 (pb 3), tv 4 (.bool false), bv 2 (Xl a), bv 3 (Xl want)] (oT 3 oN) ?_
 refine Xe ?_
 rcases X7 (Xco a) with h1 | h1
 ·
  refine rh [tv 4 (.bool (Xdz a want))] (oT 1 (oO (Jl (Xn3 a (by omega)) (by rw [h1]) : CS Tryz.prog 62 [Xl a] (.bool true)) (oT 1 (oO (Xh 1 trivial) (oO (Xh 1 trivial) (oO (Xh 2 (Xs4 a want (by omega))) (oT 2 (oA [.bool true, .bool (Xdz a want)] oN)))))))) ?_
  exact Xg (lv AV.bool (Xdz a want) (by unfold Xgy; simp only [h1, X72]))
 ·
  refine rh [tv 4 (.bool false)] (oT 1 (oO (Jl (Xn3 a (by omega)) (by rw [h1]) : CS Tryz.prog 62 [Xl a] (.bool false)) (oT 1 (oO (gn [false]) (oO (gn [false]) (oO (gn [true, true]) (oT 2 (oA [.bool false, .bool (Xdz a want)] oN)))))))) ?_
  exact Xg (lv AV.bool false (by unfold Xgy; simp only [h1, X72]))
def Xev (l : LnV) (p : PtV) : Int := (Jo (Xcr l p))
theorem Xvj (l : LnV) (p : PtV) (hs : LnV.ht l + PtV.ht p ≤ 4294967291) (hp : PtV.ok p) : CS Tryz.prog 164 [Xea l, Xr p] (ki (Xev l p)) := by
 refine cO 9 Tryz.func164 ?_
 have := Xtj l p (by first | assumption | exact Xer (by assumption) | exact Xmp _)
 refine sh 2 [tv 4 (ki (Jo (Xcr l p)))] (oS (oT 3 oN) (oS (oT 2 (oC (Xsw l p (by omega) (by first | assumption | exact Xer (by assumption) | exact Xmp _)) (oC (Xqe (Xcr l p) (by omega)) (oT 1 oN)))) oN)) ?_
 exact Xg (lv ki (Jo (Xcr l p)) (by unfold Xev; rfl))
def Xaz (c : CiV) (p : PtV) : RootV := (Xb5 (Xa1 p (⟨c.x, c.y⟩ : VecV)) (-c.q))
theorem Xt2 (c : CiV) (p : PtV) : RootV.ht (Xaz c p) ≤ 32 * (CiV.ht c + PtV.ht p) + 297 := by
 rw [show (Xaz c p) = (Xb5 (Xa1 p (⟨c.x, c.y⟩ : VecV)) (-c.q)) by unfold Xaz; rfl]
 have := CiV.htd c
 have := VecV.htm c.x c.y
 have := Xmc p (⟨c.x, c.y⟩ : VecV)
 have := Xe2 c.q
 have := Xr4 (Xa1 p (⟨c.x, c.y⟩ : VecV)) (-c.q)
 omega
theorem Xt3 (c : CiV) (p : PtV) (hs : CiV.ht c + PtV.ht p ≤ 536870902) : CS Tryz.prog 228 [Xbf c, Xr p] (Xl (Xaz c p)) := by
 refine cO 16 Tryz.func228 ?_
 have := CiV.htd c
 have := VecV.htm c.x c.y
 have := Xmc p (⟨c.x, c.y⟩ : VecV)
 have := Xe2 c.q
 refine sh 2 [tv 4 (pb 4), bv 4 (Xl (Xb5 (Xa1 p (⟨c.x, c.y⟩ : VecV)) (-c.q)))] (oS (oT 3 oN) (oS (oT 6 (oC (Xsk p (⟨c.x, c.y⟩ : VecV) (by omega)) (oT 2 (oC (Xe0 c.q (by omega)) (oC (Xsd (Xa1 p (⟨c.x, c.y⟩ : VecV)) (-c.q) (by omega)) (oT 1 oN)))))) oN)) ?_
 exact Xg (lv Xl (Xb5 (Xa1 p (⟨c.x, c.y⟩ : VecV)) (-c.q)) (by unfold Xaz; rfl))
def Xc9 (c : CiV) (p : PtV) : Int := (-(Jo (Xaz c p)))
theorem Xse (c : CiV) (p : PtV) (hs : CiV.ht c + PtV.ht p ≤ 268435446) : CS Tryz.prog 163 [Xbf c, Xr p] (ki (Xc9 c p)) := by
 refine cO 10 Tryz.func163 ?_
 have := Xt2 c p
 have := (Xut (Xaz c p))
 refine sh 2 [tv 4 (ki (-(Jo (Xaz c p))))] (oS (oT 3 oN) (oS (oT 2 (oC (Xt3 c p (by omega)) (oC (Xqe (Xaz c p) (by omega)) (oO (Xhm (by omega) (by omega) : (-(Jo (Xaz c p))) = IntKind.i64.wrap (0 - Jo (Xaz c p))) (oT 1 (oA [ki (-(Jo (Xaz c p)))] oN)))))) oN)) ?_
 exact Xg (lv ki (-(Jo (Xaz c p))) (by unfold Xc9; rfl))
def Xb7 (c : CiV) (from' : PtV) (p : PtV) (q : PtV) : Int := (bif (!(decide (Z2 c p from' < 0) == decide (Z2 c q from' < 0))) then (bif (decide (Z2 c q from' < 0)) then (-1) else 1) else (Z2 c p q))
theorem Xnw (c : CiV) (from' : PtV) (p : PtV) (q : PtV) (hs : CiV.ht c + PtV.ht from' + PtV.ht p + PtV.ht q ≤ 2147483630) : CS Tryz.prog 165 [Xbf c, Xr from', Xr p, Xr q] (ki (Xb7 c from' p q)) := by
 refine cO 29 Tryz.func165 ?_
 refine sh 2 [tv 4 (pb 4), tv 6 (pb 6), tv 7 (pb 7), tv 8 (ki 0), tv 9 (.bool (decide (Z2 c p from' < 0))), tv 10 (.bool (decide (Z2 c q from' < 0))), bv 4 (Xbf c), bv 6 (Xr p), bv 7 (Xr q)] (oS (oT 5 oN) (oS (oT 3 (oC (Xke c p from' (by omega)) (oO (oB (decide (Z2 c p from' < 0))) (oT 3 (oA [cT (decide (Z2 c p from' < 0))] (oC (Xke c q from' (by omega)) (oO (oB (decide (Z2 c q from' < 0))) (oT 2 (oA [cT (decide (Z2 c q from' < 0))] oN))))))))) oN)) ?_
 refine Xe ?_
 refine rt [tv 4 (pb 4), tv 6 (pb 6), tv 7 (pb 7), tv 8 (ki 0), tv 10 (.bool (decide (Z2 c q from' < 0))), tv 23 (.bool (!(decide (Z2 c p from' < 0) == decide (Z2 c q from' < 0)))), bv 4 (Xbf c), bv 6 (Xr p), bv 7 (Xr q)] (oT 2 (oO (oB (!(decide (Z2 c p from' < 0) == decide (Z2 c q from' < 0)))) (oA [cT (!(decide (Z2 c p from' < 0) == decide (Z2 c q from' < 0)))] oN))) ?_
 refine cB ((!(decide (Z2 c p from' < 0) == decide (Z2 c q from' < 0)))) (fun h1 => ?_) (fun h1 => ?_)
 ·
  have h1' := Xgt (Xdt h1)
  refine Xe ?_
  refine rt [tv 4 (pb 4), tv 6 (pb 6), tv 7 (pb 7), tv 8 (ki 0), tv 24 (.bool (decide (Z2 c q from' < 0))), bv 4 (Xbf c), bv 6 (Xr p), bv 7 (Xr q)] (oT 1 oN) ?_
  refine cB (decide (Z2 c q from' < 0)) (fun h2 => ?_) (fun h2 => ?_)
  ·
   have h2' := of_decide_eq_true h2
   refine rt [tv 4 (pb 4), tv 6 (pb 6), tv 7 (pb 7), tv 8 (ki (-1)), bv 4 (Xbf c), bv 6 (Xr p), bv 7 (Xr q)] (oT 1 oN) ?_
   exact Xg (lv ki (-1) (by unfold Xb7; (try simp only [h1, X72]) <;> (try simp only [Xdt h1, X72]) <;> (try simp only [h2, X72])))
  ·
   have h2' := of_decide_eq_false h2
   refine Xn ?_
   refine rt [tv 4 (pb 4), tv 6 (pb 6), tv 7 (pb 7), tv 8 (ki 1), bv 4 (Xbf c), bv 6 (Xr p), bv 7 (Xr q)] (oT 1 oN) ?_
   exact Xg (lv ki 1 (by unfold Xb7; (try simp only [h1, X72]) <;> (try simp only [Xdt h1, X72]) <;> (try simp only [h2, X72])))
 ·
  have h1' := Xg0 (Xas h1)
  refine Xn ?_
  refine rt [tv 8 (ki (Z2 c p q))] (oT 3 (oC (Xke c p q (by omega)) (oT 1 oN))) ?_
  exact Xg (lv ki (Z2 c p q) (by unfold Xb7; (try simp only [h1, X72]) <;> (try simp only [Xas h1, X72])))
def Y6 (c : CrvV) (p : PtV) (q : PtV) : Int := (Xjk c (fun s1 => (bif (decide (0 < Y0 s1.f s1.t)) then (-(Y0 p q)) else (Y0 p q))) (fun a2 => (bif (!a2.cw) then (Xb7 a2.k a2.f p q) else (Xb7 ((J2 a2).k) ((J2 a2).f) (Ka p) (Ka q)))))
theorem Xha (c : CrvV) (p : PtV) (q : PtV) (hs : CrvV.ht c + PtV.ht p + PtV.ht q ≤ 1073741815) : CS Tryz.prog 81 [Xz c, Xr p, Xr q] (ki (Y6 c p q)) := by
 refine cO 45 Tryz.func81 ?_
 refine rt [tv 3 (pb 3), tv 4 (pb 4), tv 5 (pb 5), tv 6 (ki 0), bv 3 (Xz c), bv 4 (Xr p), bv 5 (Xr q)] (oT 4 oN) ?_
 refine Xe ?_
 refine Xe ?_
 rcases c with s1 | a2
 ·
  refine rh [tv 3 (pb 3), tv 4 (pb 4), tv 5 (pb 5), tv 6 (ki 0), tv 11 (.bool true), bv 3 (Xz (CrvV.seg s1)), bv 4 (Xr p), bv 5 (Xr q)] (oT 1 (oO (oB false) (oO (oB true) (oA [.rptr (.bool false), .rptr (.bool true)] oN)))) ?_
  refine cB (true) (fun _ => ?_) (fun h => Bool.noConfusion h)
  refine rt [tv 3 (pb 3), tv 4 (pb 4), tv 5 (pb 5), tv 6 (ki 0), tv 7 (ki (Y0 p q)), bv 3 (Xz (CrvV.seg s1)), bv 4 (Xr p), bv 5 (Xr q)] (oT 2 (oC (Xhn p q (by omega)) (oT 1 oN))) ?_
  refine Xe ?_
  refine Xe ?_
  have : CrvV.ht (CrvV.seg s1) = SegV.ht s1 := rfl
  have := SegV.htd s1
  refine rh [tv 3 (pb 3), tv 4 (pb 4), tv 5 (pb 5), tv 6 (ki 0), tv 7 (ki (Y0 p q)), tv 20 (.bool (decide (0 < Y0 s1.f s1.t))), bv 3 (Xz (CrvV.seg s1)), bv 4 (Xr p), bv 5 (Xr q)] (oT 4 (oC (Xhn s1.f s1.t (by omega)) (oO (oB (decide (0 < Y0 s1.f s1.t))) (oA [cT (decide (0 < Y0 s1.f s1.t))] oN)))) ?_
  refine cB (decide (0 < Y0 s1.f s1.t)) (fun h3 => ?_) (fun h3 => ?_)
  ·
   have h3' := of_decide_eq_true h3
   have := (Xqo p q)
   refine rh [tv 3 (pb 3), tv 4 (pb 4), tv 5 (pb 5), tv 6 (ki 0), tv 7 (ki (-(Y0 p q))), bv 3 (Xz (CrvV.seg s1)), bv 4 (Xr p), bv 5 (Xr q)] (oT 1 (oO (Xhm (by omega) (by omega) : (-(Y0 p q)) = IntKind.i64.wrap (0 - Y0 p q)) (oT 1 (oA [ki (-(Y0 p q))] oN)))) ?_
   refine rt [tv 3 (pb 3), tv 4 (pb 4), tv 5 (pb 5), tv 6 (ki (-(Y0 p q))), bv 3 (Xz (CrvV.seg s1)), bv 4 (Xr p), bv 5 (Xr q)] (oT 2 oN) ?_
   exact Xg (lv ki (-(Y0 p q)) (by unfold Y6; simp only [h3, X72]))
  ·
   have h3' := of_decide_eq_false h3
   refine Xn ?_
   refine rt [tv 3 (pb 3), tv 4 (pb 4), tv 5 (pb 5), tv 6 (ki (Y0 p q)), bv 3 (Xz (CrvV.seg s1)), bv 4 (Xr p), bv 5 (Xr q)] (oT 2 oN) ?_
   exact Xg (lv ki (Y0 p q) (by unfold Y6; simp only [h3, X72]))
 ·
  refine rh [tv 3 (pb 3), tv 4 (pb 4), tv 5 (pb 5), tv 6 (ki 0), tv 11 (.bool false), bv 3 (Xz (CrvV.arc a2)), bv 4 (Xr p), bv 5 (Xr q)] (oT 1 (oO (oB true) (oO (oB false) (oA [.rptr (.bool true), .rptr (.bool false)] oN)))) ?_
  refine cB (false) (fun h => Bool.noConfusion h) (fun _ => ?_)
  refine Xn ?_
  refine Xe ?_
  refine rt [tv 3 (pb 3), tv 4 (pb 4), tv 5 (pb 5), tv 6 (ki 0), tv 26 (.bool (!a2.cw)), bv 3 (Xz (CrvV.arc a2)), bv 4 (Xr p), bv 5 (Xr q)] (oT 1 (oO (oB a2.cw) (oO (oB (!a2.cw)) (oA [.rptr (.bool a2.cw), .rptr (.bool (!a2.cw))] oN)))) ?_
  refine cB ((!a2.cw)) (fun h4 => ?_) (fun h4 => ?_)
  ·
   refine Xe ?_
   have : CrvV.ht (CrvV.arc a2) = ArcV.ht a2 := rfl
   have := ArcV.htd a2
   refine rh [tv 3 (pb 3), tv 4 (pb 4), tv 5 (pb 5), tv 6 (ki (Xb7 a2.k a2.f p q)), bv 3 (Xz (CrvV.arc a2)), bv 4 (Xr p), bv 5 (Xr q)] (oT 6 (oC (Xnw a2.k a2.f p q (by omega)) (oT 1 oN))) ?_
   exact Xg (lv ki (Xb7 a2.k a2.f p q) (by unfold Y6; simp only [h4, Xdt h4, X72]))
  ·
   refine Xn ?_
   have : CrvV.ht (CrvV.arc a2) = ArcV.ht a2 := rfl
   have : CrvV.ht (CrvV.arc a2) = ArcV.ht a2 := rfl
   have := Xsj a2
   have : ArcV.ht (J2 a2) = CiV.ht ((J2 a2).k) + PtV.ht ((J2 a2).f) + PtV.ht ((J2 a2).t) := rfl
   have := Xiw p
   have := Xiw q
   refine sh 2 [tv 6 (ki (Xb7 ((J2 a2).k) ((J2 a2).f) (Ka p) (Ka q)))] (oS (oT 1 (oC (Xsh a2 (by omega)) (oT 2 oN))) (oS (oT 5 (oC (Xix p (by omega)) (oT 1 (oC (Xix q (by omega)) (oC (Xnw ((J2 a2).k) ((J2 a2).f) (Ka p) (Ka q) (by omega)) (oT 1 oN)))))) oN)) ?_
   exact Xg (lv ki (Xb7 ((J2 a2).k) ((J2 a2).f) (Ka p) (Ka q)) (by unfold Y6; simp only [h4, Xas h4, X72]))
def Xei (c : CrvV) (p : PtV) : Bool := (Xjk c (fun s1 => (decide (Xev s1.l p = 0))) (fun a2 => (decide (Xc9 a2.k p = 0))))
theorem Xhq (c : CrvV) (p : PtV) (hs : CrvV.ht c + PtV.ht p ≤ 268435446) (hp : PtV.ok p) : CS Tryz.prog 80 [Xz c, Xr p] (.bool (Xei c p)) := by
 refine cO 17 Tryz.func80 ?_
 refine rt [tv 2 (pb 2), tv 3 (pb 3), tv 4 (.bool false), bv 2 (Xz c), bv 3 (Xr p)] (oT 3 oN) ?_
 refine Xe ?_
 refine Xe ?_
 rcases c with s1 | a2
 ·
  refine rh [tv 2 (pb 2), tv 3 (pb 3), tv 4 (.bool false), tv 6 (.bool false), bv 2 (Xz (CrvV.seg s1)), bv 3 (Xr p)] (oT 1 (oO (oB false) (oA [.rptr (.bool false)] oN))) ?_
  refine cB (false) (fun h => Bool.noConfusion h) (fun _ => ?_)
  refine Xn ?_
  refine Xe ?_
  have : CrvV.ht (CrvV.seg s1) = SegV.ht s1 := rfl
  have := SegV.htd s1
  refine rh [tv 4 (.bool (decide (Xev s1.l p = 0)))] (oT 3 (oC (Xvj s1.l p (by omega) (by first | assumption | exact Xer (by assumption) | exact Xmp _)) (oO (oB (decide (Xev s1.l p = 0))) (oT 1 (oA [cT (decide (Xev s1.l p = 0))] oN))))) ?_
  exact Xg (lv AV.bool (decide (Xev s1.l p = 0)) (by unfold Xei; rfl))
 ·
  refine rh [tv 2 (pb 2), tv 3 (pb 3), tv 4 (.bool false), tv 6 (.bool true), bv 2 (Xz (CrvV.arc a2)), bv 3 (Xr p)] (oT 1 (oO (oB true) (oA [.rptr (.bool true)] oN))) ?_
  refine cB (true) (fun _ => ?_) (fun h => Bool.noConfusion h)
  refine Xe ?_
  have : CrvV.ht (CrvV.arc a2) = ArcV.ht a2 := rfl
  have := ArcV.htd a2
  refine rh [tv 2 (pb 2), tv 3 (pb 3), tv 4 (.bool (decide (Xc9 a2.k p = 0))), bv 2 (Xz (CrvV.arc a2)), bv 3 (Xr p)] (oT 3 (oC (Xse a2.k p (by omega)) (oO (oB (decide (Xc9 a2.k p = 0))) (oT 1 (oA [cT (decide (Xc9 a2.k p = 0))] oN))))) ?_
  exact Xg (lv AV.bool (decide (Xc9 a2.k p = 0)) (by unfold Xei; rfl))
def Xdc (c : CrvV) (p : PtV) : Bool := (bif (Xei c p) then (bif (decide (Y6 c c.f p ≤ 0)) then (decide (Y6 c p c.t ≤ 0)) else false) else false)
theorem Xyf (c : CrvV) (p : PtV) (hs : CrvV.ht c + PtV.ht p ≤ 268435446) (hp : PtV.ok p) : CS Tryz.prog 19 [Xz c, Xr p] (.bool (Xdc c p)) := by
 refine cO 24 Tryz.func19 ?_
 refine rt [tv 2 (pb 2), tv 3 (pb 3), tv 4 (.bool false), bv 2 (Xz c), bv 3 (Xr p)] (oT 3 oN) ?_
 refine Xe ?_
 rcases X7 (Xei c p) with h1 | h1
 ·
  rcases X7 (decide (Y6 c c.f p ≤ 0)) with h2 | h2
  ·
   have h2' := of_decide_eq_true h2
   have := X3z c
   have := X5b c
   refine rh [tv 4 (.bool (decide (Y6 c p c.t ≤ 0)))] (oT 2 (oO (Jl (Xhq c p (by omega) (by first | assumption | exact Xer (by assumption) | exact Xmp _)) (by rw [h1]) : CS Tryz.prog 80 [Xz c, Xr p] (.bool true)) (oT 1 (oO (Xh 1 trivial) (oO (Xh 1 trivial) (oO (Xh 1 trivial) (oO (Xh 1 trivial) (oO (Xh 3 (Xha c c.f p (by omega))) (oO (Xh 1 (aI trivial (h2 : (decide (Y6 c c.f p ≤ 0)) = true))) (oT 2 (oO (Xh 1 trivial) (oO (Xh 1 trivial) (oO (Xh 1 trivial) (oO (Xh 1 trivial) (oO (Xh 3 (Xha c p c.t (by omega))) (oO (Xh 1 (oB (decide (Y6 c p c.t ≤ 0)))) (oT 2 (oA [.bool true, ki (Y6 c c.f p), cT true, ki (Y6 c p c.t), cT (decide (Y6 c p c.t ≤ 0))] oN)))))))))))))))))) ?_
   exact Xg (lv AV.bool (decide (Y6 c p c.t ≤ 0)) (by unfold Xdc; simp only [h1, h2, X72]))
  ·
   have h2' := of_decide_eq_false h2
   have := X3z c
   refine rh [tv 4 (.bool false)] (oT 2 (oO (Jl (Xhq c p (by omega) (by first | assumption | exact Xer (by assumption) | exact Xmp _)) (by rw [h1]) : CS Tryz.prog 80 [Xz c, Xr p] (.bool true)) (oT 1 (oO (Xh 1 trivial) (oO (Xh 1 trivial) (oO (Xh 1 trivial) (oO (Xh 1 trivial) (oO (Xh 3 (Xha c c.f p (by omega))) (oO (Xh 1 (aI trivial (h2 : (decide (Y6 c c.f p ≤ 0)) = false))) (oT 2 (oO (gn [false]) (oO (gn [false]) (oO (gn [false]) (oO (gn [true]) (oO (gn [true, true, true]) (oO (gn [true]) (oT 2 (oA [.bool true, ki (Y6 c c.f p), cT false, ki (Y6 c p c.t), cT (decide (Y6 c p c.t ≤ 0))] oN)))))))))))))))))) ?_
   exact Xg (lv AV.bool false (by unfold Xdc; simp only [h1, h2, X72]))
 ·
  refine rh [tv 4 (.bool false)] (oT 2 (oO (Jl (Xhq c p (by omega) (by first | assumption | exact Xer (by assumption) | exact Xmp _)) (by rw [h1]) : CS Tryz.prog 80 [Xz c, Xr p] (.bool false)) (oT 1 (oO (gn [false]) (oO (gn [false]) (oO (gn [true]) (oO (gn [false]) (oO (gn [true, true, true]) (oO (gn [true]) (oT 2 (oO (gn [false]) (oO (gn [false]) (oO (gn [false]) (oO (gn [true]) (oO (gn [true, true, true]) (oO (gn [true]) (oT 2 (oA [.bool false, ki (Y6 c c.f p), cT (decide (Y6 c c.f p ≤ 0)), ki (Y6 c p c.t), cT (decide (Y6 c p c.t ≤ 0))] oN)))))))))))))))))) ?_
  exact Xg (lv AV.bool false (by unfold Xdc; simp only [h1, X72]))
def Jd (a : VecV) (b : VecV) (c : VecV) : (Option CiV) := (bif (decide (Int.sign (Rat.num (((b.x - a.x) * (c.y - a.y)) - ((b.y - a.y) * (c.x - a.x)))) = 0)) then none else (some (⟨a.x + ((((((b.x - a.x) * (b.x - a.x)) + ((b.y - a.y) * (b.y - a.y))) * (c.y - a.y)) - ((((c.x - a.x) * (c.x - a.x)) + ((c.y - a.y) * (c.y - a.y))) * (b.y - a.y))) / ((((b.x - a.x) * (c.y - a.y)) - ((b.y - a.y) * (c.x - a.x))) + (((b.x - a.x) * (c.y - a.y)) - ((b.y - a.y) * (c.x - a.x))))), a.y + ((((((c.x - a.x) * (c.x - a.x)) + ((c.y - a.y) * (c.y - a.y))) * (b.x - a.x)) - ((((b.x - a.x) * (b.x - a.x)) + ((b.y - a.y) * (b.y - a.y))) * (c.x - a.x))) / ((((b.x - a.x) * (c.y - a.y)) - ((b.y - a.y) * (c.x - a.x))) + (((b.x - a.x) * (c.y - a.y)) - ((b.y - a.y) * (c.x - a.x))))), (((((((b.x - a.x) * (b.x - a.x)) + ((b.y - a.y) * (b.y - a.y))) * (c.y - a.y)) - ((((c.x - a.x) * (c.x - a.x)) + ((c.y - a.y) * (c.y - a.y))) * (b.y - a.y))) / ((((b.x - a.x) * (c.y - a.y)) - ((b.y - a.y) * (c.x - a.x))) + (((b.x - a.x) * (c.y - a.y)) - ((b.y - a.y) * (c.x - a.x))))) * ((((((b.x - a.x) * (b.x - a.x)) + ((b.y - a.y) * (b.y - a.y))) * (c.y - a.y)) - ((((c.x - a.x) * (c.x - a.x)) + ((c.y - a.y) * (c.y - a.y))) * (b.y - a.y))) / ((((b.x - a.x) * (c.y - a.y)) - ((b.y - a.y) * (c.x - a.x))) + (((b.x - a.x) * (c.y - a.y)) - ((b.y - a.y) * (c.x - a.x)))))) + (((((((c.x - a.x) * (c.x - a.x)) + ((c.y - a.y) * (c.y - a.y))) * (b.x - a.x)) - ((((b.x - a.x) * (b.x - a.x)) + ((b.y - a.y) * (b.y - a.y))) * (c.x - a.x))) / ((((b.x - a.x) * (c.y - a.y)) - ((b.y - a.y) * (c.x - a.x))) + (((b.x - a.x) * (c.y - a.y)) - ((b.y - a.y) * (c.x - a.x))))) * ((((((c.x - a.x) * (c.x - a.x)) + ((c.y - a.y) * (c.y - a.y))) * (b.x - a.x)) - ((((b.x - a.x) * (b.x - a.x)) + ((b.y - a.y) * (b.y - a.y))) * (c.x - a.x))) / ((((b.x - a.x) * (c.y - a.y)) - ((b.y - a.y) * (c.x - a.x))) + (((b.x - a.x) * (c.y - a.y)) - ((b.y - a.y) * (c.x - a.x))))))⟩ : CiV)))
theorem Xk0 (a : VecV) (b : VecV) (c : VecV) : ∀ ro, Jd a b c = some ro → CiV.ht ro ≤ 55 * (VecV.ht a + VecV.ht b + VecV.ht c) + 147 := by
 rcases X7 (decide (Int.sign (Rat.num (((b.x - a.x) * (c.y - a.y)) - ((b.y - a.y) * (c.x - a.x)))) = 0)) with k2 | k2
 ·
  intro ro hr; unfold Jd at hr; simp only [k2, X72] at hr; cases hr
 ·
  intro ro hr; unfold Jd at hr; simp only [k2, X72] at hr; cases hr
  have := VecV.htd a
  have := VecV.htd b
  have := Y7 b.x a.x
  have := Ym (b.x - a.x) (b.x - a.x)
  have := Y7 b.y a.y
  have := Ym (b.y - a.y) (b.y - a.y)
  have := Xal ((b.x - a.x) * (b.x - a.x)) ((b.y - a.y) * (b.y - a.y))
  have := VecV.htd c
  have := Y7 c.y a.y
  have := Ym (((b.x - a.x) * (b.x - a.x)) + ((b.y - a.y) * (b.y - a.y))) (c.y - a.y)
  have := Y7 c.x a.x
  have := Ym (c.x - a.x) (c.x - a.x)
  have := Ym (c.y - a.y) (c.y - a.y)
  have := Xal ((c.x - a.x) * (c.x - a.x)) ((c.y - a.y) * (c.y - a.y))
  have := Ym (((c.x - a.x) * (c.x - a.x)) + ((c.y - a.y) * (c.y - a.y))) (b.y - a.y)
  have := Y7 ((((b.x - a.x) * (b.x - a.x)) + ((b.y - a.y) * (b.y - a.y))) * (c.y - a.y)) ((((c.x - a.x) * (c.x - a.x)) + ((c.y - a.y) * (c.y - a.y))) * (b.y - a.y))
  have := Ym (b.x - a.x) (c.y - a.y)
  have := Ym (b.y - a.y) (c.x - a.x)
  have := Y7 ((b.x - a.x) * (c.y - a.y)) ((b.y - a.y) * (c.x - a.x))
  have := Xal (((b.x - a.x) * (c.y - a.y)) - ((b.y - a.y) * (c.x - a.x))) (((b.x - a.x) * (c.y - a.y)) - ((b.y - a.y) * (c.x - a.x)))
  have := Xkh (((((b.x - a.x) * (b.x - a.x)) + ((b.y - a.y) * (b.y - a.y))) * (c.y - a.y)) - ((((c.x - a.x) * (c.x - a.x)) + ((c.y - a.y) * (c.y - a.y))) * (b.y - a.y))) ((((b.x - a.x) * (c.y - a.y)) - ((b.y - a.y) * (c.x - a.x))) + (((b.x - a.x) * (c.y - a.y)) - ((b.y - a.y) * (c.x - a.x)))) (by first | assumption | exact Xer (by assumption) | exact Xmp _)
  have := Xal a.x ((((((b.x - a.x) * (b.x - a.x)) + ((b.y - a.y) * (b.y - a.y))) * (c.y - a.y)) - ((((c.x - a.x) * (c.x - a.x)) + ((c.y - a.y) * (c.y - a.y))) * (b.y - a.y))) / ((((b.x - a.x) * (c.y - a.y)) - ((b.y - a.y) * (c.x - a.x))) + (((b.x - a.x) * (c.y - a.y)) - ((b.y - a.y) * (c.x - a.x)))))
  have := Ym (((c.x - a.x) * (c.x - a.x)) + ((c.y - a.y) * (c.y - a.y))) (b.x - a.x)
  have := Ym (((b.x - a.x) * (b.x - a.x)) + ((b.y - a.y) * (b.y - a.y))) (c.x - a.x)
  have := Y7 ((((c.x - a.x) * (c.x - a.x)) + ((c.y - a.y) * (c.y - a.y))) * (b.x - a.x)) ((((b.x - a.x) * (b.x - a.x)) + ((b.y - a.y) * (b.y - a.y))) * (c.x - a.x))
  have := Xkh (((((c.x - a.x) * (c.x - a.x)) + ((c.y - a.y) * (c.y - a.y))) * (b.x - a.x)) - ((((b.x - a.x) * (b.x - a.x)) + ((b.y - a.y) * (b.y - a.y))) * (c.x - a.x))) ((((b.x - a.x) * (c.y - a.y)) - ((b.y - a.y) * (c.x - a.x))) + (((b.x - a.x) * (c.y - a.y)) - ((b.y - a.y) * (c.x - a.x)))) (by first | assumption | exact Xer (by assumption) | exact Xmp _)
  have := Xal a.y ((((((c.x - a.x) * (c.x - a.x)) + ((c.y - a.y) * (c.y - a.y))) * (b.x - a.x)) - ((((b.x - a.x) * (b.x - a.x)) + ((b.y - a.y) * (b.y - a.y))) * (c.x - a.x))) / ((((b.x - a.x) * (c.y - a.y)) - ((b.y - a.y) * (c.x - a.x))) + (((b.x - a.x) * (c.y - a.y)) - ((b.y - a.y) * (c.x - a.x)))))
  have := Ym ((((((b.x - a.x) * (b.x - a.x)) + ((b.y - a.y) * (b.y - a.y))) * (c.y - a.y)) - ((((c.x - a.x) * (c.x - a.x)) + ((c.y - a.y) * (c.y - a.y))) * (b.y - a.y))) / ((((b.x - a.x) * (c.y - a.y)) - ((b.y - a.y) * (c.x - a.x))) + (((b.x - a.x) * (c.y - a.y)) - ((b.y - a.y) * (c.x - a.x))))) ((((((b.x - a.x) * (b.x - a.x)) + ((b.y - a.y) * (b.y - a.y))) * (c.y - a.y)) - ((((c.x - a.x) * (c.x - a.x)) + ((c.y - a.y) * (c.y - a.y))) * (b.y - a.y))) / ((((b.x - a.x) * (c.y - a.y)) - ((b.y - a.y) * (c.x - a.x))) + (((b.x - a.x) * (c.y - a.y)) - ((b.y - a.y) * (c.x - a.x)))))
  have := Ym ((((((c.x - a.x) * (c.x - a.x)) + ((c.y - a.y) * (c.y - a.y))) * (b.x - a.x)) - ((((b.x - a.x) * (b.x - a.x)) + ((b.y - a.y) * (b.y - a.y))) * (c.x - a.x))) / ((((b.x - a.x) * (c.y - a.y)) - ((b.y - a.y) * (c.x - a.x))) + (((b.x - a.x) * (c.y - a.y)) - ((b.y - a.y) * (c.x - a.x))))) ((((((c.x - a.x) * (c.x - a.x)) + ((c.y - a.y) * (c.y - a.y))) * (b.x - a.x)) - ((((b.x - a.x) * (b.x - a.x)) + ((b.y - a.y) * (b.y - a.y))) * (c.x - a.x))) / ((((b.x - a.x) * (c.y - a.y)) - ((b.y - a.y) * (c.x - a.x))) + (((b.x - a.x) * (c.y - a.y)) - ((b.y - a.y) * (c.x - a.x)))))
  have := Xal (((((((b.x - a.x) * (b.x - a.x)) + ((b.y - a.y) * (b.y - a.y))) * (c.y - a.y)) - ((((c.x - a.x) * (c.x - a.x)) + ((c.y - a.y) * (c.y - a.y))) * (b.y - a.y))) / ((((b.x - a.x) * (c.y - a.y)) - ((b.y - a.y) * (c.x - a.x))) + (((b.x - a.x) * (c.y - a.y)) - ((b.y - a.y) * (c.x - a.x))))) * ((((((b.x - a.x) * (b.x - a.x)) + ((b.y - a.y) * (b.y - a.y))) * (c.y - a.y)) - ((((c.x - a.x) * (c.x - a.x)) + ((c.y - a.y) * (c.y - a.y))) * (b.y - a.y))) / ((((b.x - a.x) * (c.y - a.y)) - ((b.y - a.y) * (c.x - a.x))) + (((b.x - a.x) * (c.y - a.y)) - ((b.y - a.y) * (c.x - a.x)))))) (((((((c.x - a.x) * (c.x - a.x)) + ((c.y - a.y) * (c.y - a.y))) * (b.x - a.x)) - ((((b.x - a.x) * (b.x - a.x)) + ((b.y - a.y) * (b.y - a.y))) * (c.x - a.x))) / ((((b.x - a.x) * (c.y - a.y)) - ((b.y - a.y) * (c.x - a.x))) + (((b.x - a.x) * (c.y - a.y)) - ((b.y - a.y) * (c.x - a.x))))) * ((((((c.x - a.x) * (c.x - a.x)) + ((c.y - a.y) * (c.y - a.y))) * (b.x - a.x)) - ((((b.x - a.x) * (b.x - a.x)) + ((b.y - a.y) * (b.y - a.y))) * (c.x - a.x))) / ((((b.x - a.x) * (c.y - a.y)) - ((b.y - a.y) * (c.x - a.x))) + (((b.x - a.x) * (c.y - a.y)) - ((b.y - a.y) * (c.x - a.x))))))
  have := CiV.htm (a.x + ((((((b.x - a.x) * (b.x - a.x)) + ((b.y - a.y) * (b.y - a.y))) * (c.y - a.y)) - ((((c.x - a.x) * (c.x - a.x)) + ((c.y - a.y) * (c.y - a.y))) * (b.y - a.y))) / ((((b.x - a.x) * (c.y - a.y)) - ((b.y - a.y) * (c.x - a.x))) + (((b.x - a.x) * (c.y - a.y)) - ((b.y - a.y) * (c.x - a.x)))))) (a.y + ((((((c.x - a.x) * (c.x - a.x)) + ((c.y - a.y) * (c.y - a.y))) * (b.x - a.x)) - ((((b.x - a.x) * (b.x - a.x)) + ((b.y - a.y) * (b.y - a.y))) * (c.x - a.x))) / ((((b.x - a.x) * (c.y - a.y)) - ((b.y - a.y) * (c.x - a.x))) + (((b.x - a.x) * (c.y - a.y)) - ((b.y - a.y) * (c.x - a.x)))))) ((((((((b.x - a.x) * (b.x - a.x)) + ((b.y - a.y) * (b.y - a.y))) * (c.y - a.y)) - ((((c.x - a.x) * (c.x - a.x)) + ((c.y - a.y) * (c.y - a.y))) * (b.y - a.y))) / ((((b.x - a.x) * (c.y - a.y)) - ((b.y - a.y) * (c.x - a.x))) + (((b.x - a.x) * (c.y - a.y)) - ((b.y - a.y) * (c.x - a.x))))) * ((((((b.x - a.x) * (b.x - a.x)) + ((b.y - a.y) * (b.y - a.y))) * (c.y - a.y)) - ((((c.x - a.x) * (c.x - a.x)) + ((c.y - a.y) * (c.y - a.y))) * (b.y - a.y))) / ((((b.x - a.x) * (c.y - a.y)) - ((b.y - a.y) * (c.x - a.x))) + (((b.x - a.x) * (c.y - a.y)) - ((b.y - a.y) * (c.x - a.x)))))) + (((((((c.x - a.x) * (c.x - a.x)) + ((c.y - a.y) * (c.y - a.y))) * (b.x - a.x)) - ((((b.x - a.x) * (b.x - a.x)) + ((b.y - a.y) * (b.y - a.y))) * (c.x - a.x))) / ((((b.x - a.x) * (c.y - a.y)) - ((b.y - a.y) * (c.x - a.x))) + (((b.x - a.x) * (c.y - a.y)) - ((b.y - a.y) * (c.x - a.x))))) * ((((((c.x - a.x) * (c.x - a.x)) + ((c.y - a.y) * (c.y - a.y))) * (b.x - a.x)) - ((((b.x - a.x) * (b.x - a.x)) + ((b.y - a.y) * (b.y - a.y))) * (c.x - a.x))) / ((((b.x - a.x) * (c.y - a.y)) - ((b.y - a.y) * (c.x - a.x))) + (((b.x - a.x) * (c.y - a.y)) - ((b.y - a.y) * (c.x - a.x)))))))
  omega
theorem Xgm (a : VecV) (b : VecV) (c : VecV) (hs : VecV.ht a + VecV.ht b + VecV.ht c ≤ 477218585) : CS Tryz.prog 130 [Xt a, Xt b, Xt c] (Xdr Xbf X61 (ki 0) (ki 6) (Jd a b c)) := by
 refine Xge (N := 99) X6y Tryz.func130 rfl rfl rfl rfl rfl (Xg1 _ _ _ _ _) ?_
 have := VecV.htd b
 have := VecV.htd a
 have := VecV.htd c
 have := VecV.htd b
 have := VecV.htd a
 have := Y7 b.x a.x
 have := VecV.htd c
 have := Y7 c.y a.y
 have := Y7 b.y a.y
 have := Y7 c.x a.x
 have := Ym (b.x - a.x) (c.y - a.y)
 have := Ym (b.y - a.y) (c.x - a.x)
 refine sh 3 [tv 3 (pb 3), tv 6 (pb 6), tv 7 (ki 0), tv 8 (pb 8), tv 9 (pb 9), tv 10 (pb 10), tv 11 (pb 11), tv 12 (pb 12), bv 3 (Xt a), bv 6 X61, bv 8 (Xc (b.x - a.x)), bv 9 (Xc (b.y - a.y)), bv 10 (Xc (c.x - a.x)), bv 11 (Xc (c.y - a.y)), bv 12 (Xc (((b.x - a.x) * (c.y - a.y)) - ((b.y - a.y) * (c.x - a.x))))] (oS (oT 5 oN) (oS (oT 4 (oC (Xdj b.x a.x (by omega)) (oT 4 (oC (Xdj b.y a.y (by omega)) (oT 4 (oC (Xdj c.x a.x (by omega)) (oT 4 (oC (Xdj c.y a.y (by omega)) (oT 8 oN))))))))) (oS (oT 2 (oC (K7 (b.x - a.x) (c.y - a.y) (by omega)) (oT 2 (oC (K7 (b.y - a.y) (c.x - a.x) (by omega)) (oC (Xdj ((b.x - a.x) * (c.y - a.y)) ((b.y - a.y) * (c.x - a.x)) (by omega)) (oT 2 oN)))))) oN))) ?_
 refine Xe ?_
 refine rt [tv 3 (pb 3), tv 6 (pb 6), tv 7 (ki 0), tv 8 (pb 8), tv 9 (pb 9), tv 10 (pb 10), tv 11 (pb 11), tv 12 (pb 12), tv 46 (.bool (decide (Int.sign (Rat.num (((b.x - a.x) * (c.y - a.y)) - ((b.y - a.y) * (c.x - a.x)))) = 0))), bv 3 (Xt a), bv 6 X61, bv 8 (Xc (b.x - a.x)), bv 9 (Xc (b.y - a.y)), bv 10 (Xc (c.x - a.x)), bv 11 (Xc (c.y - a.y)), bv 12 (Xc (((b.x - a.x) * (c.y - a.y)) - ((b.y - a.y) * (c.x - a.x))))] (oT 1 (oC (Za (((b.x - a.x) * (c.y - a.y)) - ((b.y - a.y) * (c.x - a.x)))) (oO (oB (decide (Int.sign (Rat.num (((b.x - a.x) * (c.y - a.y)) - ((b.y - a.y) * (c.x - a.x)))) = 0))) (oA [cT (decide (Int.sign (Rat.num (((b.x - a.x) * (c.y - a.y)) - ((b.y - a.y) * (c.x - a.x)))) = 0))] oN)))) ?_
 refine cB (decide (Int.sign (Rat.num (((b.x - a.x) * (c.y - a.y)) - ((b.y - a.y) * (c.x - a.x)))) = 0)) (fun h1 => ?_) (fun h1 => ?_)
 ·
  have h1' := of_decide_eq_true h1
  refine rt [tv 3 (pb 3), tv 6 (pb 6), tv 7 (ki 6), tv 8 (pb 8), tv 9 (pb 9), tv 10 (pb 10), tv 11 (pb 11), tv 12 (pb 12), bv 3 (Xt a), bv 6 X61, bv 8 (Xc (b.x - a.x)), bv 9 (Xc (b.y - a.y)), bv 10 (Xc (c.x - a.x)), bv 11 (Xc (c.y - a.y)), bv 12 (Xc (((b.x - a.x) * (c.y - a.y)) - ((b.y - a.y) * (c.x - a.x))))] (oT 3 oN) ?_
  refine Xg ?_
  have hl : (Jd a b c) = none := by unfold Jd; simp only [h1, X72]
  show Xca TL _ _ = some (Xdr Xbf X61 (ki 0) (ki 6) (Jd a b c))
  rw [hl]; kernel_rfl
 ·
  have h1' := of_decide_eq_false h1
  refine Xn ?_
  have := VecV.htd b
  have := VecV.htd a
  have := Y7 b.x a.x
  have := VecV.htd c
  have := Y7 c.y a.y
  have := Ym (b.x - a.x) (c.y - a.y)
  have := Y7 b.y a.y
  have := Y7 c.x a.x
  have := Ym (b.y - a.y) (c.x - a.x)
  have := Y7 ((b.x - a.x) * (c.y - a.y)) ((b.y - a.y) * (c.x - a.x))
  have := VecV.htd b
  have := VecV.htd a
  have := Y7 b.x a.x
  have := Y7 b.y a.y
  have := Ym (b.x - a.x) (b.x - a.x)
  have := Ym (b.y - a.y) (b.y - a.y)
  have := VecV.htd c
  have := Y7 c.x a.x
  have := Y7 c.y a.y
  have := Ym (c.x - a.x) (c.x - a.x)
  have := Ym (c.y - a.y) (c.y - a.y)
  have := VecV.htd b
  have := VecV.htd a
  have := Y7 b.x a.x
  have := Ym (b.x - a.x) (b.x - a.x)
  have := Y7 b.y a.y
  have := Ym (b.y - a.y) (b.y - a.y)
  have := Xal ((b.x - a.x) * (b.x - a.x)) ((b.y - a.y) * (b.y - a.y))
  have := VecV.htd c
  have := Y7 c.y a.y
  have := Y7 c.x a.x
  have := Ym (c.x - a.x) (c.x - a.x)
  have := Ym (c.y - a.y) (c.y - a.y)
  have := Xal ((c.x - a.x) * (c.x - a.x)) ((c.y - a.y) * (c.y - a.y))
  have := Ym (((b.x - a.x) * (b.x - a.x)) + ((b.y - a.y) * (b.y - a.y))) (c.y - a.y)
  have := Ym (((c.x - a.x) * (c.x - a.x)) + ((c.y - a.y) * (c.y - a.y))) (b.y - a.y)
  have := Y7 ((((b.x - a.x) * (b.x - a.x)) + ((b.y - a.y) * (b.y - a.y))) * (c.y - a.y)) ((((c.x - a.x) * (c.x - a.x)) + ((c.y - a.y) * (c.y - a.y))) * (b.y - a.y))
  have := Ym (b.x - a.x) (c.y - a.y)
  have := Ym (b.y - a.y) (c.x - a.x)
  have := Y7 ((b.x - a.x) * (c.y - a.y)) ((b.y - a.y) * (c.x - a.x))
  have := Xal (((b.x - a.x) * (c.y - a.y)) - ((b.y - a.y) * (c.x - a.x))) (((b.x - a.x) * (c.y - a.y)) - ((b.y - a.y) * (c.x - a.x)))
  have := Ym (((c.x - a.x) * (c.x - a.x)) + ((c.y - a.y) * (c.y - a.y))) (b.x - a.x)
  have := Ym (((b.x - a.x) * (b.x - a.x)) + ((b.y - a.y) * (b.y - a.y))) (c.x - a.x)
  have := Y7 ((((c.x - a.x) * (c.x - a.x)) + ((c.y - a.y) * (c.y - a.y))) * (b.x - a.x)) ((((b.x - a.x) * (b.x - a.x)) + ((b.y - a.y) * (b.y - a.y))) * (c.x - a.x))
  have := VecV.htd a
  have := VecV.htd b
  have := Y7 b.x a.x
  have := Ym (b.x - a.x) (b.x - a.x)
  have := Y7 b.y a.y
  have := Ym (b.y - a.y) (b.y - a.y)
  have := Xal ((b.x - a.x) * (b.x - a.x)) ((b.y - a.y) * (b.y - a.y))
  have := VecV.htd c
  have := Y7 c.y a.y
  have := Ym (((b.x - a.x) * (b.x - a.x)) + ((b.y - a.y) * (b.y - a.y))) (c.y - a.y)
  have := Y7 c.x a.x
  have := Ym (c.x - a.x) (c.x - a.x)
  have := Ym (c.y - a.y) (c.y - a.y)
  have := Xal ((c.x - a.x) * (c.x - a.x)) ((c.y - a.y) * (c.y - a.y))
  have := Ym (((c.x - a.x) * (c.x - a.x)) + ((c.y - a.y) * (c.y - a.y))) (b.y - a.y)
  have := Y7 ((((b.x - a.x) * (b.x - a.x)) + ((b.y - a.y) * (b.y - a.y))) * (c.y - a.y)) ((((c.x - a.x) * (c.x - a.x)) + ((c.y - a.y) * (c.y - a.y))) * (b.y - a.y))
  have := Ym (b.x - a.x) (c.y - a.y)
  have := Ym (b.y - a.y) (c.x - a.x)
  have := Y7 ((b.x - a.x) * (c.y - a.y)) ((b.y - a.y) * (c.x - a.x))
  have := Xal (((b.x - a.x) * (c.y - a.y)) - ((b.y - a.y) * (c.x - a.x))) (((b.x - a.x) * (c.y - a.y)) - ((b.y - a.y) * (c.x - a.x)))
  have := Xkh (((((b.x - a.x) * (b.x - a.x)) + ((b.y - a.y) * (b.y - a.y))) * (c.y - a.y)) - ((((c.x - a.x) * (c.x - a.x)) + ((c.y - a.y) * (c.y - a.y))) * (b.y - a.y))) ((((b.x - a.x) * (c.y - a.y)) - ((b.y - a.y) * (c.x - a.x))) + (((b.x - a.x) * (c.y - a.y)) - ((b.y - a.y) * (c.x - a.x)))) (by first | assumption | exact Xer (by assumption) | exact Xmp _)
  have := Ym (((c.x - a.x) * (c.x - a.x)) + ((c.y - a.y) * (c.y - a.y))) (b.x - a.x)
  have := Ym (((b.x - a.x) * (b.x - a.x)) + ((b.y - a.y) * (b.y - a.y))) (c.x - a.x)
  have := Y7 ((((c.x - a.x) * (c.x - a.x)) + ((c.y - a.y) * (c.y - a.y))) * (b.x - a.x)) ((((b.x - a.x) * (b.x - a.x)) + ((b.y - a.y) * (b.y - a.y))) * (c.x - a.x))
  have := Xkh (((((c.x - a.x) * (c.x - a.x)) + ((c.y - a.y) * (c.y - a.y))) * (b.x - a.x)) - ((((b.x - a.x) * (b.x - a.x)) + ((b.y - a.y) * (b.y - a.y))) * (c.x - a.x))) ((((b.x - a.x) * (c.y - a.y)) - ((b.y - a.y) * (c.x - a.x))) + (((b.x - a.x) * (c.y - a.y)) - ((b.y - a.y) * (c.x - a.x)))) (by first | assumption | exact Xer (by assumption) | exact Xmp _)
  have := Ym ((((((b.x - a.x) * (b.x - a.x)) + ((b.y - a.y) * (b.y - a.y))) * (c.y - a.y)) - ((((c.x - a.x) * (c.x - a.x)) + ((c.y - a.y) * (c.y - a.y))) * (b.y - a.y))) / ((((b.x - a.x) * (c.y - a.y)) - ((b.y - a.y) * (c.x - a.x))) + (((b.x - a.x) * (c.y - a.y)) - ((b.y - a.y) * (c.x - a.x))))) ((((((b.x - a.x) * (b.x - a.x)) + ((b.y - a.y) * (b.y - a.y))) * (c.y - a.y)) - ((((c.x - a.x) * (c.x - a.x)) + ((c.y - a.y) * (c.y - a.y))) * (b.y - a.y))) / ((((b.x - a.x) * (c.y - a.y)) - ((b.y - a.y) * (c.x - a.x))) + (((b.x - a.x) * (c.y - a.y)) - ((b.y - a.y) * (c.x - a.x)))))
  have := Ym ((((((c.x - a.x) * (c.x - a.x)) + ((c.y - a.y) * (c.y - a.y))) * (b.x - a.x)) - ((((b.x - a.x) * (b.x - a.x)) + ((b.y - a.y) * (b.y - a.y))) * (c.x - a.x))) / ((((b.x - a.x) * (c.y - a.y)) - ((b.y - a.y) * (c.x - a.x))) + (((b.x - a.x) * (c.y - a.y)) - ((b.y - a.y) * (c.x - a.x))))) ((((((c.x - a.x) * (c.x - a.x)) + ((c.y - a.y) * (c.y - a.y))) * (b.x - a.x)) - ((((b.x - a.x) * (b.x - a.x)) + ((b.y - a.y) * (b.y - a.y))) * (c.x - a.x))) / ((((b.x - a.x) * (c.y - a.y)) - ((b.y - a.y) * (c.x - a.x))) + (((b.x - a.x) * (c.y - a.y)) - ((b.y - a.y) * (c.x - a.x)))))
  refine sh 4 [tv 6 (pb 6), tv 7 (ki 0), bv 6 (Xbf (⟨a.x + ((((((b.x - a.x) * (b.x - a.x)) + ((b.y - a.y) * (b.y - a.y))) * (c.y - a.y)) - ((((c.x - a.x) * (c.x - a.x)) + ((c.y - a.y) * (c.y - a.y))) * (b.y - a.y))) / ((((b.x - a.x) * (c.y - a.y)) - ((b.y - a.y) * (c.x - a.x))) + (((b.x - a.x) * (c.y - a.y)) - ((b.y - a.y) * (c.x - a.x))))), a.y + ((((((c.x - a.x) * (c.x - a.x)) + ((c.y - a.y) * (c.y - a.y))) * (b.x - a.x)) - ((((b.x - a.x) * (b.x - a.x)) + ((b.y - a.y) * (b.y - a.y))) * (c.x - a.x))) / ((((b.x - a.x) * (c.y - a.y)) - ((b.y - a.y) * (c.x - a.x))) + (((b.x - a.x) * (c.y - a.y)) - ((b.y - a.y) * (c.x - a.x))))), (((((((b.x - a.x) * (b.x - a.x)) + ((b.y - a.y) * (b.y - a.y))) * (c.y - a.y)) - ((((c.x - a.x) * (c.x - a.x)) + ((c.y - a.y) * (c.y - a.y))) * (b.y - a.y))) / ((((b.x - a.x) * (c.y - a.y)) - ((b.y - a.y) * (c.x - a.x))) + (((b.x - a.x) * (c.y - a.y)) - ((b.y - a.y) * (c.x - a.x))))) * ((((((b.x - a.x) * (b.x - a.x)) + ((b.y - a.y) * (b.y - a.y))) * (c.y - a.y)) - ((((c.x - a.x) * (c.x - a.x)) + ((c.y - a.y) * (c.y - a.y))) * (b.y - a.y))) / ((((b.x - a.x) * (c.y - a.y)) - ((b.y - a.y) * (c.x - a.x))) + (((b.x - a.x) * (c.y - a.y)) - ((b.y - a.y) * (c.x - a.x)))))) + (((((((c.x - a.x) * (c.x - a.x)) + ((c.y - a.y) * (c.y - a.y))) * (b.x - a.x)) - ((((b.x - a.x) * (b.x - a.x)) + ((b.y - a.y) * (b.y - a.y))) * (c.x - a.x))) / ((((b.x - a.x) * (c.y - a.y)) - ((b.y - a.y) * (c.x - a.x))) + (((b.x - a.x) * (c.y - a.y)) - ((b.y - a.y) * (c.x - a.x))))) * ((((((c.x - a.x) * (c.x - a.x)) + ((c.y - a.y) * (c.y - a.y))) * (b.x - a.x)) - ((((b.x - a.x) * (b.x - a.x)) + ((b.y - a.y) * (b.y - a.y))) * (c.x - a.x))) / ((((b.x - a.x) * (c.y - a.y)) - ((b.y - a.y) * (c.x - a.x))) + (((b.x - a.x) * (c.y - a.y)) - ((b.y - a.y) * (c.x - a.x))))))⟩ : CiV))] (oS (oT 2 (oC (Xdo (((b.x - a.x) * (c.y - a.y)) - ((b.y - a.y) * (c.x - a.x))) (((b.x - a.x) * (c.y - a.y)) - ((b.y - a.y) * (c.x - a.x))) (by omega)) (oT 1 oN))) (oS (oT 2 (oC (K7 (b.x - a.x) (b.x - a.x) (by omega)) (oT 2 (oC (K7 (b.y - a.y) (b.y - a.y) (by omega)) (oC (Xdo ((b.x - a.x) * (b.x - a.x)) ((b.y - a.y) * (b.y - a.y)) (by omega)) (oT 2 (oC (K7 (c.x - a.x) (c.x - a.x) (by omega)) (oT 2 (oC (K7 (c.y - a.y) (c.y - a.y) (by omega)) (oC (Xdo ((c.x - a.x) * (c.x - a.x)) ((c.y - a.y) * (c.y - a.y)) (by omega)) (oT 4 oN))))))))))) (oS (oT 2 (oC (K7 (((b.x - a.x) * (b.x - a.x)) + ((b.y - a.y) * (b.y - a.y))) (c.y - a.y) (by omega)) (oT 2 (oC (K7 (((c.x - a.x) * (c.x - a.x)) + ((c.y - a.y) * (c.y - a.y))) (b.y - a.y) (by omega)) (oC (Xdj ((((b.x - a.x) * (b.x - a.x)) + ((b.y - a.y) * (b.y - a.y))) * (c.y - a.y)) ((((c.x - a.x) * (c.x - a.x)) + ((c.y - a.y) * (c.y - a.y))) * (b.y - a.y)) (by omega)) (oT 1 (oC (Xrs (((((b.x - a.x) * (b.x - a.x)) + ((b.y - a.y) * (b.y - a.y))) * (c.y - a.y)) - ((((c.x - a.x) * (c.x - a.x)) + ((c.y - a.y) * (c.y - a.y))) * (b.y - a.y))) ((((b.x - a.x) * (c.y - a.y)) - ((b.y - a.y) * (c.x - a.x))) + (((b.x - a.x) * (c.y - a.y)) - ((b.y - a.y) * (c.x - a.x)))) (by omega) (by first | assumption | exact Xer (by assumption) | exact Xmp _)) (oT 2 (oC (K7 (((c.x - a.x) * (c.x - a.x)) + ((c.y - a.y) * (c.y - a.y))) (b.x - a.x) (by omega)) (oT 2 (oC (K7 (((b.x - a.x) * (b.x - a.x)) + ((b.y - a.y) * (b.y - a.y))) (c.x - a.x) (by omega)) (oC (Xdj ((((c.x - a.x) * (c.x - a.x)) + ((c.y - a.y) * (c.y - a.y))) * (b.x - a.x)) ((((b.x - a.x) * (b.x - a.x)) + ((b.y - a.y) * (b.y - a.y))) * (c.x - a.x)) (by omega)) (oT 1 (oC (Xrs (((((c.x - a.x) * (c.x - a.x)) + ((c.y - a.y) * (c.y - a.y))) * (b.x - a.x)) - ((((b.x - a.x) * (b.x - a.x)) + ((b.y - a.y) * (b.y - a.y))) * (c.x - a.x))) ((((b.x - a.x) * (c.y - a.y)) - ((b.y - a.y) * (c.x - a.x))) + (((b.x - a.x) * (c.y - a.y)) - ((b.y - a.y) * (c.x - a.x)))) (by omega) (by first | assumption | exact Xer (by assumption) | exact Xmp _)) (oT 4 oN))))))))))))))) (oS (oT 3 (oC (Xdo a.x ((((((b.x - a.x) * (b.x - a.x)) + ((b.y - a.y) * (b.y - a.y))) * (c.y - a.y)) - ((((c.x - a.x) * (c.x - a.x)) + ((c.y - a.y) * (c.y - a.y))) * (b.y - a.y))) / ((((b.x - a.x) * (c.y - a.y)) - ((b.y - a.y) * (c.x - a.x))) + (((b.x - a.x) * (c.y - a.y)) - ((b.y - a.y) * (c.x - a.x))))) (by omega)) (oT 3 (oC (Xdo a.y ((((((c.x - a.x) * (c.x - a.x)) + ((c.y - a.y) * (c.y - a.y))) * (b.x - a.x)) - ((((b.x - a.x) * (b.x - a.x)) + ((b.y - a.y) * (b.y - a.y))) * (c.x - a.x))) / ((((b.x - a.x) * (c.y - a.y)) - ((b.y - a.y) * (c.x - a.x))) + (((b.x - a.x) * (c.y - a.y)) - ((b.y - a.y) * (c.x - a.x))))) (by omega)) (oT 2 (oC (K7 ((((((b.x - a.x) * (b.x - a.x)) + ((b.y - a.y) * (b.y - a.y))) * (c.y - a.y)) - ((((c.x - a.x) * (c.x - a.x)) + ((c.y - a.y) * (c.y - a.y))) * (b.y - a.y))) / ((((b.x - a.x) * (c.y - a.y)) - ((b.y - a.y) * (c.x - a.x))) + (((b.x - a.x) * (c.y - a.y)) - ((b.y - a.y) * (c.x - a.x))))) ((((((b.x - a.x) * (b.x - a.x)) + ((b.y - a.y) * (b.y - a.y))) * (c.y - a.y)) - ((((c.x - a.x) * (c.x - a.x)) + ((c.y - a.y) * (c.y - a.y))) * (b.y - a.y))) / ((((b.x - a.x) * (c.y - a.y)) - ((b.y - a.y) * (c.x - a.x))) + (((b.x - a.x) * (c.y - a.y)) - ((b.y - a.y) * (c.x - a.x))))) (by omega)) (oT 2 (oC (K7 ((((((c.x - a.x) * (c.x - a.x)) + ((c.y - a.y) * (c.y - a.y))) * (b.x - a.x)) - ((((b.x - a.x) * (b.x - a.x)) + ((b.y - a.y) * (b.y - a.y))) * (c.x - a.x))) / ((((b.x - a.x) * (c.y - a.y)) - ((b.y - a.y) * (c.x - a.x))) + (((b.x - a.x) * (c.y - a.y)) - ((b.y - a.y) * (c.x - a.x))))) ((((((c.x - a.x) * (c.x - a.x)) + ((c.y - a.y) * (c.y - a.y))) * (b.x - a.x)) - ((((b.x - a.x) * (b.x - a.x)) + ((b.y - a.y) * (b.y - a.y))) * (c.x - a.x))) / ((((b.x - a.x) * (c.y - a.y)) - ((b.y - a.y) * (c.x - a.x))) + (((b.x - a.x) * (c.y - a.y)) - ((b.y - a.y) * (c.x - a.x))))) (by omega)) (oC (Xdo (((((((b.x - a.x) * (b.x - a.x)) + ((b.y - a.y) * (b.y - a.y))) * (c.y - a.y)) - ((((c.x - a.x) * (c.x - a.x)) + ((c.y - a.y) * (c.y - a.y))) * (b.y - a.y))) / ((((b.x - a.x) * (c.y - a.y)) - ((b.y - a.y) * (c.x - a.x))) + (((b.x - a.x) * (c.y - a.y)) - ((b.y - a.y) * (c.x - a.x))))) * ((((((b.x - a.x) * (b.x - a.x)) + ((b.y - a.y) * (b.y - a.y))) * (c.y - a.y)) - ((((c.x - a.x) * (c.x - a.x)) + ((c.y - a.y) * (c.y - a.y))) * (b.y - a.y))) / ((((b.x - a.x) * (c.y - a.y)) - ((b.y - a.y) * (c.x - a.x))) + (((b.x - a.x) * (c.y - a.y)) - ((b.y - a.y) * (c.x - a.x)))))) (((((((c.x - a.x) * (c.x - a.x)) + ((c.y - a.y) * (c.y - a.y))) * (b.x - a.x)) - ((((b.x - a.x) * (b.x - a.x)) + ((b.y - a.y) * (b.y - a.y))) * (c.x - a.x))) / ((((b.x - a.x) * (c.y - a.y)) - ((b.y - a.y) * (c.x - a.x))) + (((b.x - a.x) * (c.y - a.y)) - ((b.y - a.y) * (c.x - a.x))))) * ((((((c.x - a.x) * (c.x - a.x)) + ((c.y - a.y) * (c.y - a.y))) * (b.x - a.x)) - ((((b.x - a.x) * (b.x - a.x)) + ((b.y - a.y) * (b.y - a.y))) * (c.x - a.x))) / ((((b.x - a.x) * (c.y - a.y)) - ((b.y - a.y) * (c.x - a.x))) + (((b.x - a.x) * (c.y - a.y)) - ((b.y - a.y) * (c.x - a.x)))))) (by omega)) (oT 3 oN)))))))))) oN)))) ?_
  refine Xg ?_
  have hl : (Jd a b c) = (some (⟨a.x + ((((((b.x - a.x) * (b.x - a.x)) + ((b.y - a.y) * (b.y - a.y))) * (c.y - a.y)) - ((((c.x - a.x) * (c.x - a.x)) + ((c.y - a.y) * (c.y - a.y))) * (b.y - a.y))) / ((((b.x - a.x) * (c.y - a.y)) - ((b.y - a.y) * (c.x - a.x))) + (((b.x - a.x) * (c.y - a.y)) - ((b.y - a.y) * (c.x - a.x))))), a.y + ((((((c.x - a.x) * (c.x - a.x)) + ((c.y - a.y) * (c.y - a.y))) * (b.x - a.x)) - ((((b.x - a.x) * (b.x - a.x)) + ((b.y - a.y) * (b.y - a.y))) * (c.x - a.x))) / ((((b.x - a.x) * (c.y - a.y)) - ((b.y - a.y) * (c.x - a.x))) + (((b.x - a.x) * (c.y - a.y)) - ((b.y - a.y) * (c.x - a.x))))), (((((((b.x - a.x) * (b.x - a.x)) + ((b.y - a.y) * (b.y - a.y))) * (c.y - a.y)) - ((((c.x - a.x) * (c.x - a.x)) + ((c.y - a.y) * (c.y - a.y))) * (b.y - a.y))) / ((((b.x - a.x) * (c.y - a.y)) - ((b.y - a.y) * (c.x - a.x))) + (((b.x - a.x) * (c.y - a.y)) - ((b.y - a.y) * (c.x - a.x))))) * ((((((b.x - a.x) * (b.x - a.x)) + ((b.y - a.y) * (b.y - a.y))) * (c.y - a.y)) - ((((c.x - a.x) * (c.x - a.x)) + ((c.y - a.y) * (c.y - a.y))) * (b.y - a.y))) / ((((b.x - a.x) * (c.y - a.y)) - ((b.y - a.y) * (c.x - a.x))) + (((b.x - a.x) * (c.y - a.y)) - ((b.y - a.y) * (c.x - a.x)))))) + (((((((c.x - a.x) * (c.x - a.x)) + ((c.y - a.y) * (c.y - a.y))) * (b.x - a.x)) - ((((b.x - a.x) * (b.x - a.x)) + ((b.y - a.y) * (b.y - a.y))) * (c.x - a.x))) / ((((b.x - a.x) * (c.y - a.y)) - ((b.y - a.y) * (c.x - a.x))) + (((b.x - a.x) * (c.y - a.y)) - ((b.y - a.y) * (c.x - a.x))))) * ((((((c.x - a.x) * (c.x - a.x)) + ((c.y - a.y) * (c.y - a.y))) * (b.x - a.x)) - ((((b.x - a.x) * (b.x - a.x)) + ((b.y - a.y) * (b.y - a.y))) * (c.x - a.x))) / ((((b.x - a.x) * (c.y - a.y)) - ((b.y - a.y) * (c.x - a.x))) + (((b.x - a.x) * (c.y - a.y)) - ((b.y - a.y) * (c.x - a.x))))))⟩ : CiV)) := by unfold Jd; simp only [h1, X72]
  show Xca TL _ _ = some (Xdr Xbf X61 (ki 0) (ki 6) (Jd a b c))
  rw [hl]; kernel_rfl
def Xaj (a : VecV) (b : VecV) : (Option SegV) := (Xfb (J6 a b) (fun r2 => (some (⟨r2, Km a, Km b⟩ : SegV))) none)
theorem Xqr (a : VecV) (b : VecV) : ∀ ro, Xaj a b = some ro → SegV.ht ro ≤ 4 * (VecV.ht a + VecV.ht b) + 23 := by
 rcases Xbs (J6 a b) with k3 | ⟨r2, k3⟩
 ·
  intro ro hr; unfold Xaj at hr; simp only [k3, X72] at hr; cases hr
 ·
  intro ro hr; unfold Xaj at hr; simp only [k3, X72] at hr; cases hr
  have := Xqm a b _ k3
  have := Xkc a
  have := Xkc b
  have := SegV.htm r2 (Km a) (Km b)
  omega
theorem Xqp (a : VecV) (b : VecV) (hs : VecV.ht a + VecV.ht b ≤ 8589934591) : CS Tryz.prog 46 [Xt a, Xt b] (Xdr Xvf (.st [.bool false, X61, X61, .bool false, X7q, X7q]) (ki 0) (ki 6) (Xaj a b)) := by
 refine Xge (N := 23) X6y Tryz.func46 rfl rfl rfl rfl rfl (Xg1 _ _ _ _ _) ?_
 refine rt [tv 2 (pb 2), tv 3 (pb 3), tv 4 (pb 4), tv 5 (ki 0), bv 2 (Xt a), bv 3 (Xt b), bv 4 (.st [.bool false, X61, X61, .bool false, X7q, X7q])] (oT 4 oN) ?_
 refine Xe ?_
 rcases Xbs (J6 a b) with h1 | ⟨r2, h1⟩
 ·
  refine rh [tv 2 (pb 2), tv 3 (pb 3), tv 4 (pb 4), tv 5 (ki 0), tv 6 (pb 6), tv 7 (ki 6), bv 2 (Xt a), bv 3 (Xt b), bv 4 (.st [.bool false, X61, X61, .bool false, X7q, X7q]), bv 6 X61] (oT 2 (oO (Jl (Xlb a b (by omega)) (by rw [h1]; rfl) : CS Tryz.prog 128 [Xt a, Xt b] (.tup [X61, ki 6])) (oT 6 (oA [.tup [X61, ki 6]] oN)))) ?_
  refine Xe ?_
  refine rt [tv 2 (pb 2), tv 3 (pb 3), tv 4 (pb 4), tv 5 (ki 0), tv 6 (pb 6), tv 15 (.bool true), bv 2 (Xt a), bv 3 (Xt b), bv 4 (.st [.bool false, X61, X61, .bool false, X7q, X7q]), bv 6 X61] (oT 1 (oO (aI trivial (by decide : (!(decide ((6 : Int) = 0))) = true)) (oA [cT true] oN))) ?_
  refine cB (true) (fun _ => ?_) (fun h => Bool.noConfusion h)
  refine rt [tv 2 (pb 2), tv 3 (pb 3), tv 4 (pb 4), tv 5 (ki 6), tv 6 (pb 6), bv 2 (Xt a), bv 3 (Xt b), bv 4 (.st [.bool false, X61, X61, .bool false, X7q, X7q]), bv 6 X61] (oT 3 oN) ?_
  refine Xg ?_
  have hl : (Xaj a b) = none := by unfold Xaj; simp only [h1, X72]
  show Xca TL _ _ = some (Xdr Xvf (.st [.bool false, X61, X61, .bool false, X7q, X7q]) (ki 0) (ki 6) (Xaj a b))
  rw [hl]; kernel_rfl
 ·
  refine rh [tv 2 (pb 2), tv 3 (pb 3), tv 4 (pb 4), tv 5 (ki 0), tv 6 (pb 6), tv 7 (ki 0), bv 2 (Xt a), bv 3 (Xt b), bv 4 (.st [.bool false, X61, X61, .bool false, X7q, X7q]), bv 6 (Xea r2)] (oT 2 (oO (Jl (Xlb a b (by omega)) (by rw [h1]; rfl) : CS Tryz.prog 128 [Xt a, Xt b] (.tup [Xea r2, ki 0])) (oT 6 (oA [.tup [Xea r2, ki 0]] oN)))) ?_
  refine Xe ?_
  refine rt [tv 2 (pb 2), tv 3 (pb 3), tv 4 (pb 4), tv 5 (ki 0), tv 6 (pb 6), tv 15 (.bool false), bv 2 (Xt a), bv 3 (Xt b), bv 4 (.st [.bool false, X61, X61, .bool false, X7q, X7q]), bv 6 (Xea r2)] (oT 1 (oO (aI trivial (by decide : (!(decide ((0 : Int) = 0))) = false)) (oA [cT false] oN))) ?_
  refine cB (false) (fun h => Bool.noConfusion h) (fun _ => ?_)
  refine Xn ?_
  refine rt [tv 4 (pb 4), tv 5 (ki 0), bv 4 (Xz (CrvV.seg (⟨r2, Km a, Km b⟩ : SegV)))] (oT 2 (oC (Xj3 a) (oT 1 (oC (Xj3 b) (oT 3 oN))))) ?_
  refine Xg ?_
  have hl : (Xaj a b) = (some (⟨r2, Km a, Km b⟩ : SegV)) := by unfold Xaj; simp only [h1, X72]
  show Xca TL _ _ = some (Xdr Xvf (.st [.bool false, X61, X61, .bool false, X7q, X7q]) (ki 0) (ki 6) (Xaj a b))
  rw [hl]; kernel_rfl
def Zi (a : VecV) (b : VecV) (c : VecV) : (Option ArcV) := (Xfb (Jd a b c) (fun r2 => (bif (decide (Jh a b c = 0)) then none else (some (⟨r2, decide (Jh a b c < 0), Km a, Km c⟩ : ArcV)))) (bif (decide (Jh a b c = 0)) then none else none))
theorem Xmt (a : VecV) (b : VecV) (c : VecV) : ∀ ro, Zi a b c = some ro → ArcV.ht ro ≤ 56 * (VecV.ht a + VecV.ht b + VecV.ht c) + 165 := by
 rcases Xbs (Jd a b c) with k5 | ⟨r2, k5⟩
 ·
  rcases X7 (decide (Jh a b c = 0)) with k6 | k6
  ·
   intro ro hr; unfold Zi at hr; simp only [k5, k6, X72] at hr; cases hr
  ·
   intro ro hr; unfold Zi at hr; simp only [k5, k6, X72] at hr; cases hr
 ·
  rcases X7 (decide (Jh a b c = 0)) with k7 | k7
  ·
   intro ro hr; unfold Zi at hr; simp only [k5, k7, X72] at hr; cases hr
  ·
   intro ro hr; unfold Zi at hr; simp only [k5, k7, X72] at hr; cases hr
   have := Xk0 a b c _ k5
   have := Xkc a
   have := Xkc c
   have := ArcV.htm r2 (decide (Jh a b c < 0)) (Km a) (Km c)
   omega
theorem Xnc (a : VecV) (b : VecV) (c : VecV) (hs : VecV.ht a + VecV.ht b + VecV.ht c ≤ 477218585) : CS Tryz.prog 48 [Xt a, Xt b, Xt c] (Xdr Xox (.st [.bool false, X61, X61, .bool false, X7q, X7q]) (ki 0) (ki 6) (Zi a b c)) := by
 refine Xge (N := 37) X6y Tryz.func48 rfl rfl rfl rfl rfl (Xg1 _ _ _ _ _) ?_
 refine sh 2 [tv 3 (pb 3), tv 4 (pb 4), tv 5 (pb 5), tv 6 (pb 6), tv 7 (ki 0), tv 8 (ki (Jh a b c)), bv 3 (Xt a), bv 4 (Xt b), bv 5 (Xt c), bv 6 (.st [.bool false, X61, X61, .bool false, X7q, X7q])] (oS (oT 5 oN) (oS (oT 3 (oC (Xvs a b c (by omega)) (oT 1 oN))) oN)) ?_
 refine Xe ?_
 rcases Xbs (Jd a b c) with h1 | ⟨r2, h1⟩
 ·
  refine rh [tv 3 (pb 3), tv 5 (pb 5), tv 6 (pb 6), tv 7 (ki 0), tv 8 (ki (Jh a b c)), tv 9 (pb 9), tv 10 (ki 6), bv 3 (Xt a), bv 5 (Xt c), bv 6 (.st [.bool false, X61, X61, .bool false, X7q, X7q]), bv 9 X61] (oT 3 (oO (Jl (Xgm a b c (by omega)) (by rw [h1]; rfl) : CS Tryz.prog 130 [Xt a, Xt b, Xt c] (.tup [X61, ki 6])) (oT 6 (oA [.tup [X61, ki 6]] oN)))) ?_
  refine Xe ?_
  refine Xe ?_
  rcases X7 (decide (Jh a b c = 0)) with h3 | h3
  ·
   have h3' := of_decide_eq_true h3
   refine rh [tv 3 (pb 3), tv 5 (pb 5), tv 6 (pb 6), tv 7 (ki 0), tv 8 (ki (Jh a b c)), tv 9 (pb 9), tv 27 (.bool true), bv 3 (Xt a), bv 5 (Xt c), bv 6 (.st [.bool false, X61, X61, .bool false, X7q, X7q]), bv 9 X61] (oT 1 (oO (aI trivial (h3 : (decide (Jh a b c = 0)) = true)) (oT 1 (oO (gn [false]) (oO (gn [true]) (oT 1 (oA [cT true, cT true] oN))))))) ?_
   refine cB (true) (fun _ => ?_) (fun h => Bool.noConfusion h)
   refine rt [tv 3 (pb 3), tv 5 (pb 5), tv 6 (pb 6), tv 7 (ki 6), tv 8 (ki (Jh a b c)), tv 9 (pb 9), bv 3 (Xt a), bv 5 (Xt c), bv 6 (.st [.bool false, X61, X61, .bool false, X7q, X7q]), bv 9 X61] (oT 3 oN) ?_
   refine Xg ?_
   have hl : (Zi a b c) = none := by unfold Zi; simp only [h1, h3, X72]
   show Xca TL _ _ = some (Xdr Xox (.st [.bool false, X61, X61, .bool false, X7q, X7q]) (ki 0) (ki 6) (Zi a b c))
   rw [hl]; kernel_rfl
  ·
   have h3' := of_decide_eq_false h3
   refine rh [tv 3 (pb 3), tv 5 (pb 5), tv 6 (pb 6), tv 7 (ki 0), tv 8 (ki (Jh a b c)), tv 9 (pb 9), tv 27 (.bool true), bv 3 (Xt a), bv 5 (Xt c), bv 6 (.st [.bool false, X61, X61, .bool false, X7q, X7q]), bv 9 X61] (oT 1 (oO (aI trivial (h3 : (decide (Jh a b c = 0)) = false)) (oT 1 (oO (Xh 1 trivial) (oO (Xh 1 (aI trivial (by decide : (!(decide ((6 : Int) = 0))) = true))) (oT 1 (oA [cT false, cT true] oN))))))) ?_
   refine cB (true) (fun _ => ?_) (fun h => Bool.noConfusion h)
   refine rt [tv 3 (pb 3), tv 5 (pb 5), tv 6 (pb 6), tv 7 (ki 6), tv 8 (ki (Jh a b c)), tv 9 (pb 9), bv 3 (Xt a), bv 5 (Xt c), bv 6 (.st [.bool false, X61, X61, .bool false, X7q, X7q]), bv 9 X61] (oT 3 oN) ?_
   refine Xg ?_
   have hl : (Zi a b c) = none := by unfold Zi; simp only [h1, h3, X72]
   show Xca TL _ _ = some (Xdr Xox (.st [.bool false, X61, X61, .bool false, X7q, X7q]) (ki 0) (ki 6) (Zi a b c))
   rw [hl]; kernel_rfl
 ·
  refine rh [tv 3 (pb 3), tv 5 (pb 5), tv 6 (pb 6), tv 7 (ki 0), tv 8 (ki (Jh a b c)), tv 9 (pb 9), tv 10 (ki 0), bv 3 (Xt a), bv 5 (Xt c), bv 6 (.st [.bool false, X61, X61, .bool false, X7q, X7q]), bv 9 (Xbf r2)] (oT 3 (oO (Jl (Xgm a b c (by omega)) (by rw [h1]; rfl) : CS Tryz.prog 130 [Xt a, Xt b, Xt c] (.tup [Xbf r2, ki 0])) (oT 6 (oA [.tup [Xbf r2, ki 0]] oN)))) ?_
  refine Xe ?_
  refine Xe ?_
  rcases X7 (decide (Jh a b c = 0)) with h4 | h4
  ·
   have h4' := of_decide_eq_true h4
   refine rh [tv 3 (pb 3), tv 5 (pb 5), tv 6 (pb 6), tv 7 (ki 0), tv 8 (ki (Jh a b c)), tv 9 (pb 9), tv 27 (.bool true), bv 3 (Xt a), bv 5 (Xt c), bv 6 (.st [.bool false, X61, X61, .bool false, X7q, X7q]), bv 9 (Xbf r2)] (oT 1 (oO (aI trivial (h4 : (decide (Jh a b c = 0)) = true)) (oT 1 (oO (gn [false]) (oO (gn [true]) (oT 1 (oA [cT true, cT false] oN))))))) ?_
   refine cB (true) (fun _ => ?_) (fun h => Bool.noConfusion h)
   refine rt [tv 3 (pb 3), tv 5 (pb 5), tv 6 (pb 6), tv 7 (ki 6), tv 8 (ki (Jh a b c)), tv 9 (pb 9), bv 3 (Xt a), bv 5 (Xt c), bv 6 (.st [.bool false, X61, X61, .bool false, X7q, X7q]), bv 9 (Xbf r2)] (oT 3 oN) ?_
   refine Xg ?_
   have hl : (Zi a b c) = none := by unfold Zi; simp only [h1, h4, X72]
   show Xca TL _ _ = some (Xdr Xox (.st [.bool false, X61, X61, .bool false, X7q, X7q]) (ki 0) (ki 6) (Zi a b c))
   rw [hl]; kernel_rfl
  ·
   have h4' := of_decide_eq_false h4
   refine rh [tv 3 (pb 3), tv 5 (pb 5), tv 6 (pb 6), tv 7 (ki 0), tv 8 (ki (Jh a b c)), tv 9 (pb 9), tv 27 (.bool false), bv 3 (Xt a), bv 5 (Xt c), bv 6 (.st [.bool false, X61, X61, .bool false, X7q, X7q]), bv 9 (Xbf r2)] (oT 1 (oO (aI trivial (h4 : (decide (Jh a b c = 0)) = false)) (oT 1 (oO (Xh 1 trivial) (oO (Xh 1 (aI trivial (by decide : (!(decide ((0 : Int) = 0))) = false))) (oT 1 (oA [cT false, cT false] oN))))))) ?_
   refine cB (false) (fun h => Bool.noConfusion h) (fun _ => ?_)
   refine Xn ?_
   refine rt [tv 6 (pb 6), tv 7 (ki 0), bv 6 (Xz (CrvV.arc (⟨r2, decide (Jh a b c < 0), Km a, Km c⟩ : ArcV)))] (oT 2 (oO (oB (decide (Jh a b c < 0))) (oT 1 (oA [cT (decide (Jh a b c < 0))] (oC (Xj3 a) (oT 1 (oC (Xj3 c) (oT 3 oN)))))))) ?_
   refine Xg ?_
   have hl : (Zi a b c) = (some (⟨r2, decide (Jh a b c < 0), Km a, Km c⟩ : ArcV)) := by unfold Zi; simp only [h1, h4, X72]
   show Xca TL _ _ = some (Xdr Xox (.st [.bool false, X61, X61, .bool false, X7q, X7q]) (ki 0) (ki 6) (Zi a b c))
   rw [hl]; kernel_rfl
instance : Inhabited RootV := ⟨⟨0, 0, 0⟩⟩
instance : Inhabited PtV := ⟨⟨0, 0, 0, 0, 0⟩⟩
theorem X0o (a : Rat) : 0 ≤ a * a := by
  rcases Rat.le_total (a := 0) (b := a) with h | h
  · exact Rat.mul_nonneg h h
  · have h2 : 0 ≤ -a := by grind
    have := Rat.mul_nonneg h2 h2
    grind
theorem X4b (v : VecV) : 0 ≤ Yn v v := Rat.add_nonneg (X0o _) (X0o _)
theorem X6d {a b : Rat} (h : a * a + b * b = 0) : a = 0 ∧ b = 0 := by
  have ha := X0o a; have hb := X0o b
  have h1 : a * a = 0 := by grind
  have h2 : b * b = 0 := by grind
  exact ⟨(Rat.mul_eq_zero.1 h1).elim id id, (Rat.mul_eq_zero.1 h2).elim id id⟩
theorem Xmp (v : VecV) : PtV.ok (Km v) := Rat.le_refl
open Go Go.RowKit
def Xf6 (c : CrvV) (x : PtV) : List PtV → Nat
  | [] => 0
  | y :: r => bif decide (Y6 c y x < 0) then Xf6 c x r + 1 else 0
theorem Xwk (c : CrvV) (x : PtV) : ∀ o : List PtV, Xf6 c x o ≤ o.length
  | [] => Nat.le_refl _
  | y :: r => by
    have := Xwk c x r
    unfold Xf6; cases decide (Y6 c y x < 0)
    · exact Nat.zero_le _
    · simp only [cond_true, List.length_cons]; omega
theorem Xif {α : Type} [Inhabited α] {o : List α} {k : Nat} (h : k < o.length) : o.drop k = o.getD k default :: o.drop (k + 1) := by
  rw [List.drop_eq_getElem_cons h, List.getD_eq_getElem?_getD, List.getElem?_eq_getElem h]; rfl
theorem Xik {α : Type} [Inhabited α] {o : List α} {k : Nat} (h : k < o.length) : o.getD k default ∈ o := by
  rw [List.getD_eq_getElem?_getD, List.getElem?_eq_getElem h]; exact List.getElem_mem h
theorem X0u {c : CrvV} {x : PtV} {o : List PtV} {k : Nat} (h : k < o.length) (hd : decide (Y6 c (o.getD k default) x < 0) = true) : Xf6 c x (o.drop k) = Xf6 c x (o.drop (k + 1)) + 1 := by
  rw [Xif h, Xf6, hd, cond_true]
theorem X0z {c : CrvV} {x : PtV} {o : List PtV} {k : Nat} (h : k < o.length) (hd : decide (Y6 c (o.getD k default) x < 0) = false) : Xf6 c x (o.drop k) = 0 := by
  rw [Xif h, Xf6, hd, cond_false]
theorem Xzu {c : CrvV} {x : PtV} {o : List PtV} {k : Nat} (h : ¬ k < o.length) : Xf6 c x (o.drop k) = 0 := by
  rw [List.drop_eq_nil_of_le (by omega), Xf6]
def Xs2 (c : CrvV) (x : PtV) (o : List PtV) : List PtV :=
  bif (decide (Xf6 c x o < o.length) && Xa9 (o.getD (Xf6 c x o) default) x) then o else ((([] ++ o.take (Xf6 c x o)) ++ [x]) ++ o.drop (Xf6 c x o))
def Xn8 (c : CrvV) : List PtV → List PtV → List PtV
  | o, [] => o
  | o, x :: l => Xn8 c (Xs2 c x o) l
theorem Xsf {c : CrvV} {o l : List PtV} {i : Nat} (h : i < l.length) : Xn8 c o (l.drop i) = Xn8 c (Xs2 c (l.getD i default) o) (l.drop (i + 1)) := by
  rw [Xif h, Xn8]
theorem X2s {c : CrvV} {x : PtV} {o : List PtV} {k : Nat} (hk : Xf6 c x o = k) (h1 : k < o.length) (h2 : Xa9 (o.getD k default) x = true) : Xs2 c x o = o := by
  unfold Xs2; rw [hk, h2, decide_eq_true h1]; rfl
theorem X1m {c : CrvV} {x : PtV} {o : List PtV} {k : Nat} (hk : Xf6 c x o = k) (h1 : ¬ k < o.length) : Xs2 c x o = ((([] ++ o.take k) ++ [x]) ++ o.drop k) := by
  unfold Xs2; rw [hk, decide_eq_false h1]; rfl
theorem X24 {c : CrvV} {x : PtV} {o : List PtV} {k : Nat} (hk : Xf6 c x o = k) (h2 : Xa9 (o.getD k default) x = false) : Xs2 c x o = ((([] ++ o.take k) ++ [x]) ++ o.drop k) := by
  unfold Xs2; rw [hk, h2, Bool.and_false]; rfl
theorem Xol {c : CrvV} {x : PtV} {o : List PtV} {p : PtV} (h : p ∈ Xs2 c x o) : p = x ∨ p ∈ o := by
  unfold Xs2 at h; revert h
  cases (decide (Xf6 c x o < o.length) && Xa9 (o.getD (Xf6 c x o) default) x)
  · intro h
    simp only [cond_false, List.nil_append, List.append_assoc, List.mem_append, List.mem_cons, List.not_mem_nil, or_false] at h
    rcases h with h | h | h
    · exact Or.inr (List.mem_of_mem_take h)
    · exact Or.inl h
    · exact Or.inr (List.mem_of_mem_drop h)
  · exact Or.inr
theorem Xou (c : CrvV) (x : PtV) (o : List PtV) : (Xs2 c x o).length ≤ o.length + 1 := by
  unfold Xs2
  cases (decide (Xf6 c x o < o.length) && Xa9 (o.getD (Xf6 c x o) default) x)
  · have := Xwk c x o
    simp only [cond_false, List.length_append, List.length_take, List.length_drop, List.length_cons, List.length_nil]; omega
  · exact Nat.le_succ _
theorem Xuc {c : CrvV} {p : PtV} : ∀ {l o : List PtV}, p ∈ Xn8 c o l → p ∈ o ∨ p ∈ l
  | [], o, h => Or.inl h
  | x :: l, o, h => by
    rcases Xuc (l := l) (o := Xs2 c x o) h with h | h
    · rcases Xol h with h | h
      · exact Or.inr (h ▸ List.mem_cons_self)
      · exact Or.inl h
    · exact Or.inr (List.mem_cons_of_mem _ h)
theorem Xt7 (c : CrvV) : ∀ (l o : List PtV), (Xn8 c o l).length ≤ o.length + l.length
  | [], o => Nat.le_refl _
  | x :: l, o => by
    have := Xt7 c l (Xs2 c x o); have := Xou c x o
    rw [Xn8]; simp only [List.length_cons]; omega
theorem Xr6 (c : CrvV) (l : List PtV) (B : Nat) (hB : ∀ p ∈ l, PtV.ht p ≤ B) (hs : CrvV.ht c + 2 * B ≤ 1073741815) (hl : l.length < 4294967296) : CS Tryz.prog 95 [Xz c, Xbz 20 Xr l] (Xbz 20 Xr (Xn8 c [] l)) := by
  refine cO 64 Tryz.func95 ?_
  refine sh 2 [tv 1 (Xbz 20 Xr l), tv 2 (pb 2), tv 4 .nil, tv 5 .nil, bv 2 (Xz c)] (oS (oT 2 oN) (oS (oT 1 oN) oN)) ?_
  refine Xe ?_
  refine rt [tv 1 (Xbz 20 Xr l), tv 2 (pb 2), tv 4 .nil, tv 5 .nil, tv 6 (ki 0), bv 2 (Xz c)] (oT 1 oN) ?_
  refine X6 ?_
  refine Xvw 5 20 [tv 1 (Xbz 20 Xr l), tv 2 (pb 2), tv 4 .nil, tv 5 (Xbz 20 Xr []), tv 6 (ki 0), bv 2 (Xz c)] (by kernel_rfl) (by kernel_rfl) (by kernel_rfl) ?_
  refine Z0 (fun n0 l0 => ∃ (i : Nat) (o : List PtV), (i ≤ l.length ∧ Xn8 c o (l.drop i) = Xn8 c [] l ∧ (∀ p ∈ o, PtV.ht p ≤ B) ∧ o.length ≤ i) ∧ (l.length - i) = n0 ∧ l0 = [tv 1 (Xbz 20 Xr l), tv 2 (pb 2), tv 4 .nil, tv 5 (Xbz 20 Xr o), tv 6 (ki ((i : Nat) : Int)), bv 2 (Xz c)]) (n := (l.length - 0)) (by kernel_rfl) ⟨0, [], ⟨Nat.zero_le _, rfl, (fun p hp => by cases hp), Nat.le_refl _⟩, rfl, (by kernel_rfl)⟩ ?_
  rintro n0 l0 ⟨i, o, ⟨hi1, hi2, hi3, hi4⟩, rfl, rfl⟩
  refine Xe ?_
  refine rt [tv 1 (Xbz 20 Xr l), tv 2 (pb 2), tv 4 .nil, tv 5 (Xbz 20 Xr o), tv 6 (ki ((i : Nat) : Int)), tv 11 (.bool (decide (((i : Nat) : Int) < ((l.length : Nat) : Int)))), bv 2 (Xz c)] (oT 2 (oO (aI trivial (Xlm _ : ((l.length : Nat) : Int) = (((l.map Xr).length : Nat) : Int))) (oO (oB (decide (((i : Nat) : Int) < ((l.length : Nat) : Int)))) (oA [.tup [ki ((l.length : Nat) : Int)], cT (decide (((i : Nat) : Int) < ((l.length : Nat) : Int)))] oN)))) ?_
  refine cB (decide (((i : Nat) : Int) < ((l.length : Nat) : Int))) (fun h1 => ?_) (fun h1 => ?_)
  ·
    have h1' := of_decide_eq_true h1
    refine Xn ?_
    refine Xe ?_
    refine X6 ?_
    refine Xe ?_
    have hlt : i < l.length := by omega
    refine rh [tv 1 (Xbz 20 Xr l), tv 2 (pb 2), tv 4 .nil, tv 5 (Xbz 20 Xr o), tv 6 (ki ((i : Nat) : Int)), tv 7 (ki 0), bv 2 (Xz c)] (oT 1 oN) ?_
    refine Xhh (fun l0 => ∃ (k : Nat), (k ≤ o.length ∧ k = Xf6 c (l.getD i default) o) ∧ l0 = [tv 1 (Xbz 20 Xr l), tv 2 (pb 2), tv 4 .nil, tv 5 (Xbz 20 Xr o), tv 6 (ki ((i : Nat) : Int)), tv 7 (ki ((k : Nat) : Int)), bv 2 (Xz c)]) ?_ ?_
    ·
      refine X6 ?_
      refine Z0 (fun n0 l0 => ∃ (k : Nat), (k ≤ o.length ∧ Xf6 c (l.getD i default) o = k + Xf6 c (l.getD i default) (o.drop k)) ∧ (o.length - k) = n0 ∧ l0 = [tv 1 (Xbz 20 Xr l), tv 2 (pb 2), tv 4 .nil, tv 5 (Xbz 20 Xr o), tv 6 (ki ((i : Nat) : Int)), tv 7 (ki ((k : Nat) : Int)), bv 2 (Xz c)]) (n := (o.length - 0)) (by kernel_rfl) ⟨0, ⟨Nat.zero_le _, by rw [List.drop_zero, Nat.zero_add]⟩, rfl, (by kernel_rfl)⟩ ?_
      rintro n0 l0 ⟨k, ⟨hk1, hk2⟩, rfl, rfl⟩
      refine Xe ?_
      refine Xe ?_
      rcases X7 (decide (((k : Nat) : Int) < ((o.length : Nat) : Int))) with h2 | h2
      ·
        have h2' := of_decide_eq_true h2
        refine rh [tv 1 (Xbz 20 Xr l), tv 2 (pb 2), tv 4 .nil, tv 5 (Xbz 20 Xr o), tv 6 (ki ((i : Nat) : Int)), tv 7 (ki ((k : Nat) : Int)), tv 30 (.bool (decide (Y6 c (o.getD k default) (l.getD i default) < 0))), bv 2 (Xz c)] (oT 2 (oO (aI trivial (Xlm _ : ((o.length : Nat) : Int) = (((o.map Xr).length : Nat) : Int))) (oO (aI trivial (h2 : (decide (((k : Nat) : Int) < ((o.length : Nat) : Int))) = true)) (oT 1 (oO (Xh 1 trivial) (oO (Xh 1 trivial) (oO (Xh 1 trivial) (oO (Xh 2 (J0 k (by omega) (Xed (by (try simp only [List.length_append, List.length_cons, List.length_nil, List.length_take, List.length_drop]); omega)) : (0 : Int) ≤ ((k : Nat) : Int) ∧ (o.map Xr)[Int.toNat ((k : Nat) : Int)]? = some (Xr (o.getD k default)))) (oO (Xh 1 trivial) (oO (Xh 1 trivial) (oO (Xh 1 trivial) (oO (Xh 2 (J0 i (by omega) (Xed (by (try simp only [List.length_append, List.length_cons, List.length_nil, List.length_take, List.length_drop]); omega)) : (0 : Int) ≤ ((i : Nat) : Int) ∧ (l.map Xr)[Int.toNat ((i : Nat) : Int)]? = some (Xr (l.getD i default)))) (oO (Xh 1 trivial) (oO (Xh 3 (Xha c (o.getD k default) (l.getD i default) (by have b1 := hi3 _ (Xik (o := o) (k := k) (by omega)); have b2 := hB _ (Xik hlt); omega) : CS Tryz.prog 81 [Xz c, Xr (o.getD k default), Xr (l.getD i default)] (ki (Y6 c (o.getD k default) (l.getD i default))))) (oO (Xh 1 (oB (decide (Y6 c (o.getD k default) (l.getD i default) < 0)))) (oT 1 (oA [.tup [ki ((o.length : Nat) : Int)], cT true, Xr (o.getD k default), Xr (l.getD i default), ki (Y6 c (o.getD k default) (l.getD i default)), cT (decide (Y6 c (o.getD k default) (l.getD i default) < 0))] oN))))))))))))))))) ?_
        refine cB (decide (Y6 c (o.getD k default) (l.getD i default) < 0)) (fun h3 => ?_) (fun h3 => ?_)
        ·
          have h3' := of_decide_eq_true h3
          refine Xn ?_
          refine X6 ?_
          refine rh [tv 1 (Xbz 20 Xr l), tv 2 (pb 2), tv 4 .nil, tv 5 (Xbz 20 Xr o), tv 6 (ki ((i : Nat) : Int)), tv 7 (ki ((k + 1 : Nat) : Int)), bv 2 (Xz c)] (oT 1 (oO (X3 (x := ((k : Nat) : Int)) (y := 1) (by omega) (by omega)) (oT 1 (oA [ki ((k + 1 : Nat) : Int)] oN)))) ?_
          have hg := X0u (c := c) (x := (l.getD i default)) (o := o) (k := k) (by omega) (by assumption)
          exact ⟨o.length - (k + 1), [tv 1 (Xbz 20 Xr l), tv 2 (pb 2), tv 4 .nil, tv 5 (Xbz 20 Xr o), tv 6 (ki ((i : Nat) : Int)), tv 7 (ki ((k + 1 : Nat) : Int)), bv 2 (Xz c)], (by omega), rfl, (by kernel_rfl), k + 1, ⟨by omega, by omega⟩, rfl, (by kernel_rfl)⟩
        ·
          have h3' := of_decide_eq_false h3
          refine Xcz (live := [tv 1 (Xbz 20 Xr l), tv 2 (pb 2), tv 4 .nil, tv 5 (Xbz 20 Xr o), tv 6 (ki ((i : Nat) : Int)), tv 7 (ki ((k : Nat) : Int)), bv 2 (Xz c)]) (by kernel_rfl) (by kernel_rfl) ?_
          refine Z3 ?_
          have hf : Xf6 c (l.getD i default) (o.drop k) = 0 := X0z (by omega) (by assumption)
          exact ⟨_, rfl, k, ⟨by omega, by omega⟩, (by kernel_rfl)⟩
      ·
        have h2' := of_decide_eq_false h2
        refine rh [tv 1 (Xbz 20 Xr l), tv 2 (pb 2), tv 4 .nil, tv 5 (Xbz 20 Xr o), tv 6 (ki ((i : Nat) : Int)), tv 7 (ki ((k : Nat) : Int)), tv 30 (.bool false), bv 2 (Xz c)] (oT 2 (oO (aI trivial (Xlm _ : ((o.length : Nat) : Int) = (((o.map Xr).length : Nat) : Int))) (oO (aI trivial (h2 : (decide (((k : Nat) : Int) < ((o.length : Nat) : Int))) = false)) (oT 1 (oO (gn [false]) (oO (gn [false]) (oO (gn [false]) (oO (gn [true, true]) (oO (gn [true]) (oO (gn [false]) (oO (gn [false]) (oO (gn [true, true]) (oO (gn [true]) (oO (gn [true, true, true]) (oO (gn [true]) (oT 1 (oA [.tup [ki ((o.length : Nat) : Int)], cT false, Xr (o.getD k default), Xr (l.getD i default), ki (Y6 c (o.getD k default) (l.getD i default)), cT (decide (Y6 c (o.getD k default) (l.getD i default) < 0))] oN))))))))))))))))) ?_
        refine cB (false) (fun h => Bool.noConfusion h) (fun _ => ?_)
        refine Xcz (live := [tv 1 (Xbz 20 Xr l), tv 2 (pb 2), tv 4 .nil, tv 5 (Xbz 20 Xr o), tv 6 (ki ((i : Nat) : Int)), tv 7 (ki ((k : Nat) : Int)), bv 2 (Xz c)]) (by kernel_rfl) (by kernel_rfl) ?_
        refine Z3 ?_
        have hf : Xf6 c (l.getD i default) (o.drop k) = 0 := Xzu (by omega)
        exact ⟨_, rfl, k, ⟨by omega, by omega⟩, (by kernel_rfl)⟩
    rintro l0 ⟨k, ⟨hk1, hk⟩, rfl⟩
    refine Xe ?_
    refine Xe ?_
    rcases X7 (decide (((k : Nat) : Int) < ((o.length : Nat) : Int))) with h4 | h4
    ·
      have h4' := of_decide_eq_true h4
      refine rh [tv 1 (Xbz 20 Xr l), tv 2 (pb 2), tv 4 .nil, tv 5 (Xbz 20 Xr o), tv 6 (ki ((i : Nat) : Int)), tv 7 (ki ((k : Nat) : Int)), tv 47 (.bool (Xa9 (o.getD k default) (l.getD i default))), bv 2 (Xz c)] (oT 2 (oO (aI trivial (Xlm _ : ((o.length : Nat) : Int) = (((o.map Xr).length : Nat) : Int))) (oO (aI trivial (h4 : (decide (((k : Nat) : Int) < ((o.length : Nat) : Int))) = true)) (oT 1 (oO (Xh 1 trivial) (oO (Xh 1 trivial) (oO (Xh 2 (J0 k (by omega) (Xed (by (try simp only [List.length_append, List.length_cons, List.length_nil, List.length_take, List.length_drop]); omega)) : (0 : Int) ≤ ((k : Nat) : Int) ∧ (o.map Xr)[Int.toNat ((k : Nat) : Int)]? = some (Xr (o.getD k default)))) (oO (Xh 1 trivial) (oO (Xh 1 trivial) (oO (Xh 1 trivial) (oO (Xh 2 (J0 i (by omega) (Xed (by (try simp only [List.length_append, List.length_cons, List.length_nil, List.length_take, List.length_drop]); omega)) : (0 : Int) ≤ ((i : Nat) : Int) ∧ (l.map Xr)[Int.toNat ((i : Nat) : Int)]? = some (Xr (l.getD i default)))) (oO (Xh 1 trivial) (oO (Xh 2 (Xss (o.getD k default) (l.getD i default) (by have b1 := hi3 _ (Xik (o := o) (k := k) (by omega)); have b2 := hB _ (Xik hlt); omega) : CS Tryz.prog 122 [Xr (o.getD k default), Xr (l.getD i default)] (.bool (Xa9 (o.getD k default) (l.getD i default))))) (oT 1 (oA [.tup [ki ((o.length : Nat) : Int)], cT true, Xr (o.getD k default), Xr (l.getD i default), .bool (Xa9 (o.getD k default) (l.getD i default))] oN))))))))))))))) ?_
      refine cB (Xa9 (o.getD k default) (l.getD i default)) (fun h5 => ?_) (fun h5 => ?_)
      ·
        refine Z3 ?_
        refine rh [tv 1 (Xbz 20 Xr l), tv 2 (pb 2), tv 4 .nil, tv 5 (Xbz 20 Xr o), tv 6 (ki ((i + 1 : Nat) : Int)), bv 2 (Xz c)] (oT 1 (oO (X3 (x := ((i : Nat) : Int)) (y := 1) (by omega) (by omega)) (oT 1 (oA [ki ((i + 1 : Nat) : Int)] oN)))) ?_
        have hins : Xs2 c (l.getD i default) o = o := X2s hk.symm (by omega) (by assumption)
        have hgo := Xsf (c := c) (o := o) hlt
        rw [hins] at hgo
        have hlen := Xou c (l.getD i default) o
        rw [hins] at hlen
        have hmem : ∀ p ∈ o, PtV.ht p ≤ B := fun p hp => by
          rw [← hins] at hp; rcases Xol hp with h | h
          · rw [h]; exact hB _ (Xik hlt)
          · exact hi3 p h
        exact ⟨l.length - (i + 1), [tv 1 (Xbz 20 Xr l), tv 2 (pb 2), tv 4 .nil, tv 5 (Xbz 20 Xr o), tv 6 (ki ((i + 1 : Nat) : Int)), bv 2 (Xz c)], (by omega), rfl, (by kernel_rfl), i + 1, o, ⟨by omega, hgo.symm.trans hi2, hmem, by omega⟩, rfl, (by kernel_rfl)⟩
      ·
        refine Xn ?_
        refine rh [tv 1 (Xbz 20 Xr l), tv 2 (pb 2), tv 4 .nil, tv 5 (.own 48 4), tv 6 (ki ((i : Nat) : Int)), bv 2 (Xz c), (.o 48, ⟨4, true, Xbz 20 Xr ((([] ++ o.take k) ++ [l.getD i default]) ++ o.drop k)⟩)] (oT 3 (oO (aI (aI (rfl : 0 = 0) (aI (show ((k : Nat) : Int) = ((k : Nat) : Int) by omega) (aI (rfl : k = k) (aI (show 0 ≤ k by omega) (show k ≤ (o.map Xr).length by simp only [List.length_map]; omega))))) (Xv8 _ _ : ((o.take k).map Xr) = ((o.map Xr).take k).drop 0)) (oO (aI (show ((([]).map Xr).length + ((o.take k).map Xr).length) * 320 ≤ 35184372088832 by simp only [List.length_map]; (try simp only [List.length_append, List.length_cons, List.length_nil, List.length_take, List.length_drop]); omega) (List.map_append : (([] ++ o.take k).map Xr) = (([]).map Xr) ++ ((o.take k).map Xr))) (oT 2 (oO (J0 i (by omega) (Xed (by (try simp only [List.length_append, List.length_cons, List.length_nil, List.length_take, List.length_drop]); omega)) : (0 : Int) ≤ ((i : Nat) : Int) ∧ (l.map Xr)[Int.toNat ((i : Nat) : Int)]? = some (Xr (l.getD i default))) (oT 2 (oO (aI (show ((([] ++ o.take k).map Xr).length + (([l.getD i default]).map Xr).length) * 320 ≤ 35184372088832 by simp only [List.length_map]; (try simp only [List.length_append, List.length_cons, List.length_nil, List.length_take, List.length_drop]); omega) (List.map_append : ((([] ++ o.take k) ++ [l.getD i default]).map Xr) = (([] ++ o.take k).map Xr) ++ (([l.getD i default]).map Xr))) (oT 2 (oO (aI (aI (show ((k : Nat) : Int) = ((k : Nat) : Int) by omega) (aI (show o.length = (o.map Xr).length by rw [List.length_map]) (aI (rfl : o.length = o.length) (aI (show k ≤ o.length by omega) (show o.length ≤ (o.map Xr).length by simp only [List.length_map]; omega))))) (Xv3 _ _ : ((o.drop k).map Xr) = ((o.map Xr).take o.length).drop k)) (oO (aI (show (((([] ++ o.take k) ++ [l.getD i default]).map Xr).length + ((o.drop k).map Xr).length) * 320 ≤ 35184372088832 by simp only [List.length_map]; (try simp only [List.length_append, List.length_cons, List.length_nil, List.length_take, List.length_drop]); omega) (List.map_append : (((([] ++ o.take k) ++ [l.getD i default]) ++ o.drop k).map Xr) = ((([] ++ o.take k) ++ [l.getD i default]).map Xr) ++ ((o.drop k).map Xr))) (oT 1 (oA [.tup [.sl 20 ((o.take k).map Xr)], ki ((0 : Nat) : Int), ki ((k : Nat) : Int), .tup [.sl 20 (([] ++ o.take k).map Xr)], Xr (l.getD i default), .tup [.sl 20 ((([] ++ o.take k) ++ [l.getD i default]).map Xr)], .tup [.sl 20 ((o.drop k).map Xr)], ki ((k : Nat) : Int), ki ((o.length : Nat) : Int), .tup [.sl 20 (((([] ++ o.take k) ++ [l.getD i default]) ++ o.drop k).map Xr)]] oN)))))))))))) ?_
        refine Xz1 5 48 4 20 (((([] ++ o.take k) ++ [l.getD i default]) ++ o.drop k).map Xr) [tv 1 (Xbz 20 Xr l), tv 2 (pb 2), tv 4 .nil, tv 5 (Xbz 20 Xr ((([] ++ o.take k) ++ [l.getD i default]) ++ o.drop k)), tv 6 (ki ((i : Nat) : Int)), bv 2 (Xz c), (.o 48, ⟨4, false, Xbz 20 Xr ((([] ++ o.take k) ++ [l.getD i default]) ++ o.drop k)⟩)] (by kernel_rfl) (by kernel_rfl) (by kernel_rfl) (by kernel_rfl) ?_
        refine rh [tv 1 (Xbz 20 Xr l), tv 2 (pb 2), tv 4 .nil, tv 5 (Xbz 20 Xr ((([] ++ o.take k) ++ [l.getD i default]) ++ o.drop k)), tv 6 (ki ((i + 1 : Nat) : Int)), bv 2 (Xz c)] (oT 1 (oO (X3 (x := ((i : Nat) : Int)) (y := 1) (by omega) (by omega)) (oT 1 (oA [ki ((i + 1 : Nat) : Int)] oN)))) ?_
        have hins : Xs2 c (l.getD i default) o = ((([] ++ o.take k) ++ [l.getD i default]) ++ o.drop k) := X24 hk.symm (by assumption)
        have hgo := Xsf (c := c) (o := o) hlt
        rw [hins] at hgo
        have hlen := Xou c (l.getD i default) o
        rw [hins] at hlen
        have hmem : ∀ p ∈ ((([] ++ o.take k) ++ [l.getD i default]) ++ o.drop k), PtV.ht p ≤ B := fun p hp => by
          rw [← hins] at hp; rcases Xol hp with h | h
          · rw [h]; exact hB _ (Xik hlt)
          · exact hi3 p h
        exact ⟨l.length - (i + 1), [tv 1 (Xbz 20 Xr l), tv 2 (pb 2), tv 4 .nil, tv 5 (Xbz 20 Xr ((([] ++ o.take k) ++ [l.getD i default]) ++ o.drop k)), tv 6 (ki ((i + 1 : Nat) : Int)), bv 2 (Xz c)], (by omega), rfl, (by kernel_rfl), i + 1, (([] ++ o.take k) ++ [l.getD i default]) ++ o.drop k, ⟨by omega, hgo.symm.trans hi2, hmem, by omega⟩, rfl, (by kernel_rfl)⟩
    ·
      have h4' := of_decide_eq_false h4
      refine rh [tv 1 (Xbz 20 Xr l), tv 2 (pb 2), tv 4 .nil, tv 5 (Xbz 20 Xr o), tv 6 (ki ((i : Nat) : Int)), tv 7 (ki ((k : Nat) : Int)), tv 47 (.bool false), bv 2 (Xz c)] (oT 2 (oO (aI trivial (Xlm _ : ((o.length : Nat) : Int) = (((o.map Xr).length : Nat) : Int))) (oO (aI trivial (h4 : (decide (((k : Nat) : Int) < ((o.length : Nat) : Int))) = false)) (oT 1 (oO (gn [false]) (oO (gn [false]) (oO (gn [true, true]) (oO (gn [true]) (oO (gn [false]) (oO (gn [false]) (oO (gn [true, true]) (oO (gn [true]) (oO (gn [true, true]) (oT 1 (oA [.tup [ki ((o.length : Nat) : Int)], cT false, Xr (o.getD k default), Xr (l.getD i default), .bool (Xa9 (o.getD k default) (l.getD i default))] oN))))))))))))))) ?_
      refine cB (false) (fun h => Bool.noConfusion h) (fun _ => ?_)
      refine Xn ?_
      refine rh [tv 1 (Xbz 20 Xr l), tv 2 (pb 2), tv 4 .nil, tv 5 (.own 48 4), tv 6 (ki ((i : Nat) : Int)), bv 2 (Xz c), (.o 48, ⟨4, true, Xbz 20 Xr ((([] ++ o.take k) ++ [l.getD i default]) ++ o.drop k)⟩)] (oT 3 (oO (aI (aI (rfl : 0 = 0) (aI (show ((k : Nat) : Int) = ((k : Nat) : Int) by omega) (aI (rfl : k = k) (aI (show 0 ≤ k by omega) (show k ≤ (o.map Xr).length by simp only [List.length_map]; omega))))) (Xv8 _ _ : ((o.take k).map Xr) = ((o.map Xr).take k).drop 0)) (oO (aI (show ((([]).map Xr).length + ((o.take k).map Xr).length) * 320 ≤ 35184372088832 by simp only [List.length_map]; (try simp only [List.length_append, List.length_cons, List.length_nil, List.length_take, List.length_drop]); omega) (List.map_append : (([] ++ o.take k).map Xr) = (([]).map Xr) ++ ((o.take k).map Xr))) (oT 2 (oO (J0 i (by omega) (Xed (by (try simp only [List.length_append, List.length_cons, List.length_nil, List.length_take, List.length_drop]); omega)) : (0 : Int) ≤ ((i : Nat) : Int) ∧ (l.map Xr)[Int.toNat ((i : Nat) : Int)]? = some (Xr (l.getD i default))) (oT 2 (oO (aI (show ((([] ++ o.take k).map Xr).length + (([l.getD i default]).map Xr).length) * 320 ≤ 35184372088832 by simp only [List.length_map]; (try simp only [List.length_append, List.length_cons, List.length_nil, List.length_take, List.length_drop]); omega) (List.map_append : ((([] ++ o.take k) ++ [l.getD i default]).map Xr) = (([] ++ o.take k).map Xr) ++ (([l.getD i default]).map Xr))) (oT 2 (oO (aI (aI (show ((k : Nat) : Int) = ((k : Nat) : Int) by omega) (aI (show o.length = (o.map Xr).length by rw [List.length_map]) (aI (rfl : o.length = o.length) (aI (show k ≤ o.length by omega) (show o.length ≤ (o.map Xr).length by simp only [List.length_map]; omega))))) (Xv3 _ _ : ((o.drop k).map Xr) = ((o.map Xr).take o.length).drop k)) (oO (aI (show (((([] ++ o.take k) ++ [l.getD i default]).map Xr).length + ((o.drop k).map Xr).length) * 320 ≤ 35184372088832 by simp only [List.length_map]; (try simp only [List.length_append, List.length_cons, List.length_nil, List.length_take, List.length_drop]); omega) (List.map_append : (((([] ++ o.take k) ++ [l.getD i default]) ++ o.drop k).map Xr) = ((([] ++ o.take k) ++ [l.getD i default]).map Xr) ++ ((o.drop k).map Xr))) (oT 1 (oA [.tup [.sl 20 ((o.take k).map Xr)], ki ((0 : Nat) : Int), ki ((k : Nat) : Int), .tup [.sl 20 (([] ++ o.take k).map Xr)], Xr (l.getD i default), .tup [.sl 20 ((([] ++ o.take k) ++ [l.getD i default]).map Xr)], .tup [.sl 20 ((o.drop k).map Xr)], ki ((k : Nat) : Int), ki ((o.length : Nat) : Int), .tup [.sl 20 (((([] ++ o.take k) ++ [l.getD i default]) ++ o.drop k).map Xr)]] oN)))))))))))) ?_
      refine Xz1 5 48 4 20 (((([] ++ o.take k) ++ [l.getD i default]) ++ o.drop k).map Xr) [tv 1 (Xbz 20 Xr l), tv 2 (pb 2), tv 4 .nil, tv 5 (Xbz 20 Xr ((([] ++ o.take k) ++ [l.getD i default]) ++ o.drop k)), tv 6 (ki ((i : Nat) : Int)), bv 2 (Xz c), (.o 48, ⟨4, false, Xbz 20 Xr ((([] ++ o.take k) ++ [l.getD i default]) ++ o.drop k)⟩)] (by kernel_rfl) (by kernel_rfl) (by kernel_rfl) (by kernel_rfl) ?_
      refine rh [tv 1 (Xbz 20 Xr l), tv 2 (pb 2), tv 4 .nil, tv 5 (Xbz 20 Xr ((([] ++ o.take k) ++ [l.getD i default]) ++ o.drop k)), tv 6 (ki ((i + 1 : Nat) : Int)), bv 2 (Xz c)] (oT 1 (oO (X3 (x := ((i : Nat) : Int)) (y := 1) (by omega) (by omega)) (oT 1 (oA [ki ((i + 1 : Nat) : Int)] oN)))) ?_
      have hins : Xs2 c (l.getD i default) o = ((([] ++ o.take k) ++ [l.getD i default]) ++ o.drop k) := X1m hk.symm (by omega)
      have hgo := Xsf (c := c) (o := o) hlt
      rw [hins] at hgo
      have hlen := Xou c (l.getD i default) o
      rw [hins] at hlen
      have hmem : ∀ p ∈ ((([] ++ o.take k) ++ [l.getD i default]) ++ o.drop k), PtV.ht p ≤ B := fun p hp => by
          rw [← hins] at hp; rcases Xol hp with h | h
          · rw [h]; exact hB _ (Xik hlt)
          · exact hi3 p h
      exact ⟨l.length - (i + 1), [tv 1 (Xbz 20 Xr l), tv 2 (pb 2), tv 4 .nil, tv 5 (Xbz 20 Xr ((([] ++ o.take k) ++ [l.getD i default]) ++ o.drop k)), tv 6 (ki ((i + 1 : Nat) : Int)), bv 2 (Xz c)], (by omega), rfl, (by kernel_rfl), i + 1, (([] ++ o.take k) ++ [l.getD i default]) ++ o.drop k, ⟨by omega, hgo.symm.trans hi2, hmem, by omega⟩, rfl, (by kernel_rfl)⟩
  ·
    have h1' := of_decide_eq_false h1
    refine Z3 ?_
    refine rt [tv 4 (Xbz 20 Xr o)] (oT 2 oN) ?_
    refine Xg ?_
    have hi : i = l.length := by omega
    rw [hi, List.drop_length] at hi2
    exact X7i ((Xbz 20 Xr o)) ((by rw [← hi2]; rfl))
def Xpd (c : CrvV) : List PtV → Bool
  | [] => true
  | p :: l => Xdc c p && Xpd c l
theorem Xv0 {c : CrvV} {l : List PtV} {i : Nat} (h : i < l.length) : Xpd c (l.drop i) = (Xdc c (l.getD i default) && Xpd c (l.drop (i + 1))) := by
  rw [Xif h, Xpd]
def Xo9 (c : CrvV) (f t : PtV) : CrvV := Xjk c (fun s => .seg ⟨s.l, f, t⟩) (fun a => .arc ⟨a.k, a.cw, f, t⟩)
def Xgu (c : CrvV) : List PtV → List CrvV
  | [] => []
  | x :: r => (match r with
    | [] => []
    | y :: _ => Xo9 c x y :: Xgu c r)
theorem Xrt {c : CrvV} {o : List PtV} {j : Nat} (h : j + 1 < o.length) : Xgu c (o.drop j) = Xo9 c (o.getD j default) (o.getD (j + 1) default) :: Xgu c (o.drop (j + 1)) := by
  rw [Xif (k := j) (by omega), Xif h]; rfl
theorem Xvc {c : CrvV} {o : List PtV} {j : Nat} (h : ¬ j + 1 < o.length) : Xgu c (o.drop j) = [] := by
  have : (o.drop j).length ≤ 1 := by rw [List.length_drop]; omega
  revert this
  cases o.drop j with
  | nil => intro _; rfl
  | cons x r => cases r with
    | nil => intro _; rfl
    | cons y r => intro h; simp at h
def Xzg (c : CrvV) (l : List PtV) : List PtV := Xn8 c [] ([c.f, c.t] ++ l)
def Xme (c : CrvV) (l : List PtV) : Option (List CrvV) := bif Xpd c l then some (Xgu c (Xzg c l)) else none
theorem Xyv {c : CrvV} {l : List PtV} (h : Xpd c l = false) : Xme c l = none := by unfold Xme; rw [h]; rfl
theorem Xw7 {c : CrvV} {l : List PtV} (h : Xpd c l = true) : Xme c l = some (Xgu c (Xzg c l)) := by unfold Xme; rw [h]; rfl
theorem Xyl {c : CrvV} {l : List PtV} {B : Nat} (hB : ∀ p ∈ l, PtV.ht p ≤ B) : ∀ p ∈ [c.f, c.t] ++ l, PtV.ht p ≤ B + c.ht := fun p hp => by
  simp only [List.cons_append, List.nil_append, List.mem_cons] at hp
  rcases hp with h | h | h
  · rw [h]; have := X3z c; omega
  · rw [h]; have := X5b c; omega
  · have := hB p h; omega
theorem Xyp {c : CrvV} {l : List PtV} {B : Nat} (hB : ∀ p ∈ l, PtV.ht p ≤ B) : ∀ p ∈ Xzg c l, PtV.ht p ≤ B + c.ht := fun p hp => by
  rcases Xuc hp with h | h
  · cases h
  · exact Xyl hB p h
theorem Xxt (c : CrvV) (f t : PtV) : (Xo9 c f t).ht ≤ c.ht + f.ht + t.ht := by
  cases c with
  | seg s => show s.l.ht + f.ht + t.ht ≤ (s.l.ht + s.f.ht + s.t.ht) + f.ht + t.ht; omega
  | arc a => show a.k.ht + f.ht + t.ht ≤ (a.k.ht + a.f.ht + a.t.ht) + f.ht + t.ht; omega
theorem Xq0 {c d : CrvV} : ∀ {o : List PtV}, d ∈ Xgu c o → ∃ x ∈ o, ∃ y ∈ o, d = Xo9 c x y
  | [], h => by cases h
  | [x], h => by cases h
  | x :: y :: r, h => by
    have h : d ∈ Xo9 c x y :: Xgu c (y :: r) := h
    rcases List.mem_cons.1 h with h | h
    · exact ⟨x, List.mem_cons_self, y, List.mem_cons_of_mem _ List.mem_cons_self, h⟩
    · obtain ⟨a, ha, b, hb, e⟩ := Xq0 h
      exact ⟨a, List.mem_cons_of_mem _ ha, b, List.mem_cons_of_mem _ hb, e⟩
theorem Xtr {c : CrvV} {l : List PtV} {B : Nat} (hB : ∀ p ∈ l, PtV.ht p ≤ B) {r : List CrvV} (h : Xme c l = some r) : ∀ d ∈ r, d.ht ≤ 3 * c.ht + 2 * B := fun d hd => by
 unfold Xme at h
 cases ho : Xpd c l <;> rw [ho] at h <;> cases h
 obtain ⟨x, hx, y, hy, e⟩ := Xq0 hd
 have := Xxt c x y; have := Xyp hB x hx; have := Xyp hB y hy
 rw [e]; omega
theorem Xts (c : CrvV) (l : List PtV) (B : Nat) (hB : ∀ p ∈ l, PtV.ht p ≤ B) (ho : ∀ p ∈ l, PtV.ok p) (hs : 3 * CrvV.ht c + 2 * B ≤ 268435446) (hl : l.length < 2147483648) : CS Tryz.prog 28 [Xz c, Xbz 20 Xr l] (Xdr (Xbz 66 Xz) (.sl 66 []) (ki 0) (ki 1) (Xme c l)) := by
 obtain ⟨S, hS⟩ : ∃ S, S = Xn8 c [] ([c.f, c.t] ++ l) := ⟨_, rfl⟩
 have hS2 : S = Xzg c l := hS
 have hSl := Xt7 c ([c.f, c.t] ++ l) []
 rw [← hS] at hSl
 simp only [List.length_append, List.length_cons, List.length_nil] at hSl
 refine Xge (N := 56) X6y Tryz.func28 rfl rfl rfl rfl rfl (Xg1 _ _ _ _ _) ?_
 refine rt [tv 1 (Xbz 20 Xr l), tv 2 (pb 2), tv 4 .nil, tv 5 (ki 0), bv 2 (Xz c)] (oT 3 oN) ?_
 refine Xe ?_
 refine rt [tv 1 (Xbz 20 Xr l), tv 2 (pb 2), tv 4 .nil, tv 5 (ki 0), tv 6 (ki 0), bv 2 (Xz c)] (oT 1 oN) ?_
 refine X6 ?_
 refine Z0 (fun n0 l0 => ∃ (i : Nat), (i ≤ l.length ∧ Xpd c l = Xpd c (l.drop i)) ∧ (l.length - i) = n0 ∧ l0 = [tv 1 (Xbz 20 Xr l), tv 2 (pb 2), tv 4 .nil, tv 5 (ki 0), tv 6 (ki ((i : Nat) : Int)), bv 2 (Xz c)]) (n := (l.length - 0)) (by kernel_rfl) ⟨0, ⟨Nat.zero_le _, rfl⟩, rfl, (by kernel_rfl)⟩ ?_
 rintro n0 l0 ⟨i, ⟨hi1, hi2⟩, rfl, rfl⟩
 refine Xe ?_
 refine rt [tv 1 (Xbz 20 Xr l), tv 2 (pb 2), tv 4 .nil, tv 5 (ki 0), tv 6 (ki ((i : Nat) : Int)), tv 14 (.bool (decide (((i : Nat) : Int) < ((l.length : Nat) : Int)))), bv 2 (Xz c)] (oT 2 (oO (aI trivial (Xlm _ : ((l.length : Nat) : Int) = (((l.map Xr).length : Nat) : Int))) (oO (oB (decide (((i : Nat) : Int) < ((l.length : Nat) : Int)))) (oA [.tup [ki ((l.length : Nat) : Int)], cT (decide (((i : Nat) : Int) < ((l.length : Nat) : Int)))] oN)))) ?_
 refine cB (decide (((i : Nat) : Int) < ((l.length : Nat) : Int))) (fun h1 => ?_) (fun h1 => ?_)
 ·
  have h1' := of_decide_eq_true h1
  refine Xn ?_
  refine Xe ?_
  refine X6 ?_
  refine Xe ?_
  have hlt : i < l.length := by omega
  refine rh [tv 1 (Xbz 20 Xr l), tv 2 (pb 2), tv 4 .nil, tv 5 (ki 0), tv 6 (ki ((i : Nat) : Int)), tv 23 (.bool (!(Xdc c (l.getD i default)))), bv 2 (Xz c)] (oT 3 (oO (J0 i (by omega) (Xed (by (try simp only [List.length_append, List.length_cons, List.length_nil, List.length_take, List.length_drop]); omega)) : (0 : Int) ≤ ((i : Nat) : Int) ∧ (l.map Xr)[Int.toNat ((i : Nat) : Int)]? = some (Xr (l.getD i default))) (oT 1 (oO (Xyf c (l.getD i default) (by have b := hB _ (Xik hlt); omega) (ho _ (Xik hlt)) : CS Tryz.prog 19 [Xz c, Xr (l.getD i default)] (.bool (Xdc c (l.getD i default)))) (oO (oB (!(Xdc c (l.getD i default)))) (oA [Xr (l.getD i default), .bool (Xdc c (l.getD i default)), .rptr (.bool (!(Xdc c (l.getD i default))))] oN)))))) ?_
  refine cB ((!(Xdc c (l.getD i default)))) (fun h2 => ?_) (fun h2 => ?_)
  ·
   refine rt [tv 1 (Xbz 20 Xr l), tv 2 (pb 2), tv 4 .nil, tv 5 (ki 1), tv 6 (ki ((i : Nat) : Int)), bv 2 (Xz c)] (oT 2 oN) ?_
   refine Xvw 4 66 [tv 1 (Xbz 20 Xr l), tv 2 (pb 2), tv 4 (Xbz 66 Xz []), tv 5 (ki 1), tv 6 (ki ((i : Nat) : Int)), bv 2 (Xz c)] (by kernel_rfl) (by kernel_rfl) (by kernel_rfl) ?_
   refine Xg ?_
   have hgo := Xv0 (c := c) hlt
   rw [Xdt h2, Bool.false_and] at hgo
   exact X7i ((.tup [Xbz 66 Xz [], ki 1])) ((by rw [Xyv (hi2.trans hgo)]; rfl))
  ·
   refine Xn ?_
   refine rh [tv 1 (Xbz 20 Xr l), tv 2 (pb 2), tv 4 .nil, tv 5 (ki 0), tv 6 (ki ((i + 1 : Nat) : Int)), bv 2 (Xz c)] (oT 1 (oO (X3 (x := ((i : Nat) : Int)) (y := 1) (by omega) (by omega)) (oT 1 (oA [ki ((i + 1 : Nat) : Int)] oN)))) ?_
   have hgo := Xv0 (c := c) hlt
   rw [Xas h2, Bool.true_and] at hgo
   exact ⟨l.length - (i + 1), [tv 1 (Xbz 20 Xr l), tv 2 (pb 2), tv 4 .nil, tv 5 (ki 0), tv 6 (ki ((i + 1 : Nat) : Int)), bv 2 (Xz c)], (by omega), rfl, (by kernel_rfl), i + 1, ⟨by omega, hi2.trans hgo⟩, rfl, (by kernel_rfl)⟩
 ·
  have h1' := of_decide_eq_false h1
  refine Z3 ?_
  refine sh 2 [tv 2 (pb 2), tv 4 .nil, tv 5 (ki 0), tv 7 (Xbz 20 Xr S), tv 8 .nil, bv 2 (Xz c)] (oS (oT 7 (oO (aI (show ((([c.f, c.t]).map Xr).length + (l.map Xr).length) * 320 ≤ 35184372088832 by simp only [List.length_map]; (try simp only [List.length_append, List.length_cons, List.length_nil, List.length_take, List.length_drop]); omega) (List.map_append : (([c.f, c.t] ++ l).map Xr) = (([c.f, c.t]).map Xr) ++ l.map Xr)) (oO (show CS Tryz.prog 95 [Xz c, Xbz 20 Xr ([c.f, c.t] ++ l)] (Xbz 20 Xr S) by rw [hS]; exact Xr6 c ([c.f, c.t] ++ l) (B + CrvV.ht c) (Xyl (c := c) hB) (by omega) (by simp only [List.length_append, List.length_cons, List.length_nil]; omega)) (oT 1 oN)))) (oS (oT 1 (oA [.tup [.sl 20 (([c.f, c.t] ++ l).map Xr)], Xbz 20 Xr S] oN)) oN)) ?_
  refine Xe ?_
  refine rt [tv 2 (pb 2), tv 4 .nil, tv 5 (ki 0), tv 7 (Xbz 20 Xr S), tv 8 .nil, tv 9 (ki 1), bv 2 (Xz c)] (oT 1 oN) ?_
  refine X6 ?_
  refine Xyw 8 54 66 [tv 2 (pb 2), tv 4 .nil, tv 5 (ki 0), tv 7 (Xbz 20 Xr S), tv 8 (.own 54 1), tv 9 (ki 1), bv 2 (Xz c), ov 54 (Xbz 66 Xz [])] (by kernel_rfl) (by kernel_rfl) (by kernel_rfl) ?_
  refine Z0 (fun n0 l0 => ∃ (j : Nat) (o : List CrvV), ((j = 0 ∨ j < S.length) ∧ Xgu c S = o ++ Xgu c (S.drop j) ∧ o.length = j) ∧ (S.length - j) = n0 ∧ l0 = [tv 2 (pb 2), tv 4 .nil, tv 5 (ki 0), tv 7 (Xbz 20 Xr S), tv 8 (.own 54 1), tv 9 (ki (((j : Nat) : Int) + 1)), bv 2 (Xz c), ov 54 (Xbz 66 Xz o)]) (n := (S.length - 0)) (by kernel_rfl) ⟨0, [], ⟨Or.inl rfl, rfl, rfl⟩, rfl, (by kernel_rfl)⟩ ?_
  rintro n0 l0 ⟨j, o, ⟨hj1, hj2, hj3⟩, rfl, rfl⟩
  refine Xe ?_
  refine rt [tv 2 (pb 2), tv 4 .nil, tv 5 (ki 0), tv 7 (Xbz 20 Xr S), tv 8 (.own 54 1), tv 9 (ki (((j : Nat) : Int) + 1)), tv 36 (.bool (decide ((((j : Nat) : Int) + 1) < ((S.length : Nat) : Int)))), bv 2 (Xz c), ov 54 (Xbz 66 Xz o)] (oT 2 (oO (aI trivial (Xlm _ : ((S.length : Nat) : Int) = (((S.map Xr).length : Nat) : Int))) (oO (oB (decide ((((j : Nat) : Int) + 1) < ((S.length : Nat) : Int)))) (oA [.tup [ki ((S.length : Nat) : Int)], cT (decide ((((j : Nat) : Int) + 1) < ((S.length : Nat) : Int)))] oN)))) ?_
  refine cB (decide ((((j : Nat) : Int) + 1) < ((S.length : Nat) : Int))) (fun h3 => ?_) (fun h3 => ?_)
  ·
   have h3' := of_decide_eq_true h3
   refine Xn ?_
   refine Xe ?_
   refine X6 ?_
   refine rt [tv 2 (pb 2), tv 4 .nil, tv 5 (ki 0), tv 7 (Xbz 20 Xr S), tv 8 (.own 54 1), tv 9 (ki (((j : Nat) : Int) + 1)), tv 10 (pb 10), bv 2 (Xz c), bv 10 (Xz c), ov 54 (Xbz 66 Xz o)] (oT 3 oN) ?_
   refine Xe ?_
   rcases c with s4 | a5
   ·
    refine rh [tv 2 (pb 2), tv 4 .nil, tv 5 (ki 0), tv 7 (Xbz 20 Xr S), tv 8 (.own 54 1), tv 9 (ki (((j : Nat) : Int) + 1)), tv 10 (pb 10), bv 2 (Xz (CrvV.seg s4)), bv 10 (.st [.bool false, Xea s4.l, X61, .bool false, Xr (S.getD j default), Xr (S.getD (j + 1) default)]), ov 54 (Xbz 66 Xz o)] (oT 2 (oO (Yw (x := (((j : Nat) : Int) + 1)) (y := 1) (by omega) (by omega)) (oO (J0 j (by omega) (Xed (by (try simp only [List.length_append, List.length_cons, List.length_nil, List.length_take, List.length_drop]); omega)) : (0 : Int) ≤ ((((j : Nat) : Int) + 1) - 1) ∧ (S.map Xr)[Int.toNat ((((j : Nat) : Int) + 1) - 1)]? = some (Xr (S.getD j default))) (oT 3 (oO (J0 (j + 1) (by omega) (Xed (by (try simp only [List.length_append, List.length_cons, List.length_nil, List.length_take, List.length_drop]); omega)) : (0 : Int) ≤ (((j : Nat) : Int) + 1) ∧ (S.map Xr)[Int.toNat (((j : Nat) : Int) + 1)]? = some (Xr (S.getD (j + 1) default))) (oT 5 (oA [ki ((((j : Nat) : Int) + 1) - 1), Xr (S.getD j default), Xr (S.getD (j + 1) default)] oN))))))) ?_
    refine rh [tv 2 (pb 2), tv 4 .nil, tv 5 (ki 0), tv 7 (Xbz 20 Xr S), tv 8 (.own 54 2), tv 9 (ki (((j : Nat) : Int) + 1)), bv 2 (Xz (CrvV.seg s4)), (.o 54, ⟨2, true, Xbz 66 Xz (o ++ [CrvV.seg (⟨s4.l, S.getD j default, S.getD (j + 1) default⟩ : SegV)])⟩)] (oT 3 (oO (aI (show ((o.map Xz).length + (([CrvV.seg (⟨s4.l, S.getD j default, S.getD (j + 1) default⟩ : SegV)]).map Xz).length) * 1040 ≤ 35184372088832 by simp only [List.length_map]; (try simp only [List.length_append, List.length_cons, List.length_nil, List.length_take, List.length_drop]); omega) (List.map_append : ((o ++ [CrvV.seg (⟨s4.l, S.getD j default, S.getD (j + 1) default⟩ : SegV)]).map Xz) = o.map Xz ++ (([CrvV.seg (⟨s4.l, S.getD j default, S.getD (j + 1) default⟩ : SegV)]).map Xz))) (oT 1 (oA [.tup [.sl 66 ((o ++ [CrvV.seg (⟨s4.l, S.getD j default, S.getD (j + 1) default⟩ : SegV)]).map Xz)]] oN)))) ?_
    refine rh [tv 2 (pb 2), tv 4 .nil, tv 5 (ki 0), tv 7 (Xbz 20 Xr S), tv 8 (.own 54 2), tv 9 (ki ((((j : Nat) : Int) + 1) + 1)), bv 2 (Xz (CrvV.seg s4)), (.o 54, ⟨2, true, Xbz 66 Xz (o ++ [CrvV.seg (⟨s4.l, S.getD j default, S.getD (j + 1) default⟩ : SegV)])⟩)] (oT 1 (oO (X3 (x := (((j : Nat) : Int) + 1)) (y := 1) (by omega) (by omega)) (oT 1 (oA [ki ((((j : Nat) : Int) + 1) + 1)] oN)))) ?_
    have hgo := Xrt (c := (CrvV.seg s4)) (o := S) (j := j) (by omega)
    have hln : (o ++ [CrvV.seg (⟨s4.l, S.getD j default, S.getD (j + 1) default⟩ : SegV)]).length = j + 1 := by rw [List.length_append, hj3]; rfl
    exact ⟨S.length - (j + 1), [tv 2 (pb 2), tv 4 .nil, tv 5 (ki 0), tv 7 (Xbz 20 Xr S), tv 8 (.own 54 2), tv 9 (ki ((((j : Nat) : Int) + 1) + 1)), bv 2 (Xz (CrvV.seg s4)), (.o 54, ⟨2, true, Xbz 66 Xz (o ++ [CrvV.seg (⟨s4.l, S.getD j default, S.getD (j + 1) default⟩ : SegV)])⟩)], (by omega), rfl, (by kernel_rfl), j + 1, o ++ [CrvV.seg (⟨s4.l, S.getD j default, S.getD (j + 1) default⟩ : SegV)], ⟨by omega, by rw [hj2, hgo, List.append_assoc]; rfl, hln⟩, rfl, (by kernel_rfl)⟩
   ·
    refine rh [tv 2 (pb 2), tv 4 .nil, tv 5 (ki 0), tv 7 (Xbz 20 Xr S), tv 8 (.own 54 1), tv 9 (ki (((j : Nat) : Int) + 1)), tv 10 (pb 10), bv 2 (Xz (CrvV.arc a5)), bv 10 (.st [.bool true, X61, Xbf a5.k, .bool a5.cw, Xr (S.getD j default), Xr (S.getD (j + 1) default)]), ov 54 (Xbz 66 Xz o)] (oT 2 (oO (Yw (x := (((j : Nat) : Int) + 1)) (y := 1) (by omega) (by omega)) (oO (J0 j (by omega) (Xed (by (try simp only [List.length_append, List.length_cons, List.length_nil, List.length_take, List.length_drop]); omega)) : (0 : Int) ≤ ((((j : Nat) : Int) + 1) - 1) ∧ (S.map Xr)[Int.toNat ((((j : Nat) : Int) + 1) - 1)]? = some (Xr (S.getD j default))) (oT 3 (oO (J0 (j + 1) (by omega) (Xed (by (try simp only [List.length_append, List.length_cons, List.length_nil, List.length_take, List.length_drop]); omega)) : (0 : Int) ≤ (((j : Nat) : Int) + 1) ∧ (S.map Xr)[Int.toNat (((j : Nat) : Int) + 1)]? = some (Xr (S.getD (j + 1) default))) (oT 5 (oA [ki ((((j : Nat) : Int) + 1) - 1), Xr (S.getD j default), Xr (S.getD (j + 1) default)] oN))))))) ?_
    refine rh [tv 2 (pb 2), tv 4 .nil, tv 5 (ki 0), tv 7 (Xbz 20 Xr S), tv 8 (.own 54 2), tv 9 (ki (((j : Nat) : Int) + 1)), bv 2 (Xz (CrvV.arc a5)), (.o 54, ⟨2, true, Xbz 66 Xz (o ++ [CrvV.arc (⟨a5.k, a5.cw, S.getD j default, S.getD (j + 1) default⟩ : ArcV)])⟩)] (oT 3 (oO (aI (show ((o.map Xz).length + (([CrvV.arc (⟨a5.k, a5.cw, S.getD j default, S.getD (j + 1) default⟩ : ArcV)]).map Xz).length) * 1040 ≤ 35184372088832 by simp only [List.length_map]; (try simp only [List.length_append, List.length_cons, List.length_nil, List.length_take, List.length_drop]); omega) (List.map_append : ((o ++ [CrvV.arc (⟨a5.k, a5.cw, S.getD j default, S.getD (j + 1) default⟩ : ArcV)]).map Xz) = o.map Xz ++ (([CrvV.arc (⟨a5.k, a5.cw, S.getD j default, S.getD (j + 1) default⟩ : ArcV)]).map Xz))) (oT 1 (oA [.tup [.sl 66 ((o ++ [CrvV.arc (⟨a5.k, a5.cw, S.getD j default, S.getD (j + 1) default⟩ : ArcV)]).map Xz)]] oN)))) ?_
    refine rh [tv 2 (pb 2), tv 4 .nil, tv 5 (ki 0), tv 7 (Xbz 20 Xr S), tv 8 (.own 54 2), tv 9 (ki ((((j : Nat) : Int) + 1) + 1)), bv 2 (Xz (CrvV.arc a5)), (.o 54, ⟨2, true, Xbz 66 Xz (o ++ [CrvV.arc (⟨a5.k, a5.cw, S.getD j default, S.getD (j + 1) default⟩ : ArcV)])⟩)] (oT 1 (oO (X3 (x := (((j : Nat) : Int) + 1)) (y := 1) (by omega) (by omega)) (oT 1 (oA [ki ((((j : Nat) : Int) + 1) + 1)] oN)))) ?_
    have hgo := Xrt (c := (CrvV.arc a5)) (o := S) (j := j) (by omega)
    have hln : (o ++ [CrvV.arc (⟨a5.k, a5.cw, S.getD j default, S.getD (j + 1) default⟩ : ArcV)]).length = j + 1 := by rw [List.length_append, hj3]; rfl
    exact ⟨S.length - (j + 1), [tv 2 (pb 2), tv 4 .nil, tv 5 (ki 0), tv 7 (Xbz 20 Xr S), tv 8 (.own 54 2), tv 9 (ki ((((j : Nat) : Int) + 1) + 1)), bv 2 (Xz (CrvV.arc a5)), (.o 54, ⟨2, true, Xbz 66 Xz (o ++ [CrvV.arc (⟨a5.k, a5.cw, S.getD j default, S.getD (j + 1) default⟩ : ArcV)])⟩)], (by omega), rfl, (by kernel_rfl), j + 1, o ++ [CrvV.arc (⟨a5.k, a5.cw, S.getD j default, S.getD (j + 1) default⟩ : ArcV)], ⟨by omega, by rw [hj2, hgo, List.append_assoc]; rfl, hln⟩, rfl, (by kernel_rfl)⟩
  ·
   have h3' := of_decide_eq_false h3
   refine Z3 ?_
   refine rt [tv 4 (.own 54 1), tv 5 (ki 0), ov 54 (Xbz 66 Xz o)] (oT 3 oN) ?_
   refine Xio [.own 54 1] [tv 4 (.own 54 1), tv 5 (ki 0), (.o 54, ⟨1, false, Xbz 66 Xz o⟩)] (by kernel_rfl) (by kernel_rfl) ?_
   refine Xg ?_
   have hall : Xpd c l = true := by rw [hi2, List.drop_eq_nil_of_le (by omega)]; first | done | rfl
   have hend := Xvc (c := c) (o := S) (j := j) (by omega)
   rw [hend, List.append_nil] at hj2
   exact X7i ((.tup [Xbz 66 Xz o, ki 0])) ((by rw [Xw7 hall]; show _ = AV.tup [Xbz 66 Xz (Xgu c (Xzg c l)), ki 0]; rw [← hS2, hj2]))
open Go Go.RowKit
instance : Inhabited SegV := ⟨⟨⟨0, 0, 0⟩, default, default⟩⟩
instance : Inhabited ArcV := ⟨⟨⟨0, 0, 0⟩, false, default, default⟩⟩
def Xe8 : SegV := (Xaj (Yh (-1) 0) (Yh 1 0)).getD default
def Xfh : ArcV := (Zi (Yh 1 0) (Yh 0 1) (Yh (-1) 0)).getD default
def Xn1 (n : Nat) : ArcV := match ((Xme (CrvV.arc Xfh) [Km (Yh 0 1)]).getD []).getD n (CrvV.arc default) with
  | .arc a => a
  | .seg _ => default
def X3i : RootV := (Kj ((3 : Int) : Rat) (((-2) : Int) : Rat) ((2 : Int) : Rat)).getD default
theorem Xtg : Xaj (Yh (-1) 0) (Yh 1 0) = some Xe8 := by kernel_rfl
theorem Xv5 : Zi (Yh 1 0) (Yh 0 1) (Yh (-1) 0) = some Xfh := by kernel_rfl
theorem Xwv : Xme (CrvV.arc Xfh) [Km (Yh 0 1)] = some [CrvV.arc (Xn1 0), CrvV.arc (Xn1 1)] := by kernel_rfl
theorem Xzx : Kj ((3 : Int) : Rat) (((-2) : Int) : Rat) ((2 : Int) : Rat) = some X3i := by kernel_rfl
theorem Xj5 {x y : Int} (h0 : -9223372036854775808 ≤ x) (h1 : x < 9223372036854775808) (h2 : -9223372036854775808 ≤ y) (h3 : y < 9223372036854775808) : VecV.ht (Yh x y) ≤ 6 := Xfu x y h0 h1 h2 h3
theorem Xzq : SegV.ht Xe8 ≤ 71 := by
  have a := Xj5 (x := -1) (y := 0) (by decide) (by decide) (by decide) (by decide); have b := Xj5 (x := 1) (y := 0) (by decide) (by decide) (by decide) (by decide); have := Xqr _ _ _ Xtg; omega
theorem Xsn : ArcV.ht Xfh ≤ 1173 := by
  have a := Xj5 (x := 1) (y := 0) (by decide) (by decide) (by decide) (by decide); have b := Xj5 (x := 0) (y := 1) (by decide) (by decide) (by decide) (by decide); have c := Xj5 (x := -1) (y := 0) (by decide) (by decide) (by decide) (by decide); have := Xmt _ _ _ _ Xv5; omega
theorem Xzy : ∀ p ∈ [Km (Yh 0 1)], PtV.ht p ≤ 15 := fun p hp => by
  rw [List.mem_singleton.1 hp]; have a := Xj5 (x := 0) (y := 1) (by decide) (by decide) (by decide) (by decide); have := Xkc (Yh 0 1); omega
theorem X3c : ArcV.ht (Xn1 0) ≤ 3549 := by
  have h := Xtr Xzy Xwv (CrvV.arc (Xn1 0)) List.mem_cons_self
  have e : CrvV.ht (CrvV.arc (Xn1 0)) = ArcV.ht (Xn1 0) := rfl
  have e2 : CrvV.ht (CrvV.arc Xfh) = ArcV.ht Xfh := rfl
  have := Xsn; omega
theorem X2q : RootV.ht X3i ≤ 10 := by
  have := Xqb _ _ _ _ Xzx
  have a := Xhj 3; have b := Xhj (-2); have c := Xhj 2
  have a' := Xdq 3 (by decide); have b' := Xdq (-2) (by decide); have c' := Xdq 2 (by decide)
  omega
theorem Xud  : CS Tryz.prog 11 [] (.bool true) := by
 refine cO 94 Tryz.func11 ?_
 refine sh 4 [tv 0 (.bool false), tv 1 (pb 1), tv 2 (ki 0), tv 3 (pb 3), tv 4 (ki 0), tv 5 (.sl 66 [Xz (CrvV.arc (Xn1 0)), Xz (CrvV.arc (Xn1 1))]), tv 6 (ki 0), bv 1 (Xz (CrvV.seg Xe8)), bv 3 (Xz (CrvV.arc Xfh))] (oS (oT 1 oN) (oS (oC (Xcg (-1) 0 (by omega) (by omega) (by omega) (by omega)) (oC (Xcg 1 0 (by omega) (by omega) (by omega) (by omega)) (oO (Jl (Xqp (Yh (-1) 0) (Yh 1 0) (by have := Xj5 (x := (-1)) (y := 0) (by decide) (by decide) (by decide) (by decide); have := Xj5 (x := 1) (y := 0) (by decide) (by decide) (by decide) (by decide); omega)) (by rw [Xtg]; rfl) : CS Tryz.prog 46 [Xt (Yh (-1) 0), Xt (Yh 1 0)] (.tup [Xz (CrvV.seg Xe8), ki 0])) (oT 6 oN)))) (oS (oA [.tup [Xz (CrvV.seg Xe8), ki 0]] (oC (Xcg 1 0 (by omega) (by omega) (by omega) (by omega)) (oC (Xcg 0 1 (by omega) (by omega) (by omega) (by omega)) (oC (Xcg (-1) 0 (by omega) (by omega) (by omega) (by omega)) (oO (Jl (Xnc (Yh 1 0) (Yh 0 1) (Yh (-1) 0) (by have := Xj5 (x := 1) (y := 0) (by decide) (by decide) (by decide) (by decide); have := Xj5 (x := 0) (y := 1) (by decide) (by decide) (by decide) (by decide); have := Xj5 (x := (-1)) (y := 0) (by decide) (by decide) (by decide) (by decide); omega)) (by rw [Xv5]; rfl) : CS Tryz.prog 48 [Xt (Yh 1 0), Xt (Yh 0 1), Xt (Yh (-1) 0)] (.tup [Xz (CrvV.arc Xfh), ki 0])) (oT 6 oN)))))) (oS (oT 1 (oA [.tup [Xz (CrvV.arc Xfh), ki 0]] (oC (Xcg 0 1 (by omega) (by omega) (by omega) (by omega)) (oC (Xj3 (Yh 0 1)) (oT 1 (oO (Jl (Xts (CrvV.arc Xfh) [Km (Yh 0 1)] 15 Xzy (fun p hp => by rw [List.mem_singleton.1 hp]; exact Xmp _) (by have := Xsn; have e2 : CrvV.ht (CrvV.arc Xfh) = ArcV.ht Xfh := rfl; omega) (by decide)) (by rw [Xwv]; rfl) : CS Tryz.prog 28 [Xz (CrvV.arc Xfh), Xbz 20 Xr [Km (Yh 0 1)]] (.tup [.sl 66 [Xz (CrvV.arc (Xn1 0)), Xz (CrvV.arc (Xn1 1))], ki 0])) (oT 5 (oA [.tup [.sl 66 [Xz (CrvV.arc (Xn1 0)), Xz (CrvV.arc (Xn1 1))], ki 0]] oN)))))))) oN)))) ?_
 refine Xe ?_
 refine rt [tv 0 (.bool false), tv 1 (pb 1), tv 3 (pb 3), tv 5 (.sl 66 [Xz (CrvV.arc (Xn1 0)), Xz (CrvV.arc (Xn1 1))]), tv 44 (.bool false), bv 1 (Xz (CrvV.seg Xe8)), bv 3 (Xz (CrvV.arc Xfh))] (oT 1 (oO (aI trivial (by decide : (!(decide ((0 : Int) = 0))) = false)) (oT 1 (oO (Xh 1 trivial) (oO (Xh 1 (aI trivial (by decide : (!(decide ((0 : Int) = 0))) = false))) (oT 2 (oO (Xh 1 trivial) (oO (Xh 1 (aI trivial (by decide : (!(decide ((0 : Int) = 0))) = false))) (oT 2 (oO (Xh 1 trivial) (oO (Xh 1 (aI trivial (rfl : (2 : Int) = ((2 : Nat) : Int)))) (oO (Xh 1 (aI trivial (by decide : (!(decide ((2 : Int) = 2))) = false))) (oT 1 (oA [cT false, cT false, cT false, .tup [ki 2], cT false] oN)))))))))))))) ?_
 refine cB (false) (fun h => Bool.noConfusion h) (fun _ => ?_)
 refine Xn ?_
 have := Xzq
 have : CrvV.ht (CrvV.seg Xe8) = SegV.ht Xe8 := rfl
 have := Xfu 0 2 (by omega) (by omega) (by omega) (by omega)
 have := Xcq (CrvV.seg Xe8) (Yh 0 2)
 have := Xm3 4 (by omega) (by omega)
 have := Xfu 4 4 (by omega) (by omega) (by omega) (by omega)
 have := Xcq (CrvV.seg Xe8) (Yh 4 4)
 have := Xm3 25 (by omega) (by omega)
 have := Xsn
 have : CrvV.ht (CrvV.arc Xfh) = ArcV.ht Xfh := rfl
 have := Xfu 0 3 (by omega) (by omega) (by omega) (by omega)
 have := Xbb 2 (by omega) (by omega)
 have := Xfu 0 0 (by omega) (by omega) (by omega) (by omega)
 have := Xbb 1 (by omega) (by omega)
 have := Xfu 0 (-1) (by omega) (by omega) (by omega) (by omega)
 have := Xcq (CrvV.arc Xfh) (Yh 0 (-1))
 have := Xm3 2 (by omega) (by omega)
 have := X3c
 have : CrvV.ht (CrvV.arc (Xn1 0)) = ArcV.ht (Xn1 0) := rfl
 have := Xfu 1 1 (by omega) (by omega) (by omega) (by omega)
 have := Xcq (CrvV.arc (Xn1 0)) (Yh 1 1)
 have := X2q
 refine sh 2 [tv 0 (.bool true)] (oS (oC (Kk 3 (by omega) (by omega)) (oC (Kk (-2) (by omega) (by omega)) (oC (Kk 2 (by omega) (by omega)) (oO (Jl (Xpj ((3 : Int) : Rat) (((-2) : Int) : Rat) ((2 : Int) : Rat) (by have a := Xhj 3; have b := Xhj (-2); have c := Xhj 2; have a' := Xdq 3 (by decide); have b' := Xdq (-2) (by decide); have c' := Xdq 2 (by decide); omega)) (by rw [Xzx]; rfl) : CS Tryz.prog 49 [Xc ((3 : Int) : Rat), Xc (((-2) : Int) : Rat), Xc ((2 : Int) : Rat)] (.tup [Xl X3i, ki 0])) (oT 6 oN))))) (oS (oT 1 (oA [.tup [Xl X3i, ki 0]] (oC (Xcg 0 2 (by omega) (by omega) (by omega) (by omega)) (oC (Xcm (CrvV.seg Xe8) (Yh 0 2) (by omega)) (oC (Xm4 4 (by omega) (by omega)) (oO (Jl (Xl7 (Yc (CrvV.seg Xe8) (Yh 0 2)) (Xa7 4) (by omega)) (by rw [show (Xgy (Yc (CrvV.seg Xe8) (Yh 0 2)) (Xa7 4)) = true by kernel_rfl]) : CS Tryz.prog 15 [Xl (Yc (CrvV.seg Xe8) (Yh 0 2)), Xl (Xa7 4)] (.bool true)) (oT 1 (oO (Xh 1 trivial) (oO (Xh 0 (Xcg 4 4 (by omega) (by omega) (by omega) (by omega))) (oO (Xh 2 (Xcm (CrvV.seg Xe8) (Yh 4 4) (by omega))) (oO (Xh 0 (Xm4 25 (by omega) (by omega))) (oO (Xh 2 (Jl (Xl7 (Yc (CrvV.seg Xe8) (Yh 4 4)) (Xa7 25) (by omega)) (by rw [show (Xgy (Yc (CrvV.seg Xe8) (Yh 4 4)) (Xa7 25)) = true by kernel_rfl]) : CS Tryz.prog 15 [Xl (Yc (CrvV.seg Xe8) (Yh 4 4)), Xl (Xa7 25)] (.bool true))) (oT 2 (oO (Xh 1 trivial) (oO (Xh 0 (Xcg 0 3 (by omega) (by omega) (by omega) (by omega))) (oO (Xh 0 (Kk 2 (by omega) (by omega))) (oO (Xh 3 (Jl (Xjr (CrvV.arc Xfh) (Yh 0 3) ((2 : Int) : Rat) (by omega)) (by rw [show (Xdw (CrvV.arc Xfh) (Yh 0 3) ((2 : Int) : Rat)) = 0 by kernel_rfl]) : CS Tryz.prog 21 [Xz (CrvV.arc Xfh), Xt (Yh 0 3), Xc ((2 : Int) : Rat)] (ki 0))) (oO (Xh 1 (aI trivial (by decide : (decide ((0 : Int) = 0)) = true))) (oT 2 (oO (Xh 1 trivial) (oO (Xh 0 (Xcg 0 0 (by omega) (by omega) (by omega) (by omega))) (oO (Xh 0 (Kk 1 (by omega) (by omega))) (oO (Xh 3 (Jl (Xjr (CrvV.arc Xfh) (Yh 0 0) ((1 : Int) : Rat) (by omega)) (by rw [show (Xdw (CrvV.arc Xfh) (Yh 0 0) ((1 : Int) : Rat)) = 0 by kernel_rfl]) : CS Tryz.prog 21 [Xz (CrvV.arc Xfh), Xt (Yh 0 0), Xc ((1 : Int) : Rat)] (ki 0))) (oO (Xh 1 (aI trivial (by decide : (decide ((0 : Int) = 0)) = true))) (oT 2 (oO (Xh 1 trivial) (oO (Xh 0 (Xcg 0 (-1) (by omega) (by omega) (by omega) (by omega))) (oO (Xh 2 (Xcm (CrvV.arc Xfh) (Yh 0 (-1)) (by omega))) (oO (Xh 0 (Xm4 2 (by omega) (by omega))) (oO (Xh 2 (Jl (Xl7 (Yc (CrvV.arc Xfh) (Yh 0 (-1))) (Xa7 2) (by omega)) (by rw [show (Xgy (Yc (CrvV.arc Xfh) (Yh 0 (-1))) (Xa7 2)) = true by kernel_rfl]) : CS Tryz.prog 15 [Xl (Yc (CrvV.arc Xfh) (Yh 0 (-1))), Xl (Xa7 2)] (.bool true))) (oT 2 (oO (Xh 1 trivial) (oO (Xh 1 (aI (by decide : (0 : Int) ≤ 0) (rfl : [Xz (CrvV.arc (Xn1 0)), Xz (CrvV.arc (Xn1 1))][Int.toNat 0]? = some (Xz (CrvV.arc (Xn1 0)))))) (oO (Xh 1 trivial) (oO (Xh 0 (Xcg 1 1 (by omega) (by omega) (by omega) (by omega))) (oO (Xh 2 (Xcm (CrvV.arc (Xn1 0)) (Yh 1 1) (by omega))) (oO (Xh 1 trivial) (oO (Xh 2 (Jl (Xl7 (Yc (CrvV.arc (Xn1 0)) (Yh 1 1)) X3i (by omega)) (by rw [show (Xgy (Yc (CrvV.arc (Xn1 0)) (Yh 1 1)) X3i) = true by kernel_rfl]) : CS Tryz.prog 15 [Xl (Yc (CrvV.arc (Xn1 0)) (Yh 1 1)), Xl X3i] (.bool true))) (oT 2 (oA [.bool true, Xt (Yh 4 4), Xl (Yc (CrvV.seg Xe8) (Yh 4 4)), Xl (Xa7 25), .bool true, Xt (Yh 0 3), Xc ((2 : Int) : Rat), ki 0, cT true, Xt (Yh 0 0), Xc ((1 : Int) : Rat), ki 0, cT true, Xt (Yh 0 (-1)), Xl (Yc (CrvV.arc Xfh) (Yh 0 (-1))), Xl (Xa7 2), .bool true, Xz (CrvV.arc (Xn1 0)), Xt (Yh 1 1), Xl (Yc (CrvV.arc (Xn1 0)) (Yh 1 1)), .bool true] oN)))))))))))))))))))))))))))))))))))))))) oN)) ?_
 refine Xg ?_
 exact X7i ((.bool true)) (rfl)
open Go Go.RowKit
theorem X1d (a b : Rat) : Ya a b = a / b := by
  unfold Ya Xsp
  by_cases h : b = 0
  · subst h; rw [decide_eq_true rfl]; show ((0 : Int) : Rat) = a / 0; rw [Rat.div_def]; grind
  · rw [decide_eq_false h]; rfl
theorem X1i (a b p : VecV) : Yt a b p = Y3 a b p := by
  unfold Yt Y3
  rw [X1d]; rfl
theorem Xzh (a b c d : VecV) : Zw a b c d = Kp a b c d := by
  unfold Zw Kp
  simp only [X1i]; rfl
def X7d (a b : VecV) : Rat := Yn (Xd a b) (Xd a b)
theorem X2z (x : Rat) : (Int.sign x.num ≤ 0) ↔ x ≤ 0 := by
  have hp : 0 < x ↔ 0 < x.num := by
    have h1 := Rat.num_nonneg (q := x); have h2 := Rat.num_eq_zero (q := x)
    constructor
    · intro h
      have : 0 ≤ x.num := h1.2 (Rat.le_of_lt h)
      have : x.num ≠ 0 := fun e => Rat.ne_of_gt h (h2.1 e)
      omega
    · intro h
      have k : 0 ≤ x := h1.1 (by omega)
      have : x ≠ 0 := fun e => by rw [h2.2 e] at h; omega
      grind
  rw [← Rat.not_lt, hp]
  constructor
  · intro h k; rw [Int.sign_eq_one_of_pos k] at h; omega
  · intro h; rcases Int.lt_trichotomy x.num 0 with k | k | k
    · rw [Int.sign_eq_neg_one_of_neg k]; omega
    · rw [k]; decide
    · omega
theorem X29 (x y : Rat) : (0 ≤ Xb3 x y) ↔ y ≤ x := by
  have h := Xsg (a := x) (b := y)
  constructor
  · intro k; apply Classical.byContradiction; intro n
    have : x < y := Rat.not_le.1 n
    have := h.2 this; omega
  · intro k; apply Classical.byContradiction; intro n
    have : x < y := h.1 (by omega)
    exact absurd k (Rat.not_le.2 this)
theorem Xws (a b p : VecV) : Y3 a b p = if Yn (Xd a b) (Xd a p) ≤ 0 then X7d a p else if X7d a b ≤ Yn (Xd a b) (Xd a p) then X7d b p else (Xw (Xd a b) (Xd a p) * Xw (Xd a b) (Xd a p)) / X7d a b := by
  unfold Y3
  simp only [X2z, X29, Bool.cond_decide]
  rfl
theorem X42 (a b : VecV) : 0 ≤ X7d a b := X4b _
theorem X5o {a b : VecV} (h : X7d a b ≤ 0) : a = b := by
  have h0 : X7d a b = 0 := Rat.le_antisymm h (X42 a b)
  have := X6d h0
  cases a; cases b
  have h1 := this.1; have h2 := this.2
  simp only [Xd] at h1 h2
  congr 1 <;> grind
theorem Xto (a b p : VecV) : Y3 a b p = Y3 b a p := by
  rw [Xws, Xws]
  have e1 : Yn (Xd b a) (Xd b p) = X7d a b - Yn (Xd a b) (Xd a p) := by
    unfold X7d Yn Xd; grind
  have e2 : X7d b a = X7d a b := by unfold X7d Yn Xd; grind
  have e3 : Xw (Xd b a) (Xd b p) * Xw (Xd b a) (Xd b p) = Xw (Xd a b) (Xd a p) * Xw (Xd a b) (Xd a p) := by
    unfold Xw Xd; grind
  rw [e1, e2, e3]
  by_cases h1 : Yn (Xd a b) (Xd a p) ≤ 0
  · rw [if_pos h1]
    by_cases h2 : X7d a b - Yn (Xd a b) (Xd a p) ≤ 0
    · rw [if_pos h2]; have : a = b := X5o (by grind); rw [this]
    · rw [if_neg h2, if_pos (by grind)]
  · rw [if_neg h1]
    by_cases h2 : X7d a b ≤ Yn (Xd a b) (Xd a p)
    · rw [if_pos h2, if_pos (by grind)]
    · rw [if_neg h2, if_neg (by grind), if_neg (by grind)]
theorem X07 (o n : Rat) : Xoj o n = if n < o then n else o := by
  unfold Xoj; rw [Bool.cond_decide]; simp only [Xsg]
theorem X0x (x y z w : Rat) : Xjj z [w, y, x] = Xjj x [y, z, w] := by
  simp only [Xjj, List.foldl_cons, List.foldl_nil, X07]
  grind
theorem Xov (x : Rat) : Int.sign (-x).num = - Int.sign x.num := by rw [Rat.neg_num, Int.sign_neg]
theorem Xxn (a b c d : VecV) : Xab c d a b = Xab a b c d := by
  unfold Xab
  rcases X7 (decide (Int.sign (Xw (Xd a b) (Xd a c)).num * Int.sign (Xw (Xd a b) (Xd a d)).num < 0)) with h | h <;> rw [h] <;>
  rcases X7 (decide (Int.sign (Xw (Xd c d) (Xd c a)).num * Int.sign (Xw (Xd c d) (Xd c b)).num < 0)) with k | k <;> rw [k] <;> rfl
theorem Xyb (a b c d : VecV) : Xab b a c d = Xab a b c d := by
  unfold Xab
  have e : ∀ p, Xw (Xd b a) (Xd b p) = - Xw (Xd a b) (Xd a p) := fun p => by
    unfold Xw Xd; grind
  rw [e, e, Xov, Xov, Int.neg_mul_neg, Int.mul_comm (Int.sign (Xw (Xd c d) (Xd c b)).num)]
theorem X1a (p q r s : VecV) : Kp s r p q = Kp p q r s := by
  unfold Kp
  have e : Xab s r p q = Xab p q r s := by rw [Xyb, Xxn]
  rw [e, Xto s r p, Xto s r q, X0x]
open Go Go.RowKit
theorem Xiv (a0 a1 b0 b1 : SpotV) (ha0 : (-32768 ≤ a0.x ∧ a0.x < 32768) ∧ (-32768 ≤ a0.y ∧ a0.y < 32768) ∧ 0 ≤ a0.d ∧ a0.d < 256) (ha1 : (-32768 ≤ a1.x ∧ a1.x < 32768) ∧ (-32768 ≤ a1.y ∧ a1.y < 32768) ∧ 0 ≤ a1.d ∧ a1.d < 256) (hb0 : (-32768 ≤ b0.x ∧ b0.x < 32768) ∧ (-32768 ≤ b0.y ∧ b0.y < 32768) ∧ 0 ≤ b0.d ∧ b0.d < 256) (hb1 : (-32768 ≤ b1.x ∧ b1.x < 32768) ∧ (-32768 ≤ b1.y ∧ b1.y < 32768) ∧ 0 ≤ b1.d ∧ b1.d < 256) : CS Tryz.prog 7 [.st [Xcy a0, Xcy a1], .st [Xcy b0, Xcy b1]] (.bool true) := by
 refine cO 49 Tryz.func7 ?_
 refine rt [tv 2 (pb 2), tv 3 (pb 3), tv 4 (.bool false), bv 2 (.st [Xcy a0, Xcy a1]), bv 3 (.st [Xcy b0, Xcy b1])] (oT 3 oN) ?_
 refine Xe ?_
 refine rt [tv 2 (pb 2), tv 3 (pb 3), tv 4 (.bool false), tv 11 (.bool false), bv 2 (.st [Xcy a0, Xcy a1]), bv 3 (.st [Xcy b0, Xcy b1])] (oC Xud (oO (oB false) (oA [.rptr (.bool false)] oN))) ?_
 refine cB (false) (fun h => Bool.noConfusion h) (fun _ => ?_)
 refine Xn ?_
 have := Xe1 a0 (by omega)
 have := Xe1 a1 (by omega)
 have := Xe1 b0 (by omega)
 have := Xe1 b1 (by omega)
 have := Xe1 a0 (by omega)
 have := Xe1 a1 (by omega)
 have := Xe1 b0 (by omega)
 have := Xe1 b1 (by omega)
 have := Xgk (Yb a0) (Yb a1) (Yb b0) (Yb b1)
 have := Xqh (Yb a0) (Yb a1) (Yb b0) (Yb b1)
 have := Xgk (Yb b1) (Yb b0) (Yb a0) (Yb a1)
 refine sh 3 [tv 4 (.bool true)] (oS (oO (show (0 : Int) ≤ 0 ∧ Int.toNat 0 < 2 by decide) (oT 1 (oC (Xko a0 (by omega)) (oO (show (0 : Int) ≤ 1 ∧ Int.toNat 1 < 2 by decide) (oT 1 (oC (Xko a1 (by omega)) (oO (show (0 : Int) ≤ 0 ∧ Int.toNat 0 < 2 by decide) (oT 1 (oC (Xko b0 (by omega)) (oO (show (0 : Int) ≤ 1 ∧ Int.toNat 1 < 2 by decide) (oT 1 (oC (Xko b1 (by omega)) (oT 8 oN))))))))))))) (oS (oT 4 (oC (Xgj (Yb a0) (Yb a1) (Yb b0) (Yb b1) (by omega)) (oT 2 oN))) (oS (oT 1 (oC (Xhg (Zw (Yb a0) (Yb a1) (Yb b0) (Yb b1)) (by omega)) (oT 1 (oO (Xh 1 trivial) (oO (Xh 1 trivial) (oO (Xh 1 trivial) (oO (Xh 1 trivial) (oO (Xh 1 trivial) (oO (Xh 4 (Xp2 (Yb a0) (Yb a1) (Yb b0) (Yb b1) (by omega))) (oO (Xh 2 (Jl (Xo0 (Zw (Yb a0) (Yb a1) (Yb b0) (Yb b1)) (Kp (Yb a0) (Yb a1) (Yb b0) (Yb b1)) (by omega)) (by rw [decide_eq_true (Xzh _ _ _ _)]) : CS Tryz.prog 32 [Xc (Zw (Yb a0) (Yb a1) (Yb b0) (Yb b1)), Xc (Kp (Yb a0) (Yb a1) (Yb b0) (Yb b1))] (.bool true))) (oT 2 (oO (Xh 1 trivial) (oO (Xh 1 trivial) (oO (Xh 1 trivial) (oO (Xh 1 trivial) (oO (Xh 4 (Xgj (Yb b1) (Yb b0) (Yb a0) (Yb a1) (by omega))) (oO (Xh 1 trivial) (oO (Xh 2 (Jl (Xo0 (Zw (Yb b1) (Yb b0) (Yb a0) (Yb a1)) (Zw (Yb a0) (Yb a1) (Yb b0) (Yb b1)) (by omega)) (by rw [decide_eq_true ((Xzh _ _ _ _).trans ((X1a _ _ _ _).trans (Xzh _ _ _ _).symm))]) : CS Tryz.prog 32 [Xc (Zw (Yb b1) (Yb b0) (Yb a0) (Yb a1)), Xc (Zw (Yb a0) (Yb a1) (Yb b0) (Yb b1))] (.bool true))) (oT 2 (oA [Xc (Kp (Yb a0) (Yb a1) (Yb b0) (Yb b1)), .bool true, Xc (Zw (Yb b1) (Yb b0) (Yb a0) (Yb a1)), .bool true] oN)))))))))))))))))))) oN))) ?_
 refine Xg ?_
 exact X7i ((.bool true)) (rfl)
end Am
end Go.Proofs.YtmlgfablnbbceaaGreat

