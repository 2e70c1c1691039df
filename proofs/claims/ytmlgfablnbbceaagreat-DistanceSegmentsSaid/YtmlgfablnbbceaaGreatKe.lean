/- What is proved: see the last text of this claim. -/
import Derived.Test.YtmlgfablnbbceaaGreatKd
import Derived.Test.YtmlgfablnbbceaaGreatKc
set_option linter.all false
namespace Go.Proofs.YtmlgfablnbbceaaGreat
namespace Am
open Go Go.RowKit
theorem Xa3 (neg : Bool) (l : List Int) (gl : Lm.G l) (hs : l.length ≤ 1152921504606846976 := by omega) : CS Tryz.prog 188 [.bool neg, Xj l] (Xf (Js neg (Lm.V l))) := by
 refine cO 15 Tryz.func188 ?_
 refine sh 2 [tv 0 (.bool neg), tv 1 (Xj (Lm.trim l)), tv 4 (pb 4), bv 4 zI] (oS (oT 1 oN) (oS (oT 1 (oC (Xbn l) (oT 1 oN))) oN)) ?_
 refine Xe ?_
 rcases X7 neg with h1 | h1
 ·
  refine Xlh [tv 0 (.bool neg), tv 1 (Xj (Lm.trim l)), tv 4 (pb 4), bv 4 zI] [tv 0 (.bool true), tv 1 (Xj (Lm.trim l)), tv 4 (pb 4), bv 4 zI] (by rw [h1]) ?_
  refine rh [tv 4 (pb 4), bv 4 (.st [.bool (decide (0 < (((Lm.trim l).length : Nat) : Int))), Xj (Lm.trim l)])] (oT 2 (oO (Xh 1 trivial) (oO (Xh 1 (aI trivial (Yx _ : (((Lm.trim l).length : Nat) : Int) = (((uw (Lm.trim l)).length : Nat) : Int)))) (oO (Xh 1 (oB (decide (0 < (((Lm.trim l).length : Nat) : Int))))) (oT 4 (oA [.tup [ki (((Lm.trim l).length : Nat) : Int)], cT (decide (0 < (((Lm.trim l).length : Nat) : Int)))] oN)))))) ?_
  refine Xg ?_
  exact X7i ((.st [.bool (decide (0 < (((Lm.trim l).length : Nat) : Int))), Xj (Lm.trim l)])) (by rw [h1]; exact Xr8 gl rfl rfl)
 ·
  refine Xlh [tv 0 (.bool neg), tv 1 (Xj (Lm.trim l)), tv 4 (pb 4), bv 4 zI] [tv 0 (.bool false), tv 1 (Xj (Lm.trim l)), tv 4 (pb 4), bv 4 zI] (by rw [h1]) ?_
  refine rh [tv 4 (pb 4), bv 4 (.st [.bool false, Xj (Lm.trim l)])] (oT 2 (oO (gn [false]) (oO (gn [true]) (oO (gn [true]) (oT 4 (oA [.tup [ki (((Lm.trim l).length : Nat) : Int)], cT (decide (0 < (((Lm.trim l).length : Nat) : Int)))] oN)))))) ?_
  refine Xg ?_
  exact X7i ((.st [.bool false, Xj (Lm.trim l)])) (by rw [h1]; exact Xoo gl rfl)
theorem Xbg (n : Int) (h0 : -9223372036854775808 ≤ n := by omega) (h1 : n < 9223372036854775808 := by omega) : CS Tryz.prog 134 [ki n] (Xf n) := by
 have hl := Xfi (n := n) (by omega) (by omega)
 have hl2 := Xfi (n := -n) (by omega) (by omega)
 have hl3 := Yj n
 have hl4 := Yj (-n)
 have hl5 := Xfi (n := n % 18446744073709551616) (by omega) (by omega)
 refine cO 14 Tryz.func134 ?_
 refine rt [tv 0 (ki n), tv 2 (pb 2), bv 2 zI] (oT 1 oN) ?_
 refine Xe ?_
 refine rt [tv 0 (ki n), tv 2 (pb 2), tv 4 (.bool (decide (n < 0))), bv 2 zI] (oT 1 (oO (oB (decide (n < 0))) (oA [cT (decide (n < 0))] oN))) ?_
 refine cB (decide (n < 0)) (fun h1 => ?_) (fun h1 => ?_)
 ·
  have h1' := of_decide_eq_true h1
  refine rt [tv 0 (ki n), tv 2 (pb 2), bv 2 (Xf (Js true (Lm.V (Lm.digs (Int.natAbs (-n))))))] (oT 1 (oO (Xlp n : (n % 18446744073709551616) = IntKind.u64.wrap n) (oO (Xuy h0 (by omega) : (-n) = IntKind.u64.wrap (0 - (n % 18446744073709551616))) (oA [ku (n % 18446744073709551616), ku (-n)] (oC (Xd0 (-n)) (oO (Xa3 true (Lm.digs (Int.natAbs (-n))) (by first | exact Lm.G_digs _ | exact Lm.G_dg _ _ | assumption) (by first | omega | (simp only [Yj] at *; omega)) : CS Tryz.prog 188 [.bool true, Xj (Lm.digs (Int.natAbs (-n)))] (Xf (Js true (Lm.V (Lm.digs (Int.natAbs (-n))))))) (oT 1 (oA [Xf (Js true (Lm.V (Lm.digs (Int.natAbs (-n)))))] oN)))))))) ?_
  refine Xg ?_
  exact X7i ((Xf (Js true (Lm.V (Lm.digs (Int.natAbs (-n))))))) (congrArg Xf (by rw [Lm.V_digs]; simp only [Js, cond_true, cond_false]; omega))
 ·
  have h1' := of_decide_eq_false h1
  refine Xn ?_
  refine rt [tv 2 (pb 2), bv 2 (Xf (Js false (Lm.V (Lm.digs (Int.natAbs (n % 18446744073709551616))))))] (oT 1 (oO (Xlp n : (n % 18446744073709551616) = IntKind.u64.wrap n) (oA [ku (n % 18446744073709551616)] (oC (Xd0 (n % 18446744073709551616)) (oO (Xa3 false (Lm.digs (Int.natAbs (n % 18446744073709551616))) (by first | exact Lm.G_digs _ | exact Lm.G_dg _ _ | assumption) (by first | omega | (simp only [Yj] at *; omega)) : CS Tryz.prog 188 [.bool false, Xj (Lm.digs (Int.natAbs (n % 18446744073709551616)))] (Xf (Js false (Lm.V (Lm.digs (Int.natAbs (n % 18446744073709551616))))))) (oT 1 (oA [Xf (Js false (Lm.V (Lm.digs (Int.natAbs (n % 18446744073709551616)))))] oN))))))) ?_
  refine Xg ?_
  exact X7i ((Xf (Js false (Lm.V (Lm.digs (Int.natAbs (n % 18446744073709551616))))))) (congrArg Xf (by rw [Lm.V_digs]; simp only [Js, cond_true, cond_false]; omega))
theorem Xip (a : Int) : CS Tryz.prog 101 [Xf a] (.int .i64 (Int.sign a)) := by
 have hz := Xbi (a := a)
 have hl := Yj a
 refine cO 9 Tryz.func101 ?_
 refine rt [tv 1 (pb 1), tv 2 (ki 0), bv 1 (Xf a)] (oT 2 oN) ?_
 refine Xe ?_
 refine rt [tv 1 (pb 1), tv 2 (ki 0), tv 6 (.bool (decide ((((Lm.digs (Int.natAbs a)).length : Nat) : Int) = 0))), bv 1 (Xf a)] (oT 2 (oO (aI trivial (Yx _ : (((Lm.digs (Int.natAbs a)).length : Nat) : Int) = (((uw (Lm.digs (Int.natAbs a))).length : Nat) : Int))) (oO (oB (decide ((((Lm.digs (Int.natAbs a)).length : Nat) : Int) = 0))) (oA [.tup [ki (((Lm.digs (Int.natAbs a)).length : Nat) : Int)], cT (decide ((((Lm.digs (Int.natAbs a)).length : Nat) : Int) = 0))] oN)))) ?_
 refine cB (decide ((((Lm.digs (Int.natAbs a)).length : Nat) : Int) = 0)) (fun h1 => ?_) (fun h1 => ?_)
 ·
  have h1' := of_decide_eq_true h1
  refine rt [tv 1 (pb 1), tv 2 (ki 0), bv 1 (Xf a)] (oT 1 oN) ?_
  refine Xg ?_
  exact X7i ((ki 0)) (congrArg (AV.int .i64) (by rw [show a = 0 by omega]; rfl))
 ·
  have h1' := of_decide_eq_false h1
  refine Xn ?_
  refine Xe ?_
  refine rt [tv 2 (ki 0), tv 8 (.bool (decide (a < 0)))] (oT 1 (oO (oB (decide (a < 0))) (oA [.rptr (.bool (decide (a < 0)))] oN))) ?_
  refine cB (decide (a < 0)) (fun h2 => ?_) (fun h2 => ?_)
  ·
   have h2' := of_decide_eq_true h2
   refine rt [tv 2 (ki (-1))] (oT 1 oN) ?_
   refine Xg ?_
   exact X7i ((ki (-1))) (congrArg (AV.int .i64) (Lm.sign_neg (by omega)))
  ·
   have h2' := of_decide_eq_false h2
   refine Xn ?_
   refine rt [tv 2 (ki 1)] (oT 1 oN) ?_
   refine Xg ?_
   exact X7i ((ki 1)) (congrArg (AV.int .i64) (Lm.sign_pos (by omega)))
theorem Xqy (a b : Int) (hs : X66 a + X66 b ≤ 1099511627776 := by omega) : CS Tryz.prog 192 [Xf a, Xf b] (.int .i64 (Int.sign (a - b))) := by
 refine cO 24 Tryz.func192 ?_
 refine rt [tv 2 (pb 2), tv 3 (pb 3), tv 4 (ki 0), bv 2 (Xf a), bv 3 (Xf b)] (oT 3 oN) ?_
 refine Xe ?_
 refine rt [tv 2 (pb 2), tv 3 (pb 3), tv 4 (ki 0), tv 9 (.bool (!(decide (a < 0) == decide (b < 0)))), bv 2 (Xf a), bv 3 (Xf b)] (oT 1 (oO (oB (decide (a < 0))) (oT 1 (oO (oB (decide (b < 0))) (oO (oB (!(decide (a < 0) == decide (b < 0)))) (oA [.rptr (.bool (decide (a < 0))), .rptr (.bool (decide (b < 0))), cT (!(decide (a < 0) == decide (b < 0)))] oN)))))) ?_
 refine cB ((!(decide (a < 0) == decide (b < 0)))) (fun h1 => ?_) (fun h1 => ?_)
 ·
  have h1' := Xgt (Xdt h1)
  refine Xe ?_
  refine rt [tv 2 (pb 2), tv 3 (pb 3), tv 4 (ki 0), tv 11 (.bool (decide (a < 0))), bv 2 (Xf a), bv 3 (Xf b)] (oT 1 (oO (oB (decide (a < 0))) (oA [.rptr (.bool (decide (a < 0)))] oN))) ?_
  refine cB (decide (a < 0)) (fun h2 => ?_) (fun h2 => ?_)
  ·
   have h2' := of_decide_eq_true h2
   refine rt [tv 2 (pb 2), tv 3 (pb 3), tv 4 (ki (-1)), bv 2 (Xf a), bv 3 (Xf b)] (oT 1 oN) ?_
   refine Xg ?_
   exact X7i ((ki (-1))) (congrArg (AV.int .i64) (Lm.sign_neg (show a - b < 0 by omega)))
  ·
   have h2' := of_decide_eq_false h2
   refine Xn ?_
   refine rt [tv 2 (pb 2), tv 3 (pb 3), tv 4 (ki 1), bv 2 (Xf a), bv 3 (Xf b)] (oT 1 oN) ?_
   refine Xg ?_
   exact X7i ((ki 1)) (congrArg (AV.int .i64) (Lm.sign_pos (show 0 < a - b by omega)))
 ·
  have h1' := Xg0 (Xas h1)
  refine Xn ?_
  refine Xe ?_
  refine rt [tv 2 (pb 2), tv 3 (pb 3), tv 4 (ki 0), tv 13 (.bool (decide (a < 0))), bv 2 (Xf a), bv 3 (Xf b)] (oT 1 (oO (oB (decide (a < 0))) (oA [.rptr (.bool (decide (a < 0)))] oN))) ?_
  refine cB (decide (a < 0)) (fun h3 => ?_) (fun h3 => ?_)
  ·
   have h3' := of_decide_eq_true h3
   refine rt [tv 2 (pb 2), tv 3 (pb 3), tv 4 (ki (Int.sign (Lm.V (Lm.digs (Int.natAbs b)) - Lm.V (Lm.digs (Int.natAbs a))))), bv 2 (Xf a), bv 3 (Xf b)] (oT 4 (oO (Xen (Lm.digs (Int.natAbs b)) (Lm.digs (Int.natAbs a)) (Xa2 _) (Xa2 _) (Xj9 _) (Xj9 _) (by (try simp only [Lm.dg_len, Yj]); omega) : CS Tryz.prog 186 [Xj (Lm.digs (Int.natAbs b)), Xj (Lm.digs (Int.natAbs a))] (ki (Int.sign (Lm.V (Lm.digs (Int.natAbs b)) - Lm.V (Lm.digs (Int.natAbs a)))))) (oT 1 (oA [ki (Int.sign (Lm.V (Lm.digs (Int.natAbs b)) - Lm.V (Lm.digs (Int.natAbs a))))] oN)))) ?_
   refine Xg ?_
   exact X7i ((ki (Int.sign (Lm.V (Lm.digs (Int.natAbs b)) - Lm.V (Lm.digs (Int.natAbs a)))))) (congrArg (AV.int .i64) (Xp8 (by omega) (by omega)))
  ·
   have h3' := of_decide_eq_false h3
   refine Xn ?_
   refine rt [tv 4 (ki (Int.sign (Lm.V (Lm.digs (Int.natAbs a)) - Lm.V (Lm.digs (Int.natAbs b)))))] (oT 4 (oO (Xen (Lm.digs (Int.natAbs a)) (Lm.digs (Int.natAbs b)) (Xa2 _) (Xa2 _) (Xj9 _) (Xj9 _) (by (try simp only [Lm.dg_len, Yj]); omega) : CS Tryz.prog 186 [Xj (Lm.digs (Int.natAbs a)), Xj (Lm.digs (Int.natAbs b))] (ki (Int.sign (Lm.V (Lm.digs (Int.natAbs a)) - Lm.V (Lm.digs (Int.natAbs b)))))) (oT 1 (oA [ki (Int.sign (Lm.V (Lm.digs (Int.natAbs a)) - Lm.V (Lm.digs (Int.natAbs b))))] oN)))) ?_
   refine Xg ?_
   exact X7i ((ki (Int.sign (Lm.V (Lm.digs (Int.natAbs a)) - Lm.V (Lm.digs (Int.natAbs b)))))) (congrArg (AV.int .i64) (Xp1 (by omega) (by omega)))
theorem Xkp (a b : Int) (hs : X66 a + X66 b ≤ 1099511627776 := by omega) : CS Tryz.prog 212 [Xf a, Xf b] (Xf (a + b)) := by
 have hpd := Lm.digs_len (n := (Lm.V (Lm.digs (Int.natAbs a)) + Lm.V (Lm.digs (Int.natAbs b))).natAbs) (m := X66 a + X66 b + 1) (by have := Xej (a.natAbs + b.natAbs : Int); have h2 := Xfc (a.natAbs : Int) (b.natAbs : Int); have h3 := Xdn (a := (a.natAbs : Int)) (b := a) (by simp); have h4 := Xdn (a := (b.natAbs : Int)) (b := b) (by simp); have h5 := Lm.P_mono (m := X66 ((a.natAbs : Int) + b.natAbs)) (n := X66 a + X66 b + 1) (by omega); rw [Kq, Kq]; omega)
 have hmd1 := Lm.digs_len (n := (Lm.V (Lm.digs (Int.natAbs a)) - Lm.V (Lm.digs (Int.natAbs b))).natAbs) (m := X66 a + X66 b) (by have h1 := Xej a; have h2 := Xej b; have h3 := Lm.P_mono (m := X66 a) (n := X66 a + X66 b) (by omega); have h4 := Lm.P_mono (m := X66 b) (n := X66 a + X66 b) (by omega); rw [Kq, Kq]; omega)
 have hmd2 := Lm.digs_len (n := (Lm.V (Lm.digs (Int.natAbs b)) - Lm.V (Lm.digs (Int.natAbs a))).natAbs) (m := X66 a + X66 b) (by have h1 := Xej a; have h2 := Xej b; have h3 := Lm.P_mono (m := X66 a) (n := X66 a + X66 b) (by omega); have h4 := Lm.P_mono (m := X66 b) (n := X66 a + X66 b) (by omega); rw [Kq, Kq]; omega)
 refine cO 40 Tryz.func212 ?_
 refine rt [tv 2 (pb 2), tv 3 (pb 3), tv 4 (pb 4), bv 2 (Xf a), bv 3 (Xf b), bv 4 zI] (oT 3 oN) ?_
 refine Xe ?_
 refine rt [tv 2 (pb 2), tv 3 (pb 3), tv 4 (pb 4), tv 9 (.bool (decide (a < 0) == decide (b < 0))), bv 2 (Xf a), bv 3 (Xf b), bv 4 zI] (oT 1 (oO (oB (decide (a < 0))) (oT 1 (oO (oB (decide (b < 0))) (oO (oB (decide (a < 0) == decide (b < 0))) (oA [.rptr (.bool (decide (a < 0))), .rptr (.bool (decide (b < 0))), cT (decide (a < 0) == decide (b < 0))] oN)))))) ?_
 refine cB (decide (a < 0) == decide (b < 0)) (fun h1 => ?_) (fun h1 => ?_)
 ·
  have h1' := Xg0 h1
  refine rt [tv 2 (pb 2), tv 3 (pb 3), tv 4 (pb 4), bv 2 (Xf a), bv 3 (Xf b), bv 4 (Xf (Js (decide (a < 0)) (Lm.V (Lm.digs (Lm.V (Lm.digs (Int.natAbs a)) + Lm.V (Lm.digs (Int.natAbs b))).natAbs))))] (oT 1 (oO (oB (decide (a < 0))) (oT 4 (oO (Xu8 (Lm.digs (Int.natAbs a)) (Lm.digs (Int.natAbs b)) (Xa2 _) (Xa2 _) (by (try simp only [Lm.dg_len, Yj]); omega) : CS Tryz.prog 255 [Xj (Lm.digs (Int.natAbs a)), Xj (Lm.digs (Int.natAbs b))] (Xj (Lm.digs (Lm.V (Lm.digs (Int.natAbs a)) + Lm.V (Lm.digs (Int.natAbs b))).natAbs))) (oO (Xa3 (decide (a < 0)) (Lm.digs (Lm.V (Lm.digs (Int.natAbs a)) + Lm.V (Lm.digs (Int.natAbs b))).natAbs) (by first | exact Lm.G_digs _ | exact Lm.G_dg _ _ | assumption) (by first | omega | (simp only [Yj] at *; omega)) : CS Tryz.prog 188 [.bool (decide (a < 0)), Xj (Lm.digs (Lm.V (Lm.digs (Int.natAbs a)) + Lm.V (Lm.digs (Int.natAbs b))).natAbs)] (Xf (Js (decide (a < 0)) (Lm.V (Lm.digs (Lm.V (Lm.digs (Int.natAbs a)) + Lm.V (Lm.digs (Int.natAbs b))).natAbs))))) (oT 1 (oA [.rptr (.bool (decide (a < 0))), Xj (Lm.digs (Lm.V (Lm.digs (Int.natAbs a)) + Lm.V (Lm.digs (Int.natAbs b))).natAbs), Xf (Js (decide (a < 0)) (Lm.V (Lm.digs (Lm.V (Lm.digs (Int.natAbs a)) + Lm.V (Lm.digs (Int.natAbs b))).natAbs)))] oN))))))) ?_
  refine Xg ?_
  exact X7i ((Xf (Js (decide (a < 0)) (Lm.V (Lm.digs (Lm.V (Lm.digs (Int.natAbs a)) + Lm.V (Lm.digs (Int.natAbs b))).natAbs))))) (congrArg Xf (by rw [Lm.V_digs]; rw [Kq, Kq]; unfold Js; by_cases ha : a < 0 <;> by_cases hb : b < 0 <;> simp only [ha, hb, decide_true, decide_false, cond_true, cond_false] <;> omega))
 ·
  have h1' := Xgt h1
  refine Xn ?_
  refine Xe ?_
  refine rt [tv 2 (pb 2), tv 3 (pb 3), tv 4 (pb 4), tv 23 (.bool (decide (0 ≤ Int.sign (Lm.V (Lm.digs (Int.natAbs a)) - Lm.V (Lm.digs (Int.natAbs b)))))), bv 2 (Xf a), bv 3 (Xf b), bv 4 zI] (oT 4 (oO (Xen (Lm.digs (Int.natAbs a)) (Lm.digs (Int.natAbs b)) (Xa2 _) (Xa2 _) (Xj9 _) (Xj9 _) (by (try simp only [Lm.dg_len, Yj]); omega) : CS Tryz.prog 186 [Xj (Lm.digs (Int.natAbs a)), Xj (Lm.digs (Int.natAbs b))] (ki (Int.sign (Lm.V (Lm.digs (Int.natAbs a)) - Lm.V (Lm.digs (Int.natAbs b)))))) (oO (oB (decide (0 ≤ Int.sign (Lm.V (Lm.digs (Int.natAbs a)) - Lm.V (Lm.digs (Int.natAbs b)))))) (oA [ki (Int.sign (Lm.V (Lm.digs (Int.natAbs a)) - Lm.V (Lm.digs (Int.natAbs b)))), cT (decide (0 ≤ Int.sign (Lm.V (Lm.digs (Int.natAbs a)) - Lm.V (Lm.digs (Int.natAbs b)))))] oN)))) ?_
  refine cB (decide (0 ≤ Int.sign (Lm.V (Lm.digs (Int.natAbs a)) - Lm.V (Lm.digs (Int.natAbs b))))) (fun h2 => ?_) (fun h2 => ?_)
  ·
   have h2' := of_decide_eq_true h2
   refine Xe ?_
   have hle : b.natAbs ≤ a.natAbs := by
    have hq := Xni (x := Lm.V (Lm.digs (Int.natAbs a)) - Lm.V (Lm.digs (Int.natAbs b)))
    rw [Kq, Kq] at hq
    have hw := h2'
    rw [Kq, Kq, hq] at hw
    omega
   refine rh [tv 2 (pb 2), tv 3 (pb 3), tv 4 (pb 4), bv 2 (Xf a), bv 3 (Xf b), bv 4 (Xf (Js (decide (a < 0)) (Lm.V (Lm.digs (Lm.V (Lm.digs (Int.natAbs a)) - Lm.V (Lm.digs (Int.natAbs b))).natAbs))))] (oT 1 (oO (oB (decide (a < 0))) (oT 4 (oO (Xhd (Lm.digs (Int.natAbs a)) (Lm.digs (Int.natAbs b)) (Xa2 _) (Xa2 _) (Xki hle) (by rw [Kq, Kq]; omega) (by (try simp only [Lm.dg_len, Yj]); omega) : CS Tryz.prog 250 [Xj (Lm.digs (Int.natAbs a)), Xj (Lm.digs (Int.natAbs b))] (Xj (Lm.digs (Lm.V (Lm.digs (Int.natAbs a)) - Lm.V (Lm.digs (Int.natAbs b))).natAbs))) (oO (Xa3 (decide (a < 0)) (Lm.digs (Lm.V (Lm.digs (Int.natAbs a)) - Lm.V (Lm.digs (Int.natAbs b))).natAbs) (by first | exact Lm.G_digs _ | exact Lm.G_dg _ _ | assumption) (by first | omega | (simp only [Yj] at *; omega)) : CS Tryz.prog 188 [.bool (decide (a < 0)), Xj (Lm.digs (Lm.V (Lm.digs (Int.natAbs a)) - Lm.V (Lm.digs (Int.natAbs b))).natAbs)] (Xf (Js (decide (a < 0)) (Lm.V (Lm.digs (Lm.V (Lm.digs (Int.natAbs a)) - Lm.V (Lm.digs (Int.natAbs b))).natAbs))))) (oT 1 (oA [.rptr (.bool (decide (a < 0))), Xj (Lm.digs (Lm.V (Lm.digs (Int.natAbs a)) - Lm.V (Lm.digs (Int.natAbs b))).natAbs), Xf (Js (decide (a < 0)) (Lm.V (Lm.digs (Lm.V (Lm.digs (Int.natAbs a)) - Lm.V (Lm.digs (Int.natAbs b))).natAbs)))] oN))))))) ?_
   refine Xg ?_
   exact X7i ((Xf (Js (decide (a < 0)) (Lm.V (Lm.digs (Lm.V (Lm.digs (Int.natAbs a)) - Lm.V (Lm.digs (Int.natAbs b))).natAbs))))) (congrArg Xf (by rw [Lm.V_digs]; rw [Kq, Kq]; unfold Js; by_cases ha : a < 0 <;> by_cases hb : b < 0 <;> simp only [ha, hb, decide_true, decide_false, cond_true, cond_false] <;> omega))
  ·
   have h2' := of_decide_eq_false h2
   refine Xn ?_
   refine Xe ?_
   have hle : a.natAbs ≤ b.natAbs := by
    have hq := Xni (x := Lm.V (Lm.digs (Int.natAbs a)) - Lm.V (Lm.digs (Int.natAbs b)))
    rw [Kq, Kq] at hq
    have hw := h2'
    rw [Kq, Kq, hq] at hw
    omega
   refine rh [tv 4 (pb 4), bv 4 (Xf (Js (decide (b < 0)) (Lm.V (Lm.digs (Lm.V (Lm.digs (Int.natAbs b)) - Lm.V (Lm.digs (Int.natAbs a))).natAbs))))] (oT 1 (oO (oB (decide (b < 0))) (oT 4 (oO (Xhd (Lm.digs (Int.natAbs b)) (Lm.digs (Int.natAbs a)) (Xa2 _) (Xa2 _) (Xki hle) (by rw [Kq, Kq]; omega) (by (try simp only [Lm.dg_len, Yj]); omega) : CS Tryz.prog 250 [Xj (Lm.digs (Int.natAbs b)), Xj (Lm.digs (Int.natAbs a))] (Xj (Lm.digs (Lm.V (Lm.digs (Int.natAbs b)) - Lm.V (Lm.digs (Int.natAbs a))).natAbs))) (oO (Xa3 (decide (b < 0)) (Lm.digs (Lm.V (Lm.digs (Int.natAbs b)) - Lm.V (Lm.digs (Int.natAbs a))).natAbs) (by first | exact Lm.G_digs _ | exact Lm.G_dg _ _ | assumption) (by first | omega | (simp only [Yj] at *; omega)) : CS Tryz.prog 188 [.bool (decide (b < 0)), Xj (Lm.digs (Lm.V (Lm.digs (Int.natAbs b)) - Lm.V (Lm.digs (Int.natAbs a))).natAbs)] (Xf (Js (decide (b < 0)) (Lm.V (Lm.digs (Lm.V (Lm.digs (Int.natAbs b)) - Lm.V (Lm.digs (Int.natAbs a))).natAbs))))) (oT 1 (oA [.rptr (.bool (decide (b < 0))), Xj (Lm.digs (Lm.V (Lm.digs (Int.natAbs b)) - Lm.V (Lm.digs (Int.natAbs a))).natAbs), Xf (Js (decide (b < 0)) (Lm.V (Lm.digs (Lm.V (Lm.digs (Int.natAbs b)) - Lm.V (Lm.digs (Int.natAbs a))).natAbs)))] oN))))))) ?_
   refine Xg ?_
   exact X7i ((Xf (Js (decide (b < 0)) (Lm.V (Lm.digs (Lm.V (Lm.digs (Int.natAbs b)) - Lm.V (Lm.digs (Int.natAbs a))).natAbs))))) (congrArg Xf (by rw [Lm.V_digs]; rw [Kq, Kq]; unfold Js; by_cases ha : a < 0 <;> by_cases hb : b < 0 <;> simp only [ha, hb, decide_true, decide_false, cond_true, cond_false] <;> omega))
theorem Xkk (a : Int) (hs : X66 a ≤ 1099511627776 := by omega) : CS Tryz.prog 211 [Xf a] (Xf (-a)) := by
 refine cO 9 Tryz.func211 ?_
 refine sh 2 [tv 2 (pb 2), bv 2 (Xf (Js (!(decide (a < 0))) (Lm.V (Lm.digs (Int.natAbs a)))))] (oS (oT 2 oN) (oS (oT 1 (oO (oB (decide (a < 0))) (oO (oB (!(decide (a < 0)))) (oT 2 (oO (Xa3 (!(decide (a < 0))) (Lm.digs (Int.natAbs a)) (by first | exact Lm.G_digs _ | exact Lm.G_dg _ _ | assumption) (by first | omega | (simp only [Yj] at *; omega)) : CS Tryz.prog 188 [.bool (!(decide (a < 0))), Xj (Lm.digs (Int.natAbs a))] (Xf (Js (!(decide (a < 0))) (Lm.V (Lm.digs (Int.natAbs a)))))) (oT 1 (oA [.rptr (.bool (decide (a < 0))), .rptr (.bool (!(decide (a < 0)))), Xf (Js (!(decide (a < 0))) (Lm.V (Lm.digs (Int.natAbs a))))] oN))))))) oN)) ?_
 refine Xg ?_
 exact X7i ((Xf (Js (!(decide (a < 0))) (Lm.V (Lm.digs (Int.natAbs a)))))) (congrArg Xf (by rw [Kq]; unfold Js; by_cases ha : a < 0 <;> simp only [ha, decide_true, decide_false, Bool.not_true, Bool.not_false, cond_true, cond_false] <;> omega))
theorem Xw5 (a b : Int) (hs : X66 a + X66 b ≤ 1099511627776 := by omega) : CS Tryz.prog 257 [Xf a, Xf b] (Xf (a - b)) := by
 refine cO 9 Tryz.func257 ?_
 refine sh 2 [tv 4 (pb 4), bv 4 (Xf (a + (-b)))] (oS (oT 3 oN) (oS (oT 2 (oC (Xkk b) (oC (Xkp a (-b) (by rw [Xff]; omega)) (oT 1 oN)))) oN)) ?_
 refine Xg ?_
 exact X7i ((Xf (a + (-b)))) (congrArg Xf Int.sub_eq_add_neg.symm)
theorem Xb8 (a b : Int) (hs : X66 a + X66 b ≤ 1099511627776 := by omega) : CS Tryz.prog 193 [Xf a, Xf b] (Xf (a * b)) := by
 have hml := Jm a b
 have hmlx : (Lm.digs (Int.natAbs (Lm.V (Lm.digs (Int.natAbs a)) * Lm.V (Lm.digs (Int.natAbs b))))).length = X66 (a * b) := by rw [Kq, Kq, ← Int.natCast_mul, ← Int.natAbs_mul]; rfl
 refine cO 16 Tryz.func193 ?_
 refine sh 2 [tv 4 (pb 4), bv 4 (Xf (Js (!(decide (a < 0) == decide (b < 0))) (Lm.V (Lm.digs (Lm.V (Lm.digs (Int.natAbs a)) * Lm.V (Lm.digs (Int.natAbs b))).natAbs))))] (oS (oT 3 oN) (oS (oT 1 (oO (oB (decide (a < 0))) (oT 1 (oO (oB (decide (b < 0))) (oO (oB (!(decide (a < 0) == decide (b < 0)))) (oT 4 (oO (Xn0 (Lm.digs (Int.natAbs a)) (Lm.digs (Int.natAbs b)) (Xa2 _) (Xa2 _) (by (try simp only [Lm.dg_len, Yj]); omega) : CS Tryz.prog 251 [Xj (Lm.digs (Int.natAbs a)), Xj (Lm.digs (Int.natAbs b))] (Xj (Lm.digs (Lm.V (Lm.digs (Int.natAbs a)) * Lm.V (Lm.digs (Int.natAbs b))).natAbs))) (oO (Xa3 (!(decide (a < 0) == decide (b < 0))) (Lm.digs (Lm.V (Lm.digs (Int.natAbs a)) * Lm.V (Lm.digs (Int.natAbs b))).natAbs) (by first | exact Lm.G_digs _ | exact Lm.G_dg _ _ | assumption) (by first | omega | (simp only [Yj] at *; omega)) : CS Tryz.prog 188 [.bool (!(decide (a < 0) == decide (b < 0))), Xj (Lm.digs (Lm.V (Lm.digs (Int.natAbs a)) * Lm.V (Lm.digs (Int.natAbs b))).natAbs)] (Xf (Js (!(decide (a < 0) == decide (b < 0))) (Lm.V (Lm.digs (Lm.V (Lm.digs (Int.natAbs a)) * Lm.V (Lm.digs (Int.natAbs b))).natAbs))))) (oT 1 (oA [.rptr (.bool (decide (a < 0))), .rptr (.bool (decide (b < 0))), cT (!(decide (a < 0) == decide (b < 0))), Xj (Lm.digs (Lm.V (Lm.digs (Int.natAbs a)) * Lm.V (Lm.digs (Int.natAbs b))).natAbs), Xf (Js (!(decide (a < 0) == decide (b < 0))) (Lm.V (Lm.digs (Lm.V (Lm.digs (Int.natAbs a)) * Lm.V (Lm.digs (Int.natAbs b))).natAbs)))] oN)))))))))) oN)) ?_
 refine Xg ?_
 exact X7i ((Xf (Js (!(decide (a < 0) == decide (b < 0))) (Lm.V (Lm.digs (Lm.V (Lm.digs (Int.natAbs a)) * Lm.V (Lm.digs (Int.natAbs b))).natAbs))))) (congrArg Xf (by rw [Lm.V_digs, Kq, Kq, ← Int.natCast_mul, ← Int.natAbs_mul, Int.natAbs_natCast]; exact Xym a b))
theorem Xfq (a b : Int) (hs : X66 a + X66 b ≤ 1099511627776 := by omega) : CS Tryz.prog 102 [Xf a, Xf b] (.bool (decide (a = b))) := by
 have hsz := sign_zero (x := Lm.V (Lm.digs (Int.natAbs a)) - Lm.V (Lm.digs (Int.natAbs b)))
 rw [Kq, Kq] at hsz
 refine cO 18 Tryz.func102 ?_
 refine rt [tv 2 (pb 2), tv 3 (pb 3), tv 4 (.bool false), bv 2 (Xf a), bv 3 (Xf b)] (oT 3 oN) ?_
 refine Xe ?_
 rcases X7 (decide (a < 0) == decide (b < 0)) with h1 | h1
 ·
  have h1' := Xg0 h1
  refine rh [tv 4 (.bool (decide (Int.sign (Lm.V (Lm.digs (Int.natAbs a)) - Lm.V (Lm.digs (Int.natAbs b))) = 0)))] (oT 1 (oO (oB (decide (a < 0))) (oT 1 (oO (oB (decide (b < 0))) (oO (aI trivial (h1 : (decide (a < 0) == decide (b < 0)) = true)) (oT 1 (oO (Xh 1 trivial) (oO (Xh 1 trivial) (oO (Xh 1 trivial) (oO (Xh 1 trivial) (oO (Xh 2 (Xen (Lm.digs (Int.natAbs a)) (Lm.digs (Int.natAbs b)) (Xa2 _) (Xa2 _) (Xj9 _) (Xj9 _) (by (try simp only [Lm.dg_len, Yj]); omega) : CS Tryz.prog 186 [Xj (Lm.digs (Int.natAbs a)), Xj (Lm.digs (Int.natAbs b))] (ki (Int.sign (Lm.V (Lm.digs (Int.natAbs a)) - Lm.V (Lm.digs (Int.natAbs b))))))) (oO (Xh 1 (oB (decide (Int.sign (Lm.V (Lm.digs (Int.natAbs a)) - Lm.V (Lm.digs (Int.natAbs b))) = 0)))) (oT 2 (oA [.rptr (.bool (decide (a < 0))), .rptr (.bool (decide (b < 0))), cT true, ki (Int.sign (Lm.V (Lm.digs (Int.natAbs a)) - Lm.V (Lm.digs (Int.natAbs b)))), cT (decide (Int.sign (Lm.V (Lm.digs (Int.natAbs a)) - Lm.V (Lm.digs (Int.natAbs b))) = 0))] oN)))))))))))))) ?_
  refine Xg ?_
  exact X7i ((.bool (decide (Int.sign (Lm.V (Lm.digs (Int.natAbs a)) - Lm.V (Lm.digs (Int.natAbs b))) = 0)))) (congrArg AV.bool (decide_eq_decide.2 (by rw [Kq, Kq, hsz]; omega)))
 ·
  have h1' := Xgt h1
  refine rh [tv 4 (.bool false)] (oT 1 (oO (oB (decide (a < 0))) (oT 1 (oO (oB (decide (b < 0))) (oO (aI trivial (h1 : (decide (a < 0) == decide (b < 0)) = false)) (oT 1 (oO (gn [false]) (oO (gn [true]) (oO (gn [false]) (oO (gn [true]) (oO (gn [true, true]) (oO (gn [true]) (oT 2 (oA [.rptr (.bool (decide (a < 0))), .rptr (.bool (decide (b < 0))), cT false, ki (Int.sign (Lm.V (Lm.digs (Int.natAbs a)) - Lm.V (Lm.digs (Int.natAbs b)))), cT (decide (Int.sign (Lm.V (Lm.digs (Int.natAbs a)) - Lm.V (Lm.digs (Int.natAbs b))) = 0))] oN)))))))))))))) ?_
  refine Xg ?_
  exact X7i ((.bool false)) (congrArg AV.bool (decide_eq_false (by omega)).symm)
theorem Xnt (a : Int) (hs : X66 a ≤ 1099511627776 := by omega) : CS Tryz.prog 100 [Xf a] (.bool true) := by
 have ga := Xa2 a
 have hla := Yj a
 have hz := Xbi (a := a)
 have htr : (decide ((((Lm.trim (Lm.digs (Int.natAbs a))).length : Nat) : Int) = (((Lm.digs (Int.natAbs a)).length : Nat) : Int))) = true := decide_eq_true (by rw [Lm.trim_same (Xj9 a)])
 refine cO 36 Tryz.func100 ?_
 refine rt [tv 1 (pb 1), tv 2 (.bool false), bv 1 (Xf a)] (oT 2 oN) ?_
 refine Xe ?_
 refine rt [tv 1 (pb 1), tv 2 (.bool false), tv 3 (ki 0), bv 1 (Xf a)] (oT 1 oN) ?_
 refine X6 ?_
 refine Z0 (fun n0 l0 => ∃ (i : Nat), (i ≤ (Lm.digs (Int.natAbs a)).length) ∧ ((Lm.digs (Int.natAbs a)).length - i) = n0 ∧ l0 = [tv 1 (pb 1), tv 2 (.bool false), tv 3 (ki ((i : Nat) : Int)), bv 1 (Xf a)]) (n := ((Lm.digs (Int.natAbs a)).length - 0)) (by kernel_rfl) ⟨0, Nat.zero_le _, rfl, (by kernel_rfl)⟩ ?_
 rintro n0 l0 ⟨i, hi, rfl, rfl⟩
 have hx := Lm.G_get ga i
 refine Xe ?_
 refine rt [tv 1 (pb 1), tv 2 (.bool false), tv 3 (ki ((i : Nat) : Int)), tv 8 (.bool (decide (((i : Nat) : Int) < (((Lm.digs (Int.natAbs a)).length : Nat) : Int)))), bv 1 (Xf a)] (oT 3 (oO (aI trivial (Yx _ : (((Lm.digs (Int.natAbs a)).length : Nat) : Int) = (((uw (Lm.digs (Int.natAbs a))).length : Nat) : Int))) (oO (oB (decide (((i : Nat) : Int) < (((Lm.digs (Int.natAbs a)).length : Nat) : Int)))) (oA [.tup [ki (((Lm.digs (Int.natAbs a)).length : Nat) : Int)], cT (decide (((i : Nat) : Int) < (((Lm.digs (Int.natAbs a)).length : Nat) : Int)))] oN)))) ?_
 refine cB (decide (((i : Nat) : Int) < (((Lm.digs (Int.natAbs a)).length : Nat) : Int))) (fun h1 => ?_) (fun h1 => ?_)
 ·
  have h1' := of_decide_eq_true h1
  refine Xn ?_
  refine Xe ?_
  refine X6 ?_
  refine rt [tv 1 (pb 1), tv 2 (.bool false), tv 3 (ki ((i : Nat) : Int)), tv 16 (.bool (decide (1000000000 ≤ ((Lm.digs (Int.natAbs a)).getD i 0)))), bv 1 (Xf a)] (oT 3 (oO (J0 i (by omega) (Zj (by (try simp only [List.length_set, List.length_append, List.length_cons, List.length_nil, List.length_replicate]); omega)) : (0 : Int) ≤ ((i : Nat) : Int) ∧ (uw (Lm.digs (Int.natAbs a)))[Int.toNat ((i : Nat) : Int)]? = some (kw ((Lm.digs (Int.natAbs a)).getD i 0))) (oT 1 (oO (oB (decide (1000000000 ≤ ((Lm.digs (Int.natAbs a)).getD i 0)))) (oA [kw ((Lm.digs (Int.natAbs a)).getD i 0), cT (decide (1000000000 ≤ ((Lm.digs (Int.natAbs a)).getD i 0)))] oN))))) ?_
  refine cB (decide (1000000000 ≤ ((Lm.digs (Int.natAbs a)).getD i 0))) (fun h2 => ?_) (fun h2 => ?_)
  ·
   have h2' := of_decide_eq_true h2
   refine rt [tv 1 (pb 1), tv 2 (.bool false), tv 3 (ki ((i : Nat) : Int)), bv 1 (Xf a)] (oT 1 oN) ?_
   refine Xg ?_
   exact X7i ((.bool false)) (by exfalso; omega)
  ·
   have h2' := of_decide_eq_false h2
   refine Xn ?_
   refine rh [tv 1 (pb 1), tv 2 (.bool false), tv 3 (ki ((i + 1 : Nat) : Int)), bv 1 (Xf a)] (oT 1 (oO (X3 (x := ((i : Nat) : Int)) (y := 1) (by omega) (by omega)) (oT 1 (oA [ki ((i + 1 : Nat) : Int)] oN)))) ?_
   exact ⟨(Lm.digs (Int.natAbs a)).length - (i + 1), [tv 1 (pb 1), tv 2 (.bool false), tv 3 (ki ((i + 1 : Nat) : Int)), bv 1 (Xf a)], (by omega), rfl, (by kernel_rfl), i + 1, (by omega), rfl, (by kernel_rfl)⟩
 ·
  have h1' := of_decide_eq_false h1
  refine Z3 ?_
  refine Xe ?_
  rcases X7 (!(decide (a < 0))) with h3 | h3
  ·
   have h3' := of_decide_eq_false (Xdt h3)
   refine rh [tv 2 (.bool true)] (oT 2 (oC (Xbn (Lm.digs (Int.natAbs a))) (oO (aI trivial (Yx _ : (((Lm.trim (Lm.digs (Int.natAbs a))).length : Nat) : Int) = (((uw (Lm.trim (Lm.digs (Int.natAbs a)))).length : Nat) : Int))) (oT 2 (oO (aI trivial (Yx _ : (((Lm.digs (Int.natAbs a)).length : Nat) : Int) = (((uw (Lm.digs (Int.natAbs a))).length : Nat) : Int))) (oO (aI trivial (htr : (decide ((((Lm.trim (Lm.digs (Int.natAbs a))).length : Nat) : Int) = (((Lm.digs (Int.natAbs a)).length : Nat) : Int))) = true)) (oT 1 (oO (Xh 1 trivial) (oO (Xh 1 (aI trivial (Xdt h3 : (decide (a < 0)) = false))) (oO (Xh 1 (oB true)) (oO (Xh 1 trivial) (oO (gn [false]) (oO (gn [true]) (oO (gn [true]) (oO (gn [true]) (oO (Xh 1 trivial) (oT 2 (oA [.tup [ki (((Lm.trim (Lm.digs (Int.natAbs a))).length : Nat) : Int)], .tup [ki (((Lm.digs (Int.natAbs a)).length : Nat) : Int)], cT true, .rptr (.bool false), .rptr (.bool true), .tup [ki (((Lm.digs (Int.natAbs a)).length : Nat) : Int)], cT (decide (0 < (((Lm.digs (Int.natAbs a)).length : Nat) : Int)))] oN)))))))))))))))))) ?_
   refine Xg ?_
   exact X7i ((.bool true)) (rfl)
  ·
   have h3' := of_decide_eq_true (Xas h3)
   refine rh [tv 2 (.bool (decide (0 < (((Lm.digs (Int.natAbs a)).length : Nat) : Int))))] (oT 2 (oC (Xbn (Lm.digs (Int.natAbs a))) (oO (aI trivial (Yx _ : (((Lm.trim (Lm.digs (Int.natAbs a))).length : Nat) : Int) = (((uw (Lm.trim (Lm.digs (Int.natAbs a)))).length : Nat) : Int))) (oT 2 (oO (aI trivial (Yx _ : (((Lm.digs (Int.natAbs a)).length : Nat) : Int) = (((uw (Lm.digs (Int.natAbs a))).length : Nat) : Int))) (oO (aI trivial (htr : (decide ((((Lm.trim (Lm.digs (Int.natAbs a))).length : Nat) : Int) = (((Lm.digs (Int.natAbs a)).length : Nat) : Int))) = true)) (oT 1 (oO (Xh 1 trivial) (oO (Xh 1 (aI trivial (Xas h3 : (decide (a < 0)) = true))) (oO (Xh 1 (oB false)) (oO (Xh 1 trivial) (oO (Xh 1 trivial) (oO (Xh 1 trivial) (oO (Xh 1 (aI trivial (Yx _ : (((Lm.digs (Int.natAbs a)).length : Nat) : Int) = (((uw (Lm.digs (Int.natAbs a))).length : Nat) : Int)))) (oO (Xh 1 (oB (decide (0 < (((Lm.digs (Int.natAbs a)).length : Nat) : Int))))) (oO (Xh 2 trivial) (oT 2 (oA [.tup [ki (((Lm.trim (Lm.digs (Int.natAbs a))).length : Nat) : Int)], .tup [ki (((Lm.digs (Int.natAbs a)).length : Nat) : Int)], cT true, .rptr (.bool true), .rptr (.bool false), .tup [ki (((Lm.digs (Int.natAbs a)).length : Nat) : Int)], cT (decide (0 < (((Lm.digs (Int.natAbs a)).length : Nat) : Int)))] oN)))))))))))))))))) ?_
   refine Xg ?_
   exact X7i ((.bool (decide (0 < (((Lm.digs (Int.natAbs a)).length : Nat) : Int))))) (congrArg AV.bool (decide_eq_true (by omega)))
theorem Xd9 (a b : Int) (hb : 0 < b := by omega) (hs : X66 a + X66 b ≤ 274877906944 := by omega) : CS Tryz.prog 214 [Xf a, Xf b] (.tup [Xf (a / b), Xf (a % b), .int .i64 0]) := by
 have hbn : decide (b < 0) = false := decide_eq_false (by omega)
 have hz0 := (Xbi (a := b)).2 (by omega)
 have hzb : decide ((((Lm.digs (Int.natAbs b)).length : Nat) : Int) = 0) = false := decide_eq_false (by rw [Yj]; omega)
 have hlA : X66 ((Int.natAbs a : Nat) : Int) = X66 a := rfl
 have hq1 := Xhl ((Int.natAbs a : Nat) : Int) b
 have hq2 := Xna (a := ((Int.natAbs a : Nat) : Int)) hb
 have hbb : (b.natAbs : Int) = b := by omega
 have vq0 : Lm.V (Lm.digs (Int.natAbs (((Int.natAbs a : Nat) : Int) / b))) = ((Int.natAbs a : Nat) : Int) / b := by
  have := Int.ediv_nonneg (show 0 ≤ ((Int.natAbs a : Nat) : Int) by omega) (Int.le_of_lt hb)
  rw [Kq]; omega
 have vr0 : Lm.V (Lm.digs (Int.natAbs (((Int.natAbs a : Nat) : Int) % b))) = ((Int.natAbs a : Nat) : Int) % b := by
  have := Int.emod_nonneg ((Int.natAbs a : Nat) : Int) (show b ≠ 0 by omega)
  rw [Kq]; omega
 have hrn := Int.emod_nonneg ((Int.natAbs a : Nat) : Int) (show b ≠ 0 by omega)
 refine cO 54 Tryz.func214 ?_
 refine rt [tv 2 (pb 2), tv 3 (pb 3), tv 4 (pb 4), tv 5 (pb 5), tv 6 (ki 0), bv 2 (Xf a), bv 3 (Xf b), bv 4 zI, bv 5 zI] (oT 5 oN) ?_
 refine Xe ?_
 refine rt [tv 2 (pb 2), tv 3 (pb 3), tv 4 (pb 4), tv 5 (pb 5), tv 6 (ki 0), tv 14 (.bool false), bv 2 (Xf a), bv 3 (Xf b), bv 4 zI, bv 5 zI] (oT 2 (oO (aI trivial (Yx _ : (((Lm.digs (Int.natAbs b)).length : Nat) : Int) = (((uw (Lm.digs (Int.natAbs b))).length : Nat) : Int))) (oO (aI trivial (hzb : (decide ((((Lm.digs (Int.natAbs b)).length : Nat) : Int) = 0)) = false)) (oA [.tup [ki (((Lm.digs (Int.natAbs b)).length : Nat) : Int)], cT false] oN)))) ?_
 refine cB (false) (fun h => Bool.noConfusion h) (fun _ => ?_)
 refine Xn ?_
 refine sh 2 [tv 2 (pb 2), tv 3 (pb 3), tv 4 (pb 4), tv 5 (pb 5), tv 6 (ki 0), tv 8 (Xj (Lm.digs (Int.natAbs (((Int.natAbs a : Nat) : Int) % b)))), tv 9 (pb 9), tv 10 (pb 10), bv 2 (Xf a), bv 3 (Xf b), bv 4 zI, bv 5 zI, bv 9 (Xf (Js (!(decide (a < 0) == false)) (Lm.V (Lm.digs (Int.natAbs (((Int.natAbs a : Nat) : Int) / b)))))), bv 10 (Xf (Js (decide (a < 0)) (Lm.V (Lm.digs (Int.natAbs (((Int.natAbs a : Nat) : Int) % b))))))] (oS (oT 4 (oC (Xj4 ((Int.natAbs a : Nat) : Int) b (by omega) hb (by rw [hlA]; omega)) (oT 5 oN))) (oS (oT 1 (oO (oB (decide (a < 0))) (oT 1 (oO (aI trivial (hbn : (decide (b < 0)) = false)) (oO (oB (!(decide (a < 0) == false))) (oT 1 (oO (Xa3 (!(decide (a < 0) == false)) (Lm.digs (Int.natAbs (((Int.natAbs a : Nat) : Int) / b))) (Lm.G_digs _) (by simp only [Yj]; omega) : CS Tryz.prog 188 [.bool (!(decide (a < 0) == false)), Xj (Lm.digs (Int.natAbs (((Int.natAbs a : Nat) : Int) / b)))] (Xf (Js (!(decide (a < 0) == false)) (Lm.V (Lm.digs (Int.natAbs (((Int.natAbs a : Nat) : Int) / b))))))) (oT 1 (oO (oB (decide (a < 0))) (oT 1 (oO (Xa3 (decide (a < 0)) (Lm.digs (Int.natAbs (((Int.natAbs a : Nat) : Int) % b))) (Lm.G_digs _) (by simp only [Yj]; omega) : CS Tryz.prog 188 [.bool (decide (a < 0)), Xj (Lm.digs (Int.natAbs (((Int.natAbs a : Nat) : Int) % b)))] (Xf (Js (decide (a < 0)) (Lm.V (Lm.digs (Int.natAbs (((Int.natAbs a : Nat) : Int) % b))))))) (oT 4 (oA [.rptr (.bool (decide (a < 0))), .rptr (.bool false), cT (!(decide (a < 0) == false)), Xf (Js (!(decide (a < 0) == false)) (Lm.V (Lm.digs (Int.natAbs (((Int.natAbs a : Nat) : Int) / b))))), .rptr (.bool (decide (a < 0))), Xf (Js (decide (a < 0)) (Lm.V (Lm.digs (Int.natAbs (((Int.natAbs a : Nat) : Int) % b)))))] oN))))))))))))) oN)) ?_
 refine Xe ?_
 refine Xe ?_
 rcases X7 (decide (0 < (((Lm.digs (Int.natAbs (((Int.natAbs a : Nat) : Int) % b))).length : Nat) : Int))) with h1 | h1
 ·
  have h1' := of_decide_eq_true h1
  refine rh [tv 3 (pb 3), tv 4 (pb 4), tv 5 (pb 5), tv 6 (ki 0), tv 9 (pb 9), tv 10 (pb 10), tv 45 (.bool (!(decide (a < 0) == false))), bv 3 (Xf b), bv 4 zI, bv 5 zI, bv 9 (Xf (Js (!(decide (a < 0) == false)) (Lm.V (Lm.digs (Int.natAbs (((Int.natAbs a : Nat) : Int) / b)))))), bv 10 (Xf (Js (decide (a < 0)) (Lm.V (Lm.digs (Int.natAbs (((Int.natAbs a : Nat) : Int) % b))))))] (oT 1 (oO (aI trivial (Yx _ : (((Lm.digs (Int.natAbs (((Int.natAbs a : Nat) : Int) % b))).length : Nat) : Int) = (((uw (Lm.digs (Int.natAbs (((Int.natAbs a : Nat) : Int) % b)))).length : Nat) : Int))) (oO (aI trivial (h1 : (decide (0 < (((Lm.digs (Int.natAbs (((Int.natAbs a : Nat) : Int) % b))).length : Nat) : Int))) = true)) (oT 1 (oO (Xh 1 trivial) (oO (Xh 1 (oB (decide (a < 0)))) (oO (Xh 1 trivial) (oO (Xh 1 (aI trivial (hbn : (decide (b < 0)) = false))) (oO (Xh 2 (oB (!(decide (a < 0) == false)))) (oT 1 (oA [.tup [ki (((Lm.digs (Int.natAbs (((Int.natAbs a : Nat) : Int) % b))).length : Nat) : Int)], cT true, .rptr (.bool (decide (a < 0))), .rptr (.bool false), cT (!(decide (a < 0) == false))] oN))))))))))) ?_
  refine cB ((!(decide (a < 0) == false))) (fun h2 => ?_) (fun h2 => ?_)
  ·
   have h2' := of_decide_eq_true (Xys (Xdt h2))
   refine rh [tv 4 (pb 4), tv 5 (pb 5), tv 6 (ki 0), tv 9 (pb 9), tv 10 (pb 10), bv 4 zI, bv 5 zI, bv 9 (Xf (Js (!(decide (a < 0) == false)) (Lm.V (Lm.digs (Int.natAbs (((Int.natAbs a : Nat) : Int) / b)))) - 1)), bv 10 (Xf (Js (decide (a < 0)) (Lm.V (Lm.digs (Int.natAbs (((Int.natAbs a : Nat) : Int) % b)))) + b))] (oT 1 (oC (Xbg 1 (by decide) (by decide)) (oC (Xw5 (Js (!(decide (a < 0) == false)) (Lm.V (Lm.digs (Int.natAbs (((Int.natAbs a : Nat) : Int) / b))))) 1 (by have h1 := Xit (!(decide (a < 0) == false)) (Xa2 (((Int.natAbs a : Nat) : Int) / b)); rw [Yj] at h1; have := Xdq 1 (by decide); omega)) (oT 2 (oC (Xkp (Js (decide (a < 0)) (Lm.V (Lm.digs (Int.natAbs (((Int.natAbs a : Nat) : Int) % b))))) b (by have h1 := Xit (decide (a < 0)) (Xa2 (((Int.natAbs a : Nat) : Int) % b)); rw [Yj] at h1; omega)) (oT 2 oN)))))) ?_
   refine rt [tv 4 (pb 4), tv 5 (pb 5), tv 6 (ki 0), bv 4 (Xf (Js (!(decide (a < 0) == false)) (Lm.V (Lm.digs (Int.natAbs (((Int.natAbs a : Nat) : Int) / b)))) - 1)), bv 5 (Xf (Js (decide (a < 0)) (Lm.V (Lm.digs (Int.natAbs (((Int.natAbs a : Nat) : Int) % b)))) + b))] (oT 5 oN) ?_
   refine Xg ?_
   have hz := Xbi (a := ((Int.natAbs a : Nat) : Int) % b)
   rw [← Yj] at hz
   exact X7i ((.tup [Xf (Js (!(decide (a < 0) == false)) (Lm.V (Lm.digs (Int.natAbs (((Int.natAbs a : Nat) : Int) / b)))) - 1), Xf (Js (decide (a < 0)) (Lm.V (Lm.digs (Int.natAbs (((Int.natAbs a : Nat) : Int) % b)))) + b), ki 0])) (by have hfin := X54 (a := a) hb (vq0.trans (by rw [hbb])) (vr0.trans (by rw [hbb])) (by rw [vr0, decide_eq_true (show a < 0 by omega)]; simp only [Js, cond_true]; omega); rw [hfin.1, hfin.2])
  ·
   have h2' := of_decide_eq_false (Xz5 (Xas h2))
   refine Xn ?_
   refine rt [tv 4 (pb 4), tv 5 (pb 5), tv 6 (ki 0), bv 4 (Xf (Js (!(decide (a < 0) == false)) (Lm.V (Lm.digs (Int.natAbs (((Int.natAbs a : Nat) : Int) / b)))))), bv 5 (Xf (Js (decide (a < 0)) (Lm.V (Lm.digs (Int.natAbs (((Int.natAbs a : Nat) : Int) % b))))))] (oT 5 oN) ?_
   refine Xg ?_
   have hz := Xbi (a := ((Int.natAbs a : Nat) : Int) % b)
   rw [← Yj] at hz
   exact X7i ((.tup [Xf (Js (!(decide (a < 0) == false)) (Lm.V (Lm.digs (Int.natAbs (((Int.natAbs a : Nat) : Int) / b))))), Xf (Js (decide (a < 0)) (Lm.V (Lm.digs (Int.natAbs (((Int.natAbs a : Nat) : Int) % b))))), ki 0])) (by have hfin := X51 (a := a) hb (vq0.trans (by rw [hbb])) (vr0.trans (by rw [hbb])) (by rw [vr0, decide_eq_false (show ¬ a < 0 by omega)]; simp only [Js, cond_false]; omega); rw [hfin.1, hfin.2])
 ·
  have h1' := of_decide_eq_false h1
  refine rh [tv 3 (pb 3), tv 4 (pb 4), tv 5 (pb 5), tv 6 (ki 0), tv 9 (pb 9), tv 10 (pb 10), tv 45 (.bool false), bv 3 (Xf b), bv 4 zI, bv 5 zI, bv 9 (Xf (Js (!(decide (a < 0) == false)) (Lm.V (Lm.digs (Int.natAbs (((Int.natAbs a : Nat) : Int) / b)))))), bv 10 (Xf (Js (decide (a < 0)) (Lm.V (Lm.digs (Int.natAbs (((Int.natAbs a : Nat) : Int) % b))))))] (oT 1 (oO (aI trivial (Yx _ : (((Lm.digs (Int.natAbs (((Int.natAbs a : Nat) : Int) % b))).length : Nat) : Int) = (((uw (Lm.digs (Int.natAbs (((Int.natAbs a : Nat) : Int) % b)))).length : Nat) : Int))) (oO (aI trivial (h1 : (decide (0 < (((Lm.digs (Int.natAbs (((Int.natAbs a : Nat) : Int) % b))).length : Nat) : Int))) = false)) (oT 1 (oO (gn [false]) (oO (gn [true]) (oO (gn [false]) (oO (gn [true]) (oO (gn [true, true]) (oT 1 (oA [.tup [ki (((Lm.digs (Int.natAbs (((Int.natAbs a : Nat) : Int) % b))).length : Nat) : Int)], cT false, .rptr (.bool (decide (a < 0))), .rptr (.bool false), cT (!(decide (a < 0) == false))] oN))))))))))) ?_
  refine cB (false) (fun h => Bool.noConfusion h) (fun _ => ?_)
  refine Xn ?_
  refine rt [tv 4 (pb 4), tv 5 (pb 5), tv 6 (ki 0), bv 4 (Xf (Js (!(decide (a < 0) == false)) (Lm.V (Lm.digs (Int.natAbs (((Int.natAbs a : Nat) : Int) / b)))))), bv 5 (Xf (Js (decide (a < 0)) (Lm.V (Lm.digs (Int.natAbs (((Int.natAbs a : Nat) : Int) % b))))))] (oT 5 oN) ?_
  refine Xg ?_
  have hz := Xbi (a := ((Int.natAbs a : Nat) : Int) % b)
  rw [← Yj] at hz
  exact X7i ((.tup [Xf (Js (!(decide (a < 0) == false)) (Lm.V (Lm.digs (Int.natAbs (((Int.natAbs a : Nat) : Int) / b))))), Xf (Js (decide (a < 0)) (Lm.V (Lm.digs (Int.natAbs (((Int.natAbs a : Nat) : Int) % b))))), ki 0])) (by have hfin := X53 (a := a) hb (vq0.trans (by rw [hbb])) (vr0.trans (by rw [hbb])) (by rw [vr0, show ((Int.natAbs a : Nat) : Int) % b = 0 by omega]; cases decide (a < 0) <;> rfl); rw [hfin.1, hfin.2])
theorem Xm1 (a b : Int) (hs : X66 a + X66 b ≤ 137438953472 := by omega) : CS Tryz.prog 103 [Xf a, Xf b] (Xf (Int.gcd a b : Int)) := by
 refine cO 54 Tryz.func103 ?_
 refine sh 2 [tv 4 (pb 4), tv 5 (Xj (Lm.digs (Int.natAbs a))), tv 6 (Xj (Lm.digs (Int.natAbs b))), bv 4 zI] (oS (oT 3 oN) (oS (oT 6 oN) oN)) ?_
 refine Xhh (fun l0 => ∃ (x : Int) (y : Int), (0 ≤ x ∧ 0 ≤ y ∧ Int.gcd x y = Int.gcd a b ∧ X66 x ≤ X66 a + X66 b ∧ X66 y ≤ X66 a + X66 b ∧ (y = 0 ∨ (X66 x ≤ 2 ∧ X66 y ≤ 2))) ∧ l0 = [tv 4 (pb 4), tv 5 (Xj (Lm.digs (Int.natAbs x))), tv 6 (Xj (Lm.digs (Int.natAbs y))), bv 4 zI]) ?_ ?_
 ·
  refine X6 ?_
  refine Z0 (fun n0 l0 => ∃ (x : Int) (y : Int), (0 ≤ x ∧ 0 ≤ y ∧ Int.gcd x y = Int.gcd a b ∧ X66 x ≤ X66 a + X66 b ∧ X66 y ≤ X66 a + X66 b) ∧ y.toNat = n0 ∧ l0 = [tv 4 (pb 4), tv 5 (Xj (Lm.digs (Int.natAbs x))), tv 6 (Xj (Lm.digs (Int.natAbs y))), bv 4 zI]) (n := ((Int.natAbs b : Nat) : Int).toNat) (by kernel_rfl) ⟨((Int.natAbs a : Nat) : Int), ((Int.natAbs b : Nat) : Int), ⟨by omega, by omega, Xvb a b, by rw [show X66 ((Int.natAbs a : Nat) : Int) = X66 a from rfl]; omega, by rw [show X66 ((Int.natAbs b : Nat) : Int) = X66 b from rfl]; omega⟩, rfl, (by kernel_rfl)⟩ ?_
  rintro n0 l0 ⟨x, y, ⟨hx0, hy0, hg, hsx, hsy⟩, rfl, rfl⟩
  have hly := Yj y
  have hlx := Yj x
  have hzy := Xbi (a := y)
  refine Xe ?_
  refine Xe ?_
  rcases X7 (decide (0 < (((Lm.digs (Int.natAbs y)).length : Nat) : Int))) with h1 | h1
  ·
   have h1' := of_decide_eq_true h1
   rcases X7 (decide (2 < (((Lm.digs (Int.natAbs x)).length : Nat) : Int))) with h2 | h2
   ·
    have h2' := of_decide_eq_true h2
    refine rh [tv 4 (pb 4), tv 5 (Xj (Lm.digs (Int.natAbs x))), tv 6 (Xj (Lm.digs (Int.natAbs y))), tv 27 (.bool true), bv 4 zI] (oT 1 (oO (aI trivial (Yx _ : (((Lm.digs (Int.natAbs y)).length : Nat) : Int) = (((uw (Lm.digs (Int.natAbs y))).length : Nat) : Int))) (oO (aI trivial (h1 : (decide (0 < (((Lm.digs (Int.natAbs y)).length : Nat) : Int))) = true)) (oT 1 (oO (Xh 1 trivial) (oO (Xh 1 (aI trivial (Yx _ : (((Lm.digs (Int.natAbs x)).length : Nat) : Int) = (((uw (Lm.digs (Int.natAbs x))).length : Nat) : Int)))) (oO (Xh 1 (aI trivial (h2 : (decide (2 < (((Lm.digs (Int.natAbs x)).length : Nat) : Int))) = true))) (oO (Xh 1 trivial) (oO (gn [false]) (oO (gn [true]) (oO (gn [true]) (oO (Xh 1 trivial) (oT 1 (oA [.tup [ki (((Lm.digs (Int.natAbs y)).length : Nat) : Int)], cT true, .tup [ki (((Lm.digs (Int.natAbs x)).length : Nat) : Int)], cT true, .tup [ki (((Lm.digs (Int.natAbs y)).length : Nat) : Int)], cT (decide (2 < (((Lm.digs (Int.natAbs y)).length : Nat) : Int)))] oN)))))))))))))) ?_
    refine cB (true) (fun _ => ?_) (fun h => Bool.noConfusion h)
    refine Xn ?_
    refine X6 ?_
    refine rt [tv 4 (pb 4), tv 5 (Xj (Lm.digs (Int.natAbs x))), tv 6 (Xj (Lm.digs (Int.natAbs y))), tv 8 (Xj (Lm.digs (Int.natAbs (x % y)))), bv 4 zI] (oT 2 (oC (Xj4 x y hx0) (oT 5 oN))) ?_
    refine rh [tv 4 (pb 4), tv 5 (Xj (Lm.digs (Int.natAbs y))), tv 6 (Xj (Lm.digs (Int.natAbs (x % y)))), bv 4 zI] (oT 4 oN) ?_
    have hrl := Int.emod_lt_of_pos x (show 0 < y by omega)
    have hrn := Int.emod_nonneg x (show y ≠ 0 by omega)
    have hrm := Xna (a := x) (show 0 < y by omega)
    exact ⟨(x % y).toNat, [tv 4 (pb 4), tv 5 (Xj (Lm.digs (Int.natAbs y))), tv 6 (Xj (Lm.digs (Int.natAbs (x % y)))), bv 4 zI], (by omega), rfl, (by kernel_rfl), y, x % y, ⟨hy0, hrn, by rw [Xiy hx0 (by omega)]; exact hg, hsy, by omega⟩, rfl, (by kernel_rfl)⟩
   ·
    have h2' := of_decide_eq_false h2
    refine rh [tv 4 (pb 4), tv 5 (Xj (Lm.digs (Int.natAbs x))), tv 6 (Xj (Lm.digs (Int.natAbs y))), tv 27 (.bool (decide (2 < (((Lm.digs (Int.natAbs y)).length : Nat) : Int)))), bv 4 zI] (oT 1 (oO (aI trivial (Yx _ : (((Lm.digs (Int.natAbs y)).length : Nat) : Int) = (((uw (Lm.digs (Int.natAbs y))).length : Nat) : Int))) (oO (aI trivial (h1 : (decide (0 < (((Lm.digs (Int.natAbs y)).length : Nat) : Int))) = true)) (oT 1 (oO (Xh 1 trivial) (oO (Xh 1 (aI trivial (Yx _ : (((Lm.digs (Int.natAbs x)).length : Nat) : Int) = (((uw (Lm.digs (Int.natAbs x))).length : Nat) : Int)))) (oO (Xh 1 (aI trivial (h2 : (decide (2 < (((Lm.digs (Int.natAbs x)).length : Nat) : Int))) = false))) (oO (Xh 1 trivial) (oO (Xh 1 trivial) (oO (Xh 1 (aI trivial (Yx _ : (((Lm.digs (Int.natAbs y)).length : Nat) : Int) = (((uw (Lm.digs (Int.natAbs y))).length : Nat) : Int)))) (oO (Xh 1 (oB (decide (2 < (((Lm.digs (Int.natAbs y)).length : Nat) : Int))))) (oO (Xh 2 trivial) (oT 1 (oA [.tup [ki (((Lm.digs (Int.natAbs y)).length : Nat) : Int)], cT true, .tup [ki (((Lm.digs (Int.natAbs x)).length : Nat) : Int)], cT false, .tup [ki (((Lm.digs (Int.natAbs y)).length : Nat) : Int)], cT (decide (2 < (((Lm.digs (Int.natAbs y)).length : Nat) : Int)))] oN)))))))))))))) ?_
    refine cB (decide (2 < (((Lm.digs (Int.natAbs y)).length : Nat) : Int))) (fun h3 => ?_) (fun h3 => ?_)
    ·
     have h3' := of_decide_eq_true h3
     refine Xn ?_
     refine X6 ?_
     refine rt [tv 4 (pb 4), tv 5 (Xj (Lm.digs (Int.natAbs x))), tv 6 (Xj (Lm.digs (Int.natAbs y))), tv 8 (Xj (Lm.digs (Int.natAbs (x % y)))), bv 4 zI] (oT 2 (oC (Xj4 x y hx0) (oT 5 oN))) ?_
     refine rh [tv 4 (pb 4), tv 5 (Xj (Lm.digs (Int.natAbs y))), tv 6 (Xj (Lm.digs (Int.natAbs (x % y)))), bv 4 zI] (oT 4 oN) ?_
     have hrl := Int.emod_lt_of_pos x (show 0 < y by omega)
     have hrn := Int.emod_nonneg x (show y ≠ 0 by omega)
     have hrm := Xna (a := x) (show 0 < y by omega)
     exact ⟨(x % y).toNat, [tv 4 (pb 4), tv 5 (Xj (Lm.digs (Int.natAbs y))), tv 6 (Xj (Lm.digs (Int.natAbs (x % y)))), bv 4 zI], (by omega), rfl, (by kernel_rfl), y, x % y, ⟨hy0, hrn, by rw [Xiy hx0 (by omega)]; exact hg, hsy, by omega⟩, rfl, (by kernel_rfl)⟩
    ·
     have h3' := of_decide_eq_false h3
     refine Xcz (live := [tv 4 (pb 4), tv 5 (Xj (Lm.digs (Int.natAbs x))), tv 6 (Xj (Lm.digs (Int.natAbs y))), bv 4 zI]) (by kernel_rfl) (by kernel_rfl) ?_
     refine Z3 ?_
     exact ⟨_, rfl, x, y, ⟨hx0, hy0, hg, hsx, hsy, by omega⟩, (by kernel_rfl)⟩
  ·
   have h1' := of_decide_eq_false h1
   rcases X7 (decide (2 < (((Lm.digs (Int.natAbs x)).length : Nat) : Int))) with h4 | h4
   ·
    have h4' := of_decide_eq_true h4
    refine rh [tv 4 (pb 4), tv 5 (Xj (Lm.digs (Int.natAbs x))), tv 6 (Xj (Lm.digs (Int.natAbs y))), tv 27 (.bool false), bv 4 zI] (oT 1 (oO (aI trivial (Yx _ : (((Lm.digs (Int.natAbs y)).length : Nat) : Int) = (((uw (Lm.digs (Int.natAbs y))).length : Nat) : Int))) (oO (aI trivial (h1 : (decide (0 < (((Lm.digs (Int.natAbs y)).length : Nat) : Int))) = false)) (oT 1 (oO (gn [false]) (oO (gn [true]) (oO (gn [true]) (oO (gn [true]) (oO (gn [false]) (oO (gn [true]) (oO (gn [true]) (oO (gn [true, true]) (oT 1 (oA [.tup [ki (((Lm.digs (Int.natAbs y)).length : Nat) : Int)], cT false, .tup [ki (((Lm.digs (Int.natAbs x)).length : Nat) : Int)], cT true, .tup [ki (((Lm.digs (Int.natAbs y)).length : Nat) : Int)], cT (decide (2 < (((Lm.digs (Int.natAbs y)).length : Nat) : Int)))] oN)))))))))))))) ?_
    refine cB (false) (fun h => Bool.noConfusion h) (fun _ => ?_)
    refine Xcz (live := [tv 4 (pb 4), tv 5 (Xj (Lm.digs (Int.natAbs x))), tv 6 (Xj (Lm.digs (Int.natAbs y))), bv 4 zI]) (by kernel_rfl) (by kernel_rfl) ?_
    refine Z3 ?_
    exact ⟨_, rfl, x, y, ⟨hx0, hy0, hg, hsx, hsy, by omega⟩, (by kernel_rfl)⟩
   ·
    have h4' := of_decide_eq_false h4
    refine rh [tv 4 (pb 4), tv 5 (Xj (Lm.digs (Int.natAbs x))), tv 6 (Xj (Lm.digs (Int.natAbs y))), tv 27 (.bool false), bv 4 zI] (oT 1 (oO (aI trivial (Yx _ : (((Lm.digs (Int.natAbs y)).length : Nat) : Int) = (((uw (Lm.digs (Int.natAbs y))).length : Nat) : Int))) (oO (aI trivial (h1 : (decide (0 < (((Lm.digs (Int.natAbs y)).length : Nat) : Int))) = false)) (oT 1 (oO (gn [false]) (oO (gn [true]) (oO (gn [true]) (oO (gn [true]) (oO (gn [false]) (oO (gn [true]) (oO (gn [true]) (oO (gn [true, true]) (oT 1 (oA [.tup [ki (((Lm.digs (Int.natAbs y)).length : Nat) : Int)], cT false, .tup [ki (((Lm.digs (Int.natAbs x)).length : Nat) : Int)], cT false, .tup [ki (((Lm.digs (Int.natAbs y)).length : Nat) : Int)], cT (decide (2 < (((Lm.digs (Int.natAbs y)).length : Nat) : Int)))] oN)))))))))))))) ?_
    refine cB (false) (fun h => Bool.noConfusion h) (fun _ => ?_)
    refine Xcz (live := [tv 4 (pb 4), tv 5 (Xj (Lm.digs (Int.natAbs x))), tv 6 (Xj (Lm.digs (Int.natAbs y))), bv 4 zI]) (by kernel_rfl) (by kernel_rfl) ?_
    refine Z3 ?_
    exact ⟨_, rfl, x, y, ⟨hx0, hy0, hg, hsx, hsy, by omega⟩, (by kernel_rfl)⟩
 rintro l0 ⟨x, y, ⟨hx0, hy0, hg, hsx, hsy, hsm⟩, rfl⟩
 have hly := Yj y
 have hlx := Yj x
 have hzy := Xbi (a := y)
 have hvx := Kq x
 have hvy := Kq y
 refine Xe ?_
 refine rt [tv 4 (pb 4), tv 5 (Xj (Lm.digs (Int.natAbs x))), tv 6 (Xj (Lm.digs (Int.natAbs y))), tv 38 (.bool (decide ((((Lm.digs (Int.natAbs y)).length : Nat) : Int) = 0))), bv 4 zI] (oT 1 (oO (aI trivial (Yx _ : (((Lm.digs (Int.natAbs y)).length : Nat) : Int) = (((uw (Lm.digs (Int.natAbs y))).length : Nat) : Int))) (oO (oB (decide ((((Lm.digs (Int.natAbs y)).length : Nat) : Int) = 0))) (oA [.tup [ki (((Lm.digs (Int.natAbs y)).length : Nat) : Int)], cT (decide ((((Lm.digs (Int.natAbs y)).length : Nat) : Int) = 0))] oN)))) ?_
 refine cB (decide ((((Lm.digs (Int.natAbs y)).length : Nat) : Int) = 0)) (fun h5 => ?_) (fun h5 => ?_)
 ·
  have h5' := of_decide_eq_true h5
  refine rt [tv 4 (pb 4), tv 5 (Xj (Lm.digs (Int.natAbs x))), tv 6 (Xj (Lm.digs (Int.natAbs y))), bv 4 (Xf (Js false (Lm.V (Lm.digs (Int.natAbs x)))))] (oT 1 (oO (Xa3 false (Lm.digs (Int.natAbs x)) (Lm.G_digs _) (by simp only [Yj]; omega) : CS Tryz.prog 188 [.bool false, Xj (Lm.digs (Int.natAbs x))] (Xf (Js false (Lm.V (Lm.digs (Int.natAbs x)))))) (oT 1 (oA [Xf (Js false (Lm.V (Lm.digs (Int.natAbs x))))] oN)))) ?_
  refine Xg ?_
  have hy : y = 0 := by omega
  subst hy
  exact X7i ((Xf (Js false (Lm.V (Lm.digs (Int.natAbs x)))))) (congrArg Xf (by rw [← hg, Kq, Int.gcd_zero_right]; rfl))
 ·
  have h5' := of_decide_eq_false h5
  refine Xn ?_
  refine Xe ?_
  have hwx := Xh3 (a := x) (m := 2) (by omega)
  have hwy := Xh3 (a := y) (m := 2) (by omega)
  rw [X04] at hwx hwy
  refine rh [tv 4 (pb 4), tv 9 (ku x), tv 10 (ku y), bv 4 zI] (oT 1 (oO (Jl (Xe3 _ (Xa2 x) (by omega) (by omega)) (by rw [hvx]; congr 1; omega) : CS Tryz.prog 189 [Xj (Lm.digs (Int.natAbs x))] (ku x)) (oT 1 (oO (Jl (Xe3 _ (Xa2 y) (by omega) (by omega)) (by rw [hvy]; congr 1; omega) : CS Tryz.prog 189 [Xj (Lm.digs (Int.natAbs y))] (ku y)) (oT 2 (oA [ku x, ku y] oN)))))) ?_
  refine Xe ?_
  refine X6 ?_
  refine Z0 (fun n0 l0 => ∃ (u : Int) (v : Int), (0 ≤ u ∧ u < 1000000000000000000 ∧ 0 ≤ v ∧ v < 1000000000000000000 ∧ Int.gcd u v = Int.gcd a b) ∧ v.toNat = n0 ∧ l0 = [tv 4 (pb 4), tv 9 (ku u), tv 10 (ku v), bv 4 zI]) (n := y.toNat) (by kernel_rfl) ⟨x, y, ⟨by omega, by omega, by omega, by omega, hg⟩, rfl, (by kernel_rfl)⟩ ?_
  rintro n0 l0 ⟨u, v, ⟨hu0, hu1, hv0, hv1, hgu⟩, rfl, rfl⟩
  refine Xe ?_
  refine rt [tv 4 (pb 4), tv 9 (ku u), tv 10 (ku v), tv 46 (.bool (decide (0 < v))), bv 4 zI] (oT 1 (oO (oB (decide (0 < v))) (oA [cT (decide (0 < v))] oN))) ?_
  refine cB (decide (0 < v)) (fun h6 => ?_) (fun h6 => ?_)
  ·
   have h6' := of_decide_eq_true h6
   refine Xn ?_
   refine X6 ?_
   refine rh [tv 4 (pb 4), tv 9 (ku v), tv 10 (ku (u % v)), bv 4 zI] (oT 3 (oO (Xa0 (x := u) (y := v) (by omega) (by omega) trivial) (oT 2 (oA [ku (u % v)] oN)))) ?_
   have hrl := Int.emod_lt_of_pos u (show 0 < v by omega)
   have hrn := Int.emod_nonneg u (show v ≠ 0 by omega)
   exact ⟨(u % v).toNat, [tv 4 (pb 4), tv 9 (ku v), tv 10 (ku (u % v)), bv 4 zI], (by omega), rfl, (by kernel_rfl), v, u % v, ⟨hv0, hv1, hrn, by omega, by rw [Xiy hu0 (by omega)]; exact hgu⟩, rfl, (by kernel_rfl)⟩
  ·
   have h6' := of_decide_eq_false h6
   refine Z3 ?_
   refine Xe ?_
   have hlu := Yj u
   have hzu := Xfi (n := u) (by omega) (by omega)
   refine rh [tv 4 (pb 4), bv 4 (Xf (Js false (Lm.V (Lm.digs (Int.natAbs u)))))] (oT 1 (oC (Xd0 u) (oO (Xa3 false (Lm.digs (Int.natAbs u)) (Lm.G_digs _) (by simp only [Yj]; omega) : CS Tryz.prog 188 [.bool false, Xj (Lm.digs (Int.natAbs u))] (Xf (Js false (Lm.V (Lm.digs (Int.natAbs u)))))) (oT 1 (oA [Xf (Js false (Lm.V (Lm.digs (Int.natAbs u))))] oN))))) ?_
   refine Xg ?_
   have hv : v = 0 := by omega
   subst hv
   exact X7i ((Xf (Js false (Lm.V (Lm.digs (Int.natAbs u)))))) (congrArg Xf (by rw [← hgu, Kq, Int.gcd_zero_right]; rfl))
theorem Xpt (a : Int) (hs : X66 a ≤ 34359738368 := by omega) : CS Tryz.prog 256 [Xf a] (.tup [Xf (Y1 a), ki (bif (decide (a < 0)) then 7 else 0)]) := by
 have hz := Xbi (a := a)
 have hla := Yj a
 obtain ⟨k, hk⟩ : ∃ k, k = (X66 a + 1) / 2 := ⟨_, rfl⟩
 refine cO 52 Tryz.func256 ?_
 refine rt [tv 1 (pb 1), tv 2 (pb 2), tv 3 (ki 0), bv 1 (Xf a), bv 2 zI] (oT 3 oN) ?_
 refine Xe ?_
 refine rt [tv 1 (pb 1), tv 2 (pb 2), tv 3 (ki 0), tv 13 (.bool (decide (a < 0))), bv 1 (Xf a), bv 2 zI] (oT 1 (oO (oB (decide (a < 0))) (oA [.rptr (.bool (decide (a < 0)))] oN))) ?_
 refine cB (decide (a < 0)) (fun h1 => ?_) (fun h1 => ?_)
 ·
  have h1' := of_decide_eq_true h1
  refine rt [tv 1 (pb 1), tv 2 (pb 2), tv 3 (ki 7), bv 1 (Xf a), bv 2 zI] (oT 3 oN) ?_
  refine Xg ?_
  exact X7i ((.tup [zI, ki 7])) (by rw [Xmk (show a < 0 by omega), decide_eq_true (show a < 0 by omega), Xi2]; rfl)
 ·
  have h1' := of_decide_eq_false h1
  refine Xn ?_
  refine Xe ?_
  refine rt [tv 1 (pb 1), tv 2 (pb 2), tv 3 (ki 0), tv 18 (.bool (decide ((((Lm.digs (Int.natAbs a)).length : Nat) : Int) = 0))), bv 1 (Xf a), bv 2 zI] (oT 2 (oO (aI trivial (Yx _ : (((Lm.digs (Int.natAbs a)).length : Nat) : Int) = (((uw (Lm.digs (Int.natAbs a))).length : Nat) : Int))) (oO (oB (decide ((((Lm.digs (Int.natAbs a)).length : Nat) : Int) = 0))) (oA [.tup [ki (((Lm.digs (Int.natAbs a)).length : Nat) : Int)], cT (decide ((((Lm.digs (Int.natAbs a)).length : Nat) : Int) = 0))] oN)))) ?_
  refine cB (decide ((((Lm.digs (Int.natAbs a)).length : Nat) : Int) = 0)) (fun h2 => ?_) (fun h2 => ?_)
  ·
   have h2' := of_decide_eq_true h2
   refine rt [tv 1 (pb 1), tv 2 (pb 2), tv 3 (ki 0), bv 1 (Xf a), bv 2 zI] (oT 3 oN) ?_
   refine Xg ?_
   exact X7i ((.tup [zI, ki 0])) (by rw [show a = 0 by omega, show Y1 0 = 0 from by decide, Xi2]; rfl)
  ·
   have h2' := of_decide_eq_false h2
   refine Xn ?_
   refine sh 2 [tv 1 (pb 1), tv 2 (pb 2), tv 3 (ki 0), tv 4 (pb 4), tv 5 (pb 5), bv 1 (Xf a), bv 2 zI, bv 4 (.st [.bool false, Xj (List.replicate k 0 ++ [1])]), bv 5 (Xf 2)] (oS (oT 2 (oO (aI trivial (Yx _ : (((Lm.digs (Int.natAbs a)).length : Nat) : Int) = (((uw (Lm.digs (Int.natAbs a))).length : Nat) : Int))) (oO (X3 (x := (((Lm.digs (Int.natAbs a)).length : Nat) : Int)) (y := 1) (by omega) (by omega)) (oO (Xax (Xp4 (by omega) (by omega) (by omega)) (by omega) : Jx .quo .i64 (((Lm.digs (Int.natAbs a)).length + 1 : Nat) : Int) 2 = some ((k : Nat) : Int) ∧ ((BinOp.quo = .quo ∨ BinOp.quo = .rem) → 2 ≠ (0 : Int))) (oO (aI (show (0 : Int) ≤ ((k : Nat) : Int) ∧ (((k : Nat) : Int) : Int) ≤ ((k : Nat) : Int) ∧ 4 * Int.toNat ((k : Nat) : Int) ≤ 281474976710656 by omega) (Xic k (by omega) : (uw (List.replicate k 0)) = List.replicate (Int.toNat ((k : Nat) : Int)) (kw 0))) (oT 1 (oO (aI (show ((uw (List.replicate k 0)).length + (uw ([1])).length) * 4 ≤ 35184372088832 by simp only [J1]; (try simp only [List.length_set, List.length_append, List.length_cons, List.length_nil, List.length_replicate]); omega) (Xcb _ _ : (uw (List.replicate k 0 ++ [1])) = uw (List.replicate k 0) ++ uw ([1]))) (oT 3 oN)))))))) (oS (oA [.tup [ki (((Lm.digs (Int.natAbs a)).length : Nat) : Int)], ki (((Lm.digs (Int.natAbs a)).length + 1 : Nat) : Int), ki ((k : Nat) : Int), .tup [.sl 1 (uw (List.replicate k 0))], .tup [.sl 1 (uw (List.replicate k 0 ++ [1]))]] (oC (Xbg 2 (by decide) (by decide)) (oT 2 oN))) oN)) ?_
   refine X6 ?_
   have hE : (.st [.bool false, Xj (List.replicate k 0 ++ [1])]) = (Xf (Lm.V (List.replicate k 0 ++ [1]))) := Xoo (Lm.G_append.2 ⟨Lm.G_zeros _, Lm.G_cons.2 ⟨by omega, Lm.G_nil⟩⟩) (Lm.trim_last (by omega) _).symm
   refine Xlh [tv 1 (pb 1), tv 2 (pb 2), tv 3 (ki 0), tv 4 (pb 4), tv 5 (pb 5), bv 1 (Xf a), bv 2 zI, bv 4 (.st [.bool false, Xj (List.replicate k 0 ++ [1])]), bv 5 (Xf 2)] [tv 1 (pb 1), tv 2 (pb 2), tv 3 (ki 0), tv 4 (pb 4), tv 5 (pb 5), bv 1 (Xf a), bv 2 zI, bv 4 (Xf (Lm.V (List.replicate k 0 ++ [1]))), bv 5 (Xf 2)] (by rw [hE]) ?_
   have hap : 0 < a := by omega
   refine Z0 (fun n0 l0 => ∃ (x : Int), (0 < x ∧ a < (x + 1) * (x + 1) ∧ X66 x ≤ X66 a + 1) ∧ x.toNat = n0 ∧ l0 = [tv 1 (pb 1), tv 2 (pb 2), tv 3 (ki 0), tv 4 (pb 4), tv 5 (pb 5), bv 1 (Xf a), bv 2 zI, bv 4 (Xf x), bv 5 (Xf 2)]) (n := (Lm.V (List.replicate k 0 ++ [1])).toNat) (by kernel_rfl) ⟨Lm.V (List.replicate k 0 ++ [1]), Xst hap hk, rfl, (by kernel_rfl)⟩ ?_
   rintro n0 l0 ⟨x, ⟨hx0, hx1, hx2⟩, rfl, rfl⟩
   obtain ⟨n1, n2, n3, n4⟩ := X12 (a := a) hx0 hap rfl rfl
   have hq1 := Xhl a x
   have hq2 := Xfc x (a / x)
   have hq3 := Xhl (x + a / x) 2
   have hl2 := Xdq 2 (by decide)
   refine X6 ?_
   refine sh 2 [tv 1 (pb 1), tv 2 (pb 2), tv 3 (ki 0), tv 4 (pb 4), tv 5 (pb 5), tv 9 (pb 9), bv 1 (Xf a), bv 2 zI, bv 4 (Xf x), bv 5 (Xf 2), bv 9 (Xf ((x + (a / x)) / 2))] (oS (oT 2 (oC (Xd9 a x) (oT 9 oN))) (oS (oT 2 (oC (Xkp x (a / x)) (oT 1 (oC (Xd9 (x + (a / x)) 2) (oT 9 oN))))) oN)) ?_
   refine Xe ?_
   refine rt [tv 1 (pb 1), tv 2 (pb 2), tv 3 (ki 0), tv 4 (pb 4), tv 5 (pb 5), tv 9 (pb 9), tv 49 (.bool (decide (0 ≤ Int.sign (((x + (a / x)) / 2) - x)))), bv 1 (Xf a), bv 2 zI, bv 4 (Xf x), bv 5 (Xf 2), bv 9 (Xf ((x + (a / x)) / 2))] (oT 2 (oC (Xqy ((x + (a / x)) / 2) x) (oO (oB (decide (0 ≤ Int.sign (((x + (a / x)) / 2) - x)))) (oA [cT (decide (0 ≤ Int.sign (((x + (a / x)) / 2) - x)))] oN)))) ?_
   refine cB (decide (0 ≤ Int.sign (((x + (a / x)) / 2) - x))) (fun h3 => ?_) (fun h3 => ?_)
   ·
    have h3' := of_decide_eq_true h3
    refine rt [tv 1 (pb 1), tv 2 (pb 2), tv 3 (ki 0), tv 4 (pb 4), tv 5 (pb 5), tv 9 (pb 9), bv 1 (Xf a), bv 2 (Xf x), bv 4 (Xf x), bv 5 (Xf 2), bv 9 (Xf ((x + (a / x)) / 2))] (oT 3 oN) ?_
    refine Xg ?_
    have hxn := Xni.1 (show 0 ≤ Int.sign ((x + a / x) / 2 - x) by assumption)
    exact X7i ((.tup [Xf x, ki 0])) (by rw [← Xih (by omega) (n2 (by omega)) hx1, decide_eq_false (show ¬ a < 0 by omega)]; rfl)
   ·
    have h3' := of_decide_eq_false h3
    refine Xn ?_
    refine rh [tv 1 (pb 1), tv 2 (pb 2), tv 3 (ki 0), tv 4 (pb 4), tv 5 (pb 5), bv 1 (Xf a), bv 2 zI, bv 4 (Xf ((x + (a / x)) / 2)), bv 5 (Xf 2)] (oT 2 oN) ?_
    have hxn : ¬ x ≤ (x + a / x) / 2 := fun hc => absurd (Xni.2 (show 0 ≤ (x + a / x) / 2 - x by omega)) (by assumption)
    have hnb := Xdn (a := (x + a / x) / 2) (b := x) (by have := n3 hxn; omega)
    exact ⟨((x + (a / x)) / 2).toNat, [tv 1 (pb 1), tv 2 (pb 2), tv 3 (ki 0), tv 4 (pb 4), tv 5 (pb 5), bv 1 (Xf a), bv 2 zI, bv 4 (Xf ((x + (a / x)) / 2)), bv 5 (Xf 2)], (by omega), rfl, (by kernel_rfl), (x + (a / x)) / 2, ⟨n3 hxn, n1, by omega⟩, rfl, (by kernel_rfl)⟩
open Go Go.RowKit
theorem Xgd  : CS Tryz.prog 225 [] (Xf 1) := by
 refine cO 2 Tryz.func225 ?_
 refine sh 2 [tv 0 (pb 0), bv 0 (Xf 1)] (oS (oT 1 oN) (oS (oC (Jz 1 (by decide) (by decide)) (oT 1 oN)) oN)) ?_
 refine Xg ?_
 exact X7i ((Xf 1)) (rfl)
theorem Xm8 (n : Int) : CS Tryz.prog 159 [Xf n] (Xc (n : Rat)) := by
 refine cO 6 Tryz.func159 ?_
 refine sh 2 [tv 2 (pb 2), bv 2 (.st [Xf n, Xf (1 : Int)])] (oS (oT 2 oN) (oS (oT 1 (oC Xgd (oT 2 oN))) oN)) ?_
 refine Xg ?_
 exact X7i ((.st [Xf n, Xf (1 : Int)])) (Xp6 n)
theorem Xd7 (a b : Int) (hb : 0 < b := by omega) (hs : X66 a + X66 b ≤ 274877906944 := by omega) : CS Tryz.prog 262 [Xf a, Xf b] (Xf (a / b)) := by
 refine cO 16 Tryz.func262 ?_
 refine sh 3 [tv 4 (pb 4), bv 4 (Xf (a / b))] (oS (oT 3 oN) (oS (oT 2 (oC (Xd8 a b hb) (oT 9 oN))) (oS (oT 2 oN) oN))) ?_
 refine Xg ?_
 exact X7i ((Xf (a / b))) (rfl)
theorem Xds (n d : Int) (hd : d ≠ 0 := by omega) (hs : X66 n + X66 d ≤ 68719476736 := by omega) : CS Tryz.prog 221 [Xf n, Xf d] (Xc (Rat.divInt n d)) := by
 refine cO 29 Tryz.func221 ?_
 refine rt [tv 2 (pb 2), tv 3 (pb 3), tv 4 (pb 4), bv 2 (Xf n), bv 3 (Xf d), bv 4 zQ] (oT 3 oN) ?_
 refine Xe ?_
 refine rt [tv 2 (pb 2), tv 3 (pb 3), tv 4 (pb 4), tv 8 (.bool (decide (Int.sign d < 0))), bv 2 (Xf n), bv 3 (Xf d), bv 4 zQ] (oT 1 (oC (Xjs d) (oO (oB (decide (Int.sign d < 0))) (oA [cT (decide (Int.sign d < 0))] oN)))) ?_
 refine cB (decide (Int.sign d < 0)) (fun h1 => ?_) (fun h1 => ?_)
 ·
  have h1' := of_decide_eq_true h1
  refine rh [tv 2 (pb 2), tv 3 (pb 3), tv 4 (pb 4), bv 2 (Xf (-n)), bv 3 (Xf (-d)), bv 4 zQ] (oT 1 (oC (Xf3 n) (oT 1 (oC (Xf3 d) (oT 2 oN))))) ?_
  refine Xe ?_
  have hdp : 0 < (-d) := by
   have := Xho (x := d); omega
  have hg := Xpv (-n) (-d)
  have h1 := Xdq 1 (by decide)
  have hn1 := Xff n
  have hd1 := Xff d
  refine sh 2 [tv 2 (pb 2), tv 3 (pb 3), tv 4 (pb 4), tv 5 (pb 5), tv 19 (.bool (!(decide (Int.sign ((Int.gcd (-n) (-d) : Int) - (1 : Int)) = 0)))), bv 2 (Xf (-n)), bv 3 (Xf (-d)), bv 4 zQ, bv 5 (Xf (Int.gcd (-n) (-d) : Int))] (oS (oT 2 (oC (Xla (-n) (-d)) (oT 2 oN))) (oS (oT 1 (oC Xgd (oC (Ky (Int.gcd (-n) (-d) : Int) (1 : Int)) (oO (oB (!(decide (Int.sign ((Int.gcd (-n) (-d) : Int) - (1 : Int)) = 0)))) (oA [cT (!(decide (Int.sign ((Int.gcd (-n) (-d) : Int) - (1 : Int)) = 0)))] oN))))) oN)) ?_
  refine cB ((!(decide (Int.sign ((Int.gcd (-n) (-d) : Int) - (1 : Int)) = 0)))) (fun h2 => ?_) (fun h2 => ?_)
  ·
   have h2' := of_decide_eq_false (Xdt h2)
   refine rh [tv 2 (pb 2), tv 3 (pb 3), tv 4 (pb 4), bv 2 (Xf ((-n) / (Int.gcd (-n) (-d) : Int))), bv 3 (Xf ((-d) / (Int.gcd (-n) (-d) : Int))), bv 4 zQ] (oT 2 (oC (Xd7 (-n) (Int.gcd (-n) (-d) : Int) (Xd4 (by omega))) (oT 2 (oC (Xd7 (-d) (Int.gcd (-n) (-d) : Int) (Xd4 (by omega))) (oT 2 oN))))) ?_
   refine rt [tv 4 (pb 4), bv 4 (.st [Xf ((-n) / (Int.gcd (-n) (-d) : Int)), Xf ((-d) / (Int.gcd (-n) (-d) : Int))])] (oT 4 oN) ?_
   refine Xg ?_
   exact X7i ((.st [Xf ((-n) / (Int.gcd (-n) (-d) : Int)), Xf ((-d) / (Int.gcd (-n) (-d) : Int))])) ((Xo3 (n := (-n)) (d := (-d)) hdp).trans (Xsm n d))
  ·
   have h2' := of_decide_eq_true (Xas h2)
   refine Xn ?_
   refine rt [tv 4 (pb 4), bv 4 (.st [Xf (-n), Xf (-d)])] (oT 4 oN) ?_
   refine Xg ?_
   exact X7i ((.st [Xf (-n), Xf (-d)])) ((Xrz (n := (-n)) (d := (-d)) hdp (by have hz := sign_zero (x := (Int.gcd (-n) (-d) : Int) - 1); omega)).trans (Xsm n d))
 ·
  have h1' := of_decide_eq_false h1
  refine Xn ?_
  refine Xe ?_
  have hdp : 0 < d := by
   have := Xho (x := d); omega
  have hg := Xpv n d
  have h1 := Xdq 1 (by decide)
  have hn1 := Xff n
  have hd1 := Xff d
  refine sh 2 [tv 2 (pb 2), tv 3 (pb 3), tv 4 (pb 4), tv 5 (pb 5), tv 19 (.bool (!(decide (Int.sign ((Int.gcd n d : Int) - (1 : Int)) = 0)))), bv 2 (Xf n), bv 3 (Xf d), bv 4 zQ, bv 5 (Xf (Int.gcd n d : Int))] (oS (oT 2 (oC (Xla n d) (oT 2 oN))) (oS (oT 1 (oC Xgd (oC (Ky (Int.gcd n d : Int) (1 : Int)) (oO (oB (!(decide (Int.sign ((Int.gcd n d : Int) - (1 : Int)) = 0)))) (oA [cT (!(decide (Int.sign ((Int.gcd n d : Int) - (1 : Int)) = 0)))] oN))))) oN)) ?_
  refine cB ((!(decide (Int.sign ((Int.gcd n d : Int) - (1 : Int)) = 0)))) (fun h3 => ?_) (fun h3 => ?_)
  ·
   have h3' := of_decide_eq_false (Xdt h3)
   refine rh [tv 2 (pb 2), tv 3 (pb 3), tv 4 (pb 4), bv 2 (Xf (n / (Int.gcd n d : Int))), bv 3 (Xf (d / (Int.gcd n d : Int))), bv 4 zQ] (oT 2 (oC (Xd7 n (Int.gcd n d : Int) (Xd4 (by omega))) (oT 2 (oC (Xd7 d (Int.gcd n d : Int) (Xd4 (by omega))) (oT 2 oN))))) ?_
   refine rt [tv 4 (pb 4), bv 4 (.st [Xf (n / (Int.gcd n d : Int)), Xf (d / (Int.gcd n d : Int))])] (oT 4 oN) ?_
   refine Xg ?_
   exact X7i ((.st [Xf (n / (Int.gcd n d : Int)), Xf (d / (Int.gcd n d : Int))])) (Xo3 (n := n) (d := d) hdp)
  ·
   have h3' := of_decide_eq_true (Xas h3)
   refine Xn ?_
   refine rt [tv 4 (pb 4), bv 4 (.st [Xf n, Xf d])] (oT 4 oN) ?_
   refine Xg ?_
   exact X7i ((.st [Xf n, Xf d])) (Xrz (n := n) (d := d) hdp (by have hz := sign_zero (x := (Int.gcd n d : Int) - 1); omega))
theorem Kr (n : Int) (h0 : -9223372036854775808 ≤ n := by omega) (h1 : n < 9223372036854775808 := by omega) : CS Tryz.prog 76 [ki n] (Xc (n : Rat)) := by
 refine cO 6 Tryz.func76 ?_
 refine sh 2 [tv 2 (pb 2), bv 2 (Xc ((n : Int) : Rat))] (oS (oT 1 oN) (oS (oT 1 (oC (Jz n) (oC (Xm8 n) (oT 1 oN)))) oN)) ?_
 refine Xg ?_
 exact X7i ((Xc ((n : Int) : Rat))) (rfl)
theorem Yd (a : Rat) : CS Tryz.prog 83 [Xc a] (.int .i64 (Int.sign (Rat.num a))) := by
 refine cO 6 Tryz.func83 ?_
 refine sh 2 [tv 2 (ki (Int.sign a.num))] (oS (oT 2 oN) (oS (oT 2 (oC (Xjs a.num) (oT 1 oN))) oN)) ?_
 refine Xg ?_
 exact X7i ((ki (Int.sign a.num))) (rfl)
theorem Xc6 (a : Rat) (hs : X6p a ≤ 17179869184 := by omega) : CS Tryz.prog 202 [Xc a] (Xc (-a)) := by
 have hqa := Xap a
 refine cO 9 Tryz.func202 ?_
 refine sh 2 [tv 2 (pb 2), bv 2 (.st [Xf (-a.num), Xf (a.den : Int)])] (oS (oT 2 oN) (oS (oT 2 (oC (Xf3 a.num) (oT 4 oN))) oN)) ?_
 refine Xg ?_
 exact X7i ((.st [Xf (-a.num), Xf (a.den : Int)])) (rfl)
theorem Xaq (a b : Rat) (hs : X6p a + X6p b ≤ 17179869184 := by omega) : CS Tryz.prog 149 [Xc a, Xc b] (Xc (a + b)) := by
 have hqa := Xap a
 have hqb := Xap b
 have m1 := Jm a.num (b.den : Int)
 have m2 := Jm b.num (a.den : Int)
 have m3 := Jm (a.den : Int) (b.den : Int)
 have m4 := Jm a.num b.num
 have m5 := Jm (a.den : Int) b.num
 have m6 := Xfc (a.num * (b.den : Int)) (b.num * (a.den : Int))
 have m7 := Xfc a.num b.num
 have da := den_pos a
 have db := den_pos b
 have dab := Int.mul_pos da db
 refine cO 36 Tryz.func149 ?_
 refine rt [tv 2 (pb 2), tv 3 (pb 3), tv 4 (pb 4), bv 2 (Xc a), bv 3 (Xc b), bv 4 zQ] (oT 3 oN) ?_
 refine Xe ?_
 refine rt [tv 2 (pb 2), tv 3 (pb 3), tv 4 (pb 4), tv 10 (.bool (decide (Int.sign ((a.den : Int) - (b.den : Int)) = 0))), bv 2 (Xc a), bv 3 (Xc b), bv 4 zQ] (oT 4 (oC (Ky (a.den : Int) (b.den : Int)) (oO (oB (decide (Int.sign ((a.den : Int) - (b.den : Int)) = 0))) (oA [cT (decide (Int.sign ((a.den : Int) - (b.den : Int)) = 0))] oN)))) ?_
 refine cB (decide (Int.sign ((a.den : Int) - (b.den : Int)) = 0)) (fun h1 => ?_) (fun h1 => ?_)
 ·
  have h1' := of_decide_eq_true h1
  refine rt [tv 2 (pb 2), tv 3 (pb 3), tv 4 (pb 4), bv 2 (Xc a), bv 3 (Xc b), bv 4 (Xc (Rat.divInt (a.num + b.num) (a.den : Int)))] (oT 4 (oC (Xdp a.num b.num) (oT 2 (oC (Xds (a.num + b.num) (a.den : Int)) (oT 1 oN))))) ?_
  refine Xg ?_
  exact X7i ((Xc (Rat.divInt (a.num + b.num) (a.den : Int)))) (congrArg Xc (X41 (by have hz := sign_zero (x := (a.den : Int) - (b.den : Int)); omega)))
 ·
  have h1' := of_decide_eq_false h1
  refine Xn ?_
  refine rt [tv 4 (pb 4), bv 4 (Xc (Rat.divInt ((a.num * (b.den : Int)) + (b.num * (a.den : Int))) ((a.den : Int) * (b.den : Int))))] (oT 4 (oC (Kz a.num (b.den : Int)) (oT 4 (oC (Kz b.num (a.den : Int)) (oC (Xdp (a.num * (b.den : Int)) (b.num * (a.den : Int))) (oT 4 (oC (Kz (a.den : Int) (b.den : Int)) (oC (Xds ((a.num * (b.den : Int)) + (b.num * (a.den : Int))) ((a.den : Int) * (b.den : Int))) (oT 1 oN))))))))) ?_
  refine Xg ?_
  exact X7i ((Xc (Rat.divInt ((a.num * (b.den : Int)) + (b.num * (a.den : Int))) ((a.den : Int) * (b.den : Int))))) (congrArg Xc (X0s a b))
theorem Zf (a b : Rat) (hs : X6p a + X6p b ≤ 17179869184 := by omega) : CS Tryz.prog 148 [Xc a, Xc b] (Xc (a * b)) := by
 have hqa := Xap a
 have hqb := Xap b
 have m1 := Jm a.num (b.den : Int)
 have m2 := Jm b.num (a.den : Int)
 have m3 := Jm (a.den : Int) (b.den : Int)
 have m4 := Jm a.num b.num
 have m5 := Jm (a.den : Int) b.num
 have m6 := Xfc (a.num * (b.den : Int)) (b.num * (a.den : Int))
 have m7 := Xfc a.num b.num
 have da := den_pos a
 have db := den_pos b
 have dab := Int.mul_pos da db
 refine cO 16 Tryz.func148 ?_
 refine sh 2 [tv 4 (pb 4), bv 4 (Xc (Rat.divInt (a.num * b.num) ((a.den : Int) * (b.den : Int))))] (oS (oT 3 oN) (oS (oT 4 (oC (Kz a.num b.num) (oT 4 (oC (Kz (a.den : Int) (b.den : Int)) (oC (Xds (a.num * b.num) ((a.den : Int) * (b.den : Int))) (oT 1 oN)))))) oN)) ?_
 refine Xg ?_
 exact X7i ((Xc (Rat.divInt (a.num * b.num) ((a.den : Int) * (b.den : Int))))) (congrArg Xc (X20 a b))
theorem K9 (a b : Rat) (hs : X6p a + X6p b ≤ 17179869184 := by omega) : CS Tryz.prog 147 [Xc a, Xc b] (Xc (a - b)) := by
 have hn := Xp5 b
 refine cO 9 Tryz.func147 ?_
 refine sh 2 [tv 4 (pb 4), bv 4 (Xc (a + (-b)))] (oS (oT 3 oN) (oS (oT 2 (oC (Xc6 b) (oC (Xaq a (-b)) (oT 1 oN)))) oN)) ?_
 refine Xg ?_
 exact X7i ((Xc (a + (-b)))) (congrArg Xc (Rat.sub_eq_add_neg a b).symm)
theorem Xh4 (a : Rat) (hs : X6p a ≤ 17179869184 := by omega) : CS Tryz.prog 296 [Xc a] (Xf (Ku a)) := by
 have hqa := Xap a
 have da := den_pos a
 refine cO 16 Tryz.func296 ?_
 refine sh 3 [tv 2 (pb 2), bv 2 (Xf (a.num / (a.den : Int)))] (oS (oT 2 oN) (oS (oT 4 (oC (Xd8 a.num (a.den : Int)) (oT 9 oN))) (oS (oT 2 oN) oN))) ?_
 refine Xg ?_
 exact X7i ((Xf (a.num / (a.den : Int)))) (rfl)
theorem Xe5 (a b : Rat) (hs : X6p a + X6p b ≤ 17179869184 := by omega) : CS Tryz.prog 170 [Xc a, Xc b] (Xdr Xc zQ (ki 0) (ki 6) (Xsp a b)) := by
 have hqa := Xap a
 have hqb := Xap b
 have m1 := Jm a.num (b.den : Int)
 have m2 := Jm b.num (a.den : Int)
 have m3 := Jm (a.den : Int) (b.den : Int)
 have m4 := Jm a.num b.num
 have m5 := Jm (a.den : Int) b.num
 have m6 := Xfc (a.num * (b.den : Int)) (b.num * (a.den : Int))
 have m7 := Xfc a.num b.num
 have da := den_pos a
 have db := den_pos b
 have dab := Int.mul_pos da db
 have hzb := sign_zero (x := b.num)
 refine Xge (N := 21) X6y Tryz.func170 rfl rfl rfl rfl rfl (Xg1 _ _ _ _ _) ?_
 refine rt [tv 2 (pb 2), tv 3 (pb 3), tv 4 (pb 4), tv 5 (ki 0), bv 2 (Xc a), bv 3 (Xc b), bv 4 zQ] (oT 4 oN) ?_
 refine Xe ?_
 refine rt [tv 2 (pb 2), tv 3 (pb 3), tv 4 (pb 4), tv 5 (ki 0), tv 8 (.bool (decide (Int.sign (Rat.num b) = 0))), bv 2 (Xc a), bv 3 (Xc b), bv 4 zQ] (oT 1 (oC (Yd b) (oO (oB (decide (Int.sign (Rat.num b) = 0))) (oA [cT (decide (Int.sign (Rat.num b) = 0))] oN)))) ?_
 refine cB (decide (Int.sign (Rat.num b) = 0)) (fun h1 => ?_) (fun h1 => ?_)
 ·
  have h1' := of_decide_eq_true h1
  refine rt [tv 2 (pb 2), tv 3 (pb 3), tv 4 (pb 4), tv 5 (ki 6), bv 2 (Xc a), bv 3 (Xc b), bv 4 zQ] (oT 3 oN) ?_
  refine Xg ?_
  have hbz := Xsc (q := b)
  have hz := sign_zero (x := b.num)
  exact X7i ((.tup [zQ, ki 6])) (by unfold Xsp; rw [decide_eq_true (hbz.1 (by omega))]; rfl)
 ·
  have h1' := of_decide_eq_false h1
  refine Xn ?_
  refine rt [tv 4 (pb 4), tv 5 (ki 0), bv 4 (Xc (Rat.divInt (a.num * (b.den : Int)) ((a.den : Int) * b.num)))] (oT 4 (oC (Kz a.num (b.den : Int)) (oT 4 (oC (Kz (a.den : Int) b.num) (oC (Xds (a.num * (b.den : Int)) ((a.den : Int) * b.num) (fun hc => by rcases Int.mul_eq_zero.1 hc with hc | hc <;> omega)) (oT 2 oN)))))) ?_
  refine Xg ?_
  have hbz := Xsc (q := b)
  have hz := sign_zero (x := b.num)
  exact X7i ((.tup [Xc (Rat.divInt (a.num * (b.den : Int)) ((a.den : Int) * b.num)), ki 0])) (by unfold Xsp; rw [decide_eq_false (fun hc => by have := hbz.2 hc; omega), cond_false]; exact congrArg (fun x => AV.tup [Xc x, ki 0]) (X3t a b))
theorem Xa5 (a b : Rat) : X6p (a + b) ≤ 1 * (X6p a + X6p b) + 1 := Xj1 a b
theorem Kc (a b : Rat) : X6p (a - b) ≤ 1 * (X6p a + X6p b) + 1 := Xnl a b
theorem X8 (a b : Rat) : X6p (a * b) ≤ 1 * (X6p a + X6p b) + 0 := Xmx a b
theorem Xce (a : Rat) : X6p (-a) ≤ 1 * X6p a + 0 := by rw [Xp5]; omega
theorem J4 (n : Int) (h0 : -9223372036854775808 ≤ n := by omega) (h1 : n < 9223372036854775808 := by omega) : X6p ((n : Int) : Rat) ≤ 3 := by have := Xhj n; have := Xfi h0 (show n ≤ 18446744073709551615 by omega); omega
theorem Xh7 (a : Rat) : X66 (Ku a) ≤ 1 * X6p a + 0 := Xyx a
theorem Xjn (a b r : Rat) (h : Xsp a b = some r) : X6p r ≤ 1 * (X6p a + X6p b) + 0 := X00 a b r h
theorem Xjb (a r : Rat) (h : Xg7 a = some r) : X6p r ≤ 1 * X6p a + 0 := Xwl a r h
open Go Go.RowKit
theorem Xnr (x : Int) : CS Tryz.prog 246 [ki x] (.bool false) := by
 refine cO 6 Tryz.func246 ?_
 refine sh 2 [tv 2 (.bool (!(decide (x = x))))] (oS (oT 1 oN) (oS (oT 2 (oO (oB (!(decide (x = x)))) (oT 1 (oA [cT (!(decide (x = x)))] oN)))) oN)) ?_
 refine Xg ?_
 exact X7i ((.bool (!(decide (x = x))))) (congrArg AV.bool (by simp))
theorem Xqv (x y : Int) : CS Tryz.prog 182 [ki x, ki y] (.int .i64 (Xt6 x y)) := by
 refine cO 20 Tryz.func182 ?_
 refine sh 3 [tv 0 (ki x), tv 1 (ki y), tv 4 (ki 0), tv 5 (.bool false), tv 6 (.bool false)] (oS (oT 1 oN) (oS (oT 1 (oC (Xnr x) (oT 1 oN))) (oS (oT 1 (oC (Xnr y) (oT 1 oN))) oN))) ?_
 refine Xe ?_
 refine rt [tv 0 (ki x), tv 1 (ki y), tv 4 (ki 0), tv 6 (.bool false), tv 11 (.bool false)] (oT 1 oN) ?_
 refine cB (false) (fun h => Bool.noConfusion h) (fun _ => ?_)
 refine Xn ?_
 refine Xe ?_
 refine rt [tv 0 (ki x), tv 1 (ki y), tv 4 (ki 0), tv 13 (.bool false)] (oT 1 oN) ?_
 refine cB (false) (fun h => Bool.noConfusion h) (fun _ => ?_)
 refine Xn ?_
 refine Xe ?_
 refine rt [tv 0 (ki x), tv 1 (ki y), tv 4 (ki 0), tv 16 (.bool (decide (x < y)))] (oT 2 (oO (oB (decide (x < y))) (oA [cT (decide (x < y))] oN))) ?_
 refine cB (decide (x < y)) (fun h1 => ?_) (fun h1 => ?_)
 ·
  have h1' := of_decide_eq_true h1
  refine rt [tv 0 (ki x), tv 1 (ki y), tv 4 (ki (-1))] (oT 1 oN) ?_
  refine Xg ?_
  exact X7i ((ki (-1))) (by unfold Xt6; rw [decide_eq_true (show x < y by omega)]; rfl)
 ·
  have h1' := of_decide_eq_false h1
  refine Xn ?_
  refine Xe ?_
  refine rt [tv 4 (ki 0), tv 19 (.bool (decide (y < x)))] (oT 2 (oO (oB (decide (y < x))) (oA [cT (decide (y < x))] oN))) ?_
  refine cB (decide (y < x)) (fun h2 => ?_) (fun h2 => ?_)
  ·
   have h2' := of_decide_eq_true h2
   refine rt [tv 4 (ki 1)] (oT 1 oN) ?_
   refine Xg ?_
   exact X7i ((ki 1)) (by unfold Xt6; rw [decide_eq_false (show ¬ x < y by omega), decide_eq_true (show y < x by omega)]; rfl)
  ·
   have h2' := of_decide_eq_false h2
   refine Xn ?_
   refine rt [tv 4 (ki 0)] (oT 1 oN) ?_
   refine Xg ?_
   exact X7i ((ki 0)) (by unfold Xt6; rw [decide_eq_false (show ¬ x < y by omega), decide_eq_false (show ¬ y < x by omega)]; rfl)
theorem Xbq (a b : Rat) (hs : X6p a + X6p b ≤ 17179869184 := by omega) : CS Tryz.prog 99 [Xc a, Xc b] (.int .i64 (Xb3 a b)) := by
 have hqa := Xap a
 have hqb := Xap b
 have m1 := Jm a.num (b.den : Int)
 have m2 := Jm b.num (a.den : Int)
 refine cO 25 Tryz.func99 ?_
 refine rt [tv 2 (pb 2), tv 3 (pb 3), tv 4 (ki 0), bv 2 (Xc a), bv 3 (Xc b)] (oT 3 oN) ?_
 refine Xe ?_
 refine sh 2 [tv 2 (pb 2), tv 3 (pb 3), tv 4 (ki 0), tv 5 (ki (Xt6 (Int.sign (Rat.num a)) (Int.sign (Rat.num b)))), tv 12 (.bool (!(decide (Xt6 (Int.sign (Rat.num a)) (Int.sign (Rat.num b)) = 0)))), bv 2 (Xc a), bv 3 (Xc b)] (oS (oT 1 (oC (Yd a) (oT 1 (oC (Yd b) (oC (Xqv (Int.sign (Rat.num a)) (Int.sign (Rat.num b))) (oT 1 oN)))))) (oS (oT 1 (oO (oB (!(decide (Xt6 (Int.sign (Rat.num a)) (Int.sign (Rat.num b)) = 0)))) (oA [cT (!(decide (Xt6 (Int.sign (Rat.num a)) (Int.sign (Rat.num b)) = 0)))] oN))) oN)) ?_
 refine cB ((!(decide (Xt6 (Int.sign (Rat.num a)) (Int.sign (Rat.num b)) = 0)))) (fun h1 => ?_) (fun h1 => ?_)
 ·
  have h1' := of_decide_eq_false (Xdt h1)
  refine rt [tv 2 (pb 2), tv 3 (pb 3), tv 4 (ki (Xt6 (Int.sign (Rat.num a)) (Int.sign (Rat.num b)))), bv 2 (Xc a), bv 3 (Xc b)] (oT 2 oN) ?_
  refine Xg ?_
  exact X7i ((ki (Xt6 (Int.sign (Rat.num a)) (Int.sign (Rat.num b))))) (congrArg (AV.int .i64) (X4j (by assumption)))
 ·
  have h1' := of_decide_eq_true (Xas h1)
  refine Xn ?_
  refine rt [tv 4 (ki (Int.sign ((a.num * (b.den : Int)) - (b.num * (a.den : Int)))))] (oT 4 (oC (Kz a.num (b.den : Int)) (oT 4 (oC (Kz b.num (a.den : Int)) (oC (Ky (a.num * (b.den : Int)) (b.num * (a.den : Int))) (oT 1 oN)))))) ?_
  refine Xg ?_
  exact X7i ((ki (Int.sign ((a.num * (b.den : Int)) - (b.num * (a.den : Int)))))) (rfl)
theorem Xhe (a r : Int) (h : Xji a = some r) (hs : X66 a ≤ 17179869184 := by omega) : CS Tryz.prog 265 [Xf a] (.tup [Xf r, .bool true]) := by
 obtain ⟨s1, s2, s3⟩ := Xgr.1 h
 have hr := Xih s3 (show r * r ≤ a by omega) (show a < (r + 1) * (r + 1) by rw [← s2]; grind)
 have hq := Xkg a s1
 have hm := Jm (Y1 a) (Y1 a)
 have q0 : (decide ((bif (decide (a < 0)) then (7 : Int) else 0) = 0)) = true := by rw [decide_eq_false (show ¬ a < 0 by omega)]; rfl
 have q1 : (decide (Int.sign (Y1 a * Y1 a - a) = 0)) = true := decide_eq_true (sign_zero.2 (by rw [← hr]; omega))
 refine cO 22 Tryz.func265 ?_
 refine sh 3 [tv 2 (pb 2), tv 3 (.bool true), bv 2 (Xf (Y1 a))] (oS (oT 3 oN) (oS (oT 1 (oC (Xgx a) (oT 6 oN))) (oS (oT 2 (oO (aI trivial (q0 : (decide ((bif (decide (a < 0)) then (7 : Int) else 0) = 0)) = true)) (oT 1 (oO (Xh 1 trivial) (oO (Xh 1 trivial) (oO (Xh 2 (Kz (Y1 a) (Y1 a))) (oO (Xh 1 trivial) (oO (Xh 2 (Ky (Y1 a * Y1 a) a)) (oO (Xh 1 (aI trivial (q1 : (decide (Int.sign ((Y1 a * Y1 a) - a) = 0)) = true))) (oT 3 (oA [cT true, Xf (Y1 a * Y1 a), ki (Int.sign ((Y1 a * Y1 a) - a)), cT true] oN))))))))))) oN))) ?_
 refine Xg ?_
 exact X7i ((.tup [Xf (Y1 a), .bool true])) (by rw [hr])
theorem Xg9 (a : Int) (h : Xji a = none) (hs : X66 a ≤ 17179869184 := by omega) : CS Tryz.prog 265 [Xf a] (.tup [Xf (Y1 a), .bool false]) := by
  have hq : X66 (Y1 a) ≤ X66 a := by
    by_cases h0 : 0 ≤ a
    · exact Xkg a h0
    · rw [Xmk (by omega), Xl8]; omega
  have hm := Jm (Y1 a) (Y1 a)
  have hno := Xt4 h
  refine cO 22 Tryz.func265 ?_
  refine sh 2 [tv 1 (pb 1), tv 2 (pb 2), tv 3 (.bool false), tv 4 (pb 4), tv 5 (ki (bif (decide (a < 0)) then (7 : Int) else 0)), bv 1 (Xf a), bv 2 zI, bv 4 (Xf (Y1 a))] (oS (oT 3 oN) (oS (oT 1 (oC (Xgx a) (oT 6 oN))) oN)) ?_
  refine Xe ?_
  rcases X7 (decide ((bif (decide (a < 0)) then (7 : Int) else 0) = 0)) with h1 | h1
  ·
    have h1' := of_decide_eq_true h1
    refine rh [tv 2 (pb 2), tv 3 (.bool (decide (Int.sign ((Y1 a * Y1 a) - a) = 0))), bv 2 (Xf (Y1 a))] (oT 2 (oO (aI trivial (h1 : (decide ((bif (decide (a < 0)) then (7 : Int) else 0) = 0)) = true)) (oT 1 (oO (Xh 1 trivial) (oO (Xh 1 trivial) (oO (Xh 2 (Kz (Y1 a) (Y1 a))) (oO (Xh 1 trivial) (oO (Xh 2 (Ky (Y1 a * Y1 a) a)) (oO (Xh 1 (oB (decide (Int.sign ((Y1 a * Y1 a) - a) = 0)))) (oT 3 (oA [cT true, Xf (Y1 a * Y1 a), ki (Int.sign ((Y1 a * Y1 a) - a)), cT (decide (Int.sign ((Y1 a * Y1 a) - a) = 0))] oN))))))))))) ?_
    refine Xg ?_
    have hz := sign_zero (x := Y1 a * Y1 a - a)
    exact X7i ((.tup [Xf (Y1 a), .bool (decide (Int.sign ((Y1 a * Y1 a) - a) = 0))])) (congrArg (fun x => AV.tup [Xf (Y1 a), .bool x]) (decide_eq_false (fun hc => Xzo hno (by assumption) (hz.1 hc))))
  ·
    have h1' := of_decide_eq_false h1
    refine rh [tv 2 (pb 2), tv 3 (.bool false), bv 2 (Xf (Y1 a))] (oT 2 (oO (aI trivial (h1 : (decide ((bif (decide (a < 0)) then (7 : Int) else 0) = 0)) = false)) (oT 1 (oO (gn [false]) (oO (gn [false]) (oO (gn [true, true]) (oO (gn [false]) (oO (gn [true, true]) (oO (gn [true]) (oT 3 (oA [cT false, Xf (Y1 a * Y1 a), ki (Int.sign ((Y1 a * Y1 a) - a)), cT (decide (Int.sign ((Y1 a * Y1 a) - a) = 0))] oN))))))))))) ?_
    refine Xg ?_
    exact X7i ((.tup [Xf (Y1 a), .bool false])) (rfl)
theorem Xjh (a : Rat) (hs : X6p a ≤ 17179869184 := by omega) : CS Tryz.prog 223 [Xc a] (Xdr Xc zQ (.bool true) (.bool false) (Xg7 a)) := by
 have hqa := Xap a
 refine Xge (N := 26) X6y Tryz.func223 rfl rfl rfl rfl rfl (Xg1 _ _ _ _ _) ?_
 refine rt [tv 1 (pb 1), tv 2 (pb 2), tv 3 (.bool false), bv 1 (Xc a), bv 2 zQ] (oT 3 oN) ?_
 refine Xe ?_
 refine Xe ?_
 rcases Xbs (Xji a.num) with h1 | ⟨r2, h1⟩
 ·
  refine rh [tv 1 (pb 1), tv 2 (pb 2), tv 3 (.bool false), tv 4 (pb 4), tv 5 (.bool false), bv 1 (Xc a), bv 2 zQ, bv 4 (Xf (Y1 a.num))] (oT 2 (oC (Xg9 a.num h1) (oT 2 (oO (oB false) (oT 3 (oA [.rptr (.bool false)] oN)))))) ?_
  refine rt [tv 1 (pb 1), tv 2 (pb 2), tv 3 (.bool false), tv 4 (pb 4), tv 14 (.bool false), bv 1 (Xc a), bv 2 zQ, bv 4 (Xf (Y1 a.num))] (oT 1 oN) ?_
  refine cB (false) (fun h => Bool.noConfusion h) (fun _ => ?_)
  refine Xn ?_
  refine rt [tv 2 (pb 2), tv 3 (.bool false), bv 2 zQ] (oT 3 oN) ?_
  refine Xg ?_
  exact X7i ((.tup [zQ, .bool false])) (by unfold Xg7; rw [h1]; cases Xji (a.den : Int) <;> rfl)
 ·
  refine rh [tv 1 (pb 1), tv 2 (pb 2), tv 3 (.bool false), tv 4 (pb 4), tv 5 (.bool true), bv 1 (Xc a), bv 2 zQ, bv 4 (Xf r2)] (oT 2 (oC (Xhe a.num r2 h1) (oT 2 (oO (oB true) (oT 3 (oA [.rptr (.bool true)] oN)))))) ?_
  refine rt [tv 1 (pb 1), tv 2 (pb 2), tv 3 (.bool false), tv 4 (pb 4), tv 14 (.bool true), bv 1 (Xc a), bv 2 zQ, bv 4 (Xf r2)] (oT 1 oN) ?_
  refine cB (true) (fun _ => ?_) (fun h => Bool.noConfusion h)
  refine Xe ?_
  rcases Xbs (Xji (a.den : Int)) with h3 | ⟨r4, h3⟩
  ·
   refine rh [tv 2 (pb 2), tv 3 (.bool false), tv 4 (pb 4), tv 6 (pb 6), tv 7 (.bool false), bv 2 zQ, bv 4 (Xf r2), bv 6 (Xf (Y1 (a.den : Int)))] (oT 2 (oC (Xg9 (a.den : Int) h3) (oT 2 (oO (oB false) (oT 3 (oA [.rptr (.bool false)] oN)))))) ?_
   refine rt [tv 2 (pb 2), tv 3 (.bool false), tv 4 (pb 4), tv 6 (pb 6), tv 21 (.bool false), bv 2 zQ, bv 4 (Xf r2), bv 6 (Xf (Y1 (a.den : Int)))] (oT 1 oN) ?_
   refine cB (false) (fun h => Bool.noConfusion h) (fun _ => ?_)
   refine Xn ?_
   refine rt [tv 2 (pb 2), tv 3 (.bool false), bv 2 zQ] (oT 3 oN) ?_
   refine Xg ?_
   exact X7i ((.tup [zQ, .bool false])) (by unfold Xg7; rw [h1, h3]; rfl)
  ·
   refine rh [tv 2 (pb 2), tv 3 (.bool false), tv 4 (pb 4), tv 6 (pb 6), tv 7 (.bool true), bv 2 zQ, bv 4 (Xf r2), bv 6 (Xf r4)] (oT 2 (oC (Xhe (a.den : Int) r4 h3) (oT 2 (oO (oB true) (oT 3 (oA [.rptr (.bool true)] oN)))))) ?_
   refine rt [tv 2 (pb 2), tv 3 (.bool false), tv 4 (pb 4), tv 6 (pb 6), tv 21 (.bool true), bv 2 zQ, bv 4 (Xf r2), bv 6 (Xf r4)] (oT 1 oN) ?_
   refine cB (true) (fun _ => ?_) (fun h => Bool.noConfusion h)
   refine rt [tv 2 (pb 2), tv 3 (.bool true), bv 2 (.st [Xf r2, Xf r4])] (oT 5 oN) ?_
   refine Xg ?_
   exact X7i ((.tup [.st [Xf r2, Xf r4], .bool true])) (by unfold Xg7; rw [h1, h3]; exact congrArg (fun x => AV.tup [x, .bool true]) (Xtu h1 h3))
open Go Go.RowKit
theorem Xpy  : CS Tryz.prog 104 [] (Xf 1) := by
 refine cO 2 Tryz.func104 ?_
 refine sh 2 [tv 0 (pb 0), bv 0 (Xf 1)] (oS (oT 1 oN) (oS (oC (Xbg 1 (by decide) (by decide)) (oT 1 oN)) oN)) ?_
 refine Xg ?_
 exact X7i ((Xf 1)) (rfl)
theorem Xjv (n d : Int) (hd : d ≠ 0 := by omega) (hs : X66 n + X66 d ≤ 68719476736 := by omega) : CS Tryz.prog 135 [Xf n, Xf d] (Xc (Rat.divInt n d)) := by
 refine cO 39 Tryz.func135 ?_
 refine rt [tv 2 (pb 2), tv 3 (pb 3), tv 4 (pb 4), bv 2 (Xf n), bv 3 (Xf d), bv 4 zQ] (oT 3 oN) ?_
 refine Xe ?_
 refine rt [tv 2 (pb 2), tv 3 (pb 3), tv 4 (pb 4), tv 14 (.bool (decide (Int.sign d < 0))), bv 2 (Xf n), bv 3 (Xf d), bv 4 zQ] (oT 1 (oC (Xip d) (oO (oB (decide (Int.sign d < 0))) (oA [cT (decide (Int.sign d < 0))] oN)))) ?_
 refine cB (decide (Int.sign d < 0)) (fun h1 => ?_) (fun h1 => ?_)
 ·
  have h1' := of_decide_eq_true h1
  refine rh [tv 2 (pb 2), tv 3 (pb 3), tv 4 (pb 4), bv 2 (Xf (-n)), bv 3 (Xf (-d)), bv 4 zQ] (oT 1 (oC (Xkk n) (oT 1 (oC (Xkk d) (oT 2 oN))))) ?_
  have hdp : 0 < (-d) := by
   have := Xho (x := d); omega
  have hg := Xpv (-n) (-d)
  have hn1 := Xff n
  have hd1 := Xff d
  have hgp := Xd4 (n := (-n)) hdp
  refine sh 4 [tv 4 (pb 4), bv 4 (.st [Xf ((-n) / (Int.gcd (-n) (-d) : Int)), Xf ((-d) / (Int.gcd (-n) (-d) : Int))])] (oS (oT 2 (oC (Xm1 (-n) (-d)) (oT 2 oN))) (oS (oT 2 (oC (Xd9 (-n) (Int.gcd (-n) (-d) : Int) hgp) (oT 9 oN))) (oS (oT 2 (oC (Xd9 (-d) (Int.gcd (-n) (-d) : Int) hgp) (oT 9 oN))) (oS (oT 4 oN) oN)))) ?_
  refine Xg ?_
  exact X7i ((.st [Xf ((-n) / (Int.gcd (-n) (-d) : Int)), Xf ((-d) / (Int.gcd (-n) (-d) : Int))])) ((Xo3 (n := (-n)) (d := (-d)) hdp).trans (Xsm n d))
 ·
  have h1' := of_decide_eq_false h1
  refine Xn ?_
  have hdp : 0 < d := by
   have := Xho (x := d); omega
  have hg := Xpv n d
  have hn1 := Xff n
  have hd1 := Xff d
  have hgp := Xd4 (n := n) hdp
  refine sh 4 [tv 4 (pb 4), bv 4 (.st [Xf (n / (Int.gcd n d : Int)), Xf (d / (Int.gcd n d : Int))])] (oS (oT 2 (oC (Xm1 n d) (oT 2 oN))) (oS (oT 2 (oC (Xd9 n (Int.gcd n d : Int) hgp) (oT 9 oN))) (oS (oT 2 (oC (Xd9 d (Int.gcd n d : Int) hgp) (oT 9 oN))) (oS (oT 4 oN) oN)))) ?_
  refine Xg ?_
  exact X7i ((.st [Xf (n / (Int.gcd n d : Int)), Xf (d / (Int.gcd n d : Int))])) (Xo3 (n := n) (d := d) hdp)
theorem Kk (n : Int) (h0 : -9223372036854775808 ≤ n := by omega) (h1 : n < 9223372036854775808 := by omega) : CS Tryz.prog 50 [ki n] (Xc (n : Rat)) := by
 refine cO 7 Tryz.func50 ?_
 refine sh 2 [tv 2 (pb 2), bv 2 (.st [Xf n, Xf (1 : Int)])] (oS (oT 1 oN) (oS (oT 1 (oC (Xbg n) (oC Xpy (oT 2 oN)))) oN)) ?_
 refine Xg ?_
 exact X7i ((.st [Xf n, Xf (1 : Int)])) (Xp6 n)
theorem Xqf (n d : Int) (h0 : -9223372036854775808 ≤ n := by omega) (h1 : n < 9223372036854775808 := by omega) (h2 : -9223372036854775808 ≤ d := by omega) (h3 : d < 9223372036854775808 := by omega) : CS Tryz.prog 52 [ki n, ki d] (Xc (Rat.divInt n d)) := by
 have l1 := Xfi (n := n) (by omega) (by omega)
 have l2 := Xfi (n := d) (by omega) (by omega)
 have l3 := Xdq 1 (by decide)
 have l4 := Xdq 0 (by decide)
 refine cO 12 Tryz.func52 ?_
 refine rt [tv 0 (ki n), tv 1 (ki d), tv 4 (pb 4), bv 4 zQ] (oT 1 oN) ?_
 refine Xe ?_
 refine rt [tv 0 (ki n), tv 1 (ki d), tv 4 (pb 4), tv 6 (.bool (decide (d = 0))), bv 4 zQ] (oT 1 (oO (oB (decide (d = 0))) (oA [cT (decide (d = 0))] oN))) ?_
 refine cB (decide (d = 0)) (fun h1 => ?_) (fun h1 => ?_)
 ·
  have h1' := of_decide_eq_true h1
  refine rh [tv 0 (ki 0), tv 1 (ki 1), tv 4 (pb 4), bv 4 zQ] (oT 2 oN) ?_
  refine rt [tv 4 (pb 4), bv 4 (Xc (Rat.divInt 0 1))] (oT 1 (oC (Xbg 0) (oT 1 (oC (Xbg 1) (oC (Xjv 0 1) (oT 1 oN)))))) ?_
  refine Xg ?_
  exact X7i ((Xc (Rat.divInt 0 1))) (congrArg Xc (by rw [show d = 0 by omega, Rat.divInt_zero, Rat.zero_divInt]))
 ·
  have h1' := of_decide_eq_false h1
  refine Xn ?_
  refine rt [tv 4 (pb 4), bv 4 (Xc (Rat.divInt n d))] (oT 1 (oC (Xbg n) (oT 1 (oC (Xbg d) (oC (Xjv n d) (oT 1 oN)))))) ?_
  refine Xg ?_
  exact X7i ((Xc (Rat.divInt n d))) (rfl)
theorem Za (a : Rat) : CS Tryz.prog 78 [Xc a] (.int .i64 (Int.sign (Rat.num a))) := by
 refine cO 6 Tryz.func78 ?_
 refine sh 2 [tv 2 (ki (Int.sign a.num))] (oS (oT 2 oN) (oS (oT 2 (oC (Xip a.num) (oT 1 oN))) oN)) ?_
 refine Xg ?_
 exact X7i ((ki (Int.sign a.num))) (rfl)
theorem Xe0 (a : Rat) (hs : X6p a ≤ 17179869184 := by omega) : CS Tryz.prog 124 [Xc a] (Xc (-a)) := by
 have hqa := Xap a
 refine cO 9 Tryz.func124 ?_
 refine sh 2 [tv 2 (pb 2), bv 2 (.st [Xf (-a.num), Xf (a.den : Int)])] (oS (oT 2 oN) (oS (oT 2 (oC (Xkk a.num) (oT 4 oN))) oN)) ?_
 refine Xg ?_
 exact X7i ((.st [Xf (-a.num), Xf (a.den : Int)])) (rfl)
theorem Xby (a b : Rat) (hs : X6p a + X6p b ≤ 17179869184 := by omega) : CS Tryz.prog 127 [Xc a, Xc b] (Xc (a + b)) := by
 have hqa := Xap a
 have hqb := Xap b
 have m1 := Jm a.num (b.den : Int)
 have m2 := Jm b.num (a.den : Int)
 have m3 := Jm (a.den : Int) (b.den : Int)
 have m4 := Jm a.num b.num
 have m5 := Jm (a.den : Int) b.num
 have m6 := Xfc (a.num * (b.den : Int)) (b.num * (a.den : Int))
 have da := den_pos a
 have db := den_pos b
 have dab := Int.mul_pos da db
 refine cO 26 Tryz.func127 ?_
 refine sh 4 [tv 4 (pb 4), bv 4 (Xc (Rat.divInt ((a.num * (b.den : Int)) + (b.num * (a.den : Int))) ((a.den : Int) * (b.den : Int))))] (oS (oT 3 oN) (oS (oT 4 (oC (Xb8 a.num (b.den : Int)) (oT 2 oN))) (oS (oT 4 (oC (Xb8 b.num (a.den : Int)) (oT 2 oN))) (oS (oT 2 (oC (Xkp (a.num * (b.den : Int)) (b.num * (a.den : Int))) (oT 4 (oC (Xb8 (a.den : Int) (b.den : Int)) (oC (Xjv ((a.num * (b.den : Int)) + (b.num * (a.den : Int))) ((a.den : Int) * (b.den : Int))) (oT 1 oN)))))) oN)))) ?_
 refine Xg ?_
 exact X7i ((Xc (Rat.divInt ((a.num * (b.den : Int)) + (b.num * (a.den : Int))) ((a.den : Int) * (b.den : Int))))) (congrArg Xc (X0s a b))
theorem Ke (a b : Rat) (hs : X6p a + X6p b ≤ 17179869184 := by omega) : CS Tryz.prog 132 [Xc a, Xc b] (Xc (a * b)) := by
 have hqa := Xap a
 have hqb := Xap b
 have m1 := Jm a.num (b.den : Int)
 have m2 := Jm b.num (a.den : Int)
 have m3 := Jm (a.den : Int) (b.den : Int)
 have m4 := Jm a.num b.num
 have m5 := Jm (a.den : Int) b.num
 have m6 := Xfc (a.num * (b.den : Int)) (b.num * (a.den : Int))
 have da := den_pos a
 have db := den_pos b
 have dab := Int.mul_pos da db
 refine cO 16 Tryz.func132 ?_
 refine sh 2 [tv 4 (pb 4), bv 4 (Xc (Rat.divInt (a.num * b.num) ((a.den : Int) * (b.den : Int))))] (oS (oT 3 oN) (oS (oT 4 (oC (Xb8 a.num b.num) (oT 4 (oC (Xb8 (a.den : Int) (b.den : Int)) (oC (Xjv (a.num * b.num) ((a.den : Int) * (b.den : Int))) (oT 1 oN)))))) oN)) ?_
 refine Xg ?_
 exact X7i ((Xc (Rat.divInt (a.num * b.num) ((a.den : Int) * (b.den : Int))))) (congrArg Xc (X20 a b))
theorem Xc5 (a b : Rat) (hs : X6p a + X6p b ≤ 17179869184 := by omega) : CS Tryz.prog 161 [Xc a, Xc b] (Xc (a - b)) := by
 have hn := Xp5 b
 refine cO 9 Tryz.func161 ?_
 refine sh 2 [tv 4 (pb 4), bv 4 (Xc (a + (-b)))] (oS (oT 3 oN) (oS (oT 2 (oC (Xe0 b) (oC (Xby a (-b)) (oT 1 oN)))) oN)) ?_
 refine Xg ?_
 exact X7i ((Xc (a + (-b)))) (congrArg Xc (Rat.sub_eq_add_neg a b).symm)
theorem Xh2 (a b : Rat) (hs : X6p a + X6p b ≤ 17179869184 := by omega) : CS Tryz.prog 107 [Xc a, Xc b] (.int .i64 (Xb3 a b)) := by
 have hqa := Xap a
 have hqb := Xap b
 have m1 := Jm a.num (b.den : Int)
 have m2 := Jm b.num (a.den : Int)
 have m3 := Jm (a.den : Int) (b.den : Int)
 have m4 := Jm a.num b.num
 have m5 := Jm (a.den : Int) b.num
 have m6 := Xfc (a.num * (b.den : Int)) (b.num * (a.den : Int))
 have da := den_pos a
 have db := den_pos b
 have dab := Int.mul_pos da db
 refine cO 16 Tryz.func107 ?_
 refine sh 2 [tv 4 (ki (Int.sign ((a.num * (b.den : Int)) - (b.num * (a.den : Int)))))] (oS (oT 3 oN) (oS (oT 4 (oC (Xb8 a.num (b.den : Int)) (oT 4 (oC (Xb8 b.num (a.den : Int)) (oC (Xqy (a.num * (b.den : Int)) (b.num * (a.den : Int))) (oT 1 oN)))))) oN)) ?_
 refine Xg ?_
 exact X7i ((ki (Int.sign ((a.num * (b.den : Int)) - (b.num * (a.den : Int)))))) (rfl)
theorem Xpz (n d : Int) (hs : X66 n + X66 d ≤ 68719476736 := by omega) : CS Tryz.prog 258 [Xf n, Xf d] (Xdr Xc zQ (ki 0) (ki 6) (Xze n d)) := by
 have hz := sign_zero (x := d)
 refine Xge (N := 13) X6y Tryz.func258 rfl rfl rfl rfl rfl (Xg1 _ _ _ _ _) ?_
 refine rt [tv 2 (pb 2), tv 3 (pb 3), tv 4 (pb 4), tv 5 (ki 0), bv 2 (Xf n), bv 3 (Xf d), bv 4 zQ] (oT 4 oN) ?_
 refine Xe ?_
 refine rt [tv 2 (pb 2), tv 3 (pb 3), tv 4 (pb 4), tv 5 (ki 0), tv 8 (.bool (decide (Int.sign d = 0))), bv 2 (Xf n), bv 3 (Xf d), bv 4 zQ] (oT 1 (oC (Xip d) (oO (oB (decide (Int.sign d = 0))) (oA [cT (decide (Int.sign d = 0))] oN)))) ?_
 refine cB (decide (Int.sign d = 0)) (fun h1 => ?_) (fun h1 => ?_)
 ·
  have h1' := of_decide_eq_true h1
  refine rt [tv 2 (pb 2), tv 3 (pb 3), tv 4 (pb 4), tv 5 (ki 6), bv 2 (Xf n), bv 3 (Xf d), bv 4 zQ] (oT 3 oN) ?_
  refine Xg ?_
  exact X7i ((.tup [zQ, ki 6])) (by unfold Xze; rw [decide_eq_true (show d = 0 by omega)]; rfl)
 ·
  have h1' := of_decide_eq_false h1
  refine Xn ?_
  refine rt [tv 4 (pb 4), tv 5 (ki 0), bv 4 (Xc (Rat.divInt n d))] (oT 2 (oC (Xjv n d) (oT 2 oN))) ?_
  refine Xg ?_
  exact X7i ((.tup [Xc (Rat.divInt n d), ki 0])) (by unfold Xze; rw [decide_eq_false (show ¬ d = 0 by omega)]; rfl)
theorem Xq1 (a b : Rat) (hs : X6p a + X6p b ≤ 17179869184 := by omega) : CS Tryz.prog 217 [Xc a, Xc b] (Xdr Xc zQ (ki 0) (ki 6) (Xsp a b)) := by
 have hqa := Xap a
 have hqb := Xap b
 have m1 := Jm a.num (b.den : Int)
 have m2 := Jm b.num (a.den : Int)
 have m3 := Jm (a.den : Int) (b.den : Int)
 have m4 := Jm a.num b.num
 have m5 := Jm (a.den : Int) b.num
 have m6 := Xfc (a.num * (b.den : Int)) (b.num * (a.den : Int))
 have da := den_pos a
 have db := den_pos b
 have dab := Int.mul_pos da db
 refine Xge (N := 19) X6y Tryz.func217 rfl rfl rfl rfl rfl (Xg1 _ _ _ _ _) ?_
 refine rt [tv 2 (pb 2), tv 3 (pb 3), tv 4 (pb 4), tv 5 (ki 0), bv 2 (Xc a), bv 3 (Xc b), bv 4 zQ] (oT 4 oN) ?_
 refine Xe ?_
 rcases X7 (decide (b = 0)) with h1 | h1
 ·
  have h1' := of_decide_eq_true h1
  refine rh [tv 4 (pb 4), tv 5 (ki 6), bv 4 zQ] (oT 4 (oC (Xb8 a.num (b.den : Int)) (oT 4 (oC (Xb8 (a.den : Int) b.num) (oO (Jl (Xpz (a.num * (b.den : Int)) ((a.den : Int) * b.num)) (by unfold Xze; rw [of_decide_eq_true h1]; simp [Xdr]) : CS Tryz.prog 258 [Xf (a.num * (b.den : Int)), Xf ((a.den : Int) * b.num)] (.tup [zQ, ki 6])) (oT 4 (oA [.tup [zQ, ki 6]] oN))))))) ?_
  refine Xg ?_
  exact X7i ((.tup [zQ, ki 6])) (by unfold Xsp; rw [h1]; rfl)
 ·
  have h1' := of_decide_eq_false h1
  refine rh [tv 4 (pb 4), tv 5 (ki 0), bv 4 (Xc (a / b))] (oT 4 (oC (Xb8 a.num (b.den : Int)) (oT 4 (oC (Xb8 (a.den : Int) b.num) (oO (Jl (Xpz (a.num * (b.den : Int)) ((a.den : Int) * b.num)) (by unfold Xze; rw [decide_eq_false (fun hc => by rcases Int.mul_eq_zero.1 hc with hc | hc; exact absurd hc (Xtm a); exact absurd (Xsc.1 hc) (of_decide_eq_false h1)), cond_false]; exact congrArg (fun x => AV.tup [Xc x, ki 0]) (X3t a b)) : CS Tryz.prog 258 [Xf (a.num * (b.den : Int)), Xf ((a.den : Int) * b.num)] (.tup [Xc (a / b), ki 0])) (oT 4 (oA [.tup [Xc (a / b), ki 0]] oN))))))) ?_
  refine Xg ?_
  exact X7i ((.tup [Xc (a / b), ki 0])) (by unfold Xsp; rw [h1]; rfl)
theorem Xvq (a b : Rat) (hs : X6p a + X6p b ≤ 17179869184 := by omega) (hb : ¬ b = 0) : CS Tryz.prog 174 [Xc a, Xc b] (Xc (a / b)) := by
 refine cO 14 Tryz.func174 ?_
 refine sh 3 [tv 4 (pb 4), bv 4 (Xc (a / b))] (oS (oT 3 oN) (oS (oT 2 (oO (Jl (Xq1 a b) (by unfold Xsp; rw [decide_eq_false hb]; rfl) : CS Tryz.prog 217 [Xc a, Xc b] (.tup [Xc (a / b), ki 0])) (oT 6 oN))) (oS (oT 2 (oA [.tup [Xc (a / b), ki 0]] oN)) oN))) ?_
 refine Xg ?_
 exact X7i ((Xc (a / b))) (rfl)
theorem Xo0 (a b : Rat) (hs : X6p a + X6p b ≤ 17179869184 := by omega) : CS Tryz.prog 32 [Xc a, Xc b] (.bool (decide (a = b))) := by
 have hqa := Xap a
 have hqb := Xap b
 have m1 := Jm a.num (b.den : Int)
 have m2 := Jm b.num (a.den : Int)
 have m3 := Jm (a.den : Int) (b.den : Int)
 have m4 := Jm a.num b.num
 have m5 := Jm (a.den : Int) b.num
 have m6 := Xfc (a.num * (b.den : Int)) (b.num * (a.den : Int))
 have da := den_pos a
 have db := den_pos b
 have dab := Int.mul_pos da db
 refine cO 17 Tryz.func32 ?_
 refine rt [tv 2 (pb 2), tv 3 (pb 3), tv 4 (.bool false), bv 2 (Xc a), bv 3 (Xc b)] (oT 3 oN) ?_
 refine Xe ?_
 rcases X7 (decide (a.num = b.num)) with h1 | h1
 ·
  have h1' := of_decide_eq_true h1
  refine rh [tv 4 (.bool (decide ((a.den : Int) = (b.den : Int))))] (oT 4 (oO (Jl (Xfq a.num b.num) (by rw [h1]) : CS Tryz.prog 102 [Xf a.num, Xf b.num] (.bool true)) (oT 1 (oO (Xh 1 trivial) (oO (Xh 1 trivial) (oO (Xh 1 trivial) (oO (Xh 1 trivial) (oO (Xh 2 (Xfq (a.den : Int) (b.den : Int))) (oT 2 (oA [.bool true, .bool (decide ((a.den : Int) = (b.den : Int)))] oN)))))))))) ?_
  refine Xg ?_
  exact X7i ((.bool (decide ((a.den : Int) = (b.den : Int))))) (congrArg AV.bool (decide_eq_decide.2 ⟨fun hc => Rat.ext (of_decide_eq_true h1) (by omega), fun hc => by rw [hc]⟩))
 ·
  have h1' := of_decide_eq_false h1
  refine rh [tv 4 (.bool false)] (oT 4 (oO (Jl (Xfq a.num b.num) (by rw [h1]) : CS Tryz.prog 102 [Xf a.num, Xf b.num] (.bool false)) (oT 1 (oO (gn [false]) (oO (gn [true]) (oO (gn [false]) (oO (gn [true]) (oO (gn [true, true]) (oT 2 (oA [.bool false, .bool (decide ((a.den : Int) = (b.den : Int)))] oN)))))))))) ?_
  refine Xg ?_
  exact X7i ((.bool false)) (congrArg AV.bool (decide_eq_false (fun hc => absurd (congrArg Rat.num hc) (by assumption))).symm)
theorem Xhg (a : Rat) (hs : X6p a ≤ 17179869184 := by omega) : CS Tryz.prog 31 [Xc a] (.bool true) := by
 have hqa := Xap a
 have da := den_pos a
 have hq : (decide (Int.sign ((a.den : Int)) = 1)) = true := decide_eq_true (Int.sign_eq_one_of_pos da)
 have l1 := Xdq 1 (by decide)
 have hg := Xpv a.num (a.den : Int)
 refine cO 26 Tryz.func31 ?_
 refine rt [tv 1 (pb 1), tv 2 (.bool false), bv 1 (Xc a)] (oT 2 oN) ?_
 refine Xe ?_
 refine rt [tv 1 (pb 1), tv 2 (.bool false), tv 18 (.bool (!(decide (Int.sign (a.den : Int) = 1)))), bv 1 (Xc a)] (oT 2 (oC (Xnt a.num) (oO (oB false) (oT 1 (oO (Xh 1 trivial) (oO (Xh 1 trivial) (oO (Xh 1 (Xnt (a.den : Int))) (oO (Xh 1 (oB false)) (oT 2 (oO (Xh 1 trivial) (oO (Xh 1 trivial) (oO (Xh 1 (Xip (a.den : Int))) (oO (Xh 1 (oB (!(decide (Int.sign (a.den : Int) = 1))))) (oT 1 (oA [.rptr (.bool false), .bool true, .rptr (.bool false), ki (Int.sign (a.den : Int)), cT (!(decide (Int.sign (a.den : Int) = 1)))] oN))))))))))))))) ?_
 refine cB ((!(decide (Int.sign (a.den : Int) = 1)))) (fun h1 => ?_) (fun h1 => ?_)
 ·
  have h1' := of_decide_eq_false (Xdt h1)
  refine rt [tv 1 (pb 1), tv 2 (.bool false), bv 1 (Xc a)] (oT 1 oN) ?_
  refine Xg ?_
  exact X7i ((.bool false)) (by exfalso; have := Int.sign_eq_one_of_pos da; omega)
 ·
  have h1' := of_decide_eq_true (Xas h1)
  refine Xn ?_
  refine rt [tv 2 (.bool (decide ((Int.gcd a.num (a.den : Int) : Int) = (1 : Int))))] (oT 4 (oC (Xm1 a.num (a.den : Int)) (oC Xpy (oC (Xfq (Int.gcd a.num (a.den : Int) : Int) (1 : Int)) (oT 1 oN))))) ?_
  refine Xg ?_
  exact X7i ((.bool (decide ((Int.gcd a.num (a.den : Int) : Int) = (1 : Int))))) (congrArg AV.bool (decide_eq_true (X2y a)))
theorem Xf9 (a r : Int) (h : Xji a = some r) (hs : X66 a ≤ 17179869184 := by omega) : CS Tryz.prog 213 [Xf a] (.tup [Xf r, .bool true]) := by
 obtain ⟨s1, s2, s3⟩ := Xgr.1 h
 have hr := Xih s3 (show r * r ≤ a by omega) (show a < (r + 1) * (r + 1) by rw [← s2]; grind)
 have hq := Xkg a s1
 have hm := Jm (Y1 a) (Y1 a)
 have q0 : (decide ((bif (decide (a < 0)) then (7 : Int) else 0) = 0)) = true := by rw [decide_eq_false (show ¬ a < 0 by omega)]; rfl
 have q1 : (decide ((Y1 a * Y1 a) = a)) = true := decide_eq_true (by rw [← hr]; omega)
 refine cO 21 Tryz.func213 ?_
 refine sh 3 [tv 2 (pb 2), tv 3 (.bool true), bv 2 (Xf (Y1 a))] (oS (oT 3 oN) (oS (oT 1 (oC (Xpt a) (oT 6 oN))) (oS (oT 2 (oO (aI trivial (q0 : (decide ((bif (decide (a < 0)) then (7 : Int) else 0) = 0)) = true)) (oT 1 (oO (Xh 1 trivial) (oO (Xh 1 trivial) (oO (Xh 2 (Xb8 (Y1 a) (Y1 a))) (oO (Xh 1 trivial) (oO (Xh 2 (Jl (Xfq (Y1 a * Y1 a) a) (by rw [q1]) : CS Tryz.prog 102 [Xf (Y1 a * Y1 a), Xf a] (.bool true))) (oT 3 (oA [cT true, Xf (Y1 a * Y1 a), .bool true] oN)))))))))) oN))) ?_
 refine Xg ?_
 exact X7i ((.tup [Xf (Y1 a), .bool true])) (by rw [hr])
theorem Xgh (a : Int) (h : Xji a = none) (hs : X66 a ≤ 17179869184 := by omega) : CS Tryz.prog 213 [Xf a] (.tup [Xf (Y1 a), .bool false]) := by
  have hq : X66 (Y1 a) ≤ X66 a := by
    by_cases h0 : 0 ≤ a
    · exact Xkg a h0
    · rw [Xmk (by omega), Xl8]; omega
  have hm := Jm (Y1 a) (Y1 a)
  have hno := Xt4 h
  refine cO 21 Tryz.func213 ?_
  refine sh 2 [tv 1 (pb 1), tv 2 (pb 2), tv 3 (.bool false), tv 4 (pb 4), tv 5 (ki (bif (decide (a < 0)) then (7 : Int) else 0)), bv 1 (Xf a), bv 2 zI, bv 4 (Xf (Y1 a))] (oS (oT 3 oN) (oS (oT 1 (oC (Xpt a) (oT 6 oN))) oN)) ?_
  refine Xe ?_
  rcases X7 (decide ((bif (decide (a < 0)) then (7 : Int) else 0) = 0)) with h1 | h1
  ·
    have h1' := of_decide_eq_true h1
    refine rh [tv 2 (pb 2), tv 3 (.bool (decide ((Y1 a * Y1 a) = a))), bv 2 (Xf (Y1 a))] (oT 2 (oO (aI trivial (h1 : (decide ((bif (decide (a < 0)) then (7 : Int) else 0) = 0)) = true)) (oT 1 (oO (Xh 1 trivial) (oO (Xh 1 trivial) (oO (Xh 2 (Xb8 (Y1 a) (Y1 a))) (oO (Xh 1 trivial) (oO (Xh 2 (Xfq (Y1 a * Y1 a) a)) (oT 3 (oA [cT true, Xf (Y1 a * Y1 a), .bool (decide ((Y1 a * Y1 a) = a))] oN)))))))))) ?_
    refine Xg ?_
    exact X7i ((.tup [Xf (Y1 a), .bool (decide ((Y1 a * Y1 a) = a))])) (congrArg (fun x => AV.tup [Xf (Y1 a), .bool x]) (decide_eq_false (fun hc => Xzo hno (by assumption) (by omega))))
  ·
    have h1' := of_decide_eq_false h1
    refine rh [tv 2 (pb 2), tv 3 (.bool false), bv 2 (Xf (Y1 a))] (oT 2 (oO (aI trivial (h1 : (decide ((bif (decide (a < 0)) then (7 : Int) else 0) = 0)) = false)) (oT 1 (oO (gn [false]) (oO (gn [false]) (oO (gn [true, true]) (oO (gn [false]) (oO (gn [true, true]) (oT 3 (oA [cT false, Xf (Y1 a * Y1 a), .bool (decide ((Y1 a * Y1 a) = a))] oN)))))))))) ?_
    refine Xg ?_
    exact X7i ((.tup [Xf (Y1 a), .bool false])) (rfl)
theorem Xir (a : Rat) (hs : X6p a ≤ 17179869184 := by omega) : CS Tryz.prog 131 [Xc a] (Xdr Xc zQ (.bool true) (.bool false) (Xg7 a)) := by
 have hqa := Xap a
 refine Xge (N := 30) X6y Tryz.func131 rfl rfl rfl rfl rfl (Xg1 _ _ _ _ _) ?_
 refine rt [tv 1 (pb 1), tv 2 (pb 2), tv 3 (.bool false), bv 1 (Xc a), bv 2 zQ] (oT 3 oN) ?_
 refine Xe ?_
 rcases Xbs (Xji a.num) with h1 | ⟨r2, h1⟩
 ·
  refine rh [tv 1 (pb 1), tv 2 (pb 2), tv 3 (.bool false), tv 4 (pb 4), tv 5 (.bool false), bv 1 (Xc a), bv 2 zQ, bv 4 (Xf (Y1 a.num))] (oT 2 (oC (Xgh a.num h1) (oT 2 (oO (oB false) (oT 3 (oA [.rptr (.bool false)] oN)))))) ?_
  refine Xe ?_
  rcases Xbs (Xji (a.den : Int)) with h3 | ⟨r4, h3⟩
  ·
   refine rh [tv 2 (pb 2), tv 3 (.bool false), tv 4 (pb 4), tv 5 (.bool false), tv 6 (pb 6), tv 7 (.bool false), bv 2 zQ, bv 4 (Xf (Y1 a.num)), bv 6 (Xf (Y1 (a.den : Int)))] (oT 2 (oC (Xgh (a.den : Int) h3) (oT 2 (oO (oB false) (oT 3 (oA [.rptr (.bool false)] oN)))))) ?_
   refine Xe ?_
   refine rt [tv 2 (pb 2), tv 3 (.bool false), tv 4 (pb 4), tv 6 (pb 6), tv 25 (.bool true), bv 2 zQ, bv 4 (Xf (Y1 a.num)), bv 6 (Xf (Y1 (a.den : Int)))] (oT 1 (oO (oB true) (oT 1 (oO (gn [false]) (oO (gn [true]) (oT 1 (oA [.rptr (.bool true), .rptr (.bool true)] oN))))))) ?_
   refine cB (true) (fun _ => ?_) (fun h => Bool.noConfusion h)
   refine rt [tv 2 (pb 2), tv 3 (.bool false), tv 4 (pb 4), tv 6 (pb 6), bv 2 zQ, bv 4 (Xf (Y1 a.num)), bv 6 (Xf (Y1 (a.den : Int)))] (oT 3 oN) ?_
   refine Xg ?_
   exact X7i ((.tup [zQ, .bool false])) (by unfold Xg7; rw [h1, h3]; rfl)
  ·
   refine rh [tv 2 (pb 2), tv 3 (.bool false), tv 4 (pb 4), tv 5 (.bool false), tv 6 (pb 6), tv 7 (.bool true), bv 2 zQ, bv 4 (Xf (Y1 a.num)), bv 6 (Xf r4)] (oT 2 (oC (Xf9 (a.den : Int) r4 h3) (oT 2 (oO (oB true) (oT 3 (oA [.rptr (.bool true)] oN)))))) ?_
   refine Xe ?_
   refine rt [tv 2 (pb 2), tv 3 (.bool false), tv 4 (pb 4), tv 6 (pb 6), tv 25 (.bool true), bv 2 zQ, bv 4 (Xf (Y1 a.num)), bv 6 (Xf r4)] (oT 1 (oO (oB true) (oT 1 (oO (gn [false]) (oO (gn [true]) (oT 1 (oA [.rptr (.bool true), .rptr (.bool false)] oN))))))) ?_
   refine cB (true) (fun _ => ?_) (fun h => Bool.noConfusion h)
   refine rt [tv 2 (pb 2), tv 3 (.bool false), tv 4 (pb 4), tv 6 (pb 6), bv 2 zQ, bv 4 (Xf (Y1 a.num)), bv 6 (Xf r4)] (oT 3 oN) ?_
   refine Xg ?_
   exact X7i ((.tup [zQ, .bool false])) (by unfold Xg7; rw [h1, h3]; rfl)
 ·
  refine rh [tv 1 (pb 1), tv 2 (pb 2), tv 3 (.bool false), tv 4 (pb 4), tv 5 (.bool true), bv 1 (Xc a), bv 2 zQ, bv 4 (Xf r2)] (oT 2 (oC (Xf9 a.num r2 h1) (oT 2 (oO (oB true) (oT 3 (oA [.rptr (.bool true)] oN)))))) ?_
  refine Xe ?_
  rcases Xbs (Xji (a.den : Int)) with h5 | ⟨r6, h5⟩
  ·
   refine rh [tv 2 (pb 2), tv 3 (.bool false), tv 4 (pb 4), tv 5 (.bool true), tv 6 (pb 6), tv 7 (.bool false), bv 2 zQ, bv 4 (Xf r2), bv 6 (Xf (Y1 (a.den : Int)))] (oT 2 (oC (Xgh (a.den : Int) h5) (oT 2 (oO (oB false) (oT 3 (oA [.rptr (.bool false)] oN)))))) ?_
   refine Xe ?_
   refine rt [tv 2 (pb 2), tv 3 (.bool false), tv 4 (pb 4), tv 6 (pb 6), tv 25 (.bool true), bv 2 zQ, bv 4 (Xf r2), bv 6 (Xf (Y1 (a.den : Int)))] (oT 1 (oO (oB false) (oT 1 (oO (Xh 1 trivial) (oO (Xh 1 (oB true)) (oT 1 (oA [.rptr (.bool false), .rptr (.bool true)] oN))))))) ?_
   refine cB (true) (fun _ => ?_) (fun h => Bool.noConfusion h)
   refine rt [tv 2 (pb 2), tv 3 (.bool false), tv 4 (pb 4), tv 6 (pb 6), bv 2 zQ, bv 4 (Xf r2), bv 6 (Xf (Y1 (a.den : Int)))] (oT 3 oN) ?_
   refine Xg ?_
   exact X7i ((.tup [zQ, .bool false])) (by unfold Xg7; rw [h1, h5]; rfl)
  ·
   refine rh [tv 2 (pb 2), tv 3 (.bool false), tv 4 (pb 4), tv 5 (.bool true), tv 6 (pb 6), tv 7 (.bool true), bv 2 zQ, bv 4 (Xf r2), bv 6 (Xf r6)] (oT 2 (oC (Xf9 (a.den : Int) r6 h5) (oT 2 (oO (oB true) (oT 3 (oA [.rptr (.bool true)] oN)))))) ?_
   refine Xe ?_
   refine rt [tv 2 (pb 2), tv 3 (.bool false), tv 4 (pb 4), tv 6 (pb 6), tv 25 (.bool false), bv 2 zQ, bv 4 (Xf r2), bv 6 (Xf r6)] (oT 1 (oO (oB false) (oT 1 (oO (Xh 1 trivial) (oO (Xh 1 (oB false)) (oT 1 (oA [.rptr (.bool false), .rptr (.bool false)] oN))))))) ?_
   refine cB (false) (fun h => Bool.noConfusion h) (fun _ => ?_)
   refine Xn ?_
   refine rt [tv 2 (pb 2), tv 3 (.bool true), bv 2 (.st [Xf r2, Xf r6])] (oT 5 oN) ?_
   refine Xg ?_
   exact X7i ((.tup [.st [Xf r2, Xf r6], .bool true])) (by unfold Xg7; rw [h1, h5]; exact congrArg (fun x => AV.tup [x, .bool true]) (Xtu h1 h5))
theorem Xbw (a b : Rat) : X6p (a + b) ≤ 1 * (X6p a + X6p b) + 1 := Xj1 a b
theorem Xch (a b : Rat) : X6p (a - b) ≤ 1 * (X6p a + X6p b) + 1 := Xnl a b
theorem Zb (a b : Rat) : X6p (a * b) ≤ 1 * (X6p a + X6p b) + 0 := Xmx a b
theorem Xe2 (a : Rat) : X6p (-a) ≤ 1 * X6p a + 0 := by rw [Xp5]; omega
theorem Xbb (n : Int) (h0 : -9223372036854775808 ≤ n := by omega) (h1 : n < 9223372036854775808 := by omega) : X6p ((n : Int) : Rat) ≤ 3 := by have := Xhj n; have := Xfi h0 (show n ≤ 18446744073709551615 by omega); omega
theorem Xo2 (a r : Rat) (h : Xg7 a = some r) : X6p r ≤ 1 * X6p a + 0 := Xwl a r h
theorem Xvy (a b : Rat) (hb : ¬ b = 0) : X6p (a / b) ≤ 1 * (X6p a + X6p b) + 0 := Xu3 a b
theorem Xpx (n d : Int) (h0 : -9223372036854775808 ≤ n := by omega) (h1 : n < 9223372036854775808 := by omega) (h2 : -9223372036854775808 ≤ d := by omega) (h3 : d < 9223372036854775808 := by omega) : X6p (Rat.divInt n d) ≤ 3 := by have := Xsr n d; have := Xfi h0 (show n ≤ 18446744073709551615 by omega); have := Xfi h2 (show d ≤ 18446744073709551615 by omega); omega
open Go Go.RowKit
@[ext] structure RootV where
  a : Rat
  b : Rat
  c : Rat

def Xl (x : RootV) : AV := .st [Xc x.a, Xc x.b, Xc x.c]
def RootV.ht (x : RootV) : Nat := X6p x.a + X6p x.b + X6p x.c
theorem RootV.htd (x : RootV) : RootV.ht x = X6p x.a + X6p x.b + X6p x.c := rfl
theorem RootV.htm (v0 : Rat) (v1 : Rat) (v2 : Rat) : RootV.ht ⟨v0, v1, v2⟩ = X6p v0 + X6p v1 + X6p v2 := rfl
@[ext] structure QuadV where
  a : Rat
  b : Rat
  c : Rat
  d : Rat
  m : Rat
  n : Rat

def Jn (x : QuadV) : AV := .st [Xc x.a, Xc x.b, Xc x.c, Xc x.d, Xc x.m, Xc x.n]
def QuadV.ht (x : QuadV) : Nat := X6p x.a + X6p x.b + X6p x.c + X6p x.d + X6p x.m + X6p x.n
theorem QuadV.htd (x : QuadV) : QuadV.ht x = X6p x.a + X6p x.b + X6p x.c + X6p x.d + X6p x.m + X6p x.n := rfl
theorem QuadV.htm (v0 : Rat) (v1 : Rat) (v2 : Rat) (v3 : Rat) (v4 : Rat) (v5 : Rat) : QuadV.ht ⟨v0, v1, v2, v3, v4, v5⟩ = X6p v0 + X6p v1 + X6p v2 + X6p v3 + X6p v4 + X6p v5 := rfl
@[ext] structure VecV where
  x : Rat
  y : Rat

def Xt (x : VecV) : AV := .st [Xc x.x, Xc x.y]
def VecV.ht (x : VecV) : Nat := X6p x.x + X6p x.y
theorem VecV.htd (x : VecV) : VecV.ht x = X6p x.x + X6p x.y := rfl
theorem VecV.htm (v0 : Rat) (v1 : Rat) : VecV.ht ⟨v0, v1⟩ = X6p v0 + X6p v1 := rfl
@[ext] structure PtV where
  ax : Rat
  bx : Rat
  ay : Rat
  byy : Rat
  c : Rat

def Xr (x : PtV) : AV := .st [Xc x.ax, Xc x.bx, Xc x.ay, Xc x.byy, Xc x.c]
def PtV.ht (x : PtV) : Nat := X6p x.ax + X6p x.bx + X6p x.ay + X6p x.byy + X6p x.c
theorem PtV.htd (x : PtV) : PtV.ht x = X6p x.ax + X6p x.bx + X6p x.ay + X6p x.byy + X6p x.c := rfl
theorem PtV.htm (v0 : Rat) (v1 : Rat) (v2 : Rat) (v3 : Rat) (v4 : Rat) : PtV.ht ⟨v0, v1, v2, v3, v4⟩ = X6p v0 + X6p v1 + X6p v2 + X6p v3 + X6p v4 := rfl
@[ext] structure LnV where
  a : Rat
  b : Rat
  c : Rat

def Xea (x : LnV) : AV := .st [Xc x.a, Xc x.b, Xc x.c]
def LnV.ht (x : LnV) : Nat := X6p x.a + X6p x.b + X6p x.c
theorem LnV.htd (x : LnV) : LnV.ht x = X6p x.a + X6p x.b + X6p x.c := rfl
theorem LnV.htm (v0 : Rat) (v1 : Rat) (v2 : Rat) : LnV.ht ⟨v0, v1, v2⟩ = X6p v0 + X6p v1 + X6p v2 := rfl
@[ext] structure CiV where
  x : Rat
  y : Rat
  q : Rat

def Xbf (x : CiV) : AV := .st [Xc x.x, Xc x.y, Xc x.q]
def CiV.ht (x : CiV) : Nat := X6p x.x + X6p x.y + X6p x.q
theorem CiV.htd (x : CiV) : CiV.ht x = X6p x.x + X6p x.y + X6p x.q := rfl
theorem CiV.htm (v0 : Rat) (v1 : Rat) (v2 : Rat) : CiV.ht ⟨v0, v1, v2⟩ = X6p v0 + X6p v1 + X6p v2 := rfl
@[ext] structure IvV where
  low : Int
  high : Int

def Xk (x : IvV) : AV := .st [ki x.low, ki x.high]
def IvV.ht (x : IvV) : Nat := 0
theorem IvV.htd (x : IvV) : IvV.ht x = 0 := rfl
@[ext] structure PrtV where
  a : Rat
  b : Rat

def PrtV.ht (x : PrtV) : Nat := X6p x.a + X6p x.b
theorem PrtV.htd (x : PrtV) : PrtV.ht x = X6p x.a + X6p x.b := rfl
theorem PrtV.htm (v0 : Rat) (v1 : Rat) : PrtV.ht ⟨v0, v1⟩ = X6p v0 + X6p v1 := rfl
@[ext] structure SpotV where
  x : Int
  y : Int
  d : Int

def Xcy (x : SpotV) : AV := .st [.int .i16 x.x, .int .i16 x.y, .int .u8 x.d]
def SpotV.ht (x : SpotV) : Nat := 0
theorem SpotV.htd (x : SpotV) : SpotV.ht x = 0 := rfl
@[ext] structure PlaceV where
  ax : Int
  bx : Int
  ay : Int
  byy : Int
  c : Int
  d : Int

def PlaceV.ht (x : PlaceV) : Nat := 0
theorem PlaceV.htd (x : PlaceV) : PlaceV.ht x = 0 := rfl
@[ext] structure DraftV where
  kind : Int
  unit : Int
  a : Int
  b : Int
  c : Int
  d : Int
  e : Int
  f : Int

def DraftV.ht (x : DraftV) : Nat := 0
theorem DraftV.htd (x : DraftV) : DraftV.ht x = 0 := rfl
@[ext] structure PieceV where
  d : DraftV
  byy : DraftV
  n : Int

def PieceV.ht (x : PieceV) : Nat := 0
theorem PieceV.htd (x : PieceV) : PieceV.ht x = 0 := rfl
structure SegV where
  l : LnV
  f : PtV
  t : PtV
structure ArcV where
  k : CiV
  cw : Bool
  f : PtV
  t : PtV
inductive CrvV where
  | seg (s : SegV)
  | arc (a : ArcV)
def Xvx : AV := .st [.st [.bool false, .sl 1 []], .st [.bool false, .sl 1 []]]
def X4d : AV := .st [Xvx, Xvx, Xvx]
def Xvf (s : SegV) : AV := .st [.bool false, Xea s.l, X4d, .bool false, Xr s.f, Xr s.t]
def Xox (a : ArcV) : AV := .st [.bool true, X4d, Xbf a.k, .bool a.cw, Xr a.f, Xr a.t]
def Xjk {α : Type} (c : CrvV) (f : SegV → α) (g : ArcV → α) : α := match c with
  | .seg s => f s
  | .arc a => g a
def CrvV.f (c : CrvV) : PtV := Xjk c SegV.f ArcV.f
def CrvV.t (c : CrvV) : PtV := Xjk c SegV.t ArcV.t
def Xxm (o : Option Rat) : AV := .st [.st [.bool (Xfb o (fun q => decide (q.num < 0)) false), .sl 1 (Xfb o (fun q => uw (Lm.digs q.num.natAbs)) [])], .st [.bool (Xfb o (fun q => decide ((q.den : Int) < 0)) false), .sl 1 (Xfb o (fun q => uw (Lm.digs (q.den : Int).natAbs)) [])]]
def X68 (c : CrvV) (f : LnV → Rat) : Option Rat := Xjk c (fun s => some (f s.l)) (fun _ => none)
def X7o (c : CrvV) (f : CiV → Rat) : Option Rat := Xjk c (fun _ => none) (fun a => some (f a.k))
def Xz (c : CrvV) : AV := .st [.bool (Xjk c (fun _ => false) (fun _ => true)), .st [Xxm (X68 c LnV.a), Xxm (X68 c LnV.b), Xxm (X68 c LnV.c)], .st [Xxm (X7o c CiV.x), Xxm (X7o c CiV.y), Xxm (X7o c CiV.q)], .bool (Xjk c (fun _ => false) ArcV.cw), Xr c.f, Xr c.t]
def SegV.ht (s : SegV) : Nat := s.l.ht + s.f.ht + s.t.ht
theorem SegV.htd (s : SegV) : SegV.ht s = s.l.ht + s.f.ht + s.t.ht := rfl
theorem SegV.htm (v0 : LnV) (v1 : PtV) (v2 : PtV) : SegV.ht ⟨v0, v1, v2⟩ = v0.ht + v1.ht + v2.ht := rfl
def ArcV.ht (a : ArcV) : Nat := a.k.ht + a.f.ht + a.t.ht
theorem ArcV.htd (a : ArcV) : ArcV.ht a = a.k.ht + a.f.ht + a.t.ht := rfl
theorem ArcV.htm (v0 : CiV) (v1 : Bool) (v2 : PtV) (v3 : PtV) : ArcV.ht ⟨v0, v1, v2, v3⟩ = v0.ht + v2.ht + v3.ht := rfl
def CrvV.ht (c : CrvV) : Nat := Xjk c SegV.ht ArcV.ht
theorem X3z (c : CrvV) : c.f.ht ≤ c.ht := by
  cases c with
  | seg s => show s.f.ht ≤ s.l.ht + s.f.ht + s.t.ht; omega
  | arc a => show a.f.ht ≤ a.k.ht + a.f.ht + a.t.ht; omega
theorem X5b (c : CrvV) : c.t.ht ≤ c.ht := by
  cases c with
  | seg s => show s.t.ht ≤ s.l.ht + s.f.ht + s.t.ht; omega
  | arc a => show a.t.ht ≤ a.k.ht + a.f.ht + a.t.ht; omega
theorem X23 (c : CrvV) : X7b (Xz c) = true := rfl
theorem X72 : ((∀ (α : Type) (a b : α), cond true a b = a) ∧ (∀ (α : Type) (a b : α), cond false a b = b)) ∧ ((!true) = false ∧ (!false) = true) ∧ ((∀ (α β : Type) (x : α) (f : α → β) (d : β), Xfb (some x) f d = f x) ∧ (∀ (α β : Type) (f : α → β) (d : β), Xfb none f d = d)) ∧ ((∀ (α : Type) (s : SegV) (f : SegV → α) (g : ArcV → α), Xjk (.seg s) f g = f s) ∧ (∀ (α : Type) (a : ArcV) (f : SegV → α) (g : ArcV → α), Xjk (.arc a) f g = g a)) :=
  ⟨⟨fun _ _ _ => rfl, fun _ _ _ => rfl⟩, ⟨rfl, rfl⟩, ⟨fun _ _ _ _ _ => rfl, fun _ _ _ _ => rfl⟩, ⟨fun _ _ _ _ => rfl, fun _ _ _ _ => rfl⟩⟩
def J5  : Rat := ((0 : Int) : Rat)
theorem Xnq  : X6p J5 ≤ 3 := by
 rw [show J5 = ((0 : Int) : Rat) by unfold J5; rfl]
 have := J4 0 (by omega) (by omega)
 omega
theorem Xjo  : CS Tryz.prog 157 [] (Xc J5) := by
 refine cO 2 Tryz.func157 ?_
 refine sh 2 [tv 0 (pb 0), bv 0 (Xc ((0 : Int) : Rat))] (oS (oT 1 oN) (oS (oC (Kr 0 (by omega) (by omega)) (oT 1 oN)) oN)) ?_
 exact Xg (lv Xc ((0 : Int) : Rat) (by unfold J5; rfl))
def Z6 (a : Rat) : RootV := (⟨a, J5, J5⟩ : RootV)
theorem Xfd (a : Rat) : RootV.ht (Z6 a) ≤ 1 * X6p a + 6 := by
 rw [show (Z6 a) = (⟨a, J5, J5⟩ : RootV) by unfold Z6; rfl]
 have := Xnq 
 have := RootV.htm a J5 J5
 omega
theorem Xfa (a : Rat) : CS Tryz.prog 71 [Xc a] (Xl (Z6 a)) := by
 refine cO 7 Tryz.func71 ?_
 refine sh 2 [tv 2 (pb 2), bv 2 (Xl (⟨a, J5, J5⟩ : RootV))] (oS (oT 2 oN) (oS (oT 1 (oC Xjo (oC Xjo (oT 2 oN)))) oN)) ?_
 exact Xg (lv Xl (⟨a, J5, J5⟩ : RootV) (by unfold Z6; rfl))
def Xac (a : Rat) (b : Rat) (c : Rat) : RootV := (bif (decide (Int.sign (Rat.num b) = 0)) then (⟨a, b, J5⟩ : RootV) else (⟨a, b, c⟩ : RootV))
theorem Xow (a : Rat) (b : Rat) (c : Rat) : RootV.ht (Xac a b c) ≤ 1 * (X6p a + X6p b + X6p c) + 3 := by
 rcases X7 (decide (Int.sign (Rat.num b) = 0)) with k2 | k2
 ·
  rw [show (Xac a b c) = (⟨a, b, J5⟩ : RootV) by unfold Xac; simp only [k2, X72]]
  have := Xnq 
  have := RootV.htm a b J5
  omega
 ·
  rw [show (Xac a b c) = (⟨a, b, c⟩ : RootV) by unfold Xac; simp only [k2, X72]]
  have := RootV.htm a b c
  omega
theorem Xpp (a : Rat) (b : Rat) (c : Rat) : CS Tryz.prog 224 [Xc a, Xc b, Xc c] (Xl (Xac a b c)) := by
 refine cO 15 Tryz.func224 ?_
 refine rt [tv 3 (pb 3), tv 4 (pb 4), tv 5 (pb 5), tv 6 (pb 6), bv 3 (Xc a), bv 4 (Xc b), bv 5 (Xc c), bv 6 X61] (oT 4 oN) ?_
 refine Xe ?_
 refine rt [tv 3 (pb 3), tv 4 (pb 4), tv 5 (pb 5), tv 6 (pb 6), tv 9 (.bool (decide (Int.sign (Rat.num b) = 0))), bv 3 (Xc a), bv 4 (Xc b), bv 5 (Xc c), bv 6 X61] (oT 1 (oC (Yd b) (oO (oB (decide (Int.sign (Rat.num b) = 0))) (oA [cT (decide (Int.sign (Rat.num b) = 0))] oN)))) ?_
 refine cB (decide (Int.sign (Rat.num b) = 0)) (fun h1 => ?_) (fun h1 => ?_)
 ·
  have h1' := of_decide_eq_true h1
  refine rh [tv 3 (pb 3), tv 4 (pb 4), tv 5 (pb 5), tv 6 (pb 6), bv 3 (Xc a), bv 4 (Xc b), bv 5 (Xc J5), bv 6 X61] (oC Xjo (oT 1 oN)) ?_
  refine rt [tv 6 (pb 6), bv 6 (Xl (⟨a, b, J5⟩ : RootV))] (oT 5 oN) ?_
  exact Xg (lv Xl (⟨a, b, J5⟩ : RootV) (by unfold Xac; simp only [h1, X72]))
 ·
  have h1' := of_decide_eq_false h1
  refine Xn ?_
  refine rt [tv 6 (pb 6), bv 6 (Xl (⟨a, b, c⟩ : RootV))] (oT 5 oN) ?_
  exact Xg (lv Xl (⟨a, b, c⟩ : RootV) (by unfold Xac; simp only [h1, X72]))
def Kt (a : Rat) (b : Rat) (c : Rat) : (Option RootV) := (bif (decide (Int.sign (Rat.num c) < 0)) then none else (Xfb (Xg7 c) (fun r3 => (some (Z6 (a + (b * r3))))) (some (Xac a b c))))
theorem Xue (a : Rat) (b : Rat) (c : Rat) : ∀ ro, Kt a b c = some ro → RootV.ht ro ≤ 1 * (X6p a + X6p b + X6p c) + 7 := by
 rcases X7 (decide (Int.sign (Rat.num c) < 0)) with k4 | k4
 ·
  intro ro hr; unfold Kt at hr; simp only [k4, X72] at hr; cases hr
 ·
  rcases Xbs (Xg7 c) with k5 | ⟨r3, k5⟩
  ·
   intro ro hr; unfold Kt at hr; simp only [k4, k5, X72] at hr; cases hr
   have := Xow a b c
   omega
  ·
   intro ro hr; unfold Kt at hr; simp only [k4, k5, X72] at hr; cases hr
   have := Xjb c _ k5
   have := X8 b r3
   have := Xa5 a (b * r3)
   have := Xfd (a + (b * r3))
   omega
theorem Xny (a : Rat) (b : Rat) (c : Rat) (hs : X6p a + X6p b + X6p c ≤ 17179869184) : CS Tryz.prog 158 [Xc a, Xc b, Xc c] (Xdr Xl X61 (ki 0) (ki 7) (Kt a b c)) := by
 refine Xge (N := 30) X6y Tryz.func158 rfl rfl rfl rfl rfl (Xg1 _ _ _ _ _) ?_
 refine rt [tv 3 (pb 3), tv 4 (pb 4), tv 5 (pb 5), tv 6 (pb 6), tv 7 (ki 0), bv 3 (Xc a), bv 4 (Xc b), bv 5 (Xc c), bv 6 X61] (oT 5 oN) ?_
 refine Xe ?_
 refine rt [tv 3 (pb 3), tv 4 (pb 4), tv 5 (pb 5), tv 6 (pb 6), tv 7 (ki 0), tv 12 (.bool (decide (Int.sign (Rat.num c) < 0))), bv 3 (Xc a), bv 4 (Xc b), bv 5 (Xc c), bv 6 X61] (oT 1 (oC (Yd c) (oO (oB (decide (Int.sign (Rat.num c) < 0))) (oA [cT (decide (Int.sign (Rat.num c) < 0))] oN)))) ?_
 refine cB (decide (Int.sign (Rat.num c) < 0)) (fun h1 => ?_) (fun h1 => ?_)
 ·
  have h1' := of_decide_eq_true h1
  refine rt [tv 3 (pb 3), tv 4 (pb 4), tv 5 (pb 5), tv 6 (pb 6), tv 7 (ki 7), bv 3 (Xc a), bv 4 (Xc b), bv 5 (Xc c), bv 6 X61] (oT 3 oN) ?_
  refine Xg ?_
  have hl : (Kt a b c) = none := by unfold Kt; simp only [h1, X72]
  show Xca TL _ _ = some (Xdr Xl X61 (ki 0) (ki 7) (Kt a b c))
  rw [hl]; kernel_rfl
 ·
  have h1' := of_decide_eq_false h1
  refine Xn ?_
  refine Xe ?_
  refine Xe ?_
  rcases Xbs (Xg7 c) with h2 | ⟨r3, h2⟩
  ·
   refine rh [tv 3 (pb 3), tv 4 (pb 4), tv 5 (pb 5), tv 6 (pb 6), tv 7 (ki 0), tv 8 (pb 8), tv 9 (.bool false), bv 3 (Xc a), bv 4 (Xc b), bv 5 (Xc c), bv 6 X61, bv 8 zQ] (oT 1 (oO (Jl (Xjh c (by omega)) (by rw [h2]; rfl) : CS Tryz.prog 223 [Xc c] (.tup [zQ, .bool false])) (oT 2 (oO (oB false) (oT 3 (oA [.tup [zQ, .bool false], .rptr (.bool false)] oN)))))) ?_
   refine rt [tv 3 (pb 3), tv 4 (pb 4), tv 5 (pb 5), tv 6 (pb 6), tv 7 (ki 0), tv 8 (pb 8), tv 19 (.bool false), bv 3 (Xc a), bv 4 (Xc b), bv 5 (Xc c), bv 6 X61, bv 8 zQ] (oT 1 oN) ?_
   refine cB (false) (fun h => Bool.noConfusion h) (fun _ => ?_)
   refine Xn ?_
   refine rt [tv 6 (pb 6), tv 7 (ki 0), bv 6 (Xl (Xac a b c))] (oT 3 (oC (Xpp a b c) (oT 2 oN))) ?_
   refine Xg ?_
   have hl : (Kt a b c) = (some (Xac a b c)) := by unfold Kt; simp only [h1, h2, X72]
   show Xca TL _ _ = some (Xdr Xl X61 (ki 0) (ki 7) (Kt a b c))
   rw [hl]; kernel_rfl
  ·
   refine rh [tv 3 (pb 3), tv 4 (pb 4), tv 5 (pb 5), tv 6 (pb 6), tv 7 (ki 0), tv 8 (pb 8), tv 9 (.bool true), bv 3 (Xc a), bv 4 (Xc b), bv 5 (Xc c), bv 6 X61, bv 8 (Xc r3)] (oT 1 (oO (Jl (Xjh c (by omega)) (by rw [h2]; rfl) : CS Tryz.prog 223 [Xc c] (.tup [Xc r3, .bool true])) (oT 2 (oO (oB true) (oT 3 (oA [.tup [Xc r3, .bool true], .rptr (.bool true)] oN)))))) ?_
   refine rt [tv 3 (pb 3), tv 4 (pb 4), tv 5 (pb 5), tv 6 (pb 6), tv 7 (ki 0), tv 8 (pb 8), tv 19 (.bool true), bv 3 (Xc a), bv 4 (Xc b), bv 5 (Xc c), bv 6 X61, bv 8 (Xc r3)] (oT 1 oN) ?_
   refine cB (true) (fun _ => ?_) (fun h => Bool.noConfusion h)
   refine Xe ?_
   have := Xjb c _ h2
   have := X8 b r3
   refine rh [tv 3 (pb 3), tv 4 (pb 4), tv 5 (pb 5), tv 6 (pb 6), tv 7 (ki 0), bv 3 (Xc a), bv 4 (Xc b), bv 5 (Xc c), bv 6 (Xl (Z6 (a + (b * r3))))] (oT 3 (oC (Zf b r3 (by omega)) (oC (Xaq a (b * r3) (by omega)) (oC (Xfa (a + (b * r3))) (oT 2 oN))))) ?_
   refine Xg ?_
   have hl : (Kt a b c) = (some (Z6 (a + (b * r3)))) := by unfold Kt; simp only [h1, h2, X72]
   show Xca TL _ _ = some (Xdr Xl X61 (ki 0) (ki 7) (Kt a b c))
   rw [hl]; kernel_rfl
theorem Xe9 (a b : Rat) (hs : X6p a + X6p b ≤ 17179869184) : CS Tryz.prog 75 [Xc a, Xc b] (Xc (a + b)) := by
 refine cO 8 Tryz.func75 ?_
 refine sh 2 [tv 4 (pb 4), bv 4 (Xc (a + b))] (oS (oT 3 oN) (oS (oT 2 (oC (Xaq a b (by omega)) (oT 1 oN))) oN)) ?_
 refine Xg ?_
 exact X7i ((Xc (a + b))) (rfl)
theorem Xcc (a b : Rat) : X6p (a + b) ≤ 1 * (X6p a + X6p b) + 1 := Xj1 a b
theorem Xgw (a b : Rat) (hs : X6p a + X6p b ≤ 17179869184) : CS Tryz.prog 112 [Xc a, Xc b] (Xc (a - b)) := by
 refine cO 8 Tryz.func112 ?_
 refine sh 2 [tv 4 (pb 4), bv 4 (Xc (a - b))] (oS (oT 3 oN) (oS (oT 2 (oC (K9 a b (by omega)) (oT 1 oN))) oN)) ?_
 refine Xg ?_
 exact X7i ((Xc (a - b))) (rfl)
theorem Xg3 (a b : Rat) : X6p (a - b) ≤ 1 * (X6p a + X6p b) + 1 := Xnl a b
theorem Xaa (a b : Rat) (hs : X6p a + X6p b ≤ 17179869184) : CS Tryz.prog 77 [Xc a, Xc b] (Xc (a * b)) := by
 refine cO 8 Tryz.func77 ?_
 refine sh 2 [tv 4 (pb 4), bv 4 (Xc (a * b))] (oS (oT 3 oN) (oS (oT 2 (oC (Zf a b (by omega)) (oT 1 oN))) oN)) ?_
 refine Xg ?_
 exact X7i ((Xc (a * b))) (rfl)
theorem Z1 (a b : Rat) : X6p (a * b) ≤ 1 * (X6p a + X6p b) + 0 := Xmx a b
def Xq (a : VecV) (b : VecV) : Rat := ((a.x * b.x) + (a.y * b.y))
theorem Ko (a : VecV) (b : VecV) : X6p (Xq a b) ≤ 1 * (VecV.ht a + VecV.ht b) + 1 := by
 rw [show (Xq a b) = ((a.x * b.x) + (a.y * b.y)) by unfold Xq; rfl]
 have := VecV.htd a
 have := VecV.htd b
 have := Z1 a.x b.x
 have := Z1 a.y b.y
 have := Xcc (a.x * b.x) (a.y * b.y)
 omega
theorem Xcd (a : VecV) (b : VecV) (hs : VecV.ht a + VecV.ht b ≤ 17179869184) : CS Tryz.prog 72 [Xt a, Xt b] (Xc (Xq a b)) := by
 refine cO 16 Tryz.func72 ?_
 have := VecV.htd a
 have := VecV.htd b
 have := Z1 a.x b.x
 have := Z1 a.y b.y
 refine sh 2 [tv 4 (pb 4), bv 4 (Xc ((a.x * b.x) + (a.y * b.y)))] (oS (oT 3 oN) (oS (oT 4 (oC (Xaa a.x b.x (by omega)) (oT 4 (oC (Xaa a.y b.y (by omega)) (oC (Xe9 (a.x * b.x) (a.y * b.y) (by omega)) (oT 1 oN)))))) oN)) ?_
 exact Xg (lv Xc ((a.x * b.x) + (a.y * b.y)) (by unfold Xq; rfl))
def Xbc (v : VecV) : Bool := (bif (decide (Int.sign (Rat.num v.x) = 0)) then (decide (Int.sign (Rat.num v.y) = 0)) else false)
theorem Xoa (v : VecV) : CS Tryz.prog 86 [Xt v] (.bool (Xbc v)) := by
 refine cO 13 Tryz.func86 ?_
 refine rt [tv 1 (pb 1), tv 2 (.bool false), bv 1 (Xt v)] (oT 2 oN) ?_
 refine Xe ?_
 rcases X7 (decide (Int.sign (Rat.num v.x) = 0)) with h1 | h1
 ·
  have h1' := of_decide_eq_true h1
  refine rh [tv 2 (.bool (decide (Int.sign (Rat.num v.y) = 0)))] (oT 2 (oC (Yd v.x) (oO (aI trivial (h1 : (decide (Int.sign (Rat.num v.x) = 0)) = true)) (oT 1 (oO (Xh 1 trivial) (oO (Xh 1 trivial) (oO (Xh 1 (Yd v.y)) (oO (Xh 1 (oB (decide (Int.sign (Rat.num v.y) = 0)))) (oT 2 (oA [cT true, ki (Int.sign (Rat.num v.y)), cT (decide (Int.sign (Rat.num v.y) = 0))] oN)))))))))) ?_
  exact Xg (lv AV.bool (decide (Int.sign (Rat.num v.y) = 0)) (by unfold Xbc; simp only [h1, X72]))
 ·
  have h1' := of_decide_eq_false h1
  refine rh [tv 2 (.bool false)] (oT 2 (oC (Yd v.x) (oO (aI trivial (h1 : (decide (Int.sign (Rat.num v.x) = 0)) = false)) (oT 1 (oO (gn [false]) (oO (gn [true]) (oO (gn [true]) (oO (gn [true]) (oT 2 (oA [cT false, ki (Int.sign (Rat.num v.y)), cT (decide (Int.sign (Rat.num v.y) = 0))] oN)))))))))) ?_
  exact Xg (lv AV.bool false (by unfold Xbc; simp only [h1, X72]))
def Ya (a : Rat) (b : Rat) : Rat := (Xfb (Xsp a b) (fun r2 => r2) ((0 : Int) : Rat))
theorem Xeq (a : Rat) (b : Rat) : X6p (Ya a b) ≤ 1 * (X6p a + X6p b) + 3 := by
 rcases Xbs (Xsp a b) with k3 | ⟨r2, k3⟩
 ·
  rw [show (Ya a b) = ((0 : Int) : Rat) by unfold Ya; simp only [k3, X72]]
  have := J4 0 (by omega) (by omega)
  omega
 ·
  rw [show (Ya a b) = r2 by unfold Ya; simp only [k3, X72]]
  have := Xjn a b _ k3
  omega
theorem Xi9 (a : Rat) (b : Rat) (hs : X6p a + X6p b ≤ 17179869184) : CS Tryz.prog 87 [Xc a, Xc b] (Xc (Ya a b)) := by
 refine cO 17 Tryz.func87 ?_
 refine rt [tv 2 (pb 2), tv 3 (pb 3), tv 4 (pb 4), bv 2 (Xc a), bv 3 (Xc b), bv 4 zQ] (oT 3 oN) ?_
 refine Xe ?_
 rcases Xbs (Xsp a b) with h1 | ⟨r2, h1⟩
 ·
  refine rh [tv 4 (pb 4), tv 5 (pb 5), tv 6 (ki 6), bv 4 zQ, bv 5 zQ] (oT 2 (oO (Jl (Xe5 a b (by omega)) (by rw [h1]; rfl) : CS Tryz.prog 170 [Xc a, Xc b] (.tup [zQ, ki 6])) (oT 6 (oA [.tup [zQ, ki 6]] oN)))) ?_
  refine Xe ?_
  refine rt [tv 4 (pb 4), tv 5 (pb 5), tv 14 (.bool true), bv 4 zQ, bv 5 zQ] (oT 1 (oO (aI trivial (by decide : (!(decide ((6 : Int) = 0))) = true)) (oA [cT true] oN))) ?_
  refine cB (true) (fun _ => ?_) (fun h => Bool.noConfusion h)
  refine rt [tv 4 (pb 4), tv 5 (pb 5), bv 4 (Xc ((0 : Int) : Rat)), bv 5 zQ] (oC (Kr 0 (by omega) (by omega)) (oT 1 oN)) ?_
  exact Xg (lv Xc ((0 : Int) : Rat) (by unfold Ya; simp only [h1, X72]))
 ·
  refine rh [tv 4 (pb 4), tv 5 (pb 5), tv 6 (ki 0), bv 4 zQ, bv 5 (Xc r2)] (oT 2 (oO (Jl (Xe5 a b (by omega)) (by rw [h1]; rfl) : CS Tryz.prog 170 [Xc a, Xc b] (.tup [Xc r2, ki 0])) (oT 6 (oA [.tup [Xc r2, ki 0]] oN)))) ?_
  refine Xe ?_
  refine rt [tv 4 (pb 4), tv 5 (pb 5), tv 14 (.bool false), bv 4 zQ, bv 5 (Xc r2)] (oT 1 (oO (aI trivial (by decide : (!(decide ((0 : Int) = 0))) = false)) (oA [cT false] oN))) ?_
  refine cB (false) (fun h => Bool.noConfusion h) (fun _ => ?_)
  refine Xn ?_
  refine rt [tv 4 (pb 4), bv 4 (Xc r2)] (oT 2 oN) ?_
  exact Xg (lv Xc r2 (by unfold Ya; simp only [h1, X72]))
def Yp (a : Rat) (b : Rat) (c : Rat) : RootV := (Xfb (Kt a b c) (fun r2 => r2) (Z6 a))
theorem Xbd (a : Rat) (b : Rat) (c : Rat) : RootV.ht (Yp a b c) ≤ 1 * (X6p a + X6p b + X6p c) + 7 := by
 rcases Xbs (Kt a b c) with k3 | ⟨r2, k3⟩
 ·
  rw [show (Yp a b c) = (Z6 a) by unfold Yp; simp only [k3, X72]]
  have := Xfd a
  omega
 ·
  rw [show (Yp a b c) = r2 by unfold Yp; simp only [k3, X72]]
  have := Xue a b c _ k3
  omega
theorem Xcf (a : Rat) (b : Rat) (c : Rat) (hs : X6p a + X6p b + X6p c ≤ 17179869184) : CS Tryz.prog 74 [Xc a, Xc b, Xc c] (Xl (Yp a b c)) := by
 refine cO 21 Tryz.func74 ?_
 refine rt [tv 3 (pb 3), tv 4 (pb 4), tv 5 (pb 5), tv 6 (pb 6), bv 3 (Xc a), bv 4 (Xc b), bv 5 (Xc c), bv 6 X61] (oT 4 oN) ?_
 refine Xe ?_
 rcases Xbs (Kt a b c) with h1 | ⟨r2, h1⟩
 ·
  refine rh [tv 3 (pb 3), tv 6 (pb 6), tv 7 (pb 7), tv 8 (ki 7), bv 3 (Xc a), bv 6 X61, bv 7 X61] (oT 3 (oO (Jl (Xny a b c (by omega)) (by rw [h1]; rfl) : CS Tryz.prog 158 [Xc a, Xc b, Xc c] (.tup [X61, ki 7])) (oT 6 (oA [.tup [X61, ki 7]] oN)))) ?_
  refine Xe ?_
  refine rt [tv 3 (pb 3), tv 6 (pb 6), tv 7 (pb 7), tv 17 (.bool true), bv 3 (Xc a), bv 6 X61, bv 7 X61] (oT 1 (oO (aI trivial (by decide : (!(decide ((7 : Int) = 0))) = true)) (oA [cT true] oN))) ?_
  refine cB (true) (fun _ => ?_) (fun h => Bool.noConfusion h)
  refine rt [tv 6 (pb 6), tv 7 (pb 7), bv 6 (Xl (Z6 a)), bv 7 X61] (oT 1 (oC (Xfa a) (oT 1 oN))) ?_
  exact Xg (lv Xl (Z6 a) (by unfold Yp; simp only [h1, X72]))
 ·
  refine rh [tv 3 (pb 3), tv 6 (pb 6), tv 7 (pb 7), tv 8 (ki 0), bv 3 (Xc a), bv 6 X61, bv 7 (Xl r2)] (oT 3 (oO (Jl (Xny a b c (by omega)) (by rw [h1]; rfl) : CS Tryz.prog 158 [Xc a, Xc b, Xc c] (.tup [Xl r2, ki 0])) (oT 6 (oA [.tup [Xl r2, ki 0]] oN)))) ?_
  refine Xe ?_
  refine rt [tv 3 (pb 3), tv 6 (pb 6), tv 7 (pb 7), tv 17 (.bool false), bv 3 (Xc a), bv 6 X61, bv 7 (Xl r2)] (oT 1 (oO (aI trivial (by decide : (!(decide ((0 : Int) = 0))) = false)) (oA [cT false] oN))) ?_
  refine cB (false) (fun h => Bool.noConfusion h) (fun _ => ?_)
  refine Xn ?_
  refine rt [tv 6 (pb 6), bv 6 (Xl r2)] (oT 2 oN) ?_
  exact Xg (lv Xl r2 (by unfold Yp; simp only [h1, X72]))
def Xb (a : VecV) (b : VecV) : VecV := (⟨b.x - a.x, b.y - a.y⟩ : VecV)
theorem Yz (a : VecV) (b : VecV) : VecV.ht (Xb a b) ≤ 1 * (VecV.ht a + VecV.ht b) + 2 := by
 rw [show (Xb a b) = (⟨b.x - a.x, b.y - a.y⟩ : VecV) by unfold Xb; rfl]
 have := VecV.htd b
 have := VecV.htd a
 have := Xg3 b.x a.x
 have := Xg3 b.y a.y
 have := VecV.htm (b.x - a.x) (b.y - a.y)
 omega
theorem Kl (a : VecV) (b : VecV) (hs : VecV.ht a + VecV.ht b ≤ 17179869184) : CS Tryz.prog 69 [Xt a, Xt b] (Xt (Xb a b)) := by
 refine cO 16 Tryz.func69 ?_
 have := VecV.htd b
 have := VecV.htd a
 refine sh 2 [tv 4 (pb 4), bv 4 (Xt (⟨b.x - a.x, b.y - a.y⟩ : VecV))] (oS (oT 3 oN) (oS (oT 4 (oC (Xgw b.x a.x (by omega)) (oT 4 (oC (Xgw b.y a.y (by omega)) (oT 2 oN))))) oN)) ?_
 exact Xg (lv Xt (⟨b.x - a.x, b.y - a.y⟩ : VecV) (by unfold Xb; rfl))
def Xo (a : VecV) (b : VecV) : Rat := ((a.x * b.y) - (a.y * b.x))
theorem Xh5 (a : VecV) (b : VecV) : X6p (Xo a b) ≤ 1 * (VecV.ht a + VecV.ht b) + 1 := by
 rw [show (Xo a b) = ((a.x * b.y) - (a.y * b.x)) by unfold Xo; rfl]
 have := VecV.htd a
 have := VecV.htd b
 have := Z1 a.x b.y
 have := Z1 a.y b.x
 have := Xg3 (a.x * b.y) (a.y * b.x)
 omega
theorem Xbm (a : VecV) (b : VecV) (hs : VecV.ht a + VecV.ht b ≤ 17179869184) : CS Tryz.prog 181 [Xt a, Xt b] (Xc (Xo a b)) := by
 refine cO 16 Tryz.func181 ?_
 have := VecV.htd a
 have := VecV.htd b
 have := Z1 a.x b.y
 have := Z1 a.y b.x
 refine sh 2 [tv 4 (pb 4), bv 4 (Xc ((a.x * b.y) - (a.y * b.x)))] (oS (oT 3 oN) (oS (oT 4 (oC (Xaa a.x b.y (by omega)) (oT 4 (oC (Xaa a.y b.x (by omega)) (oC (Xgw (a.x * b.y) (a.y * b.x) (by omega)) (oT 1 oN)))))) oN)) ?_
 exact Xg (lv Xc ((a.x * b.y) - (a.y * b.x)) (by unfold Xo; rfl))
def Xav  : Rat := ((0 : Int) : Rat)
theorem Xvu  : X6p Xav ≤ 3 := by
 rw [show Xav = ((0 : Int) : Rat) by unfold Xav; rfl]
 have := Xbb 0 (by omega) (by omega)
 omega
theorem Xpc  : CS Tryz.prog 145 [] (Xc Xav) := by
 refine cO 2 Tryz.func145 ?_
 refine sh 2 [tv 0 (pb 0), bv 0 (Xc ((0 : Int) : Rat))] (oS (oT 1 oN) (oS (oC (Kk 0 (by omega) (by omega)) (oT 1 oN)) oN)) ?_
 exact Xg (lv Xc ((0 : Int) : Rat) (by unfold Xav; rfl))
def Y9 (a : Rat) : RootV := (⟨a, Xav, Xav⟩ : RootV)
theorem Xeh (a : Rat) : RootV.ht (Y9 a) ≤ 1 * X6p a + 6 := by
 rw [show (Y9 a) = (⟨a, Xav, Xav⟩ : RootV) by unfold Y9; rfl]
 have := Xvu 
 have := RootV.htm a Xav Xav
 omega
theorem Xel (a : Rat) : CS Tryz.prog 57 [Xc a] (Xl (Y9 a)) := by
 refine cO 7 Tryz.func57 ?_
 refine sh 2 [tv 2 (pb 2), bv 2 (Xl (⟨a, Xav, Xav⟩ : RootV))] (oS (oT 2 oN) (oS (oT 1 (oC Xpc (oC Xpc (oT 2 oN)))) oN)) ?_
 exact Xg (lv Xl (⟨a, Xav, Xav⟩ : RootV) (by unfold Y9; rfl))
def Z4 (a : Rat) (b : Rat) (c : Rat) : RootV := (bif (decide (Int.sign (Rat.num b) = 0)) then (Y9 a) else (bif (decide (Int.sign (Rat.num c) = 0)) then (Y9 a) else (⟨a, b, c⟩ : RootV)))
theorem Xhs (a : Rat) (b : Rat) (c : Rat) : RootV.ht (Z4 a b c) ≤ 1 * (X6p a + X6p b + X6p c) + 6 := by
 rcases X7 (decide (Int.sign (Rat.num b) = 0)) with k3 | k3
 ·
  rw [show (Z4 a b c) = (Y9 a) by unfold Z4; simp only [k3, X72]]
  have := Xeh a
  omega
 ·
  rcases X7 (decide (Int.sign (Rat.num c) = 0)) with k4 | k4
  ·
   rw [show (Z4 a b c) = (Y9 a) by unfold Z4; simp only [k3, k4, X72]]
   have := Xeh a
   omega
  ·
   rw [show (Z4 a b c) = (⟨a, b, c⟩ : RootV) by unfold Z4; simp only [k3, k4, X72]]
   have := RootV.htm a b c
   omega
theorem Xhr (a : Rat) (b : Rat) (c : Rat) : CS Tryz.prog 133 [Xc a, Xc b, Xc c] (Xl (Z4 a b c)) := by
 refine cO 21 Tryz.func133 ?_
 refine rt [tv 3 (pb 3), tv 4 (pb 4), tv 5 (pb 5), tv 6 (pb 6), bv 3 (Xc a), bv 4 (Xc b), bv 5 (Xc c), bv 6 X61] (oT 4 oN) ?_
 refine Xe ?_
 refine Xe ?_
 rcases X7 (decide (Int.sign (Rat.num b) = 0)) with h1 | h1
 ·
  have h1' := of_decide_eq_true h1
  refine rh [tv 3 (pb 3), tv 4 (pb 4), tv 5 (pb 5), tv 6 (pb 6), tv 14 (.bool true), bv 3 (Xc a), bv 4 (Xc b), bv 5 (Xc c), bv 6 X61] (oT 1 (oC (Za b) (oO (aI trivial (h1 : (decide (Int.sign (Rat.num b) = 0)) = true)) (oT 1 (oO (gn [false]) (oO (gn [true]) (oO (gn [true]) (oT 1 (oA [cT true, ki (Int.sign (Rat.num c)), cT (decide (Int.sign (Rat.num c) = 0))] oN))))))))) ?_
  refine cB (true) (fun _ => ?_) (fun h => Bool.noConfusion h)
  refine rt [tv 3 (pb 3), tv 4 (pb 4), tv 5 (pb 5), tv 6 (pb 6), bv 3 (Xc a), bv 4 (Xc b), bv 5 (Xc c), bv 6 (Xl (Y9 a))] (oT 1 (oC (Xel a) (oT 1 oN))) ?_
  exact Xg (lv Xl (Y9 a) (by unfold Z4; simp only [h1, X72]))
 ·
  have h1' := of_decide_eq_false h1
  refine rh [tv 3 (pb 3), tv 4 (pb 4), tv 5 (pb 5), tv 6 (pb 6), tv 14 (.bool (decide (Int.sign (Rat.num c) = 0))), bv 3 (Xc a), bv 4 (Xc b), bv 5 (Xc c), bv 6 X61] (oT 1 (oC (Za b) (oO (aI trivial (h1 : (decide (Int.sign (Rat.num b) = 0)) = false)) (oT 1 (oO (Xh 1 trivial) (oO (Xh 1 (Za c)) (oO (Xh 1 (oB (decide (Int.sign (Rat.num c) = 0)))) (oT 1 (oA [cT false, ki (Int.sign (Rat.num c)), cT (decide (Int.sign (Rat.num c) = 0))] oN))))))))) ?_
  refine cB (decide (Int.sign (Rat.num c) = 0)) (fun h2 => ?_) (fun h2 => ?_)
  ·
   have h2' := of_decide_eq_true h2
   refine rt [tv 3 (pb 3), tv 4 (pb 4), tv 5 (pb 5), tv 6 (pb 6), bv 3 (Xc a), bv 4 (Xc b), bv 5 (Xc c), bv 6 (Xl (Y9 a))] (oT 1 (oC (Xel a) (oT 1 oN))) ?_
   exact Xg (lv Xl (Y9 a) (by unfold Z4; simp only [h1, h2, X72]))
  ·
   have h2' := of_decide_eq_false h2
   refine Xn ?_
   refine rt [tv 6 (pb 6), bv 6 (Xl (⟨a, b, c⟩ : RootV))] (oT 5 oN) ?_
   exact Xg (lv Xl (⟨a, b, c⟩ : RootV) (by unfold Z4; simp only [h1, h2, X72]))
def Kj (a : Rat) (b : Rat) (c : Rat) : (Option RootV) := (bif (decide (Int.sign (Rat.num c) < 0)) then none else (Xfb (Xg7 c) (fun r3 => (some (Y9 (a + (b * r3))))) (some (Z4 a b c))))
theorem Xqb (a : Rat) (b : Rat) (c : Rat) : ∀ ro, Kj a b c = some ro → RootV.ht ro ≤ 1 * (X6p a + X6p b + X6p c) + 7 := by
 rcases X7 (decide (Int.sign (Rat.num c) < 0)) with k4 | k4
 ·
  intro ro hr; unfold Kj at hr; simp only [k4, X72] at hr; cases hr
 ·
  rcases Xbs (Xg7 c) with k5 | ⟨r3, k5⟩
  ·
   intro ro hr; unfold Kj at hr; simp only [k4, k5, X72] at hr; cases hr
   have := Xhs a b c
   omega
  ·
   intro ro hr; unfold Kj at hr; simp only [k4, k5, X72] at hr; cases hr
   have := Xo2 c _ k5
   have := Zb b r3
   have := Xbw a (b * r3)
   have := Xeh (a + (b * r3))
   omega
theorem Xpj (a : Rat) (b : Rat) (c : Rat) (hs : X6p a + X6p b + X6p c ≤ 17179869184) : CS Tryz.prog 49 [Xc a, Xc b, Xc c] (Xdr Xl X61 (ki 0) (ki 7) (Kj a b c)) := by
 refine Xge (N := 30) X6y Tryz.func49 rfl rfl rfl rfl rfl (Xg1 _ _ _ _ _) ?_
 refine rt [tv 3 (pb 3), tv 4 (pb 4), tv 5 (pb 5), tv 6 (pb 6), tv 7 (ki 0), bv 3 (Xc a), bv 4 (Xc b), bv 5 (Xc c), bv 6 X61] (oT 5 oN) ?_
 refine Xe ?_
 refine rt [tv 3 (pb 3), tv 4 (pb 4), tv 5 (pb 5), tv 6 (pb 6), tv 7 (ki 0), tv 12 (.bool (decide (Int.sign (Rat.num c) < 0))), bv 3 (Xc a), bv 4 (Xc b), bv 5 (Xc c), bv 6 X61] (oT 1 (oC (Za c) (oO (oB (decide (Int.sign (Rat.num c) < 0))) (oA [cT (decide (Int.sign (Rat.num c) < 0))] oN)))) ?_
 refine cB (decide (Int.sign (Rat.num c) < 0)) (fun h1 => ?_) (fun h1 => ?_)
 ·
  have h1' := of_decide_eq_true h1
  refine rt [tv 3 (pb 3), tv 4 (pb 4), tv 5 (pb 5), tv 6 (pb 6), tv 7 (ki 7), bv 3 (Xc a), bv 4 (Xc b), bv 5 (Xc c), bv 6 X61] (oT 3 oN) ?_
  refine Xg ?_
  have hl : (Kj a b c) = none := by unfold Kj; simp only [h1, X72]
  show Xca TL _ _ = some (Xdr Xl X61 (ki 0) (ki 7) (Kj a b c))
  rw [hl]; kernel_rfl
 ·
  have h1' := of_decide_eq_false h1
  refine Xn ?_
  refine Xe ?_
  refine Xe ?_
  rcases Xbs (Xg7 c) with h2 | ⟨r3, h2⟩
  ·
   refine rh [tv 3 (pb 3), tv 4 (pb 4), tv 5 (pb 5), tv 6 (pb 6), tv 7 (ki 0), tv 8 (pb 8), tv 9 (.bool false), bv 3 (Xc a), bv 4 (Xc b), bv 5 (Xc c), bv 6 X61, bv 8 zQ] (oT 1 (oO (Jl (Xir c (by omega)) (by rw [h2]; rfl) : CS Tryz.prog 131 [Xc c] (.tup [zQ, .bool false])) (oT 2 (oO (oB false) (oT 3 (oA [.tup [zQ, .bool false], .rptr (.bool false)] oN)))))) ?_
   refine rt [tv 3 (pb 3), tv 4 (pb 4), tv 5 (pb 5), tv 6 (pb 6), tv 7 (ki 0), tv 8 (pb 8), tv 19 (.bool false), bv 3 (Xc a), bv 4 (Xc b), bv 5 (Xc c), bv 6 X61, bv 8 zQ] (oT 1 oN) ?_
   refine cB (false) (fun h => Bool.noConfusion h) (fun _ => ?_)
   refine Xn ?_
   refine rt [tv 6 (pb 6), tv 7 (ki 0), bv 6 (Xl (Z4 a b c))] (oT 3 (oC (Xhr a b c) (oT 2 oN))) ?_
   refine Xg ?_
   have hl : (Kj a b c) = (some (Z4 a b c)) := by unfold Kj; simp only [h1, h2, X72]
   show Xca TL _ _ = some (Xdr Xl X61 (ki 0) (ki 7) (Kj a b c))
   rw [hl]; kernel_rfl
  ·
   refine rh [tv 3 (pb 3), tv 4 (pb 4), tv 5 (pb 5), tv 6 (pb 6), tv 7 (ki 0), tv 8 (pb 8), tv 9 (.bool true), bv 3 (Xc a), bv 4 (Xc b), bv 5 (Xc c), bv 6 X61, bv 8 (Xc r3)] (oT 1 (oO (Jl (Xir c (by omega)) (by rw [h2]; rfl) : CS Tryz.prog 131 [Xc c] (.tup [Xc r3, .bool true])) (oT 2 (oO (oB true) (oT 3 (oA [.tup [Xc r3, .bool true], .rptr (.bool true)] oN)))))) ?_
   refine rt [tv 3 (pb 3), tv 4 (pb 4), tv 5 (pb 5), tv 6 (pb 6), tv 7 (ki 0), tv 8 (pb 8), tv 19 (.bool true), bv 3 (Xc a), bv 4 (Xc b), bv 5 (Xc c), bv 6 X61, bv 8 (Xc r3)] (oT 1 oN) ?_
   refine cB (true) (fun _ => ?_) (fun h => Bool.noConfusion h)
   refine Xe ?_
   have := Xo2 c _ h2
   have := Zb b r3
   refine rh [tv 3 (pb 3), tv 4 (pb 4), tv 5 (pb 5), tv 6 (pb 6), tv 7 (ki 0), bv 3 (Xc a), bv 4 (Xc b), bv 5 (Xc c), bv 6 (Xl (Y9 (a + (b * r3))))] (oT 3 (oC (Ke b r3 (by omega)) (oC (Xby a (b * r3) (by omega)) (oC (Xel (a + (b * r3))) (oT 2 oN))))) ?_
   refine Xg ?_
   have hl : (Kj a b c) = (some (Y9 (a + (b * r3)))) := by unfold Kj; simp only [h1, h2, X72]
   show Xca TL _ _ = some (Xdr Xl X61 (ki 0) (ki 7) (Kj a b c))
   rw [hl]; kernel_rfl
def Kv (a : Rat) : Rat := (a * a)
theorem Xl6 (a : Rat) : X6p (Kv a) ≤ 2 * X6p a + 0 := by
 rw [show (Kv a) = (a * a) by unfold Kv; rfl]
 have := Zb a a
 omega
theorem Xmn (a : Rat) (hs : X6p a ≤ 8589934592) : CS Tryz.prog 162 [Xc a] (Xc (Kv a)) := by
 refine cO 6 Tryz.func162 ?_
 refine sh 2 [tv 2 (pb 2), bv 2 (Xc (a * a))] (oS (oT 2 oN) (oS (oT 2 (oC (Ke a a (by omega)) (oT 1 oN))) oN)) ?_
 exact Xg (lv Xc (a * a) (by unfold Kv; rfl))
def Xc7 (r : RootV) : Rat := (Kv r.a - (Kv r.b * r.c))
theorem Xup (r : RootV) (hs : RootV.ht r ≤ 8589934592) : CS Tryz.prog 79 [Xl r] (Xc (Xc7 r)) := by
 refine cO 13 Tryz.func79 ?_
 have := RootV.htd r
 have := Xl6 r.b
 have := Xl6 r.a
 have := Zb (Kv r.b) r.c
 refine sh 2 [tv 2 (pb 2), bv 2 (Xc (Kv r.a - (Kv r.b * r.c)))] (oS (oT 2 oN) (oS (oT 2 (oC (Xmn r.a (by omega)) (oT 2 (oC (Xmn r.b (by omega)) (oT 2 (oC (Ke (Kv r.b) r.c (by omega)) (oC (Xc5 (Kv r.a) (Kv r.b * r.c) (by omega)) (oT 1 oN)))))))) oN)) ?_
 exact Xg (lv Xc (Kv r.a - (Kv r.b * r.c)) (by unfold Xc7; rfl))
def Jo (r : RootV) : Int := (bif (decide (Int.sign (Rat.num r.a) = Int.sign (Rat.num r.b))) then (Int.sign (Rat.num r.a)) else (bif (decide (Int.sign (Rat.num r.b) = 0)) then (Int.sign (Rat.num r.a)) else (bif (decide (Int.sign (Rat.num r.a) = 0)) then (Int.sign (Rat.num r.b)) else (bif (decide (0 < Int.sign (Rat.num (Xc7 r)))) then (Int.sign (Rat.num r.a)) else (Int.sign (Rat.num r.b))))))
theorem Xut (r : RootV) : -1 ≤ Jo r ∧ Jo r ≤ 1 := by
 rcases X7 (decide (Int.sign (Rat.num r.a) = Int.sign (Rat.num r.b))) with k5 | k5
 ·
  rw [show (Jo r) = (Int.sign (Rat.num r.a)) by unfold Jo; simp only [k5, X72]]
  have := (Xbh (Rat.num r.a))
  omega
 ·
  rcases X7 (decide (Int.sign (Rat.num r.b) = 0)) with k6 | k6
  ·
   rw [show (Jo r) = (Int.sign (Rat.num r.a)) by unfold Jo; simp only [k5, k6, X72]]
   have := (Xbh (Rat.num r.a))
   omega
  ·
   rcases X7 (decide (Int.sign (Rat.num r.a) = 0)) with k7 | k7
   ·
    rw [show (Jo r) = (Int.sign (Rat.num r.b)) by unfold Jo; simp only [k5, k6, k7, X72]]
    have := (Xbh (Rat.num r.b))
    omega
   ·
    rcases X7 (decide (0 < Int.sign (Rat.num (Xc7 r)))) with k8 | k8
    ·
     rw [show (Jo r) = (Int.sign (Rat.num r.a)) by unfold Jo; simp only [k5, k6, k7, k8, X72]]
     have := (Xbh (Rat.num r.a))
     omega
    ·
     rw [show (Jo r) = (Int.sign (Rat.num r.b)) by unfold Jo; simp only [k5, k6, k7, k8, X72]]
     have := (Xbh (Rat.num r.b))
     omega
theorem Xqe (r : RootV) (hs : RootV.ht r ≤ 8589934592) : CS Tryz.prog 18 [Xl r] (ki (Jo r)) := by
 refine cO 28 Tryz.func18 ?_
 refine sh 2 [tv 1 (pb 1), tv 2 (ki 0), tv 3 (ki (Int.sign (Rat.num r.a))), tv 4 (ki (Int.sign (Rat.num r.b))), bv 1 (Xl r)] (oS (oT 2 oN) (oS (oT 2 (oC (Za r.a) (oT 2 (oC (Za r.b) (oT 2 oN))))) oN)) ?_
 refine Xe ?_
 refine Xe ?_
 rcases X7 (decide (Int.sign (Rat.num r.a) = Int.sign (Rat.num r.b))) with h1 | h1
 ·
  have h1' := of_decide_eq_true h1
  refine rh [tv 1 (pb 1), tv 2 (ki 0), tv 3 (ki (Int.sign (Rat.num r.a))), tv 4 (ki (Int.sign (Rat.num r.b))), tv 17 (.bool true), bv 1 (Xl r)] (oT 2 (oO (aI trivial (h1 : (decide (Int.sign (Rat.num r.a) = Int.sign (Rat.num r.b))) = true)) (oT 1 (oO (gn [false]) (oO (gn [true]) (oT 1 (oA [cT true, cT (decide (Int.sign (Rat.num r.b) = 0))] oN))))))) ?_
  refine cB (true) (fun _ => ?_) (fun h => Bool.noConfusion h)
  refine rt [tv 1 (pb 1), tv 2 (ki (Int.sign (Rat.num r.a))), tv 3 (ki (Int.sign (Rat.num r.a))), tv 4 (ki (Int.sign (Rat.num r.b))), bv 1 (Xl r)] (oT 2 oN) ?_
  exact Xg (lv ki (Int.sign (Rat.num r.a)) (by unfold Jo; simp only [h1, X72]))
 ·
  have h1' := of_decide_eq_false h1
  refine rh [tv 1 (pb 1), tv 2 (ki 0), tv 3 (ki (Int.sign (Rat.num r.a))), tv 4 (ki (Int.sign (Rat.num r.b))), tv 17 (.bool (decide (Int.sign (Rat.num r.b) = 0))), bv 1 (Xl r)] (oT 2 (oO (aI trivial (h1 : (decide (Int.sign (Rat.num r.a) = Int.sign (Rat.num r.b))) = false)) (oT 1 (oO (Xh 1 trivial) (oO (Xh 1 (oB (decide (Int.sign (Rat.num r.b) = 0)))) (oT 1 (oA [cT false, cT (decide (Int.sign (Rat.num r.b) = 0))] oN))))))) ?_
  refine cB (decide (Int.sign (Rat.num r.b) = 0)) (fun h2 => ?_) (fun h2 => ?_)
  ·
   have h2' := of_decide_eq_true h2
   refine rt [tv 1 (pb 1), tv 2 (ki (Int.sign (Rat.num r.a))), tv 3 (ki (Int.sign (Rat.num r.a))), tv 4 (ki (Int.sign (Rat.num r.b))), bv 1 (Xl r)] (oT 2 oN) ?_
   exact Xg (lv ki (Int.sign (Rat.num r.a)) (by unfold Jo; simp only [h1, h2, X72]))
  ·
   have h2' := of_decide_eq_false h2
   refine Xn ?_
   refine Xe ?_
   refine rt [tv 1 (pb 1), tv 2 (ki 0), tv 3 (ki (Int.sign (Rat.num r.a))), tv 4 (ki (Int.sign (Rat.num r.b))), tv 20 (.bool (decide (Int.sign (Rat.num r.a) = 0))), bv 1 (Xl r)] (oT 1 (oO (oB (decide (Int.sign (Rat.num r.a) = 0))) (oA [cT (decide (Int.sign (Rat.num r.a) = 0))] oN))) ?_
   refine cB (decide (Int.sign (Rat.num r.a) = 0)) (fun h3 => ?_) (fun h3 => ?_)
   ·
    have h3' := of_decide_eq_true h3
    refine rt [tv 1 (pb 1), tv 2 (ki (Int.sign (Rat.num r.b))), tv 3 (ki (Int.sign (Rat.num r.a))), tv 4 (ki (Int.sign (Rat.num r.b))), bv 1 (Xl r)] (oT 2 oN) ?_
    exact Xg (lv ki (Int.sign (Rat.num r.b)) (by unfold Jo; simp only [h1, h2, h3, X72]))
   ·
    have h3' := of_decide_eq_false h3
    refine Xn ?_
    refine Xe ?_
    refine rt [tv 2 (ki 0), tv 3 (ki (Int.sign (Rat.num r.a))), tv 4 (ki (Int.sign (Rat.num r.b))), tv 25 (.bool (decide (0 < Int.sign (Rat.num (Xc7 r)))))] (oT 1 (oC (Xup r (by omega)) (oC (Za (Xc7 r)) (oO (oB (decide (0 < Int.sign (Rat.num (Xc7 r))))) (oA [cT (decide (0 < Int.sign (Rat.num (Xc7 r))))] oN))))) ?_
    refine cB (decide (0 < Int.sign (Rat.num (Xc7 r)))) (fun h4 => ?_) (fun h4 => ?_)
    ·
     have h4' := of_decide_eq_true h4
     refine rt [tv 2 (ki (Int.sign (Rat.num r.a))), tv 4 (ki (Int.sign (Rat.num r.b)))] (oT 2 oN) ?_
     exact Xg (lv ki (Int.sign (Rat.num r.a)) (by unfold Jo; simp only [h1, h2, h3, h4, X72]))
    ·
     have h4' := of_decide_eq_false h4
     refine Xn ?_
     refine rt [tv 2 (ki (Int.sign (Rat.num r.b)))] (oT 2 oN) ?_
     exact Xg (lv ki (Int.sign (Rat.num r.b)) (by unfold Jo; simp only [h1, h2, h3, h4, X72]))
def Xb5 (r : RootV) (a : Rat) : RootV := (⟨r.a + a, r.b, r.c⟩ : RootV)
theorem Xr4 (r : RootV) (a : Rat) : RootV.ht (Xb5 r a) ≤ 1 * (RootV.ht r + X6p a) + 1 := by
 rw [show (Xb5 r a) = (⟨r.a + a, r.b, r.c⟩ : RootV) by unfold Xb5; rfl]
 have := RootV.htd r
 have := Xbw r.a a
 have := RootV.htm (r.a + a) r.b r.c
 omega
theorem Xsd (r : RootV) (a : Rat) (hs : RootV.ht r + X6p a ≤ 17179869184) : CS Tryz.prog 266 [Xl r, Xc a] (Xl (Xb5 r a)) := by
 refine cO 14 Tryz.func266 ?_
 have := RootV.htd r
 refine sh 2 [tv 4 (pb 4), bv 4 (Xl (⟨r.a + a, r.b, r.c⟩ : RootV))] (oS (oT 3 oN) (oS (oT 3 (oC (Xby r.a a (by omega)) (oT 6 oN))) oN)) ?_
 exact Xg (lv Xl (⟨r.a + a, r.b, r.c⟩ : RootV) (by unfold Xb5; rfl))
def Xa7 (n : Int) : RootV := (Y9 ((n : Int) : Rat))
theorem Xm3 (n : Int) (h0 : -9223372036854775808 ≤ n) (h1 : n < 9223372036854775808) : RootV.ht (Xa7 n) ≤ 9 := by
 rw [show (Xa7 n) = (Y9 ((n : Int) : Rat)) by unfold Xa7; rfl]
 have := Xbb n (by omega) (by omega)
 have := Xeh ((n : Int) : Rat)
 omega
theorem Xm4 (n : Int) (h0 : -9223372036854775808 ≤ n) (h1 : n < 9223372036854775808) : CS Tryz.prog 51 [ki n] (Xl (Xa7 n)) := by
 refine cO 6 Tryz.func51 ?_
 refine sh 2 [tv 2 (pb 2), bv 2 (Xl (Y9 ((n : Int) : Rat)))] (oS (oT 1 oN) (oS (oT 1 (oC (Kk n (by omega) (by omega)) (oC (Xel ((n : Int) : Rat)) (oT 1 oN)))) oN)) ?_
 exact Xg (lv Xl (Y9 ((n : Int) : Rat)) (by unfold Xa7; rfl))
def X2 (r : RootV) (s : RootV) : (Rat × Bool) := (bif (decide (Int.sign (Rat.num r.b) = 0)) then (s.c, true) else (bif (decide (Int.sign (Rat.num s.b) = 0)) then (r.c, true) else (r.c, (decide (Xb3 r.c s.c = 0)))))
theorem Xgv (r : RootV) (s : RootV) : X6p ((X2 r s).1) ≤ 1 * (RootV.ht r + RootV.ht s) + 0 := by
 rcases X7 (decide (Int.sign (Rat.num r.b) = 0)) with k3 | k3
 ·
  rw [show (X2 r s) = (s.c, true) by unfold X2; simp only [k3, X72]]
  have := RootV.htd s
  dsimp only
  omega
 ·
  rcases X7 (decide (Int.sign (Rat.num s.b) = 0)) with k4 | k4
  ·
   rw [show (X2 r s) = (r.c, true) by unfold X2; simp only [k3, k4, X72]]
   have := RootV.htd r
   dsimp only
   omega
  ·
   rw [show (X2 r s) = (r.c, (decide (Xb3 r.c s.c = 0))) by unfold X2; simp only [k3, k4, X72]]
   have := RootV.htd r
   dsimp only
   omega
theorem Xly (r : RootV) (s : RootV) (hs : RootV.ht r + RootV.ht s ≤ 17179869184) : CS Tryz.prog 215 [Xl r, Xl s] (.tup [Xc (X2 r s).1, .bool (X2 r s).2]) := by
 refine cO 26 Tryz.func215 ?_
 refine rt [tv 2 (pb 2), tv 3 (pb 3), tv 4 (pb 4), tv 5 (.bool false), bv 2 (Xl r), bv 3 (Xl s), bv 4 zQ] (oT 4 oN) ?_
 refine Xe ?_
 refine rt [tv 2 (pb 2), tv 3 (pb 3), tv 4 (pb 4), tv 5 (.bool false), tv 9 (.bool (decide (Int.sign (Rat.num r.b) = 0))), bv 2 (Xl r), bv 3 (Xl s), bv 4 zQ] (oT 2 (oC (Za r.b) (oO (oB (decide (Int.sign (Rat.num r.b) = 0))) (oA [cT (decide (Int.sign (Rat.num r.b) = 0))] oN)))) ?_
 refine cB (decide (Int.sign (Rat.num r.b) = 0)) (fun h1 => ?_) (fun h1 => ?_)
 ·
  have h1' := of_decide_eq_true h1
  refine rt [tv 2 (pb 2), tv 3 (pb 3), tv 4 (pb 4), tv 5 (.bool true), bv 2 (Xl r), bv 3 (Xl s), bv 4 (Xc s.c)] (oT 4 oN) ?_
  refine Xg ?_
  have hl : (X2 r s) = (s.c, true) := by unfold X2; simp only [h1, X72]
  show Xca TL _ _ = some (.tup [Xc (X2 r s).1, .bool (X2 r s).2])
  rw [hl]; kernel_rfl
 ·
  have h1' := of_decide_eq_false h1
  refine Xn ?_
  refine Xe ?_
  rcases X7 (decide (Int.sign (Rat.num s.b) = 0)) with h2 | h2
  ·
   have h2' := of_decide_eq_true h2
   refine rh [tv 4 (pb 4), tv 5 (.bool true), bv 4 (Xc r.c)] (oT 4 (oC (Za s.b) (oO (aI trivial (h2 : (decide (Int.sign (Rat.num s.b) = 0)) = true)) (oT 1 (oO (gn [false]) (oO (gn [true]) (oO (gn [false]) (oO (gn [true]) (oO (gn [true, true]) (oO (gn [true]) (oT 3 (oA [cT true, ki (Xb3 r.c s.c), cT (decide (Xb3 r.c s.c = 0))] oN)))))))))))) ?_
   refine Xg ?_
   have hl : (X2 r s) = (r.c, true) := by unfold X2; simp only [h1, h2, X72]
   show Xca TL _ _ = some (.tup [Xc (X2 r s).1, .bool (X2 r s).2])
   rw [hl]; kernel_rfl
  ·
   have h2' := of_decide_eq_false h2
   have := RootV.htd r
   have := RootV.htd s
   refine rh [tv 4 (pb 4), tv 5 (.bool (decide (Xb3 r.c s.c = 0))), bv 4 (Xc r.c)] (oT 4 (oC (Za s.b) (oO (aI trivial (h2 : (decide (Int.sign (Rat.num s.b) = 0)) = false)) (oT 1 (oO (Xh 1 trivial) (oO (Xh 1 trivial) (oO (Xh 1 trivial) (oO (Xh 1 trivial) (oO (Xh 2 (Xh2 r.c s.c (by omega))) (oO (Xh 1 (oB (decide (Xb3 r.c s.c = 0)))) (oT 3 (oA [cT false, ki (Xb3 r.c s.c), cT (decide (Xb3 r.c s.c = 0))] oN)))))))))))) ?_
   refine Xg ?_
   have hl : (X2 r s) = (r.c, (decide (Xb3 r.c s.c = 0))) := by unfold X2; simp only [h1, h2, X72]
   show Xca TL _ _ = some (.tup [Xc (X2 r s).1, .bool (X2 r s).2])
   rw [hl]; kernel_rfl
open Go Go.RowKit
def Xay (r : RootV) (s : RootV) : (Option RootV) := (bif (!(X2 r s).2) then none else (some (Z4 ((r.a * s.a) + ((r.b * s.b) * ((X2 r s).1))) ((r.a * s.b) + (r.b * s.a)) ((X2 r s).1))))
theorem Xx8 (r : RootV) (s : RootV) : ∀ ro, Xay r s = some ro → RootV.ht ro ≤ 4 * (RootV.ht r + RootV.ht s) + 8 := by
 rcases X7 (!(X2 r s).2) with k2 | k2
 ·
  intro ro hr; unfold Xay at hr; simp only [k2, X72] at hr; cases hr
 ·
  intro ro hr; unfold Xay at hr; simp only [k2, X72] at hr; cases hr
  have := RootV.htd r
  have := RootV.htd s
  have := Zb r.a s.a
  have := Zb r.b s.b
  have := Xgv r s
  have := Zb (r.b * s.b) ((X2 r s).1)
  have := Xbw (r.a * s.a) ((r.b * s.b) * ((X2 r s).1))
  have := Zb r.a s.b
  have := Zb r.b s.a
  have := Xbw (r.a * s.b) (r.b * s.a)
  have := Xhs ((r.a * s.a) + ((r.b * s.b) * ((X2 r s).1))) ((r.a * s.b) + (r.b * s.a)) ((X2 r s).1)
  omega
theorem Xxf (r : RootV) (s : RootV) (hs : RootV.ht r + RootV.ht s ≤ 8589934592) : CS Tryz.prog 209 [Xl r, Xl s] (Xdr Xl X61 (ki 0) (ki 1) (Xay r s)) := by
 refine Xge (N := 47) X6y Tryz.func209 rfl rfl rfl rfl rfl (Xg1 _ _ _ _ _) ?_
 refine sh 2 [tv 2 (pb 2), tv 3 (pb 3), tv 4 (pb 4), tv 5 (ki 0), tv 6 (pb 6), tv 7 (.bool (X2 r s).2), bv 2 (Xl r), bv 3 (Xl s), bv 4 X61, bv 6 (Xc (X2 r s).1)] (oS (oT 4 oN) (oS (oT 2 (oC (Xly r s (by omega)) (oT 2 (oO (oB ((X2 r s).2)) (oT 3 (oA [.rptr (.bool (X2 r s).2)] oN)))))) oN)) ?_
 refine Xe ?_
 refine rt [tv 2 (pb 2), tv 3 (pb 3), tv 4 (pb 4), tv 5 (ki 0), tv 6 (pb 6), tv 17 (.bool (!(X2 r s).2)), bv 2 (Xl r), bv 3 (Xl s), bv 4 X61, bv 6 (Xc (X2 r s).1)] (oT 1 (oO (oB (!(X2 r s).2)) (oA [.rptr (.bool (!(X2 r s).2))] oN))) ?_
 refine cB ((!(X2 r s).2)) (fun h1 => ?_) (fun h1 => ?_)
 ·
  refine rt [tv 2 (pb 2), tv 3 (pb 3), tv 4 (pb 4), tv 5 (ki 1), tv 6 (pb 6), bv 2 (Xl r), bv 3 (Xl s), bv 4 X61, bv 6 (Xc (X2 r s).1)] (oT 3 oN) ?_
  refine Xg ?_
  have hl : (Xay r s) = none := by unfold Xay; simp only [h1, Xdt h1, X72]
  show Xca TL _ _ = some (Xdr Xl X61 (ki 0) (ki 1) (Xay r s))
  rw [hl]; kernel_rfl
 ·
  refine Xn ?_
  have := RootV.htd r
  have := RootV.htd s
  have := Zb r.b s.b
  have := Xgv r s
  have := Zb r.a s.a
  have := Zb (r.b * s.b) ((X2 r s).1)
  have := RootV.htd r
  have := RootV.htd s
  have := Zb r.a s.b
  have := Zb r.b s.a
  refine sh 3 [tv 4 (pb 4), tv 5 (ki 0), bv 4 (Xl (Z4 ((r.a * s.a) + ((r.b * s.b) * ((X2 r s).1))) ((r.a * s.b) + (r.b * s.a)) ((X2 r s).1)))] (oS (oT 4 (oC (Ke r.a s.a (by omega)) (oT 4 (oC (Ke r.b s.b (by omega)) (oT 1 (oC (Ke (r.b * s.b) ((X2 r s).1) (by omega)) (oC (Xby (r.a * s.a) ((r.b * s.b) * ((X2 r s).1)) (by omega)) (oT 2 oN)))))))) (oS (oT 4 (oC (Ke r.a s.b (by omega)) (oT 4 (oC (Ke r.b s.a (by omega)) (oC (Xby (r.a * s.b) (r.b * s.a) (by omega)) (oT 2 oN)))))) (oS (oT 3 (oC (Xhr ((r.a * s.a) + ((r.b * s.b) * ((X2 r s).1))) ((r.a * s.b) + (r.b * s.a)) ((X2 r s).1)) (oT 2 oN))) oN))) ?_
  refine Xg ?_
  have hl : (Xay r s) = (some (Z4 ((r.a * s.a) + ((r.b * s.b) * ((X2 r s).1))) ((r.a * s.b) + (r.b * s.a)) ((X2 r s).1))) := by unfold Xay; simp only [h1, Xas h1, X72]
  show Xca TL _ _ = some (Xdr Xl X61 (ki 0) (ki 1) (Xay r s))
  rw [hl]; kernel_rfl
def Xbl (r : RootV) (s : RootV) : (Option RootV) := (bif (!(X2 r s).2) then none else (some (Z4 (r.a + s.a) (r.b + s.b) ((X2 r s).1))))
theorem Xx7 (r : RootV) (s : RootV) : ∀ ro, Xbl r s = some ro → RootV.ht ro ≤ 2 * (RootV.ht r + RootV.ht s) + 8 := by
 rcases X7 (!(X2 r s).2) with k2 | k2
 ·
  intro ro hr; unfold Xbl at hr; simp only [k2, X72] at hr; cases hr
 ·
  intro ro hr; unfold Xbl at hr; simp only [k2, X72] at hr; cases hr
  have := RootV.htd r
  have := RootV.htd s
  have := Xbw r.a s.a
  have := Xbw r.b s.b
  have := Xgv r s
  have := Xhs (r.a + s.a) (r.b + s.b) ((X2 r s).1)
  omega
theorem Xxk (r : RootV) (s : RootV) (hs : RootV.ht r + RootV.ht s ≤ 17179869184) : CS Tryz.prog 137 [Xl r, Xl s] (Xdr Xl X61 (ki 0) (ki 1) (Xbl r s)) := by
 refine Xge (N := 29) X6y Tryz.func137 rfl rfl rfl rfl rfl (Xg1 _ _ _ _ _) ?_
 refine sh 2 [tv 2 (pb 2), tv 3 (pb 3), tv 4 (pb 4), tv 5 (ki 0), tv 6 (pb 6), tv 7 (.bool (X2 r s).2), bv 2 (Xl r), bv 3 (Xl s), bv 4 X61, bv 6 (Xc (X2 r s).1)] (oS (oT 4 oN) (oS (oT 2 (oC (Xly r s (by omega)) (oT 2 (oO (oB ((X2 r s).2)) (oT 3 (oA [.rptr (.bool (X2 r s).2)] oN)))))) oN)) ?_
 refine Xe ?_
 refine rt [tv 2 (pb 2), tv 3 (pb 3), tv 4 (pb 4), tv 5 (ki 0), tv 6 (pb 6), tv 15 (.bool (!(X2 r s).2)), bv 2 (Xl r), bv 3 (Xl s), bv 4 X61, bv 6 (Xc (X2 r s).1)] (oT 1 (oO (oB (!(X2 r s).2)) (oA [.rptr (.bool (!(X2 r s).2))] oN))) ?_
 refine cB ((!(X2 r s).2)) (fun h1 => ?_) (fun h1 => ?_)
 ·
  refine rt [tv 2 (pb 2), tv 3 (pb 3), tv 4 (pb 4), tv 5 (ki 1), tv 6 (pb 6), bv 2 (Xl r), bv 3 (Xl s), bv 4 X61, bv 6 (Xc (X2 r s).1)] (oT 3 oN) ?_
  refine Xg ?_
  have hl : (Xbl r s) = none := by unfold Xbl; simp only [h1, Xdt h1, X72]
  show Xca TL _ _ = some (Xdr Xl X61 (ki 0) (ki 1) (Xbl r s))
  rw [hl]; kernel_rfl
 ·
  refine Xn ?_
  refine Xe ?_
  have := RootV.htd r
  have := RootV.htd s
  refine rh [tv 4 (pb 4), tv 5 (ki 0), bv 4 (Xl (Z4 (r.a + s.a) (r.b + s.b) ((X2 r s).1)))] (oT 4 (oC (Xby r.a s.a (by omega)) (oT 4 (oC (Xby r.b s.b (by omega)) (oT 1 (oC (Xhr (r.a + s.a) (r.b + s.b) ((X2 r s).1)) (oT 2 oN))))))) ?_
  refine Xg ?_
  have hl : (Xbl r s) = (some (Z4 (r.a + s.a) (r.b + s.b) ((X2 r s).1))) := by unfold Xbl; simp only [h1, Xas h1, X72]
  show Xca TL _ _ = some (Xdr Xl X61 (ki 0) (ki 1) (Xbl r s))
  rw [hl]; kernel_rfl
def X4 (a : Rat) (b : Rat) (m : Rat) : Int := (bif (decide (Int.sign (Rat.num a) = 0)) then (Int.sign (Rat.num b) * Int.sign (Rat.num m)) else (bif (decide ((Int.sign (Rat.num b) * Int.sign (Rat.num m)) = 0)) then (Int.sign (Rat.num a)) else (bif (decide (Int.sign (Rat.num a) = (Int.sign (Rat.num b) * Int.sign (Rat.num m)))) then (Int.sign (Rat.num a)) else (Int.sign (Rat.num a) * Xb3 (a * a) ((b * b) * m)))))
theorem Xc2 (a : Rat) (b : Rat) (m : Rat) : -1 ≤ X4 a b m ∧ X4 a b m ≤ 1 := by
 rcases X7 (decide (Int.sign (Rat.num a) = 0)) with k4 | k4
 ·
  rw [show (X4 a b m) = (Int.sign (Rat.num b) * Int.sign (Rat.num m)) by unfold X4; simp only [k4, X72]]
  have := (Xbh (Rat.num b))
  have := (Xbh (Rat.num m))
  have := (Xo5 (Xbh (Rat.num b)) (Xbh (Rat.num m)))
  omega
 ·
  rcases X7 (decide ((Int.sign (Rat.num b) * Int.sign (Rat.num m)) = 0)) with k5 | k5
  ·
   rw [show (X4 a b m) = (Int.sign (Rat.num a)) by unfold X4; simp only [k4, k5, X72]]
   have := (Xbh (Rat.num a))
   omega
  ·
   rcases X7 (decide (Int.sign (Rat.num a) = (Int.sign (Rat.num b) * Int.sign (Rat.num m)))) with k6 | k6
   ·
    rw [show (X4 a b m) = (Int.sign (Rat.num a)) by unfold X4; simp only [k4, k5, k6, X72]]
    have := (Xbh (Rat.num a))
    omega
   ·
    rw [show (X4 a b m) = (Int.sign (Rat.num a) * Xb3 (a * a) ((b * b) * m)) by unfold X4; simp only [k4, k5, k6, X72]]
    have := (Xbh (Rat.num a))
    have := (Xk9 (a * a) ((b * b) * m))
    have := (Xo5 (Xbh (Rat.num a)) (Xk9 (a * a) ((b * b) * m)))
    omega
theorem Xkw (a : Rat) (b : Rat) (m : Rat) (hs : X6p a + X6p b + X6p m ≤ 8589934592) : CS Tryz.prog 169 [Xc a, Xc b, Xc m] (ki (X4 a b m)) := by
 refine cO 42 Tryz.func169 ?_
 refine sh 2 [tv 3 (pb 3), tv 4 (pb 4), tv 5 (pb 5), tv 6 (ki 0), tv 7 (ki (Int.sign (Rat.num a))), tv 8 (ki (Int.sign (Rat.num b) * Int.sign (Rat.num m))), bv 3 (Xc a), bv 4 (Xc b), bv 5 (Xc m)] (oS (oT 4 oN) (oS (oT 1 (oC (Za a) (oT 1 (oC (Za b) (oT 1 (oC (Za m) (oO (Xb4 (Xbh (Rat.num b)) (Xbh (Rat.num m)) : Jx .mul .i64 (Int.sign (Rat.num b)) (Int.sign (Rat.num m)) = some (Int.sign (Rat.num b) * Int.sign (Rat.num m)) ∧ ((BinOp.mul = .quo ∨ BinOp.mul = .rem) → Int.sign (Rat.num m) ≠ (0 : Int))) (oT 2 (oA [ki (Int.sign (Rat.num b) * Int.sign (Rat.num m))] oN))))))))) oN)) ?_
 refine Xe ?_
 refine Xe ?_
 rcases X7 (decide (Int.sign (Rat.num a) = 0)) with h1 | h1
 ·
  have h1' := of_decide_eq_true h1
  refine rh [tv 3 (pb 3), tv 4 (pb 4), tv 5 (pb 5), tv 6 (ki 0), tv 7 (ki (Int.sign (Rat.num a))), tv 8 (ki (Int.sign (Rat.num b) * Int.sign (Rat.num m))), tv 26 (.bool true), bv 3 (Xc a), bv 4 (Xc b), bv 5 (Xc m)] (oT 1 (oO (aI trivial (h1 : (decide (Int.sign (Rat.num a) = 0)) = true)) (oT 1 (oO (gn [false]) (oO (gn [true]) (oT 2 (oO (gn [false]) (oO (gn [false]) (oO (gn [true, true]) (oT 1 (oA [cT true, cT (decide ((Int.sign (Rat.num b) * Int.sign (Rat.num m)) = 0)), cT (decide (Int.sign (Rat.num a) = (Int.sign (Rat.num b) * Int.sign (Rat.num m))))] oN))))))))))) ?_
  refine cB (true) (fun _ => ?_) (fun h => Bool.noConfusion h)
  refine Xe ?_
  refine rt [tv 3 (pb 3), tv 4 (pb 4), tv 5 (pb 5), tv 6 (ki 0), tv 7 (ki (Int.sign (Rat.num a))), tv 8 (ki (Int.sign (Rat.num b) * Int.sign (Rat.num m))), tv 28 (.bool true), bv 3 (Xc a), bv 4 (Xc b), bv 5 (Xc m)] (oT 1 (oO (aI trivial (h1 : (decide (Int.sign (Rat.num a) = 0)) = true)) (oA [cT true] oN))) ?_
  refine cB (true) (fun _ => ?_) (fun h => Bool.noConfusion h)
  refine rt [tv 3 (pb 3), tv 4 (pb 4), tv 5 (pb 5), tv 6 (ki (Int.sign (Rat.num b) * Int.sign (Rat.num m))), tv 7 (ki (Int.sign (Rat.num a))), bv 3 (Xc a), bv 4 (Xc b), bv 5 (Xc m)] (oT 2 oN) ?_
  exact Xg (lv ki (Int.sign (Rat.num b) * Int.sign (Rat.num m)) (by unfold X4; simp only [h1, X72]))
 ·
  have h1' := of_decide_eq_false h1
  rcases X7 (decide ((Int.sign (Rat.num b) * Int.sign (Rat.num m)) = 0)) with h2 | h2
  ·
   have h2' := of_decide_eq_true h2
   refine rh [tv 3 (pb 3), tv 4 (pb 4), tv 5 (pb 5), tv 6 (ki 0), tv 7 (ki (Int.sign (Rat.num a))), tv 8 (ki (Int.sign (Rat.num b) * Int.sign (Rat.num m))), tv 26 (.bool true), bv 3 (Xc a), bv 4 (Xc b), bv 5 (Xc m)] (oT 1 (oO (aI trivial (h1 : (decide (Int.sign (Rat.num a) = 0)) = false)) (oT 1 (oO (Xh 1 trivial) (oO (Xh 1 (aI trivial (h2 : (decide ((Int.sign (Rat.num b) * Int.sign (Rat.num m)) = 0)) = true))) (oT 2 (oO (gn [false]) (oO (gn [false]) (oO (gn [true, true]) (oT 1 (oA [cT false, cT true, cT (decide (Int.sign (Rat.num a) = (Int.sign (Rat.num b) * Int.sign (Rat.num m))))] oN))))))))))) ?_
   refine cB (true) (fun _ => ?_) (fun h => Bool.noConfusion h)
   refine Xe ?_
   refine rt [tv 3 (pb 3), tv 4 (pb 4), tv 5 (pb 5), tv 6 (ki 0), tv 7 (ki (Int.sign (Rat.num a))), tv 8 (ki (Int.sign (Rat.num b) * Int.sign (Rat.num m))), tv 28 (.bool false), bv 3 (Xc a), bv 4 (Xc b), bv 5 (Xc m)] (oT 1 (oO (aI trivial (h1 : (decide (Int.sign (Rat.num a) = 0)) = false)) (oA [cT false] oN))) ?_
   refine cB (false) (fun h => Bool.noConfusion h) (fun _ => ?_)
   refine Xn ?_
   refine rt [tv 3 (pb 3), tv 4 (pb 4), tv 5 (pb 5), tv 6 (ki (Int.sign (Rat.num a))), tv 7 (ki (Int.sign (Rat.num a))), bv 3 (Xc a), bv 4 (Xc b), bv 5 (Xc m)] (oT 2 oN) ?_
   exact Xg (lv ki (Int.sign (Rat.num a)) (by unfold X4; simp only [h1, h2, X72]))
  ·
   have h2' := of_decide_eq_false h2
   refine rh [tv 3 (pb 3), tv 4 (pb 4), tv 5 (pb 5), tv 6 (ki 0), tv 7 (ki (Int.sign (Rat.num a))), tv 8 (ki (Int.sign (Rat.num b) * Int.sign (Rat.num m))), tv 26 (.bool (decide (Int.sign (Rat.num a) = (Int.sign (Rat.num b) * Int.sign (Rat.num m))))), bv 3 (Xc a), bv 4 (Xc b), bv 5 (Xc m)] (oT 1 (oO (aI trivial (h1 : (decide (Int.sign (Rat.num a) = 0)) = false)) (oT 1 (oO (Xh 1 trivial) (oO (Xh 1 (aI trivial (h2 : (decide ((Int.sign (Rat.num b) * Int.sign (Rat.num m)) = 0)) = false))) (oT 2 (oO (Xh 1 trivial) (oO (Xh 1 trivial) (oO (Xh 2 (oB (decide (Int.sign (Rat.num a) = (Int.sign (Rat.num b) * Int.sign (Rat.num m)))))) (oT 1 (oA [cT false, cT false, cT (decide (Int.sign (Rat.num a) = (Int.sign (Rat.num b) * Int.sign (Rat.num m))))] oN))))))))))) ?_
   refine cB (decide (Int.sign (Rat.num a) = (Int.sign (Rat.num b) * Int.sign (Rat.num m)))) (fun h3 => ?_) (fun h3 => ?_)
   ·
    have h3' := of_decide_eq_true h3
    refine Xe ?_
    refine rt [tv 3 (pb 3), tv 4 (pb 4), tv 5 (pb 5), tv 6 (ki 0), tv 7 (ki (Int.sign (Rat.num a))), tv 8 (ki (Int.sign (Rat.num b) * Int.sign (Rat.num m))), tv 28 (.bool false), bv 3 (Xc a), bv 4 (Xc b), bv 5 (Xc m)] (oT 1 (oO (aI trivial (h1 : (decide (Int.sign (Rat.num a) = 0)) = false)) (oA [cT false] oN))) ?_
    refine cB (false) (fun h => Bool.noConfusion h) (fun _ => ?_)
    refine Xn ?_
    refine rt [tv 3 (pb 3), tv 4 (pb 4), tv 5 (pb 5), tv 6 (ki (Int.sign (Rat.num a))), tv 7 (ki (Int.sign (Rat.num a))), bv 3 (Xc a), bv 4 (Xc b), bv 5 (Xc m)] (oT 2 oN) ?_
    exact Xg (lv ki (Int.sign (Rat.num a)) (by unfold X4; simp only [h1, h2, h3, X72]))
   ·
    have h3' := of_decide_eq_false h3
    refine Xn ?_
    refine Xe ?_
    have := Zb b b
    have := Zb a a
    have := Zb (b * b) m
    refine rh [tv 6 (ki (Int.sign (Rat.num a) * Xb3 (a * a) ((b * b) * m)))] (oT 3 (oC (Ke a a (by omega)) (oT 2 (oC (Ke b b (by omega)) (oT 1 (oC (Ke (b * b) m (by omega)) (oC (Xh2 (a * a) ((b * b) * m) (by omega)) (oO (Xb4 (Xbh (Rat.num a)) (Xk9 (a * a) ((b * b) * m)) : Jx .mul .i64 (Int.sign (Rat.num a)) (Xb3 (a * a) ((b * b) * m)) = some (Int.sign (Rat.num a) * Xb3 (a * a) ((b * b) * m)) ∧ ((BinOp.mul = .quo ∨ BinOp.mul = .rem) → Xb3 (a * a) ((b * b) * m) ≠ (0 : Int))) (oT 1 (oA [ki (Int.sign (Rat.num a) * Xb3 (a * a) ((b * b) * m))] oN)))))))))) ?_
    exact Xg (lv ki (Int.sign (Rat.num a) * Xb3 (a * a) ((b * b) * m)) (by unfold X4; simp only [h1, h2, h3, X72]))
def Jw (q : QuadV) : Int := (bif (decide (Int.sign (Rat.num q.m) < 0)) then 0 else (bif (decide (Int.sign (Rat.num q.n) < 0)) then 0 else (bif (decide (X4 q.a q.b q.m = 0)) then (X4 q.c q.d q.m * Int.sign (Rat.num q.n)) else (bif (decide ((X4 q.c q.d q.m * Int.sign (Rat.num q.n)) = 0)) then (X4 q.a q.b q.m) else (bif (decide (X4 q.a q.b q.m = (X4 q.c q.d q.m * Int.sign (Rat.num q.n)))) then (X4 q.a q.b q.m) else (X4 q.a q.b q.m * X4 (((q.a * q.a) + ((q.b * q.b) * q.m)) - (q.n * ((q.c * q.c) + ((q.d * q.d) * q.m)))) (((q.a * q.b) - (q.n * (q.c * q.d))) + ((q.a * q.b) - (q.n * (q.c * q.d)))) q.m))))))
theorem Xvi (q : QuadV) : -1 ≤ Jw q ∧ Jw q ≤ 1 := by
 rcases X7 (decide (Int.sign (Rat.num q.m) < 0)) with k6 | k6
 ·
  rw [show (Jw q) = 0 by unfold Jw; simp only [k6, X72]]
  omega
 ·
  rcases X7 (decide (Int.sign (Rat.num q.n) < 0)) with k7 | k7
  ·
   rw [show (Jw q) = 0 by unfold Jw; simp only [k6, k7, X72]]
   omega
  ·
   rcases X7 (decide (X4 q.a q.b q.m = 0)) with k8 | k8
   ·
    rw [show (Jw q) = (X4 q.c q.d q.m * Int.sign (Rat.num q.n)) by unfold Jw; simp only [k6, k7, k8, X72]]
    have := (Xc2 q.c q.d q.m)
    have := (Xbh (Rat.num q.n))
    have := (Xo5 (Xc2 q.c q.d q.m) (Xbh (Rat.num q.n)))
    omega
   ·
    rcases X7 (decide ((X4 q.c q.d q.m * Int.sign (Rat.num q.n)) = 0)) with k9 | k9
    ·
     rw [show (Jw q) = (X4 q.a q.b q.m) by unfold Jw; simp only [k6, k7, k8, k9, X72]]
     have := (Xc2 q.a q.b q.m)
     omega
    ·
     rcases X7 (decide (X4 q.a q.b q.m = (X4 q.c q.d q.m * Int.sign (Rat.num q.n)))) with k10 | k10
     ·
      rw [show (Jw q) = (X4 q.a q.b q.m) by unfold Jw; simp only [k6, k7, k8, k9, k10, X72]]
      have := (Xc2 q.a q.b q.m)
      omega
     ·
      rw [show (Jw q) = (X4 q.a q.b q.m * X4 (((q.a * q.a) + ((q.b * q.b) * q.m)) - (q.n * ((q.c * q.c) + ((q.d * q.d) * q.m)))) (((q.a * q.b) - (q.n * (q.c * q.d))) + ((q.a * q.b) - (q.n * (q.c * q.d)))) q.m) by unfold Jw; simp only [k6, k7, k8, k9, k10, X72]]
      have := (Xc2 q.a q.b q.m)
      have := (Xc2 (((q.a * q.a) + ((q.b * q.b) * q.m)) - (q.n * ((q.c * q.c) + ((q.d * q.d) * q.m)))) (((q.a * q.b) - (q.n * (q.c * q.d))) + ((q.a * q.b) - (q.n * (q.c * q.d)))) q.m)
      have := (Xo5 (Xc2 q.a q.b q.m) (Xc2 (((q.a * q.a) + ((q.b * q.b) * q.m)) - (q.n * ((q.c * q.c) + ((q.d * q.d) * q.m)))) (((q.a * q.b) - (q.n * (q.c * q.d))) + ((q.a * q.b) - (q.n * (q.c * q.d)))) q.m))
      omega
theorem Xun (q : QuadV) (hs : QuadV.ht q ≤ 2147483646) : CS Tryz.prog 207 [Jn q] (ki (Jw q)) := by
 refine cO 107 Tryz.func207 ?_
 refine rt [tv 1 (pb 1), tv 2 (ki 0), bv 1 (Jn q)] (oT 2 oN) ?_
 refine Xe ?_
 refine Xe ?_
 rcases X7 (decide (Int.sign (Rat.num q.m) < 0)) with h1 | h1
 ·
  have h1' := of_decide_eq_true h1
  refine rh [tv 1 (pb 1), tv 2 (ki 0), tv 17 (.bool true), bv 1 (Jn q)] (oT 2 (oC (Za q.m) (oO (aI trivial (h1 : (decide (Int.sign (Rat.num q.m) < 0)) = true)) (oT 1 (oO (gn [false]) (oO (gn [true]) (oO (gn [true]) (oO (gn [true]) (oT 1 (oA [cT true, ki (Int.sign (Rat.num q.n)), cT (decide (Int.sign (Rat.num q.n) < 0))] oN)))))))))) ?_
  refine cB (true) (fun _ => ?_) (fun h => Bool.noConfusion h)
  refine rt [tv 1 (pb 1), tv 2 (ki 0), bv 1 (Jn q)] (oT 1 oN) ?_
  exact Xg (lv ki 0 (by unfold Jw; simp only [h1, X72]))
 ·
  have h1' := of_decide_eq_false h1
  refine rh [tv 1 (pb 1), tv 2 (ki 0), tv 17 (.bool (decide (Int.sign (Rat.num q.n) < 0))), bv 1 (Jn q)] (oT 2 (oC (Za q.m) (oO (aI trivial (h1 : (decide (Int.sign (Rat.num q.m) < 0)) = false)) (oT 1 (oO (Xh 1 trivial) (oO (Xh 1 trivial) (oO (Xh 1 (Za q.n)) (oO (Xh 1 (oB (decide (Int.sign (Rat.num q.n) < 0)))) (oT 1 (oA [cT false, ki (Int.sign (Rat.num q.n)), cT (decide (Int.sign (Rat.num q.n) < 0))] oN)))))))))) ?_
  refine cB (decide (Int.sign (Rat.num q.n) < 0)) (fun h2 => ?_) (fun h2 => ?_)
  ·
   have h2' := of_decide_eq_true h2
   refine rt [tv 1 (pb 1), tv 2 (ki 0), bv 1 (Jn q)] (oT 1 oN) ?_
   exact Xg (lv ki 0 (by unfold Jw; simp only [h1, h2, X72]))
  ·
   have h2' := of_decide_eq_false h2
   refine Xn ?_
   refine Xe ?_
   have := QuadV.htd q
   refine rh [tv 1 (pb 1), tv 2 (ki 0), tv 3 (ki (X4 q.a q.b q.m)), tv 4 (ki (X4 q.c q.d q.m * Int.sign (Rat.num q.n))), bv 1 (Jn q)] (oT 6 (oC (Xkw q.a q.b q.m (by omega)) (oT 6 (oC (Xkw q.c q.d q.m (by omega)) (oT 2 (oC (Za q.n) (oO (Xb4 (Xc2 q.c q.d q.m) (Xbh (Rat.num q.n)) : Jx .mul .i64 (X4 q.c q.d q.m) (Int.sign (Rat.num q.n)) = some (X4 q.c q.d q.m * Int.sign (Rat.num q.n)) ∧ ((BinOp.mul = .quo ∨ BinOp.mul = .rem) → Int.sign (Rat.num q.n) ≠ (0 : Int))) (oT 2 (oA [ki (X4 q.c q.d q.m * Int.sign (Rat.num q.n))] oN))))))))) ?_
   refine Xe ?_
   refine Xe ?_
   rcases X7 (decide (X4 q.a q.b q.m = 0)) with h3 | h3
   ·
    have h3' := of_decide_eq_true h3
    refine rh [tv 1 (pb 1), tv 2 (ki 0), tv 3 (ki (X4 q.a q.b q.m)), tv 4 (ki (X4 q.c q.d q.m * Int.sign (Rat.num q.n))), tv 46 (.bool true), bv 1 (Jn q)] (oT 1 (oO (aI trivial (h3 : (decide (X4 q.a q.b q.m = 0)) = true)) (oT 1 (oO (gn [false]) (oO (gn [true]) (oT 2 (oO (gn [false]) (oO (gn [false]) (oO (gn [true, true]) (oT 1 (oA [cT true, cT (decide ((X4 q.c q.d q.m * Int.sign (Rat.num q.n)) = 0)), cT (decide (X4 q.a q.b q.m = (X4 q.c q.d q.m * Int.sign (Rat.num q.n))))] oN))))))))))) ?_
    refine cB (true) (fun _ => ?_) (fun h => Bool.noConfusion h)
    refine Xe ?_
    refine rt [tv 1 (pb 1), tv 2 (ki 0), tv 3 (ki (X4 q.a q.b q.m)), tv 4 (ki (X4 q.c q.d q.m * Int.sign (Rat.num q.n))), tv 48 (.bool true), bv 1 (Jn q)] (oT 1 (oO (aI trivial (h3 : (decide (X4 q.a q.b q.m = 0)) = true)) (oA [cT true] oN))) ?_
    refine cB (true) (fun _ => ?_) (fun h => Bool.noConfusion h)
    refine rt [tv 1 (pb 1), tv 2 (ki (X4 q.c q.d q.m * Int.sign (Rat.num q.n))), tv 3 (ki (X4 q.a q.b q.m)), bv 1 (Jn q)] (oT 2 oN) ?_
    exact Xg (lv ki (X4 q.c q.d q.m * Int.sign (Rat.num q.n)) (by unfold Jw; simp only [h1, h2, h3, X72]))
   ·
    have h3' := of_decide_eq_false h3
    rcases X7 (decide ((X4 q.c q.d q.m * Int.sign (Rat.num q.n)) = 0)) with h4 | h4
    ·
     have h4' := of_decide_eq_true h4
     refine rh [tv 1 (pb 1), tv 2 (ki 0), tv 3 (ki (X4 q.a q.b q.m)), tv 4 (ki (X4 q.c q.d q.m * Int.sign (Rat.num q.n))), tv 46 (.bool true), bv 1 (Jn q)] (oT 1 (oO (aI trivial (h3 : (decide (X4 q.a q.b q.m = 0)) = false)) (oT 1 (oO (Xh 1 trivial) (oO (Xh 1 (aI trivial (h4 : (decide ((X4 q.c q.d q.m * Int.sign (Rat.num q.n)) = 0)) = true))) (oT 2 (oO (gn [false]) (oO (gn [false]) (oO (gn [true, true]) (oT 1 (oA [cT false, cT true, cT (decide (X4 q.a q.b q.m = (X4 q.c q.d q.m * Int.sign (Rat.num q.n))))] oN))))))))))) ?_
     refine cB (true) (fun _ => ?_) (fun h => Bool.noConfusion h)
     refine Xe ?_
     refine rt [tv 1 (pb 1), tv 2 (ki 0), tv 3 (ki (X4 q.a q.b q.m)), tv 4 (ki (X4 q.c q.d q.m * Int.sign (Rat.num q.n))), tv 48 (.bool false), bv 1 (Jn q)] (oT 1 (oO (aI trivial (h3 : (decide (X4 q.a q.b q.m = 0)) = false)) (oA [cT false] oN))) ?_
     refine cB (false) (fun h => Bool.noConfusion h) (fun _ => ?_)
     refine Xn ?_
     refine rt [tv 1 (pb 1), tv 2 (ki (X4 q.a q.b q.m)), tv 3 (ki (X4 q.a q.b q.m)), bv 1 (Jn q)] (oT 2 oN) ?_
     exact Xg (lv ki (X4 q.a q.b q.m) (by unfold Jw; simp only [h1, h2, h3, h4, X72]))
    ·
     have h4' := of_decide_eq_false h4
     refine rh [tv 1 (pb 1), tv 2 (ki 0), tv 3 (ki (X4 q.a q.b q.m)), tv 4 (ki (X4 q.c q.d q.m * Int.sign (Rat.num q.n))), tv 46 (.bool (decide (X4 q.a q.b q.m = (X4 q.c q.d q.m * Int.sign (Rat.num q.n))))), bv 1 (Jn q)] (oT 1 (oO (aI trivial (h3 : (decide (X4 q.a q.b q.m = 0)) = false)) (oT 1 (oO (Xh 1 trivial) (oO (Xh 1 (aI trivial (h4 : (decide ((X4 q.c q.d q.m * Int.sign (Rat.num q.n)) = 0)) = false))) (oT 2 (oO (Xh 1 trivial) (oO (Xh 1 trivial) (oO (Xh 2 (oB (decide (X4 q.a q.b q.m = (X4 q.c q.d q.m * Int.sign (Rat.num q.n)))))) (oT 1 (oA [cT false, cT false, cT (decide (X4 q.a q.b q.m = (X4 q.c q.d q.m * Int.sign (Rat.num q.n))))] oN))))))))))) ?_
     refine cB (decide (X4 q.a q.b q.m = (X4 q.c q.d q.m * Int.sign (Rat.num q.n)))) (fun h5 => ?_) (fun h5 => ?_)
     ·
      have h5' := of_decide_eq_true h5
      refine Xe ?_
      refine rt [tv 1 (pb 1), tv 2 (ki 0), tv 3 (ki (X4 q.a q.b q.m)), tv 4 (ki (X4 q.c q.d q.m * Int.sign (Rat.num q.n))), tv 48 (.bool false), bv 1 (Jn q)] (oT 1 (oO (aI trivial (h3 : (decide (X4 q.a q.b q.m = 0)) = false)) (oA [cT false] oN))) ?_
      refine cB (false) (fun h => Bool.noConfusion h) (fun _ => ?_)
      refine Xn ?_
      refine rt [tv 1 (pb 1), tv 2 (ki (X4 q.a q.b q.m)), tv 3 (ki (X4 q.a q.b q.m)), bv 1 (Jn q)] (oT 2 oN) ?_
      exact Xg (lv ki (X4 q.a q.b q.m) (by unfold Jw; simp only [h1, h2, h3, h4, h5, X72]))
     ·
      have h5' := of_decide_eq_false h5
      refine Xn ?_
      have := QuadV.htd q
      have := Zb q.d q.d
      have := Zb q.c q.c
      have := Zb (q.d * q.d) q.m
      have := Xbw (q.c * q.c) ((q.d * q.d) * q.m)
      have := QuadV.htd q
      have := Zb q.b q.b
      have := Zb q.a q.a
      have := Zb (q.b * q.b) q.m
      have := Xbw (q.a * q.a) ((q.b * q.b) * q.m)
      have := Zb q.c q.c
      have := Zb q.d q.d
      have := Zb (q.d * q.d) q.m
      have := Xbw (q.c * q.c) ((q.d * q.d) * q.m)
      have := Zb q.n ((q.c * q.c) + ((q.d * q.d) * q.m))
      have := QuadV.htd q
      have := Zb q.c q.d
      have := Zb q.a q.b
      have := Zb q.n (q.c * q.d)
      have := QuadV.htd q
      have := Zb q.a q.b
      have := Zb q.c q.d
      have := Zb q.n (q.c * q.d)
      have := Xch (q.a * q.b) (q.n * (q.c * q.d))
      have := Zb q.a q.a
      have := Zb q.b q.b
      have := Zb (q.b * q.b) q.m
      have := Xbw (q.a * q.a) ((q.b * q.b) * q.m)
      have := Zb q.c q.c
      have := Zb q.d q.d
      have := Zb (q.d * q.d) q.m
      have := Xbw (q.c * q.c) ((q.d * q.d) * q.m)
      have := Zb q.n ((q.c * q.c) + ((q.d * q.d) * q.m))
      have := Xch ((q.a * q.a) + ((q.b * q.b) * q.m)) (q.n * ((q.c * q.c) + ((q.d * q.d) * q.m)))
      have := Xbw ((q.a * q.b) - (q.n * (q.c * q.d))) ((q.a * q.b) - (q.n * (q.c * q.d)))
      refine sh 4 [tv 2 (ki (X4 q.a q.b q.m * X4 (((q.a * q.a) + ((q.b * q.b) * q.m)) - (q.n * ((q.c * q.c) + ((q.d * q.d) * q.m)))) (((q.a * q.b) - (q.n * (q.c * q.d))) + ((q.a * q.b) - (q.n * (q.c * q.d)))) q.m))] (oS (oT 6 (oC (Ke q.c q.c (by omega)) (oT 4 (oC (Ke q.d q.d (by omega)) (oT 2 (oC (Ke (q.d * q.d) q.m (by omega)) (oC (Xby (q.c * q.c) ((q.d * q.d) * q.m) (by omega)) (oC (Ke q.n ((q.c * q.c) + ((q.d * q.d) * q.m)) (by omega)) (oT 2 oN))))))))) (oS (oT 4 (oC (Ke q.a q.a (by omega)) (oT 4 (oC (Ke q.b q.b (by omega)) (oT 2 (oC (Ke (q.b * q.b) q.m (by omega)) (oC (Xby (q.a * q.a) ((q.b * q.b) * q.m) (by omega)) (oT 1 (oC (Xc5 ((q.a * q.a) + ((q.b * q.b) * q.m)) (q.n * ((q.c * q.c) + ((q.d * q.d) * q.m))) (by omega)) (oT 2 oN)))))))))) (oS (oT 4 (oC (Ke q.a q.b (by omega)) (oT 6 (oC (Ke q.c q.d (by omega)) (oC (Ke q.n (q.c * q.d) (by omega)) (oC (Xc5 (q.a * q.b) (q.n * (q.c * q.d)) (by omega)) (oT 2 oN))))))) (oS (oT 4 (oC (Xby ((q.a * q.b) - (q.n * (q.c * q.d))) ((q.a * q.b) - (q.n * (q.c * q.d))) (by omega)) (oT 2 (oC (Xkw (((q.a * q.a) + ((q.b * q.b) * q.m)) - (q.n * ((q.c * q.c) + ((q.d * q.d) * q.m)))) (((q.a * q.b) - (q.n * (q.c * q.d))) + ((q.a * q.b) - (q.n * (q.c * q.d)))) q.m (by omega)) (oO (Xb4 (Xc2 q.a q.b q.m) (Xc2 (((q.a * q.a) + ((q.b * q.b) * q.m)) - (q.n * ((q.c * q.c) + ((q.d * q.d) * q.m)))) (((q.a * q.b) - (q.n * (q.c * q.d))) + ((q.a * q.b) - (q.n * (q.c * q.d)))) q.m) : Jx .mul .i64 (X4 q.a q.b q.m) (X4 (((q.a * q.a) + ((q.b * q.b) * q.m)) - (q.n * ((q.c * q.c) + ((q.d * q.d) * q.m)))) (((q.a * q.b) - (q.n * (q.c * q.d))) + ((q.a * q.b) - (q.n * (q.c * q.d)))) q.m) = some (X4 q.a q.b q.m * X4 (((q.a * q.a) + ((q.b * q.b) * q.m)) - (q.n * ((q.c * q.c) + ((q.d * q.d) * q.m)))) (((q.a * q.b) - (q.n * (q.c * q.d))) + ((q.a * q.b) - (q.n * (q.c * q.d)))) q.m) ∧ ((BinOp.mul = .quo ∨ BinOp.mul = .rem) → X4 (((q.a * q.a) + ((q.b * q.b) * q.m)) - (q.n * ((q.c * q.c) + ((q.d * q.d) * q.m)))) (((q.a * q.b) - (q.n * (q.c * q.d))) + ((q.a * q.b) - (q.n * (q.c * q.d)))) q.m ≠ (0 : Int))) (oT 1 (oA [ki (X4 q.a q.b q.m * X4 (((q.a * q.a) + ((q.b * q.b) * q.m)) - (q.n * ((q.c * q.c) + ((q.d * q.d) * q.m)))) (((q.a * q.b) - (q.n * (q.c * q.d))) + ((q.a * q.b) - (q.n * (q.c * q.d)))) q.m)] oN))))))) oN)))) ?_
      exact Xg (lv ki (X4 q.a q.b q.m * X4 (((q.a * q.a) + ((q.b * q.b) * q.m)) - (q.n * ((q.c * q.c) + ((q.d * q.d) * q.m)))) (((q.a * q.b) - (q.n * (q.c * q.d))) + ((q.a * q.b) - (q.n * (q.c * q.d)))) q.m) (by unfold Jw; simp only [h1, h2, h3, h4, h5, X72]))
def Xc4 (a : RootV) (b : RootV) : QuadV := (⟨a.a - b.a, a.b, (-b.b), ((0 : Int) : Rat), a.c, b.c⟩ : QuadV)
theorem Xxg (a : RootV) (b : RootV) : QuadV.ht (Xc4 a b) ≤ 1 * (RootV.ht a + RootV.ht b) + 4 := by
 rw [show (Xc4 a b) = (⟨a.a - b.a, a.b, (-b.b), ((0 : Int) : Rat), a.c, b.c⟩ : QuadV) by unfold Xc4; rfl]
 have := RootV.htd a
 have := RootV.htd b
 have := Xch a.a b.a
 have := Xe2 b.b
 have := Xbb 0 (by omega) (by omega)
 have := QuadV.htm (a.a - b.a) a.b (-b.b) ((0 : Int) : Rat) a.c b.c
 omega
theorem Xxr (a : RootV) (b : RootV) (hs : RootV.ht a + RootV.ht b ≤ 17179869184) : CS Tryz.prog 208 [Xl a, Xl b] (Jn (Xc4 a b)) := by
 refine cO 21 Tryz.func208 ?_
 have := RootV.htd a
 have := RootV.htd b
 refine sh 2 [tv 4 (pb 4), bv 4 (Jn (⟨a.a - b.a, a.b, (-b.b), ((0 : Int) : Rat), a.c, b.c⟩ : QuadV))] (oS (oT 3 oN) (oS (oT 4 (oC (Xc5 a.a b.a (by omega)) (oT 4 (oC (Xe0 b.b (by omega)) (oC (Kk 0 (by omega) (by omega)) (oT 6 oN)))))) oN)) ?_
 exact Xg (lv Jn (⟨a.a - b.a, a.b, (-b.b), ((0 : Int) : Rat), a.c, b.c⟩ : QuadV) (by unfold Xc4; rfl))
def Zv (a : RootV) (b : RootV) : Int := (Jw (Xc4 a b))
theorem Xng (a : RootV) (b : RootV) : -1 ≤ Zv a b ∧ Zv a b ≤ 1 := by
 rw [show (Zv a b) = (Jw (Xc4 a b)) by unfold Zv; rfl]
 have := (Xvi (Xc4 a b))
 omega
theorem Xkr (a : RootV) (b : RootV) (hs : RootV.ht a + RootV.ht b ≤ 2147483642) : CS Tryz.prog 119 [Xl a, Xl b] (ki (Zv a b)) := by
 refine cO 9 Tryz.func119 ?_
 have := Xxg a b
 refine sh 2 [tv 4 (ki (Jw (Xc4 a b)))] (oS (oT 3 oN) (oS (oT 2 (oC (Xxr a b (by omega)) (oC (Xun (Xc4 a b) (by omega)) (oT 1 oN)))) oN)) ?_
 exact Xg (lv ki (Jw (Xc4 a b)) (by unfold Zv; rfl))
def Xdz (a : RootV) (b : RootV) : Bool := (decide (Zv a b = 0))
theorem Xs4 (a : RootV) (b : RootV) (hs : RootV.ht a + RootV.ht b ≤ 2147483642) : CS Tryz.prog 63 [Xl a, Xl b] (.bool (Xdz a b)) := by
 refine cO 9 Tryz.func63 ?_
 refine sh 2 [tv 4 (.bool (decide (Zv a b = 0)))] (oS (oT 3 oN) (oS (oT 2 (oC (Xkr a b (by omega)) (oO (oB (decide (Zv a b = 0))) (oT 1 (oA [cT (decide (Zv a b = 0))] oN))))) oN)) ?_
 exact Xg (lv AV.bool (decide (Zv a b = 0)) (by unfold Xdz; rfl))
def Zp (a : RootV) (b : Rat) : Int := (X4 (a.a - b) a.b a.c)
theorem Xlo (a : RootV) (b : Rat) (hs : RootV.ht a + X6p b ≤ 8589934591) : CS Tryz.prog 85 [Xl a, Xc b] (ki (Zp a b)) := by
 refine cO 14 Tryz.func85 ?_
 have := RootV.htd a
 have := Xch a.a b
 refine sh 2 [tv 4 (ki (X4 (a.a - b) a.b a.c))] (oS (oT 3 oN) (oS (oT 3 (oC (Xc5 a.a b (by omega)) (oT 4 (oC (Xkw (a.a - b) a.b a.c (by omega)) (oT 1 oN))))) oN)) ?_
 exact Xg (lv ki (X4 (a.a - b) a.b a.c) (by unfold Zp; rfl))
def Kn  : Rat := ((0 : Int) : Rat)
theorem Xvt  : X6p Kn ≤ 3 := by
 rw [show Kn = ((0 : Int) : Rat) by unfold Kn; rfl]
 have := Xbb 0 (by omega) (by omega)
 omega
theorem Xln  : CS Tryz.prog 82 [] (Xc Kn) := by
 refine cO 2 Tryz.func82 ?_
 refine sh 2 [tv 0 (pb 0), bv 0 (Xc ((0 : Int) : Rat))] (oS (oT 1 oN) (oS (oC (Kk 0 (by omega) (by omega)) (oT 1 oN)) oN)) ?_
 exact Xg (lv Xc ((0 : Int) : Rat) (by unfold Kn; rfl))
def Km (v : VecV) : PtV := (⟨v.x, Kn, v.y, Kn, Kn⟩ : PtV)
theorem Xkc (v : VecV) : PtV.ht (Km v) ≤ 1 * VecV.ht v + 9 := by
 rw [show (Km v) = (⟨v.x, Kn, v.y, Kn, Kn⟩ : PtV) by unfold Km; rfl]
 have := VecV.htd v
 have := Xvt 
 have := PtV.htm v.x Kn v.y Kn Kn
 omega
theorem Xj3 (v : VecV) : CS Tryz.prog 20 [Xt v] (Xr (Km v)) := by
 refine cO 11 Tryz.func20 ?_
 refine sh 2 [tv 2 (pb 2), bv 2 (Xr (⟨v.x, Kn, v.y, Kn, Kn⟩ : PtV))] (oS (oT 2 oN) (oS (oT 2 (oC Xln (oT 2 (oC Xln (oC Xln (oT 2 oN)))))) oN)) ?_
 exact Xg (lv Xr (⟨v.x, Kn, v.y, Kn, Kn⟩ : PtV) (by unfold Km; rfl))
def Yh (x : Int) (y : Int) : VecV := (⟨((x : Int) : Rat), ((y : Int) : Rat)⟩ : VecV)
theorem Xfu (x : Int) (y : Int) (h0 : -9223372036854775808 ≤ x) (h1 : x < 9223372036854775808) (h2 : -9223372036854775808 ≤ y) (h3 : y < 9223372036854775808) : VecV.ht (Yh x y) ≤ 6 := by
 rw [show (Yh x y) = (⟨((x : Int) : Rat), ((y : Int) : Rat)⟩ : VecV) by unfold Yh; rfl]
 have := Xbb x (by omega) (by omega)
 have := Xbb y (by omega) (by omega)
 have := VecV.htm ((x : Int) : Rat) ((y : Int) : Rat)
 omega
theorem Xcg (x : Int) (y : Int) (h0 : -9223372036854775808 ≤ x) (h1 : x < 9223372036854775808) (h2 : -9223372036854775808 ≤ y) (h3 : y < 9223372036854775808) : CS Tryz.prog 47 [ki x, ki y] (Xt (Yh x y)) := by
 refine cO 10 Tryz.func47 ?_
 refine sh 2 [tv 4 (pb 4), bv 4 (Xt (⟨((x : Int) : Rat), ((y : Int) : Rat)⟩ : VecV))] (oS (oT 1 oN) (oS (oT 1 (oC (Kk x (by omega) (by omega)) (oT 1 (oC (Kk y (by omega) (by omega)) (oT 2 oN))))) oN)) ?_
 exact Xg (lv Xt (⟨((x : Int) : Rat), ((y : Int) : Rat)⟩ : VecV) (by unfold Yh; rfl))
def Yq (p : PtV) (v : VecV) : PtV := (⟨p.ax + v.x, p.bx, p.ay + v.y, p.byy, p.c⟩ : PtV)
theorem Xjg (p : PtV) (v : VecV) : PtV.ht (Yq p v) ≤ 1 * (PtV.ht p + VecV.ht v) + 2 := by
 rw [show (Yq p v) = (⟨p.ax + v.x, p.bx, p.ay + v.y, p.byy, p.c⟩ : PtV) by unfold Yq; rfl]
 have := PtV.htd p
 have := VecV.htd v
 have := Xbw p.ax v.x
 have := Xbw p.ay v.y
 have := PtV.htm (p.ax + v.x) p.bx (p.ay + v.y) p.byy p.c
 omega
theorem Xof (p : PtV) (v : VecV) (hs : PtV.ht p + VecV.ht v ≤ 17179869184) : CS Tryz.prog 45 [Xr p, Xt v] (Xr (Yq p v)) := by
 refine cO 22 Tryz.func45 ?_
 have := PtV.htd p
 have := VecV.htd v
 refine sh 2 [tv 4 (pb 4), bv 4 (Xr (⟨p.ax + v.x, p.bx, p.ay + v.y, p.byy, p.c⟩ : PtV))] (oS (oT 3 oN) (oS (oT 4 (oC (Xby p.ax v.x (by omega)) (oT 6 (oC (Xby p.ay v.y (by omega)) (oT 6 oN))))) oN)) ?_
 exact Xg (lv Xr (⟨p.ax + v.x, p.bx, p.ay + v.y, p.byy, p.c⟩ : PtV) (by unfold Yq; rfl))
def Zx (v : VecV) : VecV := (⟨(-v.x), (-v.y)⟩ : VecV)
theorem Xld (v : VecV) : VecV.ht (Zx v) ≤ 1 * VecV.ht v + 0 := by
 rw [show (Zx v) = (⟨(-v.x), (-v.y)⟩ : VecV) by unfold Zx; rfl]
 have := VecV.htd v
 have := Xe2 v.x
 have := Xe2 v.y
 have := VecV.htm (-v.x) (-v.y)
 omega
theorem Xvg (v : VecV) (hs : VecV.ht v ≤ 17179869184) : CS Tryz.prog 136 [Xt v] (Xt (Zx v)) := by
 refine cO 10 Tryz.func136 ?_
 have := VecV.htd v
 refine sh 2 [tv 2 (pb 2), bv 2 (Xt (⟨(-v.x), (-v.y)⟩ : VecV))] (oS (oT 2 oN) (oS (oT 2 (oC (Xe0 v.x (by omega)) (oT 2 (oC (Xe0 v.y (by omega)) (oT 2 oN))))) oN)) ?_
 exact Xg (lv Xt (⟨(-v.x), (-v.y)⟩ : VecV) (by unfold Zx; rfl))
def Zo (a : Rat) (b : Rat) (c : Rat) : RootV := (bif (decide (Int.sign (Rat.num b) = 0)) then (Y9 a) else (⟨a, b, c⟩ : RootV))
theorem Xh9 (a : Rat) (b : Rat) (c : Rat) : RootV.ht (Zo a b c) ≤ 1 * (X6p a + X6p b + X6p c) + 6 := by
 rcases X7 (decide (Int.sign (Rat.num b) = 0)) with k2 | k2
 ·
  rw [show (Zo a b c) = (Y9 a) by unfold Zo; simp only [k2, X72]]
  have := Xeh a
  omega
 ·
  rw [show (Zo a b c) = (⟨a, b, c⟩ : RootV) by unfold Zo; simp only [k2, X72]]
  have := RootV.htm a b c
  omega
theorem Xh0 (a : Rat) (b : Rat) (c : Rat) : CS Tryz.prog 216 [Xc a, Xc b, Xc c] (Xl (Zo a b c)) := by
 refine cO 16 Tryz.func216 ?_
 refine rt [tv 3 (pb 3), tv 4 (pb 4), tv 5 (pb 5), tv 6 (pb 6), bv 3 (Xc a), bv 4 (Xc b), bv 5 (Xc c), bv 6 X61] (oT 4 oN) ?_
 refine Xe ?_
 refine rt [tv 3 (pb 3), tv 4 (pb 4), tv 5 (pb 5), tv 6 (pb 6), tv 9 (.bool (decide (Int.sign (Rat.num b) = 0))), bv 3 (Xc a), bv 4 (Xc b), bv 5 (Xc c), bv 6 X61] (oT 1 (oC (Za b) (oO (oB (decide (Int.sign (Rat.num b) = 0))) (oA [cT (decide (Int.sign (Rat.num b) = 0))] oN)))) ?_
 refine cB (decide (Int.sign (Rat.num b) = 0)) (fun h1 => ?_) (fun h1 => ?_)
 ·
  have h1' := of_decide_eq_true h1
  refine rt [tv 3 (pb 3), tv 4 (pb 4), tv 5 (pb 5), tv 6 (pb 6), bv 3 (Xc a), bv 4 (Xc b), bv 5 (Xc c), bv 6 (Xl (Y9 a))] (oT 1 (oC (Xel a) (oT 1 oN))) ?_
  exact Xg (lv Xl (Y9 a) (by unfold Zo; simp only [h1, X72]))
 ·
  have h1' := of_decide_eq_false h1
  refine Xn ?_
  refine rt [tv 6 (pb 6), bv 6 (Xl (⟨a, b, c⟩ : RootV))] (oT 5 oN) ?_
  exact Xg (lv Xl (⟨a, b, c⟩ : RootV) (by unfold Zo; simp only [h1, X72]))
def Yi (p : PtV) : RootV := (Zo p.ax p.bx p.c)
theorem Xij (p : PtV) : RootV.ht (Yi p) ≤ 1 * PtV.ht p + 6 := by
 rw [show (Yi p) = (Zo p.ax p.bx p.c) by unfold Yi; rfl]
 have := PtV.htd p
 have := Xh9 p.ax p.bx p.c
 omega
theorem Xkj (p : PtV) : CS Tryz.prog 138 [Xr p] (Xl (Yi p)) := by
 refine cO 10 Tryz.func138 ?_
 refine sh 2 [tv 2 (pb 2), bv 2 (Xl (Zo p.ax p.bx p.c))] (oS (oT 2 oN) (oS (oT 6 (oC (Xh0 p.ax p.bx p.c) (oT 1 oN))) oN)) ?_
 exact Xg (lv Xl (Zo p.ax p.bx p.c) (by unfold Yi; rfl))
def Jk (p : PtV) : RootV := (Zo p.ay p.byy p.c)
theorem Xl9 (p : PtV) : RootV.ht (Jk p) ≤ 1 * PtV.ht p + 6 := by
 rw [show (Jk p) = (Zo p.ay p.byy p.c) by unfold Jk; rfl]
 have := PtV.htd p
 have := Xh9 p.ay p.byy p.c
 omega
theorem Xon (p : PtV) : CS Tryz.prog 139 [Xr p] (Xl (Jk p)) := by
 refine cO 10 Tryz.func139 ?_
 refine sh 2 [tv 2 (pb 2), bv 2 (Xl (Zo p.ay p.byy p.c))] (oS (oT 2 oN) (oS (oT 6 (oC (Xh0 p.ay p.byy p.c) (oT 1 oN))) oN)) ?_
 exact Xg (lv Xl (Zo p.ay p.byy p.c) (by unfold Jk; rfl))
def Y0 (p : PtV) (q : PtV) : Int := (bif (!(decide (Zv (Yi p) (Yi q) = 0))) then (Zv (Yi p) (Yi q)) else (Zv (Jk p) (Jk q)))
theorem Xqo (p : PtV) (q : PtV) : -1 ≤ Y0 p q ∧ Y0 p q ≤ 1 := by
 rcases X7 (!(decide (Zv (Yi p) (Yi q) = 0))) with k2 | k2
 ·
  rw [show (Y0 p q) = (Zv (Yi p) (Yi q)) by unfold Y0; simp only [k2, X72]]
  have := (Xng (Yi p) (Yi q))
  omega
 ·
  rw [show (Y0 p q) = (Zv (Jk p) (Jk q)) by unfold Y0; simp only [k2, X72]]
  have := (Xng (Jk p) (Jk q))
  omega
theorem Xhn (p : PtV) (q : PtV) (hs : PtV.ht p + PtV.ht q ≤ 2147483630) : CS Tryz.prog 96 [Xr p, Xr q] (ki (Y0 p q)) := by
 refine cO 19 Tryz.func96 ?_
 refine rt [tv 2 (pb 2), tv 3 (pb 3), tv 4 (ki 0), bv 2 (Xr p), bv 3 (Xr q)] (oT 3 oN) ?_
 refine Xe ?_
 have := Xij p
 have := Xij q
 refine sh 2 [tv 2 (pb 2), tv 3 (pb 3), tv 4 (ki 0), tv 5 (ki (Zv (Yi p) (Yi q))), tv 12 (.bool (!(decide (Zv (Yi p) (Yi q) = 0)))), bv 2 (Xr p), bv 3 (Xr q)] (oS (oT 1 (oC (Xkj p) (oT 1 (oC (Xkj q) (oC (Xkr (Yi p) (Yi q) (by omega)) (oT 1 oN)))))) (oS (oT 1 (oO (oB (!(decide (Zv (Yi p) (Yi q) = 0)))) (oA [cT (!(decide (Zv (Yi p) (Yi q) = 0)))] oN))) oN)) ?_
 refine cB ((!(decide (Zv (Yi p) (Yi q) = 0)))) (fun h1 => ?_) (fun h1 => ?_)
 ·
  have h1' := of_decide_eq_false (Xdt h1)
  refine rt [tv 2 (pb 2), tv 3 (pb 3), tv 4 (ki (Zv (Yi p) (Yi q))), bv 2 (Xr p), bv 3 (Xr q)] (oT 2 oN) ?_
  exact Xg (lv ki (Zv (Yi p) (Yi q)) (by unfold Y0; simp only [h1, Xdt h1, X72]))
 ·
  have h1' := of_decide_eq_true (Xas h1)
  refine Xn ?_
  refine Xe ?_
  have := Xl9 p
  have := Xl9 q
  refine rh [tv 4 (ki (Zv (Jk p) (Jk q)))] (oT 1 (oC (Xon p) (oT 1 (oC (Xon q) (oC (Xkr (Jk p) (Jk q) (by omega)) (oT 1 oN)))))) ?_
  exact Xg (lv ki (Zv (Jk p) (Jk q)) (by unfold Y0; simp only [h1, Xas h1, X72]))
def Xa9 (p : PtV) (q : PtV) : Bool := (decide (Y0 p q = 0))
theorem Xss (p : PtV) (q : PtV) (hs : PtV.ht p + PtV.ht q ≤ 2147483630) : CS Tryz.prog 122 [Xr p, Xr q] (.bool (Xa9 p q)) := by
 refine cO 9 Tryz.func122 ?_
 refine sh 2 [tv 4 (.bool (decide (Y0 p q = 0)))] (oS (oT 3 oN) (oS (oT 2 (oC (Xhn p q (by omega)) (oO (oB (decide (Y0 p q = 0))) (oT 1 (oA [cT (decide (Y0 p q = 0))] oN))))) oN)) ?_
 exact Xg (lv AV.bool (decide (Y0 p q = 0)) (by unfold Xa9; rfl))
open Go Go.RowKit
theorem Xxx (a b : Rat) (hs : X6p a + X6p b ≤ 17179869184) : CS Tryz.prog 60 [Xc a, Xc b] (Xc (a + b)) := by
 refine cO 8 Tryz.func60 ?_
 refine sh 2 [tv 4 (pb 4), bv 4 (Xc (a + b))] (oS (oT 3 oN) (oS (oT 2 (oC (Xby a b (by omega)) (oT 1 oN))) oN)) ?_
 refine Xg ?_
 exact X7i ((Xc (a + b))) (rfl)
theorem Xxv (a b : Rat) : X6p (a + b) ≤ 1 * (X6p a + X6p b) + 1 := Xj1 a b
theorem Xm9 (a b : Rat) (hs : X6p a + X6p b ≤ 17179869184) : CS Tryz.prog 144 [Xc a, Xc b] (Xc (a - b)) := by
 refine cO 8 Tryz.func144 ?_
 refine sh 2 [tv 4 (pb 4), bv 4 (Xc (a - b))] (oS (oT 3 oN) (oS (oT 2 (oC (Xc5 a b (by omega)) (oT 1 oN))) oN)) ?_
 refine Xg ?_
 exact X7i ((Xc (a - b))) (rfl)
theorem Xmu (a b : Rat) : X6p (a - b) ≤ 1 * (X6p a + X6p b) + 1 := Xnl a b
theorem Xhx (a b : Rat) (hs : X6p a + X6p b ≤ 17179869184) : CS Tryz.prog 61 [Xc a, Xc b] (Xc (a * b)) := by
 refine cO 8 Tryz.func61 ?_
 refine sh 2 [tv 4 (pb 4), bv 4 (Xc (a * b))] (oS (oT 3 oN) (oS (oT 2 (oC (Ke a b (by omega)) (oT 1 oN))) oN)) ?_
 refine Xg ?_
 exact X7i ((Xc (a * b))) (rfl)
theorem Xdl (a b : Rat) : X6p (a * b) ≤ 1 * (X6p a + X6p b) + 0 := Xmx a b
def Yn (a : VecV) (b : VecV) : Rat := ((a.x * b.x) + (a.y * b.y))
theorem Xgq (a : VecV) (b : VecV) : X6p (Yn a b) ≤ 1 * (VecV.ht a + VecV.ht b) + 1 := by
 rw [show (Yn a b) = ((a.x * b.x) + (a.y * b.y)) by unfold Yn; rfl]
 have := VecV.htd a
 have := VecV.htd b
 have := Xdl a.x b.x
 have := Xdl a.y b.y
 have := Xxv (a.x * b.x) (a.y * b.y)
 omega
theorem Xkl (a : VecV) (b : VecV) (hs : VecV.ht a + VecV.ht b ≤ 17179869184) : CS Tryz.prog 58 [Xt a, Xt b] (Xc (Yn a b)) := by
 refine cO 16 Tryz.func58 ?_
 have := VecV.htd a
 have := VecV.htd b
 have := Xdl a.x b.x
 have := Xdl a.y b.y
 refine sh 2 [tv 4 (pb 4), bv 4 (Xc ((a.x * b.x) + (a.y * b.y)))] (oS (oT 3 oN) (oS (oT 4 (oC (Xhx a.x b.x (by omega)) (oT 4 (oC (Xhx a.y b.y (by omega)) (oC (Xxx (a.x * b.x) (a.y * b.y) (by omega)) (oT 1 oN)))))) oN)) ?_
 exact Xg (lv Xc ((a.x * b.x) + (a.y * b.y)) (by unfold Yn; rfl))
def Xw (a : VecV) (b : VecV) : Rat := ((a.x * b.y) - (a.y * b.x))
theorem Xno (a : VecV) (b : VecV) : X6p (Xw a b) ≤ 1 * (VecV.ht a + VecV.ht b) + 1 := by
 rw [show (Xw a b) = ((a.x * b.y) - (a.y * b.x)) by unfold Xw; rfl]
 have := VecV.htd a
 have := VecV.htd b
 have := Xdl a.x b.y
 have := Xdl a.y b.x
 have := Xmu (a.x * b.y) (a.y * b.x)
 omega
theorem Xf8 (a : VecV) (b : VecV) (hs : VecV.ht a + VecV.ht b ≤ 17179869184) : CS Tryz.prog 191 [Xt a, Xt b] (Xc (Xw a b)) := by
 refine cO 16 Tryz.func191 ?_
 have := VecV.htd a
 have := VecV.htd b
 have := Xdl a.x b.y
 have := Xdl a.y b.x
 refine sh 2 [tv 4 (pb 4), bv 4 (Xc ((a.x * b.y) - (a.y * b.x)))] (oS (oT 3 oN) (oS (oT 4 (oC (Xhx a.x b.y (by omega)) (oT 4 (oC (Xhx a.y b.x (by omega)) (oC (Xm9 (a.x * b.y) (a.y * b.x) (by omega)) (oT 1 oN)))))) oN)) ?_
 exact Xg (lv Xc ((a.x * b.y) - (a.y * b.x)) (by unfold Xw; rfl))
def Xd (a : VecV) (b : VecV) : VecV := (⟨b.x - a.x, b.y - a.y⟩ : VecV)
theorem K8 (a : VecV) (b : VecV) : VecV.ht (Xd a b) ≤ 1 * (VecV.ht a + VecV.ht b) + 2 := by
 rw [show (Xd a b) = (⟨b.x - a.x, b.y - a.y⟩ : VecV) by unfold Xd; rfl]
 have := VecV.htd b
 have := VecV.htd a
 have := Xmu b.x a.x
 have := Xmu b.y a.y
 have := VecV.htm (b.x - a.x) (b.y - a.y)
 omega
theorem Xc1 (a : VecV) (b : VecV) (hs : VecV.ht a + VecV.ht b ≤ 17179869184) : CS Tryz.prog 56 [Xt a, Xt b] (Xt (Xd a b)) := by
 refine cO 16 Tryz.func56 ?_
 have := VecV.htd b
 have := VecV.htd a
 refine sh 2 [tv 4 (pb 4), bv 4 (Xt (⟨b.x - a.x, b.y - a.y⟩ : VecV))] (oS (oT 3 oN) (oS (oT 4 (oC (Xm9 b.x a.x (by omega)) (oT 4 (oC (Xm9 b.y a.y (by omega)) (oT 2 oN))))) oN)) ?_
 exact Xg (lv Xt (⟨b.x - a.x, b.y - a.y⟩ : VecV) (by unfold Xd; rfl))
def Xab (a : VecV) (b : VecV) (c : VecV) (d' : VecV) : Bool := (bif (decide ((Int.sign (Rat.num (Xw (Xd a b) (Xd a c))) * Int.sign (Rat.num (Xw (Xd a b) (Xd a d')))) < 0)) then (decide ((Int.sign (Rat.num (Xw (Xd c d') (Xd c a))) * Int.sign (Rat.num (Xw (Xd c d') (Xd c b)))) < 0)) else false)
theorem Xtd (a : VecV) (b : VecV) (c : VecV) (d' : VecV) (hs : VecV.ht a + VecV.ht b + VecV.ht c + VecV.ht d' ≤ 8589934590) : CS Tryz.prog 105 [Xt a, Xt b, Xt c, Xt d'] (.bool (Xab a b c d')) := by
 refine cO 55 Tryz.func105 ?_
 have := K8 a b
 have := K8 a c
 have := K8 a d'
 have := K8 c d'
 have := K8 c a
 have := K8 c b
 refine sh 3 [tv 8 (.bool false), tv 9 (ki (Int.sign (Rat.num (Xw (Xd a b) (Xd a c))))), tv 10 (ki (Int.sign (Rat.num (Xw (Xd a b) (Xd a d'))))), tv 11 (ki (Int.sign (Rat.num (Xw (Xd c d') (Xd c a))))), tv 12 (ki (Int.sign (Rat.num (Xw (Xd c d') (Xd c b)))))] (oS (oT 5 oN) (oS (oT 2 (oC (Xc1 a b (by omega)) (oT 2 (oC (Xc1 a c (by omega)) (oC (Xf8 (Xd a b) (Xd a c) (by omega)) (oC (Za (Xw (Xd a b) (Xd a c))) (oT 2 (oC (Xc1 a b (by omega)) (oT 2 (oC (Xc1 a d' (by omega)) (oC (Xf8 (Xd a b) (Xd a d') (by omega)) (oC (Za (Xw (Xd a b) (Xd a d'))) (oT 2 oN))))))))))))) (oS (oT 2 (oC (Xc1 c d' (by omega)) (oT 2 (oC (Xc1 c a (by omega)) (oC (Xf8 (Xd c d') (Xd c a) (by omega)) (oC (Za (Xw (Xd c d') (Xd c a))) (oT 2 (oC (Xc1 c d' (by omega)) (oT 2 (oC (Xc1 c b (by omega)) (oC (Xf8 (Xd c d') (Xd c b) (by omega)) (oC (Za (Xw (Xd c d') (Xd c b))) (oT 2 oN))))))))))))) oN))) ?_
 refine Xe ?_
 rcases X7 (decide ((Int.sign (Rat.num (Xw (Xd a b) (Xd a c))) * Int.sign (Rat.num (Xw (Xd a b) (Xd a d')))) < 0)) with h1 | h1
 ·
  have h1' := of_decide_eq_true h1
  refine rh [tv 8 (.bool (decide ((Int.sign (Rat.num (Xw (Xd c d') (Xd c a))) * Int.sign (Rat.num (Xw (Xd c d') (Xd c b)))) < 0)))] (oT 2 (oO (Xb4 (Xbh (Rat.num (Xw (Xd a b) (Xd a c)))) (Xbh (Rat.num (Xw (Xd a b) (Xd a d')))) : Jx .mul .i64 (Int.sign (Rat.num (Xw (Xd a b) (Xd a c)))) (Int.sign (Rat.num (Xw (Xd a b) (Xd a d')))) = some (Int.sign (Rat.num (Xw (Xd a b) (Xd a c))) * Int.sign (Rat.num (Xw (Xd a b) (Xd a d')))) ∧ ((BinOp.mul = .quo ∨ BinOp.mul = .rem) → Int.sign (Rat.num (Xw (Xd a b) (Xd a d'))) ≠ (0 : Int))) (oO (aI trivial (h1 : (decide ((Int.sign (Rat.num (Xw (Xd a b) (Xd a c))) * Int.sign (Rat.num (Xw (Xd a b) (Xd a d')))) < 0)) = true)) (oT 1 (oO (Xh 1 trivial) (oO (Xh 1 trivial) (oO (Xh 2 (Xb4 (Xbh (Rat.num (Xw (Xd c d') (Xd c a)))) (Xbh (Rat.num (Xw (Xd c d') (Xd c b)))) : Jx .mul .i64 (Int.sign (Rat.num (Xw (Xd c d') (Xd c a)))) (Int.sign (Rat.num (Xw (Xd c d') (Xd c b)))) = some (Int.sign (Rat.num (Xw (Xd c d') (Xd c a))) * Int.sign (Rat.num (Xw (Xd c d') (Xd c b)))) ∧ ((BinOp.mul = .quo ∨ BinOp.mul = .rem) → Int.sign (Rat.num (Xw (Xd c d') (Xd c b))) ≠ (0 : Int)))) (oO (Xh 1 (oB (decide ((Int.sign (Rat.num (Xw (Xd c d') (Xd c a))) * Int.sign (Rat.num (Xw (Xd c d') (Xd c b)))) < 0)))) (oT 2 (oA [ki (Int.sign (Rat.num (Xw (Xd a b) (Xd a c))) * Int.sign (Rat.num (Xw (Xd a b) (Xd a d')))), cT true, ki (Int.sign (Rat.num (Xw (Xd c d') (Xd c a))) * Int.sign (Rat.num (Xw (Xd c d') (Xd c b)))), cT (decide ((Int.sign (Rat.num (Xw (Xd c d') (Xd c a))) * Int.sign (Rat.num (Xw (Xd c d') (Xd c b)))) < 0))] oN)))))))))) ?_
  exact Xg (lv AV.bool (decide ((Int.sign (Rat.num (Xw (Xd c d') (Xd c a))) * Int.sign (Rat.num (Xw (Xd c d') (Xd c b)))) < 0)) (by unfold Xab; simp only [h1, X72]))
 ·
  have h1' := of_decide_eq_false h1
  refine rh [tv 8 (.bool false)] (oT 2 (oO (Xb4 (Xbh (Rat.num (Xw (Xd a b) (Xd a c)))) (Xbh (Rat.num (Xw (Xd a b) (Xd a d')))) : Jx .mul .i64 (Int.sign (Rat.num (Xw (Xd a b) (Xd a c)))) (Int.sign (Rat.num (Xw (Xd a b) (Xd a d')))) = some (Int.sign (Rat.num (Xw (Xd a b) (Xd a c))) * Int.sign (Rat.num (Xw (Xd a b) (Xd a d')))) ∧ ((BinOp.mul = .quo ∨ BinOp.mul = .rem) → Int.sign (Rat.num (Xw (Xd a b) (Xd a d'))) ≠ (0 : Int))) (oO (aI trivial (h1 : (decide ((Int.sign (Rat.num (Xw (Xd a b) (Xd a c))) * Int.sign (Rat.num (Xw (Xd a b) (Xd a d')))) < 0)) = false)) (oT 1 (oO (gn [false]) (oO (gn [false]) (oO (gn [true, true]) (oO (gn [true]) (oT 2 (oA [ki (Int.sign (Rat.num (Xw (Xd a b) (Xd a c))) * Int.sign (Rat.num (Xw (Xd a b) (Xd a d')))), cT false, ki (Int.sign (Rat.num (Xw (Xd c d') (Xd c a))) * Int.sign (Rat.num (Xw (Xd c d') (Xd c b)))), cT (decide ((Int.sign (Rat.num (Xw (Xd c d') (Xd c a))) * Int.sign (Rat.num (Xw (Xd c d') (Xd c b)))) < 0))] oN)))))))))) ?_
  exact Xg (lv AV.bool false (by unfold Xab; simp only [h1, X72]))
def Y3 (a : VecV) (b : VecV) (p : VecV) : Rat := (bif (decide (Int.sign (Rat.num (Yn (Xd a b) (Xd a p))) ≤ 0)) then (Yn (Xd a p) (Xd a p)) else (bif (decide (0 ≤ Xb3 (Yn (Xd a b) (Xd a p)) (Yn (Xd a b) (Xd a b)))) then (Yn (Xd b p) (Xd b p)) else ((Xw (Xd a b) (Xd a p) * Xw (Xd a b) (Xd a p)) / Yn (Xd a b) (Xd a b))))
theorem Xbe (a : VecV) (b : VecV) (p : VecV) : X6p (Y3 a b p) ≤ 6 * (VecV.ht a + VecV.ht b + VecV.ht p) + 15 := by
 rcases X7 (decide (Int.sign (Rat.num (Yn (Xd a b) (Xd a p))) ≤ 0)) with k3 | k3
 ·
  have k3' := of_decide_eq_true k3
  rw [show (Y3 a b p) = (Yn (Xd a p) (Xd a p)) by unfold Y3; simp only [k3, X72]]
  have := K8 a p
  have := Xgq (Xd a p) (Xd a p)
  omega
 ·
  have k3' := of_decide_eq_false k3
  rcases X7 (decide (0 ≤ Xb3 (Yn (Xd a b) (Xd a p)) (Yn (Xd a b) (Xd a b)))) with k4 | k4
  ·
   have k4' := of_decide_eq_true k4
   rw [show (Y3 a b p) = (Yn (Xd b p) (Xd b p)) by unfold Y3; simp only [k3, k4, X72]]
   have := K8 b p
   have := Xgq (Xd b p) (Xd b p)
   omega
  ·
   have k4' := of_decide_eq_false k4
   rw [show (Y3 a b p) = ((Xw (Xd a b) (Xd a p) * Xw (Xd a b) (Xd a p)) / Yn (Xd a b) (Xd a b)) by unfold Y3; simp only [k3, k4, X72]]
   have := K8 a b
   have := K8 a p
   have := Xno (Xd a b) (Xd a p)
   have := Xdl (Xw (Xd a b) (Xd a p)) (Xw (Xd a b) (Xd a p))
   have := Xgq (Xd a b) (Xd a b)
   have := Xvy (Xw (Xd a b) (Xd a p) * Xw (Xd a b) (Xd a p)) (Yn (Xd a b) (Xd a b)) (Xz0 (by assumption) (by assumption))
   omega
theorem Xeo (a : VecV) (b : VecV) (p : VecV) (hs : VecV.ht a + VecV.ht b + VecV.ht p ≤ 2863311528) : CS Tryz.prog 106 [Xt a, Xt b, Xt p] (Xc (Y3 a b p)) := by
 refine cO 49 Tryz.func106 ?_
 have := K8 a b
 have := K8 a p
 refine sh 3 [tv 4 (pb 4), tv 5 (pb 5), tv 6 (pb 6), tv 7 (pb 7), tv 8 (pb 8), tv 9 (pb 9), tv 10 (pb 10), bv 4 (Xt b), bv 5 (Xt p), bv 6 zQ, bv 7 (Xt (Xd a b)), bv 8 (Xt (Xd a p)), bv 9 (Xc (Yn (Xd a b) (Xd a b))), bv 10 (Xc (Yn (Xd a b) (Xd a p)))] (oS (oT 4 oN) (oS (oT 2 (oC (Xc1 a b (by omega)) (oT 2 (oC (Xc1 a p (by omega)) (oT 4 oN))))) (oS (oT 2 (oC (Xkl (Xd a b) (Xd a b) (by omega)) (oT 2 (oC (Xkl (Xd a b) (Xd a p) (by omega)) (oT 4 oN))))) oN))) ?_
 refine Xe ?_
 refine rt [tv 4 (pb 4), tv 5 (pb 5), tv 6 (pb 6), tv 7 (pb 7), tv 8 (pb 8), tv 9 (pb 9), tv 10 (pb 10), tv 27 (.bool (decide (Int.sign (Rat.num (Yn (Xd a b) (Xd a p))) ≤ 0))), bv 4 (Xt b), bv 5 (Xt p), bv 6 zQ, bv 7 (Xt (Xd a b)), bv 8 (Xt (Xd a p)), bv 9 (Xc (Yn (Xd a b) (Xd a b))), bv 10 (Xc (Yn (Xd a b) (Xd a p)))] (oT 1 (oC (Za (Yn (Xd a b) (Xd a p))) (oO (oB (decide (Int.sign (Rat.num (Yn (Xd a b) (Xd a p))) ≤ 0))) (oA [cT (decide (Int.sign (Rat.num (Yn (Xd a b) (Xd a p))) ≤ 0))] oN)))) ?_
 refine cB (decide (Int.sign (Rat.num (Yn (Xd a b) (Xd a p))) ≤ 0)) (fun h1 => ?_) (fun h1 => ?_)
 ·
  have h1' := of_decide_eq_true h1
  refine Xe ?_
  have := K8 a p
  refine rh [tv 4 (pb 4), tv 5 (pb 5), tv 6 (pb 6), tv 7 (pb 7), tv 8 (pb 8), tv 9 (pb 9), tv 10 (pb 10), bv 4 (Xt b), bv 5 (Xt p), bv 6 (Xc (Yn (Xd a p) (Xd a p))), bv 7 (Xt (Xd a b)), bv 8 (Xt (Xd a p)), bv 9 (Xc (Yn (Xd a b) (Xd a b))), bv 10 (Xc (Yn (Xd a b) (Xd a p)))] (oT 2 (oC (Xkl (Xd a p) (Xd a p) (by omega)) (oT 1 oN))) ?_
  exact Xg (lv Xc (Yn (Xd a p) (Xd a p)) (by unfold Y3; simp only [h1, X72]))
 ·
  have h1' := of_decide_eq_false h1
  refine Xn ?_
  refine Xe ?_
  refine Xe ?_
  have := K8 a b
  have := K8 a p
  have := Xgq (Xd a b) (Xd a p)
  have := Xgq (Xd a b) (Xd a b)
  refine rh [tv 4 (pb 4), tv 5 (pb 5), tv 6 (pb 6), tv 7 (pb 7), tv 8 (pb 8), tv 9 (pb 9), tv 34 (.bool (decide (0 ≤ Xb3 (Yn (Xd a b) (Xd a p)) (Yn (Xd a b) (Xd a b))))), bv 4 (Xt b), bv 5 (Xt p), bv 6 zQ, bv 7 (Xt (Xd a b)), bv 8 (Xt (Xd a p)), bv 9 (Xc (Yn (Xd a b) (Xd a b)))] (oT 2 (oC (Xh2 (Yn (Xd a b) (Xd a p)) (Yn (Xd a b) (Xd a b)) (by omega)) (oO (oB (decide (0 ≤ Xb3 (Yn (Xd a b) (Xd a p)) (Yn (Xd a b) (Xd a b))))) (oA [cT (decide (0 ≤ Xb3 (Yn (Xd a b) (Xd a p)) (Yn (Xd a b) (Xd a b))))] oN)))) ?_
  refine cB (decide (0 ≤ Xb3 (Yn (Xd a b) (Xd a p)) (Yn (Xd a b) (Xd a b)))) (fun h2 => ?_) (fun h2 => ?_)
  ·
   have h2' := of_decide_eq_true h2
   have := K8 b p
   refine sh 2 [tv 6 (pb 6), tv 7 (pb 7), tv 8 (pb 8), tv 9 (pb 9), bv 6 (Xc (Yn (Xd b p) (Xd b p))), bv 7 (Xt (Xd a b)), bv 8 (Xt (Xd a p)), bv 9 (Xc (Yn (Xd a b) (Xd a b)))] (oS (oT 2 (oC (Xc1 b p (by omega)) (oT 2 oN))) (oS (oT 2 (oC (Xkl (Xd b p) (Xd b p) (by omega)) (oT 1 oN))) oN)) ?_
   exact Xg (lv Xc (Yn (Xd b p) (Xd b p)) (by unfold Y3; simp only [h1, h2, X72]))
  ·
   have h2' := of_decide_eq_false h2
   refine Xn ?_
   have := K8 a b
   have := K8 a p
   have := K8 a b
   have := K8 a p
   have := Xno (Xd a b) (Xd a p)
   have := Xdl (Xw (Xd a b) (Xd a p)) (Xw (Xd a b) (Xd a p))
   have := Xgq (Xd a b) (Xd a b)
   refine sh 2 [tv 6 (pb 6), bv 6 (Xc ((Xw (Xd a b) (Xd a p) * Xw (Xd a b) (Xd a p)) / Yn (Xd a b) (Xd a b)))] (oS (oT 2 (oC (Xf8 (Xd a b) (Xd a p) (by omega)) (oT 2 oN))) (oS (oT 2 (oC (Xhx (Xw (Xd a b) (Xd a p)) (Xw (Xd a b) (Xd a p)) (by omega)) (oT 1 (oC (Xvq (Xw (Xd a b) (Xd a p) * Xw (Xd a b) (Xd a p)) (Yn (Xd a b) (Xd a b)) (by omega) (Xz0 (by assumption) (by assumption))) (oT 1 oN))))) oN)) ?_
   exact Xg (lv Xc ((Xw (Xd a b) (Xd a p) * Xw (Xd a b) (Xd a p)) / Yn (Xd a b) (Xd a b)) (by unfold Y3; simp only [h1, h2, X72]))
def Xan (a : VecV) (b : VecV) (c : VecV) (d' : VecV) : Bool := (bif (decide ((Int.sign (Rat.num (Xo (Xb a b) (Xb a c))) * Int.sign (Rat.num (Xo (Xb a b) (Xb a d')))) < 0)) then (decide ((Int.sign (Rat.num (Xo (Xb c d') (Xb c a))) * Int.sign (Rat.num (Xo (Xb c d') (Xb c b)))) < 0)) else false)
theorem Xkz (a : VecV) (b : VecV) (c : VecV) (d' : VecV) (hs : VecV.ht a + VecV.ht b + VecV.ht c + VecV.ht d' ≤ 8589934590) : CS Tryz.prog 97 [Xt a, Xt b, Xt c, Xt d'] (.bool (Xan a b c d')) := by
 refine cO 47 Tryz.func97 ?_
 refine sh 2 [tv 4 (pb 4), tv 5 (pb 5), tv 6 (pb 6), tv 7 (pb 7), tv 8 (.bool false), tv 9 (pb 9), tv 10 (pb 10), bv 4 (Xt a), bv 5 (Xt b), bv 6 (Xt c), bv 7 (Xt d'), bv 9 (Xt (Xb a b)), bv 10 (Xt (Xb c d'))] (oS (oT 5 oN) (oS (oT 2 (oC (Kl a b (by omega)) (oT 2 (oC (Kl c d' (by omega)) (oT 4 oN))))) oN)) ?_
 refine Xe ?_
 rcases X7 (decide ((Int.sign (Rat.num (Xo (Xb a b) (Xb a c))) * Int.sign (Rat.num (Xo (Xb a b) (Xb a d')))) < 0)) with h1 | h1
 ·
  have h1' := of_decide_eq_true h1
  have := Yz a b
  have := Yz a c
  have := Yz a d'
  have := Yz c d'
  have := Yz c a
  have := Yz c b
  refine rh [tv 8 (.bool (decide ((Int.sign (Rat.num (Xo (Xb c d') (Xb c a))) * Int.sign (Rat.num (Xo (Xb c d') (Xb c b)))) < 0)))] (oT 3 (oC (Kl a c (by omega)) (oC (Xbm (Xb a b) (Xb a c) (by omega)) (oC (Yd (Xo (Xb a b) (Xb a c))) (oT 3 (oC (Kl a d' (by omega)) (oC (Xbm (Xb a b) (Xb a d') (by omega)) (oC (Yd (Xo (Xb a b) (Xb a d'))) (oO (Xb4 (Xbh (Rat.num (Xo (Xb a b) (Xb a c)))) (Xbh (Rat.num (Xo (Xb a b) (Xb a d')))) : Jx .mul .i64 (Int.sign (Rat.num (Xo (Xb a b) (Xb a c)))) (Int.sign (Rat.num (Xo (Xb a b) (Xb a d')))) = some (Int.sign (Rat.num (Xo (Xb a b) (Xb a c))) * Int.sign (Rat.num (Xo (Xb a b) (Xb a d')))) ∧ ((BinOp.mul = .quo ∨ BinOp.mul = .rem) → Int.sign (Rat.num (Xo (Xb a b) (Xb a d'))) ≠ (0 : Int))) (oO (aI trivial (h1 : (decide ((Int.sign (Rat.num (Xo (Xb a b) (Xb a c))) * Int.sign (Rat.num (Xo (Xb a b) (Xb a d')))) < 0)) = true)) (oT 1 (oO (Xh 1 trivial) (oO (Xh 1 trivial) (oO (Xh 1 trivial) (oO (Xh 2 (Kl c a (by omega))) (oO (Xh 2 (Xbm (Xb c d') (Xb c a) (by omega))) (oO (Xh 1 (Yd (Xo (Xb c d') (Xb c a)))) (oO (Xh 1 trivial) (oO (Xh 1 trivial) (oO (Xh 1 trivial) (oO (Xh 2 (Kl c b (by omega))) (oO (Xh 2 (Xbm (Xb c d') (Xb c b) (by omega))) (oO (Xh 1 (Yd (Xo (Xb c d') (Xb c b)))) (oO (Xh 2 (Xb4 (Xbh (Rat.num (Xo (Xb c d') (Xb c a)))) (Xbh (Rat.num (Xo (Xb c d') (Xb c b)))) : Jx .mul .i64 (Int.sign (Rat.num (Xo (Xb c d') (Xb c a)))) (Int.sign (Rat.num (Xo (Xb c d') (Xb c b)))) = some (Int.sign (Rat.num (Xo (Xb c d') (Xb c a))) * Int.sign (Rat.num (Xo (Xb c d') (Xb c b)))) ∧ ((BinOp.mul = .quo ∨ BinOp.mul = .rem) → Int.sign (Rat.num (Xo (Xb c d') (Xb c b))) ≠ (0 : Int)))) (oO (Xh 1 (oB (decide ((Int.sign (Rat.num (Xo (Xb c d') (Xb c a))) * Int.sign (Rat.num (Xo (Xb c d') (Xb c b)))) < 0)))) (oT 2 (oA [ki (Int.sign (Rat.num (Xo (Xb a b) (Xb a c))) * Int.sign (Rat.num (Xo (Xb a b) (Xb a d')))), cT true, Xt (Xb c a), Xc (Xo (Xb c d') (Xb c a)), ki (Int.sign (Rat.num (Xo (Xb c d') (Xb c a)))), Xt (Xb c b), Xc (Xo (Xb c d') (Xb c b)), ki (Int.sign (Rat.num (Xo (Xb c d') (Xb c b)))), ki (Int.sign (Rat.num (Xo (Xb c d') (Xb c a))) * Int.sign (Rat.num (Xo (Xb c d') (Xb c b)))), cT (decide ((Int.sign (Rat.num (Xo (Xb c d') (Xb c a))) * Int.sign (Rat.num (Xo (Xb c d') (Xb c b)))) < 0))] oN))))))))))))))))))))))))))) ?_
  exact Xg (lv AV.bool (decide ((Int.sign (Rat.num (Xo (Xb c d') (Xb c a))) * Int.sign (Rat.num (Xo (Xb c d') (Xb c b)))) < 0)) (by unfold Xan; simp only [h1, X72]))
 ·
  have h1' := of_decide_eq_false h1
  have := Yz a b
  have := Yz a c
  have := Yz a d'
  refine rh [tv 8 (.bool false)] (oT 3 (oC (Kl a c (by omega)) (oC (Xbm (Xb a b) (Xb a c) (by omega)) (oC (Yd (Xo (Xb a b) (Xb a c))) (oT 3 (oC (Kl a d' (by omega)) (oC (Xbm (Xb a b) (Xb a d') (by omega)) (oC (Yd (Xo (Xb a b) (Xb a d'))) (oO (Xb4 (Xbh (Rat.num (Xo (Xb a b) (Xb a c)))) (Xbh (Rat.num (Xo (Xb a b) (Xb a d')))) : Jx .mul .i64 (Int.sign (Rat.num (Xo (Xb a b) (Xb a c)))) (Int.sign (Rat.num (Xo (Xb a b) (Xb a d')))) = some (Int.sign (Rat.num (Xo (Xb a b) (Xb a c))) * Int.sign (Rat.num (Xo (Xb a b) (Xb a d')))) ∧ ((BinOp.mul = .quo ∨ BinOp.mul = .rem) → Int.sign (Rat.num (Xo (Xb a b) (Xb a d'))) ≠ (0 : Int))) (oO (aI trivial (h1 : (decide ((Int.sign (Rat.num (Xo (Xb a b) (Xb a c))) * Int.sign (Rat.num (Xo (Xb a b) (Xb a d')))) < 0)) = false)) (oT 1 (oO (gn [false]) (oO (gn [false]) (oO (gn [false]) (oO (gn [true, true]) (oO (gn [true, true]) (oO (gn [true]) (oO (gn [false]) (oO (gn [false]) (oO (gn [false]) (oO (gn [true, true]) (oO (gn [true, true]) (oO (gn [true]) (oO (gn [true, true]) (oO (gn [true]) (oT 2 (oA [ki (Int.sign (Rat.num (Xo (Xb a b) (Xb a c))) * Int.sign (Rat.num (Xo (Xb a b) (Xb a d')))), cT false, Xt (Xb c a), Xc (Xo (Xb c d') (Xb c a)), ki (Int.sign (Rat.num (Xo (Xb c d') (Xb c a)))), Xt (Xb c b), Xc (Xo (Xb c d') (Xb c b)), ki (Int.sign (Rat.num (Xo (Xb c d') (Xb c b)))), ki (Int.sign (Rat.num (Xo (Xb c d') (Xb c a))) * Int.sign (Rat.num (Xo (Xb c d') (Xb c b)))), cT (decide ((Int.sign (Rat.num (Xo (Xb c d') (Xb c a))) * Int.sign (Rat.num (Xo (Xb c d') (Xb c b)))) < 0))] oN))))))))))))))))))))))))))) ?_
  exact Xg (lv AV.bool false (by unfold Xan; simp only [h1, X72]))
def Yt (a : VecV) (b : VecV) (p : VecV) : Rat := (bif (decide (Int.sign (Rat.num (Xq (Xb a b) (Xb a p))) ≤ 0)) then (Xq (Xb a p) (Xb a p)) else (bif (decide (0 ≤ Xb3 (Xq (Xb a b) (Xb a p)) (Xq (Xb a b) (Xb a b)))) then (Xq (Xb b p) (Xb b p)) else (Ya (Xo (Xb a b) (Xb a p) * Xo (Xb a b) (Xb a p)) (Xq (Xb a b) (Xb a b)))))
theorem Ks (a : VecV) (b : VecV) (p : VecV) : X6p (Yt a b p) ≤ 6 * (VecV.ht a + VecV.ht b + VecV.ht p) + 18 := by
 rcases X7 (decide (Int.sign (Rat.num (Xq (Xb a b) (Xb a p))) ≤ 0)) with k3 | k3
 ·
  rw [show (Yt a b p) = (Xq (Xb a p) (Xb a p)) by unfold Yt; simp only [k3, X72]]
  have := Yz a p
  have := Ko (Xb a p) (Xb a p)
  omega
 ·
  rcases X7 (decide (0 ≤ Xb3 (Xq (Xb a b) (Xb a p)) (Xq (Xb a b) (Xb a b)))) with k4 | k4
  ·
   rw [show (Yt a b p) = (Xq (Xb b p) (Xb b p)) by unfold Yt; simp only [k3, k4, X72]]
   have := Yz b p
   have := Ko (Xb b p) (Xb b p)
   omega
  ·
   rw [show (Yt a b p) = (Ya (Xo (Xb a b) (Xb a p) * Xo (Xb a b) (Xb a p)) (Xq (Xb a b) (Xb a b))) by unfold Yt; simp only [k3, k4, X72]]
   have := Yz a b
   have := Yz a p
   have := Xh5 (Xb a b) (Xb a p)
   have := Z1 (Xo (Xb a b) (Xb a p)) (Xo (Xb a b) (Xb a p))
   have := Ko (Xb a b) (Xb a b)
   have := Xeq (Xo (Xb a b) (Xb a p) * Xo (Xb a b) (Xb a p)) (Xq (Xb a b) (Xb a b))
   omega
theorem Xcl (a : VecV) (b : VecV) (p : VecV) (hs : VecV.ht a + VecV.ht b + VecV.ht p ≤ 2863311528) : CS Tryz.prog 98 [Xt a, Xt b, Xt p] (Xc (Yt a b p)) := by
 refine cO 51 Tryz.func98 ?_
 have := Yz a b
 have := Yz a p
 refine sh 3 [tv 4 (pb 4), tv 5 (pb 5), tv 6 (pb 6), tv 7 (pb 7), tv 8 (pb 8), tv 9 (pb 9), tv 10 (pb 10), bv 4 (Xt b), bv 5 (Xt p), bv 6 zQ, bv 7 (Xt (Xb a b)), bv 8 (Xt (Xb a p)), bv 9 (Xc (Xq (Xb a b) (Xb a b))), bv 10 (Xc (Xq (Xb a b) (Xb a p)))] (oS (oT 4 oN) (oS (oT 2 (oC (Kl a b (by omega)) (oT 2 (oC (Kl a p (by omega)) (oT 4 oN))))) (oS (oT 2 (oC (Xcd (Xb a b) (Xb a b) (by omega)) (oT 2 (oC (Xcd (Xb a b) (Xb a p) (by omega)) (oT 4 oN))))) oN))) ?_
 refine Xe ?_
 refine X6 ?_
 refine rt [tv 4 (pb 4), tv 5 (pb 5), tv 6 (pb 6), tv 7 (pb 7), tv 8 (pb 8), tv 9 (pb 9), tv 10 (pb 10), tv 25 (.bool (decide (Int.sign (Rat.num (Xq (Xb a b) (Xb a p))) ≤ 0))), bv 4 (Xt b), bv 5 (Xt p), bv 6 zQ, bv 7 (Xt (Xb a b)), bv 8 (Xt (Xb a p)), bv 9 (Xc (Xq (Xb a b) (Xb a b))), bv 10 (Xc (Xq (Xb a b) (Xb a p)))] (oT 1 (oC (Yd (Xq (Xb a b) (Xb a p))) (oO (oB (decide (Int.sign (Rat.num (Xq (Xb a b) (Xb a p))) ≤ 0))) (oT 1 (oA [cT (decide (Int.sign (Rat.num (Xq (Xb a b) (Xb a p))) ≤ 0))] oN))))) ?_
 refine cB (decide (Int.sign (Rat.num (Xq (Xb a b) (Xb a p))) ≤ 0)) (fun h1 => ?_) (fun h1 => ?_)
 ·
  have h1' := of_decide_eq_true h1
  refine Xe ?_
  have := Yz a p
  refine rh [tv 6 (pb 6), tv 7 (pb 7), tv 8 (pb 8), tv 9 (pb 9), bv 6 (Xc (Xq (Xb a p) (Xb a p))), bv 7 (Xt (Xb a b)), bv 8 (Xt (Xb a p)), bv 9 (Xc (Xq (Xb a b) (Xb a b)))] (oT 2 (oC (Xcd (Xb a p) (Xb a p) (by omega)) (oT 1 oN))) ?_
  exact Xg (lv Xc (Xq (Xb a p) (Xb a p)) (by unfold Yt; simp only [h1, X72]))
 ·
  have h1' := of_decide_eq_false h1
  refine Xe ?_
  have := Yz a b
  have := Yz a p
  have := Ko (Xb a b) (Xb a p)
  have := Ko (Xb a b) (Xb a b)
  refine rh [tv 4 (pb 4), tv 5 (pb 5), tv 6 (pb 6), tv 7 (pb 7), tv 8 (pb 8), tv 9 (pb 9), tv 32 (.bool (decide (0 ≤ Xb3 (Xq (Xb a b) (Xb a p)) (Xq (Xb a b) (Xb a b))))), bv 4 (Xt b), bv 5 (Xt p), bv 6 zQ, bv 7 (Xt (Xb a b)), bv 8 (Xt (Xb a p)), bv 9 (Xc (Xq (Xb a b) (Xb a b)))] (oT 2 (oC (Xbq (Xq (Xb a b) (Xb a p)) (Xq (Xb a b) (Xb a b)) (by omega)) (oO (oB (decide (0 ≤ Xb3 (Xq (Xb a b) (Xb a p)) (Xq (Xb a b) (Xb a b))))) (oT 1 (oA [cT (decide (0 ≤ Xb3 (Xq (Xb a b) (Xb a p)) (Xq (Xb a b) (Xb a b))))] oN))))) ?_
  refine cB (decide (0 ≤ Xb3 (Xq (Xb a b) (Xb a p)) (Xq (Xb a b) (Xb a b)))) (fun h2 => ?_) (fun h2 => ?_)
  ·
   have h2' := of_decide_eq_true h2
   have := Yz b p
   refine sh 2 [tv 6 (pb 6), tv 7 (pb 7), tv 8 (pb 8), tv 9 (pb 9), bv 6 (Xc (Xq (Xb b p) (Xb b p))), bv 7 (Xt (Xb a b)), bv 8 (Xt (Xb a p)), bv 9 (Xc (Xq (Xb a b) (Xb a b)))] (oS (oT 2 (oC (Kl b p (by omega)) (oT 2 oN))) (oS (oT 2 (oC (Xcd (Xb b p) (Xb b p) (by omega)) (oT 1 oN))) oN)) ?_
   exact Xg (lv Xc (Xq (Xb b p) (Xb b p)) (by unfold Yt; simp only [h1, h2, X72]))
  ·
   have h2' := of_decide_eq_false h2
   refine Xn ?_
   have := Yz a b
   have := Yz a p
   have := Yz a b
   have := Yz a p
   have := Xh5 (Xb a b) (Xb a p)
   have := Z1 (Xo (Xb a b) (Xb a p)) (Xo (Xb a b) (Xb a p))
   have := Ko (Xb a b) (Xb a b)
   refine sh 2 [tv 6 (pb 6), bv 6 (Xc (Ya (Xo (Xb a b) (Xb a p) * Xo (Xb a b) (Xb a p)) (Xq (Xb a b) (Xb a b))))] (oS (oT 2 (oC (Xbm (Xb a b) (Xb a p) (by omega)) (oT 2 oN))) (oS (oT 2 (oC (Xaa (Xo (Xb a b) (Xb a p)) (Xo (Xb a b) (Xb a p)) (by omega)) (oT 1 (oC (Xi9 (Xo (Xb a b) (Xb a p) * Xo (Xb a b) (Xb a p)) (Xq (Xb a b) (Xb a b)) (by omega)) (oT 1 oN))))) oN)) ?_
   exact Xg (lv Xc (Ya (Xo (Xb a b) (Xb a p) * Xo (Xb a b) (Xb a p)) (Xq (Xb a b) (Xb a b))) (by unfold Yt; simp only [h1, h2, X72]))
def Zw (a b c d : VecV) : Rat := bif (Xan a b c d) then ((0 : Int) : Rat) else Xjj (Yt a b c) [Yt a b d, Yt c d a, Yt c d b]
theorem Xgj (a b c d : VecV) (hs : a.ht + b.ht + c.ht + d.ht ≤ 1431655762) : CS Tryz.prog 30 [Xt a, Xt b, Xt c, Xt d] (Xc (Zw a b c d)) := by
 obtain ⟨x, hx⟩ : ∃ x, x = Yt a b c := ⟨_, rfl⟩
 have bdx := Ks a b c
 rw [← hx] at bdx
 obtain ⟨y, hy⟩ : ∃ y, y = Yt a b d := ⟨_, rfl⟩
 have bdy := Ks a b d
 rw [← hy] at bdy
 obtain ⟨z, hz⟩ : ∃ z, z = Yt c d a := ⟨_, rfl⟩
 have bdz := Ks c d a
 rw [← hz] at bdz
 obtain ⟨w, hw⟩ : ∃ w, w = Yt c d b := ⟨_, rfl⟩
 have bdw := Ks c d b
 rw [← hw] at bdw
 obtain ⟨B, hB⟩ : ∃ B, B = 6 * (a.ht + b.ht + c.ht + d.ht) + 18 := ⟨_, rfl⟩
 have cx : X6p x ≤ B := by omega
 have cy : X6p y ≤ B := by omega
 have cz : X6p z ≤ B := by omega
 have cw : X6p w ≤ B := by omega
 refine cO 47 Tryz.func30 ?_
 refine rt [tv 4 (pb 4), tv 5 (pb 5), tv 6 (pb 6), tv 7 (pb 7), tv 8 (pb 8), bv 4 (Xt a), bv 5 (Xt b), bv 6 (Xt c), bv 7 (Xt d), bv 8 zQ] (oT 5 oN) ?_
 refine Xe ?_
 refine rt [tv 4 (pb 4), tv 5 (pb 5), tv 6 (pb 6), tv 7 (pb 7), tv 8 (pb 8), tv 16 (.bool (Xan a b c d)), bv 4 (Xt a), bv 5 (Xt b), bv 6 (Xt c), bv 7 (Xt d), bv 8 zQ] (oT 4 (oC (Xkz a b c d (by omega)) oN)) ?_
 refine cB (Xan a b c d) (fun h1 => ?_) (fun h1 => ?_)
 ·
  refine rt [tv 4 (pb 4), tv 5 (pb 5), tv 6 (pb 6), tv 7 (pb 7), tv 8 (pb 8), bv 4 (Xt a), bv 5 (Xt b), bv 6 (Xt c), bv 7 (Xt d), bv 8 (Xc ((0 : Int) : Rat))] (oC (Kr 0 (by decide) (by decide)) (oT 1 oN)) ?_
  refine Xg ?_
  exact X7i ((Xc ((0 : Int) : Rat))) (congrArg Xc (by unfold Zw; rw [h1]; rfl))
 ·
  refine Xn ?_
  refine rt [tv 4 (pb 4), tv 5 (pb 5), tv 6 (pb 6), tv 7 (pb 7), tv 8 (pb 8), tv 9 (pb 9), bv 4 (Xt a), bv 5 (Xt b), bv 6 (Xt c), bv 7 (Xt d), bv 8 zQ, bv 9 (Xc x)] (oT 3 (oO (show CS Tryz.prog 98 [Xt a, Xt b, Xt c] (Xc x) by rw [hx]; exact Xcl a b c (by omega)) (oT 2 (oA [Xc x] oN)))) ?_
  refine Xe ?_
  refine rt [tv 8 (pb 8), tv 9 (pb 9), tv 34 (.own 34 1), tv 35 (ki 3), tv 36 (ki 0), bv 8 zQ, bv 9 (Xc x), ov 34 (.sl 4 [Xc y, Xc z, Xc w])] (oT 3 (oO (show CS Tryz.prog 98 [Xt a, Xt b, Xt d] (Xc y) by rw [hy]; exact Xcl a b d (by omega)) (oT 3 (oO (show CS Tryz.prog 98 [Xt c, Xt d, Xt a] (Xc z) by rw [hz]; exact Xcl c d a (by omega)) (oT 3 (oO (show CS Tryz.prog 98 [Xt c, Xt d, Xt b] (Xc w) by rw [hw]; exact Xcl c d b (by omega)) (oT 1 (oO (aI trivial (rfl : (3 : Int) = ((3 : Nat) : Int))) (oT 1 (oA [Xc y, Xc z, Xc w, .tup [ki 3]] oN)))))))))) ?_
  refine X6 ?_
  refine Z0 (fun n0 l0 => ∃ (i : Nat) (o : Rat), (i ≤ 3 ∧ Xjj o ([y, z, w].drop i) = Xjj x [y, z, w] ∧ X6p o ≤ B) ∧ (3 - i) = n0 ∧ l0 = [tv 8 (pb 8), tv 9 (pb 9), tv 34 (.own 34 1), tv 35 (ki 3), tv 36 (ki ((i : Nat) : Int)), bv 8 zQ, bv 9 (Xc o), ov 34 (.sl 4 [Xc y, Xc z, Xc w])]) (n := (3 - 0)) (by kernel_rfl) ⟨0, x, ⟨by omega, rfl, cx⟩, rfl, (by kernel_rfl)⟩ ?_
  rintro n0 l0 ⟨i, o, ⟨hi1, hi2, hi3⟩, rfl, rfl⟩
  refine rt [tv 8 (pb 8), tv 9 (pb 9), tv 34 (.own 34 1), tv 35 (ki 3), tv 36 (ki ((i : Nat) : Int)), tv 37 (.bool (decide (((i : Nat) : Int) < 3))), bv 8 zQ, bv 9 (Xc o), ov 34 (.sl 4 [Xc y, Xc z, Xc w])] (oO (oB (decide (((i : Nat) : Int) < 3))) (oA [cT (decide (((i : Nat) : Int) < 3))] oN)) ?_
  refine Xe (cB (decide (((i : Nat) : Int) < 3)) (fun h2 => ?_) (fun h2 => ?_))
  ·
   have h2' := of_decide_eq_true h2
   refine Xn ?_
   refine Xe ?_
   refine X6 ?_
   have hel : X6p (([y, z, w]).getD i 0) ≤ B := X2f (p := fun x => X6p x ≤ B) cy cz cw (by omega)
   refine sh 2 [tv 8 (pb 8), tv 9 (pb 9), tv 11 (pb 11), tv 34 (.own 34 1), tv 35 (ki 3), tv 36 (ki ((i : Nat) : Int)), tv 43 (.bool (decide (Xb3 (([y, z, w]).getD i 0) o < 0))), bv 8 zQ, bv 9 (Xc o), bv 11 (Xc (([y, z, w]).getD i 0)), ov 34 (.sl 4 [Xc y, Xc z, Xc w])] (oS (oO (Xb9 i (by omega) (by simp only [List.length_map]; (try simp only [List.length_set, List.length_append, List.length_cons, List.length_nil, List.length_replicate]); omega) : (0 : Int) ≤ ((i : Nat) : Int) ∧ Int.toNat ((i : Nat) : Int) < (([y, z, w]).map Xc).length) (oO (Xed (by (try simp only [List.length_set, List.length_append, List.length_cons, List.length_nil, List.length_replicate]); omega) : (([y, z, w]).map Xc)[i]? = some (Xc (([y, z, w]).getD i 0))) (oT 2 oN))) (oS (oT 2 (oA [Xc (([y, z, w]).getD i 0)] (oC (Xbq (([y, z, w]).getD i 0) o (by omega)) (oO (oB (decide (Xb3 (([y, z, w]).getD i 0) o < 0))) (oA [cT (decide (Xb3 (([y, z, w]).getD i 0) o < 0))] oN))))) oN)) ?_
   refine cB (decide (Xb3 (([y, z, w]).getD i 0) o < 0)) (fun h3 => ?_) (fun h3 => ?_)
   ·
    have h3' := of_decide_eq_true h3
    have hel : X6p (([y, z, w]).getD i 0) ≤ B := X2f (p := fun x => X6p x ≤ B) cy cz cw (by omega)
    refine rh [tv 8 (pb 8), tv 9 (pb 9), tv 34 (.own 34 1), tv 35 (ki 3), tv 36 (ki ((i : Nat) : Int)), bv 8 zQ, bv 9 (Xc (([y, z, w]).getD i 0)), ov 34 (.sl 4 [Xc y, Xc z, Xc w])] (oT 2 oN) ?_
    refine rh [tv 8 (pb 8), tv 9 (pb 9), tv 34 (.own 34 1), tv 35 (ki 3), tv 36 (ki ((i + 1 : Nat) : Int)), bv 8 zQ, bv 9 (Xc (([y, z, w]).getD i 0)), ov 34 (.sl 4 [Xc y, Xc z, Xc w])] (oO (X3 (x := ((i : Nat) : Int)) (y := 1) (by omega) (by omega)) (oT 1 (oA [ki ((i + 1 : Nat) : Int)] oN))) ?_
    have hst := Xkv o [y, z, w] (show i < [y, z, w].length by simp only [List.length_cons, List.length_nil]; omega)
    unfold Xoj at hst
    rw [h3] at hst
    rw [hst] at hi2
    have hbo := hel
    exact ⟨3 - (i + 1), [tv 8 (pb 8), tv 9 (pb 9), tv 34 (.own 34 1), tv 35 (ki 3), tv 36 (ki ((i + 1 : Nat) : Int)), bv 8 zQ, bv 9 (Xc (([y, z, w]).getD i 0)), ov 34 (.sl 4 [Xc y, Xc z, Xc w])], (by omega), rfl, (by kernel_rfl), i + 1, ([y, z, w]).getD i 0, ⟨by omega, hi2, hbo⟩, rfl, (by kernel_rfl)⟩
   ·
    have h3' := of_decide_eq_false h3
    refine Xn ?_
    refine rh [tv 8 (pb 8), tv 9 (pb 9), tv 34 (.own 34 1), tv 35 (ki 3), tv 36 (ki ((i + 1 : Nat) : Int)), bv 8 zQ, bv 9 (Xc o), ov 34 (.sl 4 [Xc y, Xc z, Xc w])] (oO (X3 (x := ((i : Nat) : Int)) (y := 1) (by omega) (by omega)) (oT 1 (oA [ki ((i + 1 : Nat) : Int)] oN))) ?_
    have hst := Xkv o [y, z, w] (show i < [y, z, w].length by simp only [List.length_cons, List.length_nil]; omega)
    unfold Xoj at hst
    rw [h3] at hst
    rw [hst] at hi2
    have hbo : X6p o ≤ B := hi3
    exact ⟨3 - (i + 1), [tv 8 (pb 8), tv 9 (pb 9), tv 34 (.own 34 1), tv 35 (ki 3), tv 36 (ki ((i + 1 : Nat) : Int)), bv 8 zQ, bv 9 (Xc o), ov 34 (.sl 4 [Xc y, Xc z, Xc w])], (by omega), rfl, (by kernel_rfl), i + 1, o, ⟨by omega, hi2, hbo⟩, rfl, (by kernel_rfl)⟩
  ·
   have h2' := of_decide_eq_false h2
   refine Z3 ?_
   refine rt [tv 8 (pb 8), bv 8 (Xc o)] (oT 2 oN) ?_
   refine Xg ?_
   have hi : i = 3 := by omega
   subst hi
   exact X7i ((Xc o)) (congrArg Xc (by unfold Zw; rw [h1, ← hx, ← hy, ← hz, ← hw, cond_false, ← hi2]; rfl))
theorem Xec {B : Nat} : ∀ (l : List Rat) (o : Rat), X6p o ≤ B → (∀ x ∈ l, X6p x ≤ B) → X6p (Xjj o l) ≤ B
  | [], o, h, _ => h
  | n :: l, o, h, k => by
    have : Xjj o (n :: l) = Xjj (Xoj o n) l := rfl
    rw [this]
    refine Xec l _ ?_ (fun x hx => k x (by simp [hx]))
    unfold Xoj; cases decide (Xb3 n o < 0)
    · exact h
    · exact k n (by simp)
theorem Xgk (a b c d : VecV) : X6p (Zw a b c d) ≤ 6 * (a.ht + b.ht + c.ht + d.ht) + 18 := by
  have bx := Ks a b c; have b1 := Ks a b d; have bz := Ks c d a; have bw := Ks c d b
  unfold Zw
  cases Xan a b c d
  · refine Xec _ _ (by omega) (fun x hx => ?_)
    simp only [List.mem_cons, List.not_mem_nil, or_false] at hx
    rcases hx with hx | hx | hx <;> rw [hx] <;> omega
  · have : X6p ((0 : Int) : Rat) ≤ 1 := by have := Xhj 0; rw [Xl8] at this; omega
    simp only [cond_true]; omega
def Kp (a b c d : VecV) : Rat := bif (Xab a b c d) then ((0 : Int) : Rat) else Xjj (Y3 a b c) [Y3 a b d, Y3 c d a, Y3 c d b]
theorem Xp2 (a b c d : VecV) (hs : a.ht + b.ht + c.ht + d.ht ≤ 1431655762) : CS Tryz.prog 33 [Xt a, Xt b, Xt c, Xt d] (Xc (Kp a b c d)) := by
 obtain ⟨x, hx⟩ : ∃ x, x = Y3 a b c := ⟨_, rfl⟩
 have bdx := Xbe a b c
 rw [← hx] at bdx
 obtain ⟨y, hy⟩ : ∃ y, y = Y3 a b d := ⟨_, rfl⟩
 have bdy := Xbe a b d
 rw [← hy] at bdy
 obtain ⟨z, hz⟩ : ∃ z, z = Y3 c d a := ⟨_, rfl⟩
 have bdz := Xbe c d a
 rw [← hz] at bdz
 obtain ⟨w, hw⟩ : ∃ w, w = Y3 c d b := ⟨_, rfl⟩
 have bdw := Xbe c d b
 rw [← hw] at bdw
 obtain ⟨B, hB⟩ : ∃ B, B = 6 * (a.ht + b.ht + c.ht + d.ht) + 15 := ⟨_, rfl⟩
 have cx : X6p x ≤ B := by omega
 have cy : X6p y ≤ B := by omega
 have cz : X6p z ≤ B := by omega
 have cw : X6p w ≤ B := by omega
 refine cO 53 Tryz.func33 ?_
 refine rt [tv 4 (pb 4), tv 5 (pb 5), tv 6 (pb 6), tv 7 (pb 7), tv 8 (pb 8), bv 4 (Xt a), bv 5 (Xt b), bv 6 (Xt c), bv 7 (Xt d), bv 8 zQ] (oT 5 oN) ?_
 refine Xe ?_
 refine rt [tv 4 (pb 4), tv 5 (pb 5), tv 6 (pb 6), tv 7 (pb 7), tv 8 (pb 8), tv 16 (.bool (Xab a b c d)), bv 4 (Xt a), bv 5 (Xt b), bv 6 (Xt c), bv 7 (Xt d), bv 8 zQ] (oT 4 (oC (Xtd a b c d (by omega)) oN)) ?_
 refine cB (Xab a b c d) (fun h1 => ?_) (fun h1 => ?_)
 ·
  refine rt [tv 4 (pb 4), tv 5 (pb 5), tv 6 (pb 6), tv 7 (pb 7), tv 8 (pb 8), bv 4 (Xt a), bv 5 (Xt b), bv 6 (Xt c), bv 7 (Xt d), bv 8 (Xc ((0 : Int) : Rat))] (oC (Kk 0 (by decide) (by decide)) (oT 1 oN)) ?_
  refine Xg ?_
  exact X7i ((Xc ((0 : Int) : Rat))) (congrArg Xc (by unfold Kp; rw [h1]; rfl))
 ·
  refine Xn ?_
  refine sh 2 [tv 8 (pb 8), tv 9 (pb 9), tv 10 (.own 34 1), bv 8 zQ, bv 9 (Xc x), ov 34 (.sl 4 [Xc y, Xc z, Xc w])] (oS (oT 3 (oO (show CS Tryz.prog 106 [Xt a, Xt b, Xt c] (Xc x) by rw [hx]; exact Xeo a b c (by omega)) (oT 2 oN))) (oS (oT 3 (oO (show CS Tryz.prog 106 [Xt a, Xt b, Xt d] (Xc y) by rw [hy]; exact Xeo a b d (by omega)) (oT 3 (oO (show CS Tryz.prog 106 [Xt c, Xt d, Xt a] (Xc z) by rw [hz]; exact Xeo c d a (by omega)) (oT 3 (oO (show CS Tryz.prog 106 [Xt c, Xt d, Xt b] (Xc w) by rw [hw]; exact Xeo c d b (by omega)) (oT 2 (oA [Xc x, Xc y, Xc z, Xc w] oN)))))))) oN)) ?_
  refine Xe ?_
  refine rt [tv 8 (pb 8), tv 9 (pb 9), tv 10 (.own 34 1), tv 11 (ki 0), bv 8 zQ, bv 9 (Xc x), ov 34 (.sl 4 [Xc y, Xc z, Xc w])] (oT 1 oN) ?_
  refine X6 ?_
  refine Z0 (fun n0 l0 => ∃ (i : Nat) (o : Rat), (i ≤ 3 ∧ Xjj o ([y, z, w].drop i) = Xjj x [y, z, w] ∧ X6p o ≤ B) ∧ (3 - i) = n0 ∧ l0 = [tv 8 (pb 8), tv 9 (pb 9), tv 10 (.own 34 1), tv 11 (ki ((i : Nat) : Int)), bv 8 zQ, bv 9 (Xc o), ov 34 (.sl 4 [Xc y, Xc z, Xc w])]) (n := (3 - 0)) (by kernel_rfl) ⟨0, x, ⟨by omega, rfl, cx⟩, rfl, (by kernel_rfl)⟩ ?_
  rintro n0 l0 ⟨i, o, ⟨hi1, hi2, hi3⟩, rfl, rfl⟩
  refine Xe ?_
  refine rt [tv 8 (pb 8), tv 9 (pb 9), tv 10 (.own 34 1), tv 11 (ki ((i : Nat) : Int)), tv 38 (.bool (decide (((i : Nat) : Int) < 3))), bv 8 zQ, bv 9 (Xc o), ov 34 (.sl 4 [Xc y, Xc z, Xc w])] (oT 2 (oO (aI trivial (rfl : (3 : Int) = ((3 : Nat) : Int))) (oO (oB (decide (((i : Nat) : Int) < 3))) (oA [.tup [ki 3], cT (decide (((i : Nat) : Int) < 3))] oN)))) ?_
  refine cB (decide (((i : Nat) : Int) < 3)) (fun h2 => ?_) (fun h2 => ?_)
  ·
   have h2' := of_decide_eq_true h2
   refine Xn ?_
   refine Xe ?_
   refine X6 ?_
   refine Xe ?_
   have hel : X6p (([y, z, w]).getD i 0) ≤ B := X2f (p := fun x => X6p x ≤ B) cy cz cw (by omega)
   refine rh [tv 8 (pb 8), tv 9 (pb 9), tv 10 (.own 34 1), tv 11 (ki ((i : Nat) : Int)), tv 47 (.bool (decide (Xb3 (([y, z, w]).getD i 0) o < 0))), bv 8 zQ, bv 9 (Xc o), ov 34 (.sl 4 [Xc y, Xc z, Xc w])] (oT 2 (oO (Xb9 i (by omega) (by simp only [List.length_map]; (try simp only [List.length_set, List.length_append, List.length_cons, List.length_nil, List.length_replicate]); omega) : (0 : Int) ≤ ((i : Nat) : Int) ∧ Int.toNat ((i : Nat) : Int) < (([y, z, w]).map Xc).length) (oO (Xed (by (try simp only [List.length_set, List.length_append, List.length_cons, List.length_nil, List.length_replicate]); omega) : (([y, z, w]).map Xc)[i]? = some (Xc (([y, z, w]).getD i 0))) (oT 1 (oA [Xc (([y, z, w]).getD i 0)] (oC (Xh2 (([y, z, w]).getD i 0) o (by omega)) (oO (oB (decide (Xb3 (([y, z, w]).getD i 0) o < 0))) (oA [cT (decide (Xb3 (([y, z, w]).getD i 0) o < 0))] oN)))))))) ?_
   refine cB (decide (Xb3 (([y, z, w]).getD i 0) o < 0)) (fun h3 => ?_) (fun h3 => ?_)
   ·
    have h3' := of_decide_eq_true h3
    refine rh [tv 8 (pb 8), tv 9 (pb 9), tv 10 (.own 34 1), tv 11 (ki ((i : Nat) : Int)), bv 8 zQ, bv 9 (Xc (([y, z, w]).getD i 0)), ov 34 (.sl 4 [Xc y, Xc z, Xc w])] (oT 2 (oO (Xb9 i (by omega) (by simp only [List.length_map]; (try simp only [List.length_set, List.length_append, List.length_cons, List.length_nil, List.length_replicate]); omega) : (0 : Int) ≤ ((i : Nat) : Int) ∧ Int.toNat ((i : Nat) : Int) < (([y, z, w]).map Xc).length) (oO (Xed (by (try simp only [List.length_set, List.length_append, List.length_cons, List.length_nil, List.length_replicate]); omega) : (([y, z, w]).map Xc)[i]? = some (Xc (([y, z, w]).getD i 0))) (oT 1 (oA [Xc (([y, z, w]).getD i 0)] oN))))) ?_
    refine rh [tv 8 (pb 8), tv 9 (pb 9), tv 10 (.own 34 1), tv 11 (ki ((i + 1 : Nat) : Int)), bv 8 zQ, bv 9 (Xc (([y, z, w]).getD i 0)), ov 34 (.sl 4 [Xc y, Xc z, Xc w])] (oT 1 (oO (X3 (x := ((i : Nat) : Int)) (y := 1) (by omega) (by omega)) (oT 1 (oA [ki ((i + 1 : Nat) : Int)] oN)))) ?_
    have hst := Xkv o [y, z, w] (show i < [y, z, w].length by simp only [List.length_cons, List.length_nil]; omega)
    unfold Xoj at hst
    rw [h3] at hst
    rw [hst] at hi2
    have hbo := hel
    exact ⟨3 - (i + 1), [tv 8 (pb 8), tv 9 (pb 9), tv 10 (.own 34 1), tv 11 (ki ((i + 1 : Nat) : Int)), bv 8 zQ, bv 9 (Xc (([y, z, w]).getD i 0)), ov 34 (.sl 4 [Xc y, Xc z, Xc w])], (by omega), rfl, (by kernel_rfl), i + 1, ([y, z, w]).getD i 0, ⟨by omega, hi2, hbo⟩, rfl, (by kernel_rfl)⟩
   ·
    have h3' := of_decide_eq_false h3
    refine Xn ?_
    refine rh [tv 8 (pb 8), tv 9 (pb 9), tv 10 (.own 34 1), tv 11 (ki ((i + 1 : Nat) : Int)), bv 8 zQ, bv 9 (Xc o), ov 34 (.sl 4 [Xc y, Xc z, Xc w])] (oT 1 (oO (X3 (x := ((i : Nat) : Int)) (y := 1) (by omega) (by omega)) (oT 1 (oA [ki ((i + 1 : Nat) : Int)] oN)))) ?_
    have hst := Xkv o [y, z, w] (show i < [y, z, w].length by simp only [List.length_cons, List.length_nil]; omega)
    unfold Xoj at hst
    rw [h3] at hst
    rw [hst] at hi2
    have hbo : X6p o ≤ B := hi3
    exact ⟨3 - (i + 1), [tv 8 (pb 8), tv 9 (pb 9), tv 10 (.own 34 1), tv 11 (ki ((i + 1 : Nat) : Int)), bv 8 zQ, bv 9 (Xc o), ov 34 (.sl 4 [Xc y, Xc z, Xc w])], (by omega), rfl, (by kernel_rfl), i + 1, o, ⟨by omega, hi2, hbo⟩, rfl, (by kernel_rfl)⟩
  ·
   have h2' := of_decide_eq_false h2
   refine Z3 ?_
   refine rt [tv 8 (pb 8), bv 8 (Xc o)] (oT 2 oN) ?_
   refine Xg ?_
   have hi : i = 3 := by omega
   subst hi
   exact X7i ((Xc o)) (congrArg Xc (by unfold Kp; rw [h1, ← hx, ← hy, ← hz, ← hw, cond_false, ← hi2]; rfl))
theorem Xf5 {B : Nat} : ∀ (l : List Rat) (o : Rat), X6p o ≤ B → (∀ x ∈ l, X6p x ≤ B) → X6p (Xjj o l) ≤ B
  | [], o, h, _ => h
  | n :: l, o, h, k => by
    have : Xjj o (n :: l) = Xjj (Xoj o n) l := rfl
    rw [this]
    refine Xf5 l _ ?_ (fun x hx => k x (by simp [hx]))
    unfold Xoj; cases decide (Xb3 n o < 0)
    · exact h
    · exact k n (by simp)
theorem Xqh (a b c d : VecV) : X6p (Kp a b c d) ≤ 6 * (a.ht + b.ht + c.ht + d.ht) + 15 := by
  have bx := Xbe a b c; have b1 := Xbe a b d; have bz := Xbe c d a; have bw := Xbe c d b
  unfold Kp
  cases Xab a b c d
  · refine Xf5 _ _ (by omega) (fun x hx => ?_)
    simp only [List.mem_cons, List.not_mem_nil, or_false] at hx
    rcases hx with hx | hx | hx <;> rw [hx] <;> omega
  · have : X6p ((0 : Int) : Rat) ≤ 1 := by have := Xhj 0; rw [Xl8] at this; omega
    simp only [cond_true]; omega
end Am
end Go.Proofs.YtmlgfablnbbceaaGreat

