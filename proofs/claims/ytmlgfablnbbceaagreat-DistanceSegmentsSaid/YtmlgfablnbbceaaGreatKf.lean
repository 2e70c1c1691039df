/- What is proved: see the last text of this claim. -/
import Derived.Test.YtmlgfablnbbceaaGreatKe
set_option linter.all false
namespace Go.Proofs.YtmlgfablnbbceaaGreat
namespace Am
open Go Go.RowKit
def IvV.ok (a : IvV) : Prop := -2305843009213693952 ≤ a.low ∧ a.low ≤ a.high ∧ a.high ≤ 2305843009213693952
def Xfg (a b : IvV) : Option IvV := Xfb (Xn6 [b.low, b.high] [a.low, a.high] (2305843009213693952, -2305843009213693952)) (fun s => some ⟨s.1, s.2⟩) none
theorem Xmm (x y : Int) (hx0 : 0 ≤ x) (hx1 : x < 18446744073709551616) (hy0 : 0 ≤ y) (hy1 : y < 18446744073709551616) : CS Tryz.prog 302 [ku x, ku y] (.tup [ku (x * y / 18446744073709551616), ku (x * y % 18446744073709551616)]) := by
 have b1 : 0 ≤ (x % 4294967296) ∧ (x % 4294967296) < 4294967296 := by omega
 have b2 : 0 ≤ (x / 4294967296) ∧ (x / 4294967296) < 4294967296 := by omega
 have b3 : 0 ≤ (y % 4294967296) ∧ (y % 4294967296) < 4294967296 := by omega
 have b4 : 0 ≤ (y / 4294967296) ∧ (y / 4294967296) < 4294967296 := by omega
 have m1 := Xoq b1 b3
 have m2 := Xoq b2 b3
 have m3 := Xoq b1 b4
 have m4 := Xoq b2 b4
 have hfin := X5k (x := x) (y := y) (x0 := (x % 4294967296)) (x1 := (x / 4294967296)) (y0 := (y % 4294967296)) (y1 := (y / 4294967296)) (by omega) (by omega) rfl rfl rfl
 have hpx := Lm.mul_lt hx0 hx1 hy0 hy1
 have hpn := Int.mul_nonneg hx0 hy0
 have hpd : x * y / 18446744073709551616 < 18446744073709551616 := Int.ediv_lt_of_lt_mul (by decide) (by omega)
 refine cO 51 Tryz.func302 ?_
 refine sh 12 [tv 4 (ku ((((x / 4294967296) * (y / 4294967296)) + ((((x / 4294967296) * (y % 4294967296)) + (((x % 4294967296) * (y % 4294967296)) / 4294967296)) / 4294967296)) + ((((((x / 4294967296) * (y % 4294967296)) + (((x % 4294967296) * (y % 4294967296)) / 4294967296)) % 4294967296) + ((x % 4294967296) * (y / 4294967296))) / 4294967296))), tv 5 (ku ((x * y) % 18446744073709551616))] (oS (oT 2 oN) (oS (oT 1 (oO (Xo1 (by omega) (by omega) : Jx .and .u64 x 4294967295 = some (x % 4294967296) ∧ ((BinOp.and = .quo ∨ BinOp.and = .rem) → 4294967295 ≠ (0 : Int))) (oT 1 oN))) (oS (oT 1 (oO (Xj7 (by omega) : Jx .shr .u64 x 32 = some (x / 4294967296) ∧ ((BinOp.shr = .quo ∨ BinOp.shr = .rem) → 32 ≠ (0 : Int))) (oT 1 oN))) (oS (oT 1 (oO (Xo1 (by omega) (by omega) : Jx .and .u64 y 4294967295 = some (y % 4294967296) ∧ ((BinOp.and = .quo ∨ BinOp.and = .rem) → 4294967295 ≠ (0 : Int))) (oT 1 oN))) (oS (oT 1 (oO (Xj7 (by omega) : Jx .shr .u64 y 32 = some (y / 4294967296) ∧ ((BinOp.shr = .quo ∨ BinOp.shr = .rem) → 32 ≠ (0 : Int))) (oT 1 oN))) (oS (oT 2 (oO (Xaf (x := (x % 4294967296)) (y := (y % 4294967296)) (by omega) (by omega)) (oT 1 oN))) (oS (oT 2 (oO (Xaf (x := (x / 4294967296)) (y := (y % 4294967296)) (by omega) (by omega)) (oT 1 (oO (Xj7 (by omega) : Jx .shr .u64 ((x % 4294967296) * (y % 4294967296)) 32 = some (((x % 4294967296) * (y % 4294967296)) / 4294967296) ∧ ((BinOp.shr = .quo ∨ BinOp.shr = .rem) → 32 ≠ (0 : Int))) (oO (Jp (x := ((x / 4294967296) * (y % 4294967296))) (y := (((x % 4294967296) * (y % 4294967296)) / 4294967296)) (by omega) (by omega)) (oT 1 oN)))))) (oS (oT 1 (oO (Xo1 (by omega) (by omega) : Jx .and .u64 (((x / 4294967296) * (y % 4294967296)) + (((x % 4294967296) * (y % 4294967296)) / 4294967296)) 4294967295 = some ((((x / 4294967296) * (y % 4294967296)) + (((x % 4294967296) * (y % 4294967296)) / 4294967296)) % 4294967296) ∧ ((BinOp.and = .quo ∨ BinOp.and = .rem) → 4294967295 ≠ (0 : Int))) (oT 1 oN))) (oS (oT 1 (oO (Xj7 (by omega) : Jx .shr .u64 (((x / 4294967296) * (y % 4294967296)) + (((x % 4294967296) * (y % 4294967296)) / 4294967296)) 32 = some ((((x / 4294967296) * (y % 4294967296)) + (((x % 4294967296) * (y % 4294967296)) / 4294967296)) / 4294967296) ∧ ((BinOp.shr = .quo ∨ BinOp.shr = .rem) → 32 ≠ (0 : Int))) (oT 1 oN))) (oS (oT 3 (oO (Xaf (x := (x % 4294967296)) (y := (y / 4294967296)) (by omega) (by omega)) (oO (Jp (x := ((((x / 4294967296) * (y % 4294967296)) + (((x % 4294967296) * (y % 4294967296)) / 4294967296)) % 4294967296)) (y := ((x % 4294967296) * (y / 4294967296))) (by omega) (by omega)) (oT 1 oN)))) (oS (oT 2 (oO (Xaf (x := (x / 4294967296)) (y := (y / 4294967296)) (by omega) (by omega)) (oT 1 (oO (Jp (x := ((x / 4294967296) * (y / 4294967296))) (y := ((((x / 4294967296) * (y % 4294967296)) + (((x % 4294967296) * (y % 4294967296)) / 4294967296)) / 4294967296)) (by omega) (by omega)) (oT 1 (oO (Xj7 (by omega) : Jx .shr .u64 (((((x / 4294967296) * (y % 4294967296)) + (((x % 4294967296) * (y % 4294967296)) / 4294967296)) % 4294967296) + ((x % 4294967296) * (y / 4294967296))) 32 = some ((((((x / 4294967296) * (y % 4294967296)) + (((x % 4294967296) * (y % 4294967296)) / 4294967296)) % 4294967296) + ((x % 4294967296) * (y / 4294967296))) / 4294967296) ∧ ((BinOp.shr = .quo ∨ BinOp.shr = .rem) → 32 ≠ (0 : Int))) (oO (Jp (x := (((x / 4294967296) * (y / 4294967296)) + ((((x / 4294967296) * (y % 4294967296)) + (((x % 4294967296) * (y % 4294967296)) / 4294967296)) / 4294967296))) (y := ((((((x / 4294967296) * (y % 4294967296)) + (((x % 4294967296) * (y % 4294967296)) / 4294967296)) % 4294967296) + ((x % 4294967296) * (y / 4294967296))) / 4294967296)) (by omega) (by omega)) (oT 1 oN)))))))) (oS (oT 2 (oO (Xtb x y : Jx .mul .u64 x y = some ((x * y) % 18446744073709551616) ∧ ((BinOp.mul = .quo ∨ BinOp.mul = .rem) → y ≠ (0 : Int))) (oT 1 (oA [ku (x % 4294967296), ku (x / 4294967296), ku (y % 4294967296), ku (y / 4294967296), ku ((x % 4294967296) * (y % 4294967296)), ku ((x / 4294967296) * (y % 4294967296)), ku (((x % 4294967296) * (y % 4294967296)) / 4294967296), ku (((x / 4294967296) * (y % 4294967296)) + (((x % 4294967296) * (y % 4294967296)) / 4294967296)), ku ((((x / 4294967296) * (y % 4294967296)) + (((x % 4294967296) * (y % 4294967296)) / 4294967296)) % 4294967296), ku ((((x / 4294967296) * (y % 4294967296)) + (((x % 4294967296) * (y % 4294967296)) / 4294967296)) / 4294967296), ku ((x % 4294967296) * (y / 4294967296)), ku (((((x / 4294967296) * (y % 4294967296)) + (((x % 4294967296) * (y % 4294967296)) / 4294967296)) % 4294967296) + ((x % 4294967296) * (y / 4294967296))), ku ((x / 4294967296) * (y / 4294967296)), ku (((x / 4294967296) * (y / 4294967296)) + ((((x / 4294967296) * (y % 4294967296)) + (((x % 4294967296) * (y % 4294967296)) / 4294967296)) / 4294967296)), ku ((((((x / 4294967296) * (y % 4294967296)) + (((x % 4294967296) * (y % 4294967296)) / 4294967296)) % 4294967296) + ((x % 4294967296) * (y / 4294967296))) / 4294967296), ku ((((x / 4294967296) * (y / 4294967296)) + ((((x / 4294967296) * (y % 4294967296)) + (((x % 4294967296) * (y % 4294967296)) / 4294967296)) / 4294967296)) + ((((((x / 4294967296) * (y % 4294967296)) + (((x % 4294967296) * (y % 4294967296)) / 4294967296)) % 4294967296) + ((x % 4294967296) * (y / 4294967296))) / 4294967296)), ku ((x * y) % 18446744073709551616)] oN)))) oN)))))))))))) ?_
 refine Xg ?_
 exact X7i ((.tup [ku ((((x / 4294967296) * (y / 4294967296)) + ((((x / 4294967296) * (y % 4294967296)) + (((x % 4294967296) * (y % 4294967296)) / 4294967296)) / 4294967296)) + ((((((x / 4294967296) * (y % 4294967296)) + (((x % 4294967296) * (y % 4294967296)) / 4294967296)) % 4294967296) + ((x % 4294967296) * (y / 4294967296))) / 4294967296)), ku ((x * y) % 18446744073709551616)])) (by rw [hfin])
theorem Xl1 (n : Int) (h0 : -9223372036854775808 ≤ n) (h1 : n < 9223372036854775808) : CS Tryz.prog 303 [ki n] (ku ((Int.natAbs n : Nat) : Int)) := by
 refine cO 10 Tryz.func303 ?_
 refine rt [tv 0 (ki n), tv 2 (ku 0)] (oT 1 oN) ?_
 refine Xe ?_
 refine rt [tv 0 (ki n), tv 2 (ku 0), tv 4 (.bool (decide (n < 0)))] (oT 1 (oO (oB (decide (n < 0))) (oA [cT (decide (n < 0))] oN))) ?_
 refine cB (decide (n < 0)) (fun h1 => ?_) (fun h1 => ?_)
 ·
  have h1' := of_decide_eq_true h1
  refine rt [tv 0 (ki n), tv 2 (ku (-n))] (oT 1 (oO (Xlp n : (n % 18446744073709551616) = IntKind.u64.wrap n) (oO (Xuy h0 (by omega) : (-n) = IntKind.u64.wrap (0 - (n % 18446744073709551616))) (oT 1 (oA [ku (n % 18446744073709551616), ku (-n)] oN))))) ?_
  refine Xg ?_
  exact X7i ((ku (-n))) (congrArg (AV.int .u64) (by omega))
 ·
  have h1' := of_decide_eq_false h1
  refine Xn ?_
  refine rt [tv 2 (ku (n % 18446744073709551616))] (oT 1 (oO (Xlp n : (n % 18446744073709551616) = IntKind.u64.wrap n) (oT 1 (oA [ku (n % 18446744073709551616)] oN)))) ?_
  refine Xg ?_
  exact X7i ((ku (n % 18446744073709551616))) (congrArg (AV.int .u64) (by omega))
theorem Xoi (x y : Int) (hx0 : -9223372036854775808 ≤ x) (hx1 : x < 9223372036854775808) (hy0 : -9223372036854775808 ≤ y) (hy1 : y < 9223372036854775808) : CS Tryz.prog 297 [ki x, ki y] (.tup [ki (Z8 x y).1, ki (Z8 x y).2.1, .bool (Z8 x y).2.2]) := by
 obtain ⟨p, hp⟩ : ∃ p, p = ((Int.natAbs x : Nat) : Int) * ((Int.natAbs y : Nat) : Int) := ⟨_, rfl⟩
 have hp0 : 0 ≤ p := by rw [hp]; exact Int.mul_nonneg (by omega) (by omega)
 have hp1 : p ≤ 9223372036854775808 * 9223372036854775808 := by rw [hp]; exact Int.mul_le_mul (by omega) (by omega) (by omega) (by decide)
 refine cO 56 Tryz.func297 ?_
 refine sh 2 [tv 0 (ki x), tv 1 (ki y), tv 4 (ki 0), tv 5 (ki 0), tv 6 (.bool false), tv 7 (ku (p / 18446744073709551616)), tv 8 (ku (p % 18446744073709551616))] (oS (oT 3 oN) (oS (oT 1 (oC (Xl1 x (by omega) (by omega)) (oT 1 (oC (Xl1 y (by omega) (by omega)) (oO (show CS Tryz.prog 302 [ku ((Int.natAbs x : Nat) : Int), ku ((Int.natAbs y : Nat) : Int)] (.tup [ku (p / 18446744073709551616), ku (p % 18446744073709551616)]) by rw [hp]; exact Xmm _ _ (by omega) (by omega) (by omega) (by omega)) (oT 5 (oA [.tup [ku (p / 18446744073709551616), ku (p % 18446744073709551616)]] oN))))))) oN)) ?_
 refine Xe ?_
 refine rt [tv 0 (ki x), tv 1 (ki y), tv 4 (ki 0), tv 5 (ki 0), tv 6 (.bool false), tv 7 (ku (p / 18446744073709551616)), tv 8 (ku (p % 18446744073709551616)), tv 22 (.bool (!(decide (((p / 18446744073709551616) / 65536) = 0))))] (oT 1 (oO (Xtp (by omega) : Jx .shr .u64 (p / 18446744073709551616) 16 = some ((p / 18446744073709551616) / 65536) ∧ ((BinOp.shr = .quo ∨ BinOp.shr = .rem) → 16 ≠ (0 : Int))) (oO (oB (!(decide (((p / 18446744073709551616) / 65536) = 0)))) (oA [ku ((p / 18446744073709551616) / 65536), cT (!(decide (((p / 18446744073709551616) / 65536) = 0)))] oN)))) ?_
 refine cB ((!(decide (((p / 18446744073709551616) / 65536) = 0)))) (fun h1 => ?_) (fun h1 => ?_)
 ·
  have h1' := of_decide_eq_false (Xdt h1)
  refine rt [tv 0 (ki x), tv 1 (ki y), tv 4 (ki 0), tv 5 (ki 0), tv 6 (.bool false), tv 7 (ku (p / 18446744073709551616)), tv 8 (ku (p % 18446744073709551616))] (oT 3 oN) ?_
  refine Xg ?_
  exact X7i ((.tup [ki 0, ki 0, .bool false])) (by rw [Xqg hp (by omega)])
 ·
  have h1' := of_decide_eq_true (Xas h1)
  refine Xn ?_
  refine rt [tv 0 (ki x), tv 1 (ki y), tv 4 (ki 0), tv 5 (ki 0), tv 6 (.bool false), tv 8 (ku (p % 18446744073709551616)), tv 9 (ku (((p / 18446744073709551616) * 281474976710656) + ((p % 18446744073709551616) / 65536)))] (oT 1 (oO (Xyc (by omega) (by omega) : Jx .shl .u64 (p / 18446744073709551616) 48 = some ((p / 18446744073709551616) * 281474976710656) ∧ ((BinOp.shl = .quo ∨ BinOp.shl = .rem) → 48 ≠ (0 : Int))) (oT 1 (oO (Xtp (by omega) : Jx .shr .u64 (p % 18446744073709551616) 16 = some ((p % 18446744073709551616) / 65536) ∧ ((BinOp.shr = .quo ∨ BinOp.shr = .rem) → 16 ≠ (0 : Int))) (oO (X0r (by omega) (by omega) (by omega) (by omega) : Jx .or .u64 ((p / 18446744073709551616) * 281474976710656) ((p % 18446744073709551616) / 65536) = some (((p / 18446744073709551616) * 281474976710656) + ((p % 18446744073709551616) / 65536)) ∧ ((BinOp.or = .quo ∨ BinOp.or = .rem) → ((p % 18446744073709551616) / 65536) ≠ (0 : Int))) (oT 1 (oA [ku ((p / 18446744073709551616) * 281474976710656), ku ((p % 18446744073709551616) / 65536), ku (((p / 18446744073709551616) * 281474976710656) + ((p % 18446744073709551616) / 65536))] oN))))))) ?_
  refine Xe ?_
  refine rt [tv 0 (ki x), tv 1 (ki y), tv 4 (ki 0), tv 5 (ki 0), tv 6 (.bool false), tv 8 (ku (p % 18446744073709551616)), tv 9 (ku (((p / 18446744073709551616) * 281474976710656) + ((p % 18446744073709551616) / 65536))), tv 29 (.bool (decide (2305843009213693952 < (((p / 18446744073709551616) * 281474976710656) + ((p % 18446744073709551616) / 65536)))))] (oT 1 (oO (oB (decide (2305843009213693952 < (((p / 18446744073709551616) * 281474976710656) + ((p % 18446744073709551616) / 65536))))) (oA [cT (decide (2305843009213693952 < (((p / 18446744073709551616) * 281474976710656) + ((p % 18446744073709551616) / 65536))))] oN))) ?_
  refine cB (decide (2305843009213693952 < (((p / 18446744073709551616) * 281474976710656) + ((p % 18446744073709551616) / 65536)))) (fun h2 => ?_) (fun h2 => ?_)
  ·
   have h2' := of_decide_eq_true h2
   refine rt [tv 0 (ki x), tv 1 (ki y), tv 4 (ki 0), tv 5 (ki 0), tv 6 (.bool false), tv 8 (ku (p % 18446744073709551616)), tv 9 (ku (((p / 18446744073709551616) * 281474976710656) + ((p % 18446744073709551616) / 65536)))] (oT 3 oN) ?_
   refine Xg ?_
   exact X7i ((.tup [ki 0, ki 0, .bool false])) (by rw [Xqg hp (by omega)])
  ·
   have h2' := of_decide_eq_false h2
   refine Xn ?_
   refine rt [tv 0 (ki x), tv 1 (ki y), tv 4 (ki 0), tv 5 (ki 0), tv 6 (.bool false), tv 8 (ku (p % 18446744073709551616)), tv 10 (ki (p / 65536)), tv 11 (ki (p / 65536))] (oT 1 (oO (show (p / 65536) = IntKind.i64.wrap (((p / 18446744073709551616) * 281474976710656) + ((p % 18446744073709551616) / 65536)) by rw [Xf0 (by omega) (by omega)]; omega) (oT 1 (oO (show (p / 65536) = IntKind.i64.wrap (((p / 18446744073709551616) * 281474976710656) + ((p % 18446744073709551616) / 65536)) by rw [Xf0 (by omega) (by omega)]; omega) (oT 2 (oA [ki (p / 65536), ki (p / 65536)] oN)))))) ?_
   refine Xhh (fun l0 => ∃ (hh : Int), (hh = -(-p / 65536)) ∧ l0 = [tv 0 (ki x), tv 1 (ki y), tv 4 (ki 0), tv 5 (ki 0), tv 6 (.bool false), tv 10 (ki (p / 65536)), tv 11 (ki hh)]) ?_ ?_
   ·
    refine rt [tv 0 (ki x), tv 1 (ki y), tv 4 (ki 0), tv 5 (ki 0), tv 6 (.bool false), tv 10 (ki (p / 65536)), tv 11 (ki (p / 65536)), tv 36 (.bool (!(decide (((p % 18446744073709551616) % 65536) = 0))))] (oT 1 (oO (Xyz (by omega) (by omega) : Jx .and .u64 (p % 18446744073709551616) 65535 = some ((p % 18446744073709551616) % 65536) ∧ ((BinOp.and = .quo ∨ BinOp.and = .rem) → 65535 ≠ (0 : Int))) (oO (oB (!(decide (((p % 18446744073709551616) % 65536) = 0)))) (oA [ku ((p % 18446744073709551616) % 65536), cT (!(decide (((p % 18446744073709551616) % 65536) = 0)))] oN)))) ?_
    refine cB ((!(decide (((p % 18446744073709551616) % 65536) = 0)))) (fun h3 => ?_) (fun h3 => ?_)
    ·
     have h3' := of_decide_eq_false (Xdt h3)
     refine rh [tv 0 (ki x), tv 1 (ki y), tv 4 (ki 0), tv 5 (ki 0), tv 6 (.bool false), tv 10 (ki (p / 65536)), tv 11 (ki ((p / 65536) + 1))] (oT 1 (oO (X3 (x := (p / 65536)) (y := 1) (by omega) (by omega)) (oT 1 (oA [ki ((p / 65536) + 1)] oN)))) ?_
     exact ⟨_, rfl, (p / 65536) + 1, (by omega), (by kernel_rfl)⟩
    ·
     have h3' := of_decide_eq_true (Xas h3)
     refine Xcz (live := [tv 0 (ki x), tv 1 (ki y), tv 4 (ki 0), tv 5 (ki 0), tv 6 (.bool false), tv 10 (ki (p / 65536)), tv 11 (ki (p / 65536))]) (by kernel_rfl) (by kernel_rfl) ?_
     refine Xn ?_
     exact ⟨_, rfl, p / 65536, (by omega), (by kernel_rfl)⟩
   rintro l0 ⟨hh, hhh, rfl⟩
   refine Xe ?_
   refine rt [tv 4 (ki 0), tv 5 (ki 0), tv 6 (.bool false), tv 10 (ki (p / 65536)), tv 11 (ki hh), tv 43 (.bool (!(decide (x < 0) == decide (y < 0))))] (oT 1 (oO (oB (decide (x < 0))) (oT 1 (oO (oB (decide (y < 0))) (oO (oB (!(decide (x < 0) == decide (y < 0)))) (oA [cT (decide (x < 0)), cT (decide (y < 0)), cT (!(decide (x < 0) == decide (y < 0)))] oN)))))) ?_
   refine cB ((!(decide (x < 0) == decide (y < 0)))) (fun h4 => ?_) (fun h4 => ?_)
   ·
    have h4' := Xgt (Xdt h4)
    refine rh [tv 4 (ki 0), tv 5 (ki 0), tv 6 (.bool false), tv 10 (ki (-hh)), tv 11 (ki (-(p / 65536)))] (oT 1 (oO (Xhm (by omega) (by omega) : (-hh) = IntKind.i64.wrap (0 - hh)) (oT 1 (oO (Xhm (by omega) (by omega) : (-(p / 65536)) = IntKind.i64.wrap (0 - (p / 65536))) (oT 2 (oA [ki (-hh), ki (-(p / 65536))] oN)))))) ?_
    refine Xe ?_
    rcases X7 (decide ((-2305843009213693952) ≤ (-hh))) with h5 | h5
    ·
     have h5' := of_decide_eq_true h5
     refine rh [tv 4 (ki (-hh)), tv 5 (ki (-(p / 65536))), tv 6 (.bool (decide ((-(p / 65536)) ≤ 2305843009213693952)))] (oT 3 (oO (aI trivial (h5 : (decide ((-2305843009213693952) ≤ (-hh))) = true)) (oT 1 (oO (Xh 1 trivial) (oO (Xh 1 (oB (decide ((-(p / 65536)) ≤ 2305843009213693952)))) (oT 4 (oA [cT true, cT (decide ((-(p / 65536)) ≤ 2305843009213693952))] oN))))))) ?_
     refine Xg ?_
     have hxy := Xt0 (x := x) (y := y) h4'
     rw [← hp] at hxy
     exact X7i ((.tup [ki (-hh), ki (-(p / 65536)), .bool (decide ((-(p / 65536)) ≤ 2305843009213693952))])) (by rw [Xkq (lo := (-hh)) (hi := (-(p / 65536))) (b := (decide ((-(p / 65536)) ≤ 2305843009213693952))) hp (by omega) (by rw [hxy] <;> omega) (by rw [hxy] <;> omega) (by rw [h5]; rfl)])
    ·
     have h5' := of_decide_eq_false h5
     refine rh [tv 4 (ki (-hh)), tv 5 (ki (-(p / 65536))), tv 6 (.bool false)] (oT 3 (oO (aI trivial (h5 : (decide ((-2305843009213693952) ≤ (-hh))) = false)) (oT 1 (oO (gn [false]) (oO (gn [true]) (oT 4 (oA [cT false, cT (decide ((-(p / 65536)) ≤ 2305843009213693952))] oN))))))) ?_
     refine Xg ?_
     have hxy := Xt0 (x := x) (y := y) h4'
     rw [← hp] at hxy
     exact X7i ((.tup [ki (-hh), ki (-(p / 65536)), .bool false])) (by rw [Xkq (lo := (-hh)) (hi := (-(p / 65536))) (b := false) hp (by omega) (by rw [hxy] <;> omega) (by rw [hxy] <;> omega) (by rw [h5]; rfl)])
   ·
    have h4' := Xg0 (Xas h4)
    refine Xn ?_
    refine Xe ?_
    rcases X7 (decide ((-2305843009213693952) ≤ (p / 65536))) with h6 | h6
    ·
     have h6' := of_decide_eq_true h6
     refine rh [tv 4 (ki (p / 65536)), tv 5 (ki hh), tv 6 (.bool (decide (hh ≤ 2305843009213693952)))] (oT 3 (oO (aI trivial (h6 : (decide ((-2305843009213693952) ≤ (p / 65536))) = true)) (oT 1 (oO (Xh 1 trivial) (oO (Xh 1 (oB (decide (hh ≤ 2305843009213693952)))) (oT 4 (oA [cT true, cT (decide (hh ≤ 2305843009213693952))] oN))))))) ?_
     refine Xg ?_
     have hxy := Xs9 (x := x) (y := y) h4'
     rw [← hp] at hxy
     exact X7i ((.tup [ki (p / 65536), ki hh, .bool (decide (hh ≤ 2305843009213693952))])) (by rw [Xkq (lo := (p / 65536)) (hi := hh) (b := (decide (hh ≤ 2305843009213693952))) hp (by omega) (by rw [hxy] <;> omega) (by rw [hxy] <;> omega) (by rw [h6]; rfl)])
    ·
     have h6' := of_decide_eq_false h6
     refine rh [tv 4 (ki (p / 65536)), tv 5 (ki hh), tv 6 (.bool false)] (oT 3 (oO (aI trivial (h6 : (decide ((-2305843009213693952) ≤ (p / 65536))) = false)) (oT 1 (oO (gn [false]) (oO (gn [true]) (oT 4 (oA [cT false, cT (decide (hh ≤ 2305843009213693952))] oN))))))) ?_
     refine Xg ?_
     have hxy := Xs9 (x := x) (y := y) h4'
     rw [← hp] at hxy
     exact X7i ((.tup [ki (p / 65536), ki hh, .bool false])) (by rw [Xkq (lo := (p / 65536)) (hi := hh) (b := false) hp (by omega) (by rw [hxy] <;> omega) (by rw [hxy] <;> omega) (by rw [h6]; rfl)])
theorem Xlc (n : Int) (h0 : 0 ≤ n) (h1 : n ≤ 2305843009213693952) : CS Tryz.prog 293 [ki n] (.tup [ki (Xbp n).1, .bool (Xbp n).2]) := by
 have l1 := Xfi (n := n) (by omega) (by omega)
 have l2 := Xdq 65536 (by decide)
 have l3 := Jm n 65536
 have l4 := Xkg (n * 65536) (by omega)
 have l5 := Jm (Y1 (n * 65536)) (Y1 (n * 65536))
 have l6 := Xzz h0 h1
 unfold Xbp at l6
 dsimp only at l6
 refine cO 30 Tryz.func293 ?_
 refine sh 5 [tv 2 (ki (Y1 (n * 65536))), tv 3 (.bool (decide (Int.sign ((Y1 (n * 65536) * Y1 (n * 65536)) - (n * 65536)) = 0)))] (oS (oT 2 oN) (oS (oT 1 (oC (Jz n (by omega) (by omega)) (oC (Jz 65536 (by omega) (by omega)) (oC (Kz n 65536 (by omega)) (oT 2 oN))))) (oS (oT 1 (oC (Xgx (n * 65536) (by omega)) (oT 6 oN))) (oS (oT 1 (oO (Jl (Xgg (Y1 (n * 65536)) (by omega)) (by rw [Xuo (by omega) (by omega)]) : CS Tryz.prog 295 [Xf (Y1 (n * 65536))] (.tup [ki (Y1 (n * 65536)), .bool true])) (oT 2 (oO (oB true) (oT 2 oN))))) (oS (oT 3 (oA [.tup [ki (Y1 (n * 65536)), .bool true], .rptr (.bool true)] (oC (Kz (Y1 (n * 65536)) (Y1 (n * 65536)) (by omega)) (oT 1 (oC (Ky (Y1 (n * 65536) * Y1 (n * 65536)) (n * 65536) (by omega)) (oO (oB (decide (Int.sign ((Y1 (n * 65536) * Y1 (n * 65536)) - (n * 65536)) = 0))) (oT 2 (oA [cT (decide (Int.sign ((Y1 (n * 65536) * Y1 (n * 65536)) - (n * 65536)) = 0))] oN)))))))) oN))))) ?_
 refine Xg ?_
 exact X7i ((.tup [ki (Y1 (n * 65536)), .bool (decide (Int.sign ((Y1 (n * 65536) * Y1 (n * 65536)) - (n * 65536)) = 0))])) (congrArg (fun x => AV.tup [ki (Y1 (n * 65536)), .bool x]) (decide_eq_decide.2 sign_zero))
theorem Xcp (a b : IvV) (ha : a.ok) (hb : b.ok) : CS Tryz.prog 282 [Xk a, Xk b] (Xdr Xk (.st [ki 0, ki 0]) (.bool true) (.bool false) (Xfg a b)) := by
 unfold IvV.ok at ha hb
 refine Xge (N := 56) X6y Tryz.func282 rfl rfl rfl rfl rfl (Xg1 _ _ _ _ _) ?_
 refine sh 2 [tv 2 (pb 2), tv 3 (pb 3), tv 4 (pb 4), tv 5 (.bool false), tv 6 (ki 2305843009213693952), tv 7 (ki (-2305843009213693952)), bv 2 (Xk a), bv 3 (Xk b), bv 4 (Xk (⟨0, 0⟩ : IvV))] (oS (oT 4 oN) (oS (oT 2 oN) oN)) ?_
 refine Xe ?_
 refine rt [tv 3 (pb 3), tv 4 (pb 4), tv 5 (.bool false), tv 6 (ki 2305843009213693952), tv 7 (ki (-2305843009213693952)), tv 19 (.own 19 1), tv 20 (ki 2), tv 21 (ki 0), bv 3 (Xk b), bv 4 (Xk (⟨0, 0⟩ : IvV)), ov 19 (.sl 1 [ki a.low, ki a.high])] (oT 5 (oO (aI trivial (rfl : (2 : Int) = ((2 : Nat) : Int))) (oT 1 (oA [.tup [ki 2]] oN)))) ?_
 refine X6 ?_
 refine Z0 (fun n0 l0 => ∃ (i : Nat) (lo : Int) (hi : Int), (i ≤ 2 ∧ Xn6 [b.low, b.high] ([a.low, a.high].drop i) (lo, hi) = Xn6 [b.low, b.high] [a.low, a.high] (2305843009213693952, -2305843009213693952)) ∧ (2 - i) = n0 ∧ l0 = [tv 3 (pb 3), tv 4 (pb 4), tv 5 (.bool false), tv 6 (ki lo), tv 7 (ki hi), tv 19 (.own 19 1), tv 20 (ki 2), tv 21 (ki ((i : Nat) : Int)), bv 3 (Xk b), bv 4 (Xk (⟨0, 0⟩ : IvV)), ov 19 (.sl 1 [ki a.low, ki a.high])]) (n := (2 - 0)) (by kernel_rfl) ⟨0, 2305843009213693952, (-2305843009213693952), ⟨by omega, rfl⟩, rfl, (by kernel_rfl)⟩ ?_
 rintro n0 l0 ⟨i, lo, hi, ⟨hi1, hi2⟩, rfl, rfl⟩
 refine rt [tv 3 (pb 3), tv 4 (pb 4), tv 5 (.bool false), tv 6 (ki lo), tv 7 (ki hi), tv 19 (.own 19 1), tv 20 (ki 2), tv 21 (ki ((i : Nat) : Int)), tv 22 (.bool (decide (((i : Nat) : Int) < 2))), bv 3 (Xk b), bv 4 (Xk (⟨0, 0⟩ : IvV)), ov 19 (.sl 1 [ki a.low, ki a.high])] (oO (oB (decide (((i : Nat) : Int) < 2))) (oA [cT (decide (((i : Nat) : Int) < 2))] oN)) ?_
 refine Xe (cB (decide (((i : Nat) : Int) < 2)) (fun h1 => ?_) (fun h1 => ?_))
 ·
  have h1' := of_decide_eq_true h1
  refine Xn ?_
  refine Xe ?_
  refine X6 ?_
  refine sh 2 [tv 3 (pb 3), tv 4 (pb 4), tv 5 (.bool false), tv 6 (ki lo), tv 7 (ki hi), tv 9 (ki (([a.low, a.high]).getD i 0)), tv 19 (.own 19 1), tv 20 (ki 2), tv 21 (ki ((i : Nat) : Int)), tv 29 (.own 29 1), tv 30 (ki 2), tv 31 (ki 0), bv 3 (Xk b), bv 4 (Xk (⟨0, 0⟩ : IvV)), ov 19 (.sl 1 [ki a.low, ki a.high]), ov 29 (.sl 1 [ki b.low, ki b.high])] (oS (oO (Xb9 i (by omega) (by simp only [List.length_map]; (try simp only [List.length_set, List.length_append, List.length_cons, List.length_nil, List.length_replicate]); omega) : (0 : Int) ≤ ((i : Nat) : Int) ∧ Int.toNat ((i : Nat) : Int) < (([a.low, a.high]).map (AV.int .i64)).length) (oO (Xed (by (try simp only [List.length_set, List.length_append, List.length_cons, List.length_nil, List.length_replicate]); omega) : (([a.low, a.high]).map (AV.int .i64))[i]? = some (ki (([a.low, a.high]).getD i 0))) (oT 1 oN))) (oS (oT 5 (oO (aI trivial (rfl : (2 : Int) = ((2 : Nat) : Int))) (oT 1 (oA [ki (([a.low, a.high]).getD i 0), .tup [ki 2]] oN)))) oN)) ?_
  refine X6 ?_
  have hX := X4z (p := fun x => -2305843009213693952 ≤ x ∧ x ≤ 2305843009213693952) (x := a.low) (y := a.high) (by omega) (by omega) (show i < 2 by omega)
  try dsimp only at hX
  refine Z0 (fun n0 l0 => ∃ (k : Nat) (lo2 : Int) (hi2v : Int), (k ≤ 2 ∧ Xim (([a.low, a.high]).getD i 0) ([b.low, b.high].drop k) (lo2, hi2v) = Xim (([a.low, a.high]).getD i 0) [b.low, b.high] (lo, hi)) ∧ (2 - k) = n0 ∧ l0 = [tv 3 (pb 3), tv 4 (pb 4), tv 5 (.bool false), tv 6 (ki lo2), tv 7 (ki hi2v), tv 9 (ki (([a.low, a.high]).getD i 0)), tv 19 (.own 19 1), tv 20 (ki 2), tv 21 (ki ((i : Nat) : Int)), tv 29 (.own 29 1), tv 30 (ki 2), tv 31 (ki ((k : Nat) : Int)), bv 3 (Xk b), bv 4 (Xk (⟨0, 0⟩ : IvV)), ov 19 (.sl 1 [ki a.low, ki a.high]), ov 29 (.sl 1 [ki b.low, ki b.high])]) (n := (2 - 0)) (by kernel_rfl) ⟨0, lo, hi, ⟨by omega, rfl⟩, rfl, (by kernel_rfl)⟩ ?_
  rintro n0 l0 ⟨k, lo2, hi2v, ⟨hk1, hk2⟩, rfl, rfl⟩
  refine rt [tv 3 (pb 3), tv 4 (pb 4), tv 5 (.bool false), tv 6 (ki lo2), tv 7 (ki hi2v), tv 9 (ki (([a.low, a.high]).getD i 0)), tv 19 (.own 19 1), tv 20 (ki 2), tv 21 (ki ((i : Nat) : Int)), tv 29 (.own 29 1), tv 30 (ki 2), tv 31 (ki ((k : Nat) : Int)), tv 32 (.bool (decide (((k : Nat) : Int) < 2))), bv 3 (Xk b), bv 4 (Xk (⟨0, 0⟩ : IvV)), ov 19 (.sl 1 [ki a.low, ki a.high]), ov 29 (.sl 1 [ki b.low, ki b.high])] (oO (oB (decide (((k : Nat) : Int) < 2))) (oA [cT (decide (((k : Nat) : Int) < 2))] oN)) ?_
  refine Xe (cB (decide (((k : Nat) : Int) < 2)) (fun h2 => ?_) (fun h2 => ?_))
  ·
   have h2' := of_decide_eq_true h2
   refine Xn ?_
   refine Xe ?_
   refine X6 ?_
   have hY := X4z (p := fun x => -2305843009213693952 ≤ x ∧ x ≤ 2305843009213693952) (x := b.low) (y := b.high) (by omega) (by omega) (show k < 2 by omega)
   try dsimp only at hY
   have hst := Xw6 (x := (([a.low, a.high]).getD i 0)) (l := [b.low, b.high]) (k := k) (lo2, hi2v) (by simp only [List.length_cons, List.length_nil]; omega)
   refine sh 2 [tv 3 (pb 3), tv 4 (pb 4), tv 5 (.bool false), tv 6 (ki lo2), tv 7 (ki hi2v), tv 9 (ki (([a.low, a.high]).getD i 0)), tv 12 (ki (Z8 (([a.low, a.high]).getD i 0) (([b.low, b.high]).getD k 0)).1), tv 13 (ki (Z8 (([a.low, a.high]).getD i 0) (([b.low, b.high]).getD k 0)).2.1), tv 14 (.bool (Z8 (([a.low, a.high]).getD i 0) (([b.low, b.high]).getD k 0)).2.2), tv 19 (.own 19 1), tv 20 (ki 2), tv 21 (ki ((i : Nat) : Int)), tv 29 (.own 29 1), tv 30 (ki 2), tv 31 (ki ((k : Nat) : Int)), bv 3 (Xk b), bv 4 (Xk (⟨0, 0⟩ : IvV)), ov 19 (.sl 1 [ki a.low, ki a.high]), ov 29 (.sl 1 [ki b.low, ki b.high])] (oS (oO (Xb9 k (by omega) (by simp only [List.length_map]; (try simp only [List.length_set, List.length_append, List.length_cons, List.length_nil, List.length_replicate]); omega) : (0 : Int) ≤ ((k : Nat) : Int) ∧ Int.toNat ((k : Nat) : Int) < (([b.low, b.high]).map (AV.int .i64)).length) (oO (Xed (by (try simp only [List.length_set, List.length_append, List.length_cons, List.length_nil, List.length_replicate]); omega) : (([b.low, b.high]).map (AV.int .i64))[k]? = some (ki (([b.low, b.high]).getD k 0))) (oT 1 oN))) (oS (oT 2 (oA [ki (([b.low, b.high]).getD k 0)] (oC (Xoi (([a.low, a.high]).getD i 0) (([b.low, b.high]).getD k 0) (by omega) (by omega) (by omega) (by omega)) (oT 3 (oO (oB ((Z8 (([a.low, a.high]).getD i 0) (([b.low, b.high]).getD k 0)).2.2)) (oT 3 (oA [.rptr (.bool (Z8 (([a.low, a.high]).getD i 0) (([b.low, b.high]).getD k 0)).2.2)] oN))))))) oN)) ?_
   refine Xe ?_
   refine rt [tv 3 (pb 3), tv 4 (pb 4), tv 5 (.bool false), tv 6 (ki lo2), tv 7 (ki hi2v), tv 9 (ki (([a.low, a.high]).getD i 0)), tv 12 (ki (Z8 (([a.low, a.high]).getD i 0) (([b.low, b.high]).getD k 0)).1), tv 13 (ki (Z8 (([a.low, a.high]).getD i 0) (([b.low, b.high]).getD k 0)).2.1), tv 19 (.own 19 1), tv 20 (ki 2), tv 21 (ki ((i : Nat) : Int)), tv 29 (.own 29 1), tv 30 (ki 2), tv 31 (ki ((k : Nat) : Int)), tv 43 (.bool (!(Z8 (([a.low, a.high]).getD i 0) (([b.low, b.high]).getD k 0)).2.2)), bv 3 (Xk b), bv 4 (Xk (⟨0, 0⟩ : IvV)), ov 19 (.sl 1 [ki a.low, ki a.high]), ov 29 (.sl 1 [ki b.low, ki b.high])] (oT 1 (oO (oB (!(Z8 (([a.low, a.high]).getD i 0) (([b.low, b.high]).getD k 0)).2.2)) (oA [.rptr (.bool (!(Z8 (([a.low, a.high]).getD i 0) (([b.low, b.high]).getD k 0)).2.2))] oN))) ?_
   refine cB ((!(Z8 (([a.low, a.high]).getD i 0) (([b.low, b.high]).getD k 0)).2.2)) (fun h3 => ?_) (fun h3 => ?_)
   ·
    refine rt [tv 3 (pb 3), tv 4 (pb 4), tv 5 (.bool false), tv 6 (ki lo2), tv 7 (ki hi2v), tv 9 (ki (([a.low, a.high]).getD i 0)), tv 12 (ki (Z8 (([a.low, a.high]).getD i 0) (([b.low, b.high]).getD k 0)).1), tv 13 (ki (Z8 (([a.low, a.high]).getD i 0) (([b.low, b.high]).getD k 0)).2.1), tv 19 (.own 19 1), tv 20 (ki 2), tv 21 (ki ((i : Nat) : Int)), tv 29 (.own 29 1), tv 30 (ki 2), tv 31 (ki ((k : Nat) : Int)), bv 3 (Xk b), bv 4 (Xk (⟨0, 0⟩ : IvV)), ov 19 (.sl 1 [ki a.low, ki a.high]), ov 29 (.sl 1 [ki b.low, ki b.high])] (oT 3 oN) ?_
    refine Xg ?_
    rw [hst, Xdt h3, cond_false] at hk2
    have hm := Xuh (ys := [b.low, b.high]) (l := [a.low, a.high]) (k := i) (lo, hi) (by simp only [List.length_cons, List.length_nil]; omega)
    rw [← hk2, hi2] at hm
    exact X7i ((.tup [Xk (⟨0, 0⟩ : IvV), .bool false])) (by unfold Xfg; rw [hm]; rfl)
   ·
    refine Xn ?_
    refine rh [tv 3 (pb 3), tv 4 (pb 4), tv 5 (.bool false), tv 6 (ki (X6v lo2 (Z8 (([a.low, a.high]).getD i 0) (([b.low, b.high]).getD k 0)).1)), tv 7 (ki (X71 hi2v (Z8 (([a.low, a.high]).getD i 0) (([b.low, b.high]).getD k 0)).2.1)), tv 9 (ki (([a.low, a.high]).getD i 0)), tv 19 (.own 19 1), tv 20 (ki 2), tv 21 (ki ((i : Nat) : Int)), tv 29 (.own 29 1), tv 30 (ki 2), tv 31 (ki ((k : Nat) : Int)), bv 3 (Xk b), bv 4 (Xk (⟨0, 0⟩ : IvV)), ov 19 (.sl 1 [ki a.low, ki a.high]), ov 29 (.sl 1 [ki b.low, ki b.high])] (oT 2 (oO (oB (X6v lo2 (Z8 (([a.low, a.high]).getD i 0) (([b.low, b.high]).getD k 0)).1)) (oT 2 (oO (oB (X71 hi2v (Z8 (([a.low, a.high]).getD i 0) (([b.low, b.high]).getD k 0)).2.1)) (oT 2 (oA [.tup [ki (X6v lo2 (Z8 (([a.low, a.high]).getD i 0) (([b.low, b.high]).getD k 0)).1)], .tup [ki (X71 hi2v (Z8 (([a.low, a.high]).getD i 0) (([b.low, b.high]).getD k 0)).2.1)]] oN)))))) ?_
    refine rh [tv 3 (pb 3), tv 4 (pb 4), tv 5 (.bool false), tv 6 (ki (X6v lo2 (Z8 (([a.low, a.high]).getD i 0) (([b.low, b.high]).getD k 0)).1)), tv 7 (ki (X71 hi2v (Z8 (([a.low, a.high]).getD i 0) (([b.low, b.high]).getD k 0)).2.1)), tv 9 (ki (([a.low, a.high]).getD i 0)), tv 19 (.own 19 1), tv 20 (ki 2), tv 21 (ki ((i : Nat) : Int)), tv 29 (.own 29 1), tv 30 (ki 2), tv 31 (ki ((k + 1 : Nat) : Int)), bv 3 (Xk b), bv 4 (Xk (⟨0, 0⟩ : IvV)), ov 19 (.sl 1 [ki a.low, ki a.high]), ov 29 (.sl 1 [ki b.low, ki b.high])] (oO (X3 (x := ((k : Nat) : Int)) (y := 1) (by omega) (by omega)) (oT 1 (oA [ki ((k + 1 : Nat) : Int)] oN))) ?_
    rw [hst, Xas h3, cond_true] at hk2
    exact ⟨2 - (k + 1), [tv 3 (pb 3), tv 4 (pb 4), tv 5 (.bool false), tv 6 (ki (X6v lo2 (Z8 (([a.low, a.high]).getD i 0) (([b.low, b.high]).getD k 0)).1)), tv 7 (ki (X71 hi2v (Z8 (([a.low, a.high]).getD i 0) (([b.low, b.high]).getD k 0)).2.1)), tv 9 (ki (([a.low, a.high]).getD i 0)), tv 19 (.own 19 1), tv 20 (ki 2), tv 21 (ki ((i : Nat) : Int)), tv 29 (.own 29 1), tv 30 (ki 2), tv 31 (ki ((k + 1 : Nat) : Int)), bv 3 (Xk b), bv 4 (Xk (⟨0, 0⟩ : IvV)), ov 19 (.sl 1 [ki a.low, ki a.high]), ov 29 (.sl 1 [ki b.low, ki b.high])], (by omega), rfl, (by kernel_rfl), k + 1, X6v lo2 (Z8 (([a.low, a.high]).getD i 0) (([b.low, b.high]).getD k 0)).1, X71 hi2v (Z8 (([a.low, a.high]).getD i 0) (([b.low, b.high]).getD k 0)).2.1, ⟨by omega, hk2⟩, rfl, (by kernel_rfl)⟩
  ·
   have h2' := of_decide_eq_false h2
   refine Z3 ?_
   refine rh [tv 3 (pb 3), tv 4 (pb 4), tv 5 (.bool false), tv 6 (ki lo2), tv 7 (ki hi2v), tv 19 (.own 19 1), tv 20 (ki 2), tv 21 (ki ((i + 1 : Nat) : Int)), bv 3 (Xk b), bv 4 (Xk (⟨0, 0⟩ : IvV)), ov 19 (.sl 1 [ki a.low, ki a.high])] (oO (X3 (x := ((i : Nat) : Int)) (y := 1) (by omega) (by omega)) (oT 1 (oA [ki ((i + 1 : Nat) : Int)] oN))) ?_
   have hk : k = 2 := by omega
   subst hk
   have hm := Xuh (ys := [b.low, b.high]) (l := [a.low, a.high]) (k := i) (lo, hi) (by simp only [List.length_cons, List.length_nil]; omega)
   rw [← hk2] at hm
   have hr := hm.symm.trans hi2
   exact ⟨2 - (i + 1), [tv 3 (pb 3), tv 4 (pb 4), tv 5 (.bool false), tv 6 (ki lo2), tv 7 (ki hi2v), tv 19 (.own 19 1), tv 20 (ki 2), tv 21 (ki ((i + 1 : Nat) : Int)), bv 3 (Xk b), bv 4 (Xk (⟨0, 0⟩ : IvV)), ov 19 (.sl 1 [ki a.low, ki a.high])], (by omega), rfl, (by kernel_rfl), i + 1, lo2, hi2v, ⟨by omega, hr⟩, rfl, (by kernel_rfl)⟩
 ·
  have h1' := of_decide_eq_false h1
  refine Z3 ?_
  refine rt [tv 4 (pb 4), tv 5 (.bool true), bv 4 (Xk (⟨lo, hi⟩ : IvV))] (oT 5 oN) ?_
  refine Xg ?_
  have hk : i = 2 := by omega
  subst hk
  exact X7i ((.tup [Xk (⟨lo, hi⟩ : IvV), .bool true])) (by unfold Xfg; rw [← hi2]; rfl)
def Zg (low : Int) (high : Int) : (Option IvV) := (bif (decide (low < (-2305843009213693952))) then none else (bif (decide (2305843009213693952 < high)) then none else (some (⟨low, high⟩ : IvV))))
theorem Xba (low : Int) (high : Int) : CS Tryz.prog 294 [ki low, ki high] (Xdr Xk (.st [ki 0, ki 0]) (.bool true) (.bool false) (Zg low high)) := by
 refine Xge (N := 16) X6y Tryz.func294 rfl rfl rfl rfl rfl (Xg1 _ _ _ _ _) ?_
 refine rt [tv 0 (ki low), tv 1 (ki high), tv 4 (pb 4), tv 5 (.bool false), bv 4 (Xk (⟨0, 0⟩ : IvV))] (oT 2 oN) ?_
 refine Xe ?_
 refine Xe ?_
 rcases X7 (decide (low < (-2305843009213693952))) with h1 | h1
 ·
  have h1' := of_decide_eq_true h1
  refine rh [tv 0 (ki low), tv 1 (ki high), tv 4 (pb 4), tv 5 (.bool false), tv 11 (.bool true), bv 4 (Xk (⟨0, 0⟩ : IvV))] (oT 1 (oO (aI trivial (h1 : (decide (low < (-2305843009213693952))) = true)) (oT 1 (oO (gn [false]) (oO (gn [true]) (oT 1 (oA [cT true, cT (decide (2305843009213693952 < high))] oN))))))) ?_
  refine cB (true) (fun _ => ?_) (fun h => Bool.noConfusion h)
  refine rt [tv 0 (ki low), tv 1 (ki high), tv 4 (pb 4), tv 5 (.bool false), bv 4 (Xk (⟨0, 0⟩ : IvV))] (oT 3 oN) ?_
  refine Xg ?_
  have hl : (Zg low high) = none := by unfold Zg; simp only [h1, X72]
  show Xca TL _ _ = some (Xdr Xk (.st [ki 0, ki 0]) (.bool true) (.bool false) (Zg low high))
  rw [hl]; kernel_rfl
 ·
  have h1' := of_decide_eq_false h1
  refine rh [tv 0 (ki low), tv 1 (ki high), tv 4 (pb 4), tv 5 (.bool false), tv 11 (.bool (decide (2305843009213693952 < high))), bv 4 (Xk (⟨0, 0⟩ : IvV))] (oT 1 (oO (aI trivial (h1 : (decide (low < (-2305843009213693952))) = false)) (oT 1 (oO (Xh 1 trivial) (oO (Xh 1 (oB (decide (2305843009213693952 < high)))) (oT 1 (oA [cT false, cT (decide (2305843009213693952 < high))] oN))))))) ?_
  refine cB (decide (2305843009213693952 < high)) (fun h2 => ?_) (fun h2 => ?_)
  ·
   have h2' := of_decide_eq_true h2
   refine rt [tv 0 (ki low), tv 1 (ki high), tv 4 (pb 4), tv 5 (.bool false), bv 4 (Xk (⟨0, 0⟩ : IvV))] (oT 3 oN) ?_
   refine Xg ?_
   have hl : (Zg low high) = none := by unfold Zg; simp only [h1, h2, X72]
   show Xca TL _ _ = some (Xdr Xk (.st [ki 0, ki 0]) (.bool true) (.bool false) (Zg low high))
   rw [hl]; kernel_rfl
  ·
   have h2' := of_decide_eq_false h2
   refine Xn ?_
   refine rt [tv 4 (pb 4), tv 5 (.bool true), bv 4 (Xk (⟨low, high⟩ : IvV))] (oT 5 oN) ?_
   refine Xg ?_
   have hl : (Zg low high) = (some (⟨low, high⟩ : IvV)) := by unfold Zg; simp only [h1, h2, X72]
   show Xca TL _ _ = some (Xdr Xk (.st [ki 0, ki 0]) (.bool true) (.bool false) (Zg low high))
   rw [hl]; kernel_rfl
def Xa (a : Rat) : (Option IvV) := (bif (!(Xfo (Ku (a * ((65536 : Int) : Rat)))).2) then none else (bif (!(Xfo (-(Ku (-(a * ((65536 : Int) : Rat)))))).2) then none else (Xfb (Zg ((Xfo (Ku (a * ((65536 : Int) : Rat)))).1) ((Xfo (-(Ku (-(a * ((65536 : Int) : Rat)))))).1)) (fun r4 => (some r4)) none)))
theorem J8 (a : Rat) (hs : X6p a ≤ 17179869181) : CS Tryz.prog 281 [Xc a] (Xdr Xk (.st [ki 0, ki 0]) (.bool true) (.bool false) (Xa a)) := by
 refine Xge (N := 38) X6y Tryz.func281 rfl rfl rfl rfl rfl (Xg1 _ _ _ _ _) ?_
 have := J4 65536 (by omega) (by omega)
 have := J4 65536 (by omega) (by omega)
 have := X8 a ((65536 : Int) : Rat)
 have := Xh7 (a * ((65536 : Int) : Rat))
 have := J4 65536 (by omega) (by omega)
 have := X8 a ((65536 : Int) : Rat)
 have := Xce (a * ((65536 : Int) : Rat))
 have := Xh7 (-(a * ((65536 : Int) : Rat)))
 have := Xqk (Ku (-(a * ((65536 : Int) : Rat))))
 refine sh 4 [tv 2 (pb 2), tv 3 (.bool false), tv 5 (ki (Xfo (Ku (a * ((65536 : Int) : Rat)))).1), tv 6 (.bool (Xfo (Ku (a * ((65536 : Int) : Rat)))).2), tv 7 (ki (Xfo (-(Ku (-(a * ((65536 : Int) : Rat)))))).1), tv 8 (.bool (Xfo (-(Ku (-(a * ((65536 : Int) : Rat)))))).2), bv 2 (Xk (⟨0, 0⟩ : IvV))] (oS (oT 3 oN) (oS (oT 1 (oC (Kr 65536 (by omega) (by omega)) (oC (Zf a ((65536 : Int) : Rat) (by omega)) (oT 2 oN)))) (oS (oT 1 (oC (Xh4 (a * ((65536 : Int) : Rat)) (by omega)) (oC (Xgg (Ku (a * ((65536 : Int) : Rat))) (by omega)) (oT 2 (oO (oB ((Xfo (Ku (a * ((65536 : Int) : Rat)))).2)) (oT 2 oN)))))) (oS (oT 1 (oA [.rptr (.bool (Xfo (Ku (a * ((65536 : Int) : Rat)))).2)] (oC (Xc6 (a * ((65536 : Int) : Rat)) (by omega)) (oC (Xh4 (-(a * ((65536 : Int) : Rat))) (by omega)) (oC (Xf3 (Ku (-(a * ((65536 : Int) : Rat)))) (by omega)) (oC (Xgg (-(Ku (-(a * ((65536 : Int) : Rat))))) (by omega)) (oT 2 (oO (oB ((Xfo (-(Ku (-(a * ((65536 : Int) : Rat)))))).2)) (oT 2 (oA [.rptr (.bool (Xfo (-(Ku (-(a * ((65536 : Int) : Rat)))))).2)] oN)))))))))) oN)))) ?_
 refine Xe ?_
 refine Xe ?_
 rcases X7 (!(Xfo (Ku (a * ((65536 : Int) : Rat)))).2) with h1 | h1
 ·
  refine rh [tv 2 (pb 2), tv 3 (.bool false), tv 5 (ki (Xfo (Ku (a * ((65536 : Int) : Rat)))).1), tv 7 (ki (Xfo (-(Ku (-(a * ((65536 : Int) : Rat)))))).1), tv 31 (.bool true), bv 2 (Xk (⟨0, 0⟩ : IvV))] (oT 1 (oO (aI trivial (h1 : (!(Xfo (Ku (a * ((65536 : Int) : Rat)))).2) = true)) (oT 1 (oO (gn [false]) (oO (gn [true]) (oT 1 (oA [.rptr (.bool true), .rptr (.bool (!(Xfo (-(Ku (-(a * ((65536 : Int) : Rat)))))).2))] oN))))))) ?_
  refine cB (true) (fun _ => ?_) (fun h => Bool.noConfusion h)
  refine rt [tv 2 (pb 2), tv 3 (.bool false), tv 5 (ki (Xfo (Ku (a * ((65536 : Int) : Rat)))).1), tv 7 (ki (Xfo (-(Ku (-(a * ((65536 : Int) : Rat)))))).1), bv 2 (Xk (⟨0, 0⟩ : IvV))] (oT 3 oN) ?_
  refine Xg ?_
  have hl : (Xa a) = none := by unfold Xa; simp only [h1, Xdt h1, X72]
  show Xca TL _ _ = some (Xdr Xk (.st [ki 0, ki 0]) (.bool true) (.bool false) (Xa a))
  rw [hl]; kernel_rfl
 ·
  refine rh [tv 2 (pb 2), tv 3 (.bool false), tv 5 (ki (Xfo (Ku (a * ((65536 : Int) : Rat)))).1), tv 7 (ki (Xfo (-(Ku (-(a * ((65536 : Int) : Rat)))))).1), tv 31 (.bool (!(Xfo (-(Ku (-(a * ((65536 : Int) : Rat)))))).2)), bv 2 (Xk (⟨0, 0⟩ : IvV))] (oT 1 (oO (aI trivial (h1 : (!(Xfo (Ku (a * ((65536 : Int) : Rat)))).2) = false)) (oT 1 (oO (Xh 1 trivial) (oO (Xh 1 (oB (!(Xfo (-(Ku (-(a * ((65536 : Int) : Rat)))))).2))) (oT 1 (oA [.rptr (.bool false), .rptr (.bool (!(Xfo (-(Ku (-(a * ((65536 : Int) : Rat)))))).2))] oN))))))) ?_
  refine cB ((!(Xfo (-(Ku (-(a * ((65536 : Int) : Rat)))))).2)) (fun h2 => ?_) (fun h2 => ?_)
  ·
   refine rt [tv 2 (pb 2), tv 3 (.bool false), tv 5 (ki (Xfo (Ku (a * ((65536 : Int) : Rat)))).1), tv 7 (ki (Xfo (-(Ku (-(a * ((65536 : Int) : Rat)))))).1), bv 2 (Xk (⟨0, 0⟩ : IvV))] (oT 3 oN) ?_
   refine Xg ?_
   have hl : (Xa a) = none := by unfold Xa; simp only [h1, Xas h1, h2, Xdt h2, X72]
   show Xca TL _ _ = some (Xdr Xk (.st [ki 0, ki 0]) (.bool true) (.bool false) (Xa a))
   rw [hl]; kernel_rfl
  ·
   refine Xn ?_
   refine Xe ?_
   rcases Xbs (Zg ((Xfo (Ku (a * ((65536 : Int) : Rat)))).1) ((Xfo (-(Ku (-(a * ((65536 : Int) : Rat)))))).1)) with h3 | ⟨r4, h3⟩
   ·
    refine rh [tv 2 (pb 2), tv 3 (.bool false), bv 2 (.st [ki 0, ki 0])] (oT 2 (oO (Jl (Xba ((Xfo (Ku (a * ((65536 : Int) : Rat)))).1) ((Xfo (-(Ku (-(a * ((65536 : Int) : Rat)))))).1)) (by rw [h3]; rfl) : CS Tryz.prog 294 [ki (Xfo (Ku (a * ((65536 : Int) : Rat)))).1, ki (Xfo (-(Ku (-(a * ((65536 : Int) : Rat)))))).1] (.tup [.st [ki 0, ki 0], .bool false])) (oT 1 (oO (oB false) (oT 2 (oA [.tup [.st [ki 0, ki 0], .bool false], .rptr (.bool false)] oN)))))) ?_
    refine Xg ?_
    have hl : (Xa a) = none := by unfold Xa; simp only [h1, Xas h1, h2, Xas h2, h3, X72]
    show Xca TL _ _ = some (Xdr Xk (.st [ki 0, ki 0]) (.bool true) (.bool false) (Xa a))
    rw [hl]; kernel_rfl
   ·
    refine rh [tv 2 (pb 2), tv 3 (.bool true), bv 2 (Xk r4)] (oT 2 (oO (Jl (Xba ((Xfo (Ku (a * ((65536 : Int) : Rat)))).1) ((Xfo (-(Ku (-(a * ((65536 : Int) : Rat)))))).1)) (by rw [h3]; rfl) : CS Tryz.prog 294 [ki (Xfo (Ku (a * ((65536 : Int) : Rat)))).1, ki (Xfo (-(Ku (-(a * ((65536 : Int) : Rat)))))).1] (.tup [Xk r4, .bool true])) (oT 1 (oO (oB true) (oT 2 (oA [.tup [Xk r4, .bool true], .rptr (.bool true)] oN)))))) ?_
    refine Xg ?_
    have hl : (Xa a) = (some r4) := by unfold Xa; simp only [h1, Xas h1, h2, Xas h2, h3, X72]
    show Xca TL _ _ = some (Xdr Xk (.st [ki 0, ki 0]) (.bool true) (.bool false) (Xa a))
    rw [hl]; kernel_rfl
def Yk (a : IvV) (b : IvV) : (Option IvV) := (Xfb (Zg (a.low + b.low) (a.high + b.high)) (fun r2 => (some r2)) none)
theorem Xb6 (a : IvV) (b : IvV) (ha : IvV.ok a) (hb : IvV.ok b) : CS Tryz.prog 283 [Xk a, Xk b] (Xdr Xk (.st [ki 0, ki 0]) (.bool true) (.bool false) (Yk a b)) := by
 refine Xge (N := 19) X6y Tryz.func283 rfl rfl rfl rfl rfl (Xg1 _ _ _ _ _) ?_
 refine Xe ?_
 unfold IvV.ok at ha hb
 refine rh [tv 2 (pb 2), tv 3 (pb 3), tv 4 (pb 4), tv 5 (.bool false), bv 2 (Xk a), bv 3 (Xk b), bv 4 (Xk (⟨0, 0⟩ : IvV))] (oT 4 oN) ?_
 refine Xe ?_
 rcases Xbs (Zg (a.low + b.low) (a.high + b.high)) with h1 | ⟨r2, h1⟩
 ·
  refine rh [tv 4 (pb 4), tv 5 (.bool false), bv 4 (.st [ki 0, ki 0])] (oT 4 (oO (X3 (x := a.low) (y := b.low) (by omega) (by omega)) (oT 4 (oO (X3 (x := a.high) (y := b.high) (by omega) (by omega)) (oO (Jl (Xba (a.low + b.low) (a.high + b.high)) (by rw [h1]; rfl) : CS Tryz.prog 294 [ki (a.low + b.low), ki (a.high + b.high)] (.tup [.st [ki 0, ki 0], .bool false])) (oT 1 (oO (oB false) (oT 2 (oA [ki (a.low + b.low), ki (a.high + b.high), .tup [.st [ki 0, ki 0], .bool false], .rptr (.bool false)] oN))))))))) ?_
  refine Xg ?_
  have hl : (Yk a b) = none := by unfold Yk; simp only [h1, X72]
  show Xca TL _ _ = some (Xdr Xk (.st [ki 0, ki 0]) (.bool true) (.bool false) (Yk a b))
  rw [hl]; kernel_rfl
 ·
  refine rh [tv 4 (pb 4), tv 5 (.bool true), bv 4 (Xk r2)] (oT 4 (oO (X3 (x := a.low) (y := b.low) (by omega) (by omega)) (oT 4 (oO (X3 (x := a.high) (y := b.high) (by omega) (by omega)) (oO (Jl (Xba (a.low + b.low) (a.high + b.high)) (by rw [h1]; rfl) : CS Tryz.prog 294 [ki (a.low + b.low), ki (a.high + b.high)] (.tup [Xk r2, .bool true])) (oT 1 (oO (oB true) (oT 2 (oA [ki (a.low + b.low), ki (a.high + b.high), .tup [Xk r2, .bool true], .rptr (.bool true)] oN))))))))) ?_
  refine Xg ?_
  have hl : (Yk a b) = (some r2) := by unfold Yk; simp only [h1, X72]
  show Xca TL _ _ = some (Xdr Xk (.st [ki 0, ki 0]) (.bool true) (.bool false) (Yk a b))
  rw [hl]; kernel_rfl
def Zz (a : IvV) : IvV := (⟨(-a.high), (-a.low)⟩ : IvV)
theorem Xi3 (a : IvV) (ha : IvV.ok a) : CS Tryz.prog 290 [Xk a] (Xk (Zz a)) := by
 refine cO 10 Tryz.func290 ?_
 unfold IvV.ok at ha
 refine sh 2 [tv 2 (pb 2), bv 2 (Xk (⟨(-a.high), (-a.low)⟩ : IvV))] (oS (oT 2 oN) (oS (oT 2 (oO (Xhm (by omega) (by omega) : (-a.high) = IntKind.i64.wrap (0 - a.high)) (oT 2 (oO (Xhm (by omega) (by omega) : (-a.low) = IntKind.i64.wrap (0 - a.low)) (oT 2 (oA [ki (-a.high), ki (-a.low)] oN)))))) oN)) ?_
 exact Xg (lv Xk (⟨(-a.high), (-a.low)⟩ : IvV) (by unfold Zz; rfl))
def X5 (a : IvV) : (Int × Bool) := (bif (decide (0 < a.low)) then (1, true) else (bif (decide (a.high < 0)) then ((-1), true) else (bif (decide (a.low = 0)) then (0, (decide (a.high = 0))) else (0, false))))
theorem Xk8 (a : IvV) : -1 ≤ (X5 a).1 ∧ (X5 a).1 ≤ 1 := by
 rcases X7 (decide (0 < a.low)) with k4 | k4
 ·
  rw [show (X5 a) = (1, true) by unfold X5; simp only [k4, X72]]
  dsimp only
  omega
 ·
  rcases X7 (decide (a.high < 0)) with k5 | k5
  ·
   rw [show (X5 a) = ((-1), true) by unfold X5; simp only [k4, k5, X72]]
   dsimp only
   omega
  ·
   rcases X7 (decide (a.low = 0)) with k6 | k6
   ·
    rw [show (X5 a) = (0, (decide (a.high = 0))) by unfold X5; simp only [k4, k5, k6, X72]]
    dsimp only
    omega
   ·
    rw [show (X5 a) = (0, false) by unfold X5; simp only [k4, k5, k6, X72]]
    dsimp only
    omega
theorem Xhi (a : IvV) : CS Tryz.prog 284 [Xk a] (.tup [ki (X5 a).1, .bool (X5 a).2]) := by
 refine cO 20 Tryz.func284 ?_
 refine rt [tv 1 (pb 1), tv 2 (ki 0), tv 3 (.bool false), bv 1 (Xk a)] (oT 3 oN) ?_
 refine Xe ?_
 refine X6 ?_
 refine rt [tv 1 (pb 1), tv 2 (ki 0), tv 3 (.bool false), tv 4 (.bool (decide (0 < a.low))), bv 1 (Xk a)] (oT 2 (oO (oB (decide (0 < a.low))) (oT 1 (oA [cT (decide (0 < a.low))] oN)))) ?_
 refine cB (decide (0 < a.low)) (fun h1 => ?_) (fun h1 => ?_)
 ·
  have h1' := of_decide_eq_true h1
  refine rt [tv 1 (pb 1), tv 2 (ki 1), tv 3 (.bool true), bv 1 (Xk a)] (oT 2 oN) ?_
  refine Xg ?_
  have hl : (X5 a) = (1, true) := by unfold X5; simp only [h1, X72]
  show Xca TL _ _ = some (.tup [ki (X5 a).1, .bool (X5 a).2])
  rw [hl]; kernel_rfl
 ·
  have h1' := of_decide_eq_false h1
  refine rt [tv 1 (pb 1), tv 2 (ki 0), tv 3 (.bool false), tv 8 (.bool (decide (a.high < 0))), bv 1 (Xk a)] (oT 2 (oO (oB (decide (a.high < 0))) (oT 1 (oA [cT (decide (a.high < 0))] oN)))) ?_
  refine cB (decide (a.high < 0)) (fun h2 => ?_) (fun h2 => ?_)
  ·
   have h2' := of_decide_eq_true h2
   refine rt [tv 1 (pb 1), tv 2 (ki (-1)), tv 3 (.bool true), bv 1 (Xk a)] (oT 2 oN) ?_
   refine Xg ?_
   have hl : (X5 a) = ((-1), true) := by unfold X5; simp only [h1, h2, X72]
   show Xca TL _ _ = some (.tup [ki (X5 a).1, .bool (X5 a).2])
   rw [hl]; kernel_rfl
  ·
   have h2' := of_decide_eq_false h2
   refine Xn ?_
   refine Xe ?_
   rcases X7 (decide (a.low = 0)) with h3 | h3
   ·
    have h3' := of_decide_eq_true h3
    refine rh [tv 2 (ki 0), tv 3 (.bool (decide (a.high = 0)))] (oT 2 (oO (aI trivial (h3 : (decide (a.low = 0)) = true)) (oT 1 (oO (Xh 1 trivial) (oO (Xh 1 trivial) (oO (Xh 1 (oB (decide (a.high = 0)))) (oT 3 (oA [cT true, cT (decide (a.high = 0))] oN)))))))) ?_
    refine Xg ?_
    have hl : (X5 a) = (0, (decide (a.high = 0))) := by unfold X5; simp only [h1, h2, h3, X72]
    show Xca TL _ _ = some (.tup [ki (X5 a).1, .bool (X5 a).2])
    rw [hl]; kernel_rfl
   ·
    have h3' := of_decide_eq_false h3
    refine rh [tv 2 (ki 0), tv 3 (.bool false)] (oT 2 (oO (aI trivial (h3 : (decide (a.low = 0)) = false)) (oT 1 (oO (gn [false]) (oO (gn [true]) (oO (gn [true]) (oT 3 (oA [cT false, cT (decide (a.high = 0))] oN)))))))) ?_
    refine Xg ?_
    have hl : (X5 a) = (0, false) := by unfold X5; simp only [h1, h2, h3, X72]
    show Xca TL _ _ = some (.tup [ki (X5 a).1, .bool (X5 a).2])
    rw [hl]; kernel_rfl
def Xy (a : IvV) : (Option IvV) := (bif (decide (a.high < 0)) then none else (bif (!(Xbp a.high).2) then (Xfb (Zg ((Xbp (X71 a.low 0)).1) ((Xbp a.high).1 + 1)) (fun r4 => (some r4)) none) else (Xfb (Zg ((Xbp (X71 a.low 0)).1) ((Xbp a.high).1)) (fun r6 => (some r6)) none)))
theorem Xhu (a : IvV) (ha : IvV.ok a) : CS Tryz.prog 280 [Xk a] (Xdr Xk (.st [ki 0, ki 0]) (.bool true) (.bool false) (Xy a)) := by
 refine Xge (N := 34) X6y Tryz.func280 rfl rfl rfl rfl rfl (Xg1 _ _ _ _ _) ?_
 refine rt [tv 1 (pb 1), tv 2 (pb 2), tv 3 (.bool false), bv 1 (Xk a), bv 2 (Xk (⟨0, 0⟩ : IvV))] (oT 3 oN) ?_
 refine Xe ?_
 refine rt [tv 1 (pb 1), tv 2 (pb 2), tv 3 (.bool false), tv 10 (.bool (decide (a.high < 0))), bv 1 (Xk a), bv 2 (Xk (⟨0, 0⟩ : IvV))] (oT 2 (oO (oB (decide (a.high < 0))) (oA [cT (decide (a.high < 0))] oN))) ?_
 refine cB (decide (a.high < 0)) (fun h1 => ?_) (fun h1 => ?_)
 ·
  have h1' := of_decide_eq_true h1
  refine rt [tv 1 (pb 1), tv 2 (pb 2), tv 3 (.bool false), bv 1 (Xk a), bv 2 (Xk (⟨0, 0⟩ : IvV))] (oT 3 oN) ?_
  refine Xg ?_
  have hl : (Xy a) = none := by unfold Xy; simp only [h1, X72]
  show Xca TL _ _ = some (Xdr Xk (.st [ki 0, ki 0]) (.bool true) (.bool false) (Xy a))
  rw [hl]; kernel_rfl
 ·
  have h1' := of_decide_eq_false h1
  refine Xn ?_
  refine sh 2 [tv 2 (pb 2), tv 3 (.bool false), tv 4 (ki (Xbp (X71 a.low 0)).1), tv 6 (ki (Xbp a.high).1), tv 7 (.bool (Xbp a.high).2), bv 2 (Xk (⟨0, 0⟩ : IvV))] (oS (oT 2 (oO (oB (X71 a.low 0)) (oA [.tup [ki (X71 a.low 0)]] (oC (Xlc (X71 a.low 0) (by unfold IvV.ok at *; (try unfold X71); (try split) <;> omega) (by unfold IvV.ok at *; (try unfold X71); (try split) <;> omega)) (oT 2 (oO (oB ((Xbp (X71 a.low 0)).2)) (oT 2 oN))))))) (oS (oT 2 (oA [.rptr (.bool (Xbp (X71 a.low 0)).2)] (oC (Xlc a.high (by unfold IvV.ok at *; (try unfold X71); (try split) <;> omega) (by unfold IvV.ok at *; (try unfold X71); (try split) <;> omega)) (oT 2 (oO (oB ((Xbp a.high).2)) (oT 2 (oA [.rptr (.bool (Xbp a.high).2)] oN))))))) oN)) ?_
  refine Xe ?_
  refine rt [tv 2 (pb 2), tv 3 (.bool false), tv 4 (ki (Xbp (X71 a.low 0)).1), tv 6 (ki (Xbp a.high).1), tv 26 (.bool (!(Xbp a.high).2)), bv 2 (Xk (⟨0, 0⟩ : IvV))] (oT 1 (oO (oB (!(Xbp a.high).2)) (oA [.rptr (.bool (!(Xbp a.high).2))] oN))) ?_
  refine cB ((!(Xbp a.high).2)) (fun h2 => ?_) (fun h2 => ?_)
  ·
   unfold IvV.ok at ha
   have hrb := Xzz (n := a.high) (by omega) (by omega)
   refine rh [tv 2 (pb 2), tv 3 (.bool false), tv 4 (ki (Xbp (X71 a.low 0)).1), tv 6 (ki ((Xbp a.high).1 + 1)), bv 2 (Xk (⟨0, 0⟩ : IvV))] (oT 1 (oO (X3 (x := (Xbp a.high).1) (y := 1) (by omega) (by omega)) (oT 1 (oA [ki ((Xbp a.high).1 + 1)] oN)))) ?_
   refine Xe ?_
   rcases Xbs (Zg ((Xbp (X71 a.low 0)).1) ((Xbp a.high).1 + 1)) with h3 | ⟨r4, h3⟩
   ·
    refine rh [tv 2 (pb 2), tv 3 (.bool false), bv 2 (.st [ki 0, ki 0])] (oT 2 (oO (Jl (Xba ((Xbp (X71 a.low 0)).1) ((Xbp a.high).1 + 1)) (by rw [h3]; rfl) : CS Tryz.prog 294 [ki (Xbp (X71 a.low 0)).1, ki ((Xbp a.high).1 + 1)] (.tup [.st [ki 0, ki 0], .bool false])) (oT 1 (oO (oB false) (oT 2 (oA [.tup [.st [ki 0, ki 0], .bool false], .rptr (.bool false)] oN)))))) ?_
    refine Xg ?_
    have hl : (Xy a) = none := by unfold Xy; simp only [h1, h2, Xdt h2, h3, X72]
    show Xca TL _ _ = some (Xdr Xk (.st [ki 0, ki 0]) (.bool true) (.bool false) (Xy a))
    rw [hl]; kernel_rfl
   ·
    refine rh [tv 2 (pb 2), tv 3 (.bool true), bv 2 (Xk r4)] (oT 2 (oO (Jl (Xba ((Xbp (X71 a.low 0)).1) ((Xbp a.high).1 + 1)) (by rw [h3]; rfl) : CS Tryz.prog 294 [ki (Xbp (X71 a.low 0)).1, ki ((Xbp a.high).1 + 1)] (.tup [Xk r4, .bool true])) (oT 1 (oO (oB true) (oT 2 (oA [.tup [Xk r4, .bool true], .rptr (.bool true)] oN)))))) ?_
    refine Xg ?_
    have hl : (Xy a) = (some r4) := by unfold Xy; simp only [h1, h2, Xdt h2, h3, X72]
    show Xca TL _ _ = some (Xdr Xk (.st [ki 0, ki 0]) (.bool true) (.bool false) (Xy a))
    rw [hl]; kernel_rfl
  ·
   refine Xn ?_
   refine Xe ?_
   rcases Xbs (Zg ((Xbp (X71 a.low 0)).1) ((Xbp a.high).1)) with h5 | ⟨r6, h5⟩
   ·
    refine rh [tv 2 (pb 2), tv 3 (.bool false), bv 2 (.st [ki 0, ki 0])] (oT 2 (oO (Jl (Xba ((Xbp (X71 a.low 0)).1) ((Xbp a.high).1)) (by rw [h5]; rfl) : CS Tryz.prog 294 [ki (Xbp (X71 a.low 0)).1, ki (Xbp a.high).1] (.tup [.st [ki 0, ki 0], .bool false])) (oT 1 (oO (oB false) (oT 2 (oA [.tup [.st [ki 0, ki 0], .bool false], .rptr (.bool false)] oN)))))) ?_
    refine Xg ?_
    have hl : (Xy a) = none := by unfold Xy; simp only [h1, h2, Xas h2, h5, X72]
    show Xca TL _ _ = some (Xdr Xk (.st [ki 0, ki 0]) (.bool true) (.bool false) (Xy a))
    rw [hl]; kernel_rfl
   ·
    refine rh [tv 2 (pb 2), tv 3 (.bool true), bv 2 (Xk r6)] (oT 2 (oO (Jl (Xba ((Xbp (X71 a.low 0)).1) ((Xbp a.high).1)) (by rw [h5]; rfl) : CS Tryz.prog 294 [ki (Xbp (X71 a.low 0)).1, ki (Xbp a.high).1] (.tup [Xk r6, .bool true])) (oT 1 (oO (oB true) (oT 2 (oA [.tup [Xk r6, .bool true], .rptr (.bool true)] oN)))))) ?_
    refine Xg ?_
    have hl : (Xy a) = (some r6) := by unfold Xy; simp only [h1, h2, Xas h2, h5, X72]
    show Xca TL _ _ = some (Xdr Xk (.st [ki 0, ki 0]) (.bool true) (.bool false) (Xy a))
    rw [hl]; kernel_rfl
open Go Go.RowKit
theorem Xur {lo hi : Int} {r : IvV} (h : Zg lo hi = some r) : r = ⟨lo, hi⟩ ∧ -2305843009213693952 ≤ lo ∧ hi ≤ 2305843009213693952 := by
  unfold Zg at h
  by_cases h1 : lo < -2305843009213693952
  · rw [decide_eq_true h1] at h; cases h
  · by_cases h2 : 2305843009213693952 < hi
    · rw [decide_eq_false h1, decide_eq_true h2] at h; cases h
    · rw [decide_eq_false h1, decide_eq_false h2] at h
      simp only [cond_false, Option.some.injEq] at h
      exact ⟨h.symm, by omega, by omega⟩
theorem Xoy {lo hi : Int} {r : IvV} (h : Xfb (Zg lo hi) (fun r => some r) none = some r) : r = ⟨lo, hi⟩ ∧ -2305843009213693952 ≤ lo ∧ hi ≤ 2305843009213693952 := by
  rcases Xbs (Zg lo hi) with k | ⟨x, k⟩
  · rw [k] at h; cases h
  · rw [k] at h; simp only [Xib, Option.some.injEq] at h; subst h; exact Xur k
theorem X1z {x : Int} (h : (Xfo x).2 = true) : (Xfo x).1 = x := by
  unfold Xfo at *; simp only at h ⊢; rw [h]; rfl
theorem Xro (x : Int) {d : Int} (hd : 0 < d) : x / d ≤ -((-x) / d) := by
  have h1 := Int.emod_add_mul_ediv x d
  have h2 := Int.emod_add_mul_ediv (-x) d
  have h3 := Int.emod_nonneg x (show d ≠ 0 by omega)
  have h4 := Int.emod_nonneg (-x) (show d ≠ 0 by omega)
  by_cases hc : x / d ≤ -((-x) / d)
  · exact hc
  · exfalso
    have h5 : d * 1 ≤ d * (x / d + (-x) / d) := Int.mul_le_mul_of_nonneg_left (by omega) (by omega)
    rw [Int.mul_add] at h5
    omega
theorem X1o (a : Rat) : Ku a ≤ -(Ku (-a)) := by
  unfold Ku
  have : (-a).num / ((-a).den : Int) = (-a.num) / (a.den : Int) := rfl
  rw [this]; exact Xro _ (den_pos a)
theorem Xsx {a : Rat} {r : IvV} (h : Xa a = some r) : r = ⟨Ku (a * ((65536 : Int) : Rat)), -(Ku (-(a * ((65536 : Int) : Rat))))⟩ ∧ r.ok := by
  unfold Xa at h
  cases h1 : (Xfo (Ku (a * ((65536 : Int) : Rat)))).2 <;> rw [h1] at h
  · cases h
  cases h2 : (Xfo (-(Ku (-(a * ((65536 : Int) : Rat)))))).2 <;> rw [h2] at h
  · cases h
  simp only [Bool.not_true, cond_false] at h
  obtain ⟨k1, k2, k3⟩ := Xoy h
  rw [X1z h1] at k1 k2; rw [X1z h2] at k1 k3
  subst k1
  exact ⟨rfl, k2, X1o _, k3⟩
theorem Zh {a : Rat} {r : IvV} (h : Xa a = some r) : r.ok := (Xsx h).2
theorem Xak {a b r : IvV} (ha : a.ok) (hb : b.ok) (h : Yk a b = some r) : r.ok := by
  unfold Yk at h
  obtain ⟨k1, k2, k3⟩ := Xoy h
  subst k1
  unfold IvV.ok at *
  dsimp only
  omega
theorem Xci {a : IvV} (ha : a.ok) : (Zz a).ok := by
  unfold Zz IvV.ok at *
  dsimp only
  omega
theorem Xxb {x y : Int} (hx : 0 ≤ x) (h : x ≤ y) : Y1 x ≤ Y1 y := by
  obtain ⟨a1, a2, a3⟩ := Xiq hx
  obtain ⟨b1, b2, b3⟩ := Xiq (show 0 ≤ y by omega)
  by_cases hc : Y1 x ≤ Y1 y
  · exact hc
  · have := Int.mul_le_mul (show Y1 y + 1 ≤ Y1 x by omega) (show Y1 y + 1 ≤ Y1 x by omega) (by omega) a1
    omega
theorem Xxw {x y : Int} (hx : 0 ≤ x) (h : x ≤ y) : (Xbp x).1 ≤ (Xbp y).1 := Xxb (by omega) (by omega)
theorem X1y {x y z : Int} : X71 x y ≤ z ↔ x ≤ z ∧ y ≤ z := by unfold X71; split <;> omega
theorem X17 {x y z : Int} : z ≤ X71 x y ↔ z ≤ x ∨ z ≤ y := by unfold X71; split <;> omega
theorem X4u {x y z : Int} : X6v x y ≤ z ↔ x ≤ z ∨ y ≤ z := by unfold X6v; split <;> omega
theorem X47 {x y z : Int} : z ≤ X6v x y ↔ z ≤ x ∧ z ≤ y := by unfold X6v; split <;> omega
theorem Xzi {a r : IvV} (ha : a.ok) (h : Xy a = some r) : 0 ≤ a.high ∧ r.low = (Xbp (X71 a.low 0)).1 ∧ r.high = (bif (Xbp a.high).2 then (Xbp a.high).1 else (Xbp a.high).1 + 1) ∧ r.ok := by
  unfold Xy at h
  by_cases h0 : a.high < 0
  · rw [decide_eq_true h0] at h; cases h
  rw [decide_eq_false h0] at h
  unfold IvV.ok at ha
  have hm := Xxw (x := X71 a.low 0) (y := a.high) (X17.2 (.inr (Int.le_refl _))) (X1y.2 ⟨by omega, by omega⟩)
  cases h1 : (Xbp a.high).2 <;> rw [h1] at h <;> simp only [Bool.not_false, Bool.not_true, cond_true, cond_false] at h ⊢ <;> obtain ⟨k1, k2, k3⟩ := Xoy h <;> subst k1 <;> exact ⟨by omega, rfl, rfl, k2, by dsimp only; omega, k3⟩
theorem Xf2 {a r : IvV} (ha : a.ok) (h : Xy a = some r) : r.ok := (Xzi ha h).2.2.2
theorem Xg8 {x y : Int} (h : (Z8 x y).2.2 = true) : (Z8 x y).1 = (x * y) / 65536 ∧ (Z8 x y).2.1 = -(-(x * y) / 65536) ∧ -2305843009213693952 ≤ (Z8 x y).1 ∧ (Z8 x y).1 ≤ (Z8 x y).2.1 ∧ (Z8 x y).2.1 ≤ 2305843009213693952 := by
  unfold Z8 at *
  cases h1 : decide (2305843009213693952 < ((x * y).natAbs : Int) / 65536) <;> simp only [h1] at h ⊢
  · simp only [cond_false, Bool.and_eq_true, decide_eq_true_eq] at h ⊢
    have := Xro (x * y) (d := 65536) (by decide)
    exact ⟨trivial, trivial, h.1, this, h.2⟩
  · simp at h
theorem Xy7 {a b r : IvV} (h : Xfg a b = some r) : (Z8 a.low b.low).2.2 = true ∧ (Z8 a.low b.high).2.2 = true ∧ (Z8 a.high b.low).2.2 = true ∧ (Z8 a.high b.high).2.2 = true ∧
    r = ⟨X6v (X6v (X6v (X6v 2305843009213693952 (Z8 a.low b.low).1) (Z8 a.low b.high).1) (Z8 a.high b.low).1) (Z8 a.high b.high).1, X71 (X71 (X71 (X71 (-2305843009213693952) (Z8 a.low b.low).2.1) (Z8 a.low b.high).2.1) (Z8 a.high b.low).2.1) (Z8 a.high b.high).2.1⟩ := by
  unfold Xfg at h
  simp only [Xn6, Xim] at h
  cases h1 : (Z8 a.low b.low).2.2 <;> rw [h1] at h
  · cases h
  cases h2 : (Z8 a.low b.high).2.2 <;> rw [h2] at h
  · cases h
  simp only [cond_true, Xib] at h
  cases h3 : (Z8 a.high b.low).2.2 <;> rw [h3] at h
  · cases h
  cases h4 : (Z8 a.high b.high).2.2 <;> rw [h4] at h
  · cases h
  simp only [cond_true, Xib, Option.some.injEq] at h
  exact ⟨rfl, rfl, rfl, rfl, h.symm⟩
theorem Xgs {a b r : IvV} (_ : a.ok) (_ : b.ok) (h : Xfg a b = some r) : r.ok := by
  obtain ⟨h1, h2, h3, h4, rfl⟩ := Xy7 h
  obtain ⟨_, _, k1⟩ := Xg8 h1
  obtain ⟨_, _, k2⟩ := Xg8 h2
  obtain ⟨_, _, k3⟩ := Xg8 h3
  obtain ⟨_, _, k4⟩ := Xg8 h4
  unfold IvV.ok
  refine ⟨?_, ?_, ?_⟩
  · simp only [X47]; omega
  · simp only [X4u, X17]; omega
  · simp only [X1y]; omega
theorem X2x : (⟨0, 0⟩ : IvV).ok := by unfold IvV.ok; decide
def kq (o : Option IvV) : IvV := Xfb o id ⟨0, 0⟩
theorem Xbu {o : Option IvV} (h : ∀ r, o = some r → r.ok) : (kq o).ok := by
  rcases Xbs o with k | ⟨r, k⟩
  · subst k; exact X2x
  · subst k; exact h r rfl
theorem Xad (o : Option IvV) : Xdr Xk (.st [(ki 0), (ki 0)]) (.bool true) (.bool false) o = .tup [Xk (kq o), .bool o.isSome] := by
  rcases Xbs o with k | ⟨r, k⟩ <;> subst k <;> rfl
theorem Xey (b ok : Bool) (i : IvV) : CB Tryz.prog 279 1 (.st [.bool b]) [Xk i, .bool ok] (.st [.bool (b && ok)]) (Xk i) := by
  cases b
  · refine X48 (N := 18) X6y Tryz.func279 rfl rfl rfl rfl rfl rfl rfl rfl rfl rfl ?_
    refine Xvk X6y X6s 3 [(.st [.bool false]), (.st [.bool false])] [tv 6 (pb 6), bv 6 (Xk i), ov 18 (.sl 1 [.st [.bool false]])] ((tr 2 True) ∧ (tr 4 ((([(.st [.bool false])] : List AV)[0]? = some (.st [.bool false])) ∧ tr 1 (X65 false [false] (True) ∧ tr 3 (((([(.st [.bool false])] : List AV)[0]? = some (.st [.bool false]))) ∧ True)))) ∧ (tr 2 True) ∧ True) (by kernel_rfl) ⟨(Xzl trivial), (Xzl ⟨rfl, (Xzl ⟨(X1u _ _), (Xzl ⟨rfl, trivial⟩)⟩)⟩), (Xzl trivial), trivial⟩ (by kernel_rfl) ?_
    refine Xg ?_
    exact ⟨Xyt (r := Xk i) (by kernel_rfl) rfl, Xxe (v := .sl 1 [.st [.bool false]]) (by kernel_rfl) rfl⟩
  · refine X48 (N := 18) X6y Tryz.func279 rfl rfl rfl rfl rfl rfl rfl rfl rfl rfl ?_
    refine Xvk X6y X6s 3 [(.st [.bool true]), (.st [.bool true])] [tv 6 (pb 6), bv 6 (Xk i), ov 18 (.sl 1 [.st [.bool ok]])] ((tr 2 True) ∧ (tr 4 ((([(.st [.bool true])] : List AV)[0]? = some (.st [.bool true])) ∧ tr 1 (X65 true [false] (True) ∧ tr 3 (((([(.st [.bool true])] : List AV)[0]? = some (.st [.bool true]))) ∧ True)))) ∧ (tr 2 True) ∧ True) (by kernel_rfl) ⟨(Xzl trivial), (Xzl ⟨rfl, (Xzl ⟨(Xh 1 trivial), (Xzl ⟨rfl, trivial⟩)⟩)⟩), (Xzl trivial), trivial⟩ (by kernel_rfl) ?_
    refine Xg ?_
    exact ⟨Xyt (r := Xk i) (by kernel_rfl) rfl, Xxe (v := .sl 1 [.st [.bool ok]]) (by kernel_rfl) rfl⟩
open Go Go.RowKit
def Xi (r : RootV) : (Option IvV) := (bif (!(Option.isSome (Xa r.a))) then (Xa r.a) else (bif (decide (Int.sign (Rat.num r.b) = 0)) then (Xa r.a) else (bif (!(Option.isSome (Xa r.b))) then none else (bif (!(Option.isSome (Xa r.c))) then none else (bif (decide (Int.sign (Rat.num r.c) < 0)) then none else (bif (!(Option.isSome (Xy (kq (Xa r.c))))) then none else (bif (!(Option.isSome (Xfg (kq (Xa r.b)) (kq (Xy (kq (Xa r.c))))))) then none else (Yk (kq (Xa r.a)) (kq (Xfg (kq (Xa r.b)) (kq (Xy (kq (Xa r.c))))))))))))))
theorem Xdk {r : RootV} {ro : IvV} : (Xi r) = some ro → ro.ok := by
 revert ro
 have := Xbu (o := (Xa r.a)) (fun r h => Zh h)
 have := Xbu (o := (Xa r.b)) (fun r h => Zh h)
 have := Xbu (o := (Xa r.c)) (fun r h => Zh h)
 have := Xbu (o := (Xy (kq (Xa r.c)))) (fun r h => Xf2 (by assumption) h)
 have := Xbu (o := (Xfg (kq (Xa r.b)) (kq (Xy (kq (Xa r.c)))))) (fun r h => Xgs (by assumption) (by assumption) h)
 have := Xbu (o := (Yk (kq (Xa r.a)) (kq (Xfg (kq (Xa r.b)) (kq (Xy (kq (Xa r.c)))))))) (fun r h => Xak (by assumption) (by assumption) h)
 rcases X7 (!(Option.isSome (Xa r.a))) with k8 | k8
 ·
  intro ro h; unfold Xi at h; simp only [k8, Bool.not_true, Bool.not_false, cond_true, cond_false] at h
  exact Zh  h
 ·
  rcases X7 (decide (Int.sign (Rat.num r.b) = 0)) with k9 | k9
  ·
   intro ro h; unfold Xi at h; simp only [k8, k9, Bool.not_true, Bool.not_false, cond_true, cond_false] at h
   exact Zh  h
  ·
   rcases X7 (!(Option.isSome (Xa r.b))) with k10 | k10
   ·
    intro ro h; unfold Xi at h; simp only [k8, k9, k10, Bool.not_true, Bool.not_false, cond_true, cond_false] at h
    cases h
   ·
    rcases X7 (!(Option.isSome (Xa r.c))) with k11 | k11
    ·
     intro ro h; unfold Xi at h; simp only [k8, k9, k10, k11, Bool.not_true, Bool.not_false, cond_true, cond_false] at h
     cases h
    ·
     rcases X7 (decide (Int.sign (Rat.num r.c) < 0)) with k12 | k12
     ·
      intro ro h; unfold Xi at h; simp only [k8, k9, k10, k11, k12, Bool.not_true, Bool.not_false, cond_true, cond_false] at h
      cases h
     ·
      rcases X7 (!(Option.isSome (Xy (kq (Xa r.c))))) with k13 | k13
      ·
       intro ro h; unfold Xi at h; simp only [k8, k9, k10, k11, k12, k13, Bool.not_true, Bool.not_false, cond_true, cond_false] at h
       cases h
      ·
       rcases X7 (!(Option.isSome (Xfg (kq (Xa r.b)) (kq (Xy (kq (Xa r.c))))))) with k14 | k14
       ·
        intro ro h; unfold Xi at h; simp only [k8, k9, k10, k11, k12, k13, k14, Bool.not_true, Bool.not_false, cond_true, cond_false] at h
        cases h
       ·
        intro ro h; unfold Xi at h; simp only [k8, k9, k10, k11, k12, k13, k14, Bool.not_true, Bool.not_false, cond_true, cond_false] at h
        exact Xak (by assumption) (by assumption) h
theorem Xem (r : RootV) (hs : RootV.ht r ≤ 17179869181) : CS Tryz.prog 259 [Xl r] (Xdr Xk (.st [ki 0, ki 0]) (.bool true) (.bool false) (Xi r)) := by
 refine Xge (N := 72) X6y Tryz.func259 rfl rfl rfl rfl rfl (Xg1 _ _ _ _ _) ?_
 have := RootV.htd r
 have := Xbu (o := (Xa r.a)) (fun r h => Zh h)
 refine sh 2 [tv 1 (pb 1), tv 2 (pb 2), tv 3 (.bool false), tv 4 (pb 4), tv 5 (.bool (Option.isSome (Xa r.a))), bv 1 (Xl r), bv 2 (Xk (⟨0, 0⟩ : IvV)), bv 4 (Xk (kq (Xa r.a)))] (oS (oT 3 oN) (oS (oT 2 (oO (Jl (J8 r.a (by omega)) (Xad _) : CS Tryz.prog 281 [Xc r.a] (.tup [Xk (kq (Xa r.a)), .bool (Option.isSome (Xa r.a))])) (oT 2 (oO (oB (Option.isSome (Xa r.a))) (oT 3 (oA [.tup [Xk (kq (Xa r.a)), .bool (Option.isSome (Xa r.a))], .rptr (.bool (Option.isSome (Xa r.a)))] oN)))))) oN)) ?_
 refine Xe ?_
 refine Xe ?_
 rcases X7 (!(Option.isSome (Xa r.a))) with h1 | h1
 ·
  refine rh [tv 1 (pb 1), tv 2 (pb 2), tv 3 (.bool false), tv 4 (pb 4), tv 5 (.bool (Option.isSome (Xa r.a))), tv 22 (.bool true), bv 1 (Xl r), bv 2 (Xk (⟨0, 0⟩ : IvV)), bv 4 (Xk (kq (Xa r.a)))] (oT 1 (oO (aI trivial (h1 : (!(Option.isSome (Xa r.a))) = true)) (oT 1 (oO (gn [false]) (oO (gn [true]) (oO (gn [true]) (oO (gn [true]) (oT 1 (oA [.rptr (.bool true), ki (Int.sign (Rat.num r.b)), cT (decide (Int.sign (Rat.num r.b) = 0))] oN))))))))) ?_
  refine cB (true) (fun _ => ?_) (fun h => Bool.noConfusion h)
  refine rt [tv 1 (pb 1), tv 2 (pb 2), tv 3 (.bool (Option.isSome (Xa r.a))), tv 4 (pb 4), tv 5 (.bool (Option.isSome (Xa r.a))), bv 1 (Xl r), bv 2 (Xk (kq (Xa r.a))), bv 4 (Xk (kq (Xa r.a)))] (oT 4 oN) ?_
  refine Xg ?_
  have hl : (Xi r) = (Xa r.a) := by unfold Xi; simp only [h1, Xdt h1, X72]
  exact X7i ((.tup [Xk (kq (Xa r.a)), .bool (Option.isSome (Xa r.a))])) (by rw [hl]; exact (Xad _).symm)
 ·
  refine rh [tv 1 (pb 1), tv 2 (pb 2), tv 3 (.bool false), tv 4 (pb 4), tv 5 (.bool (Option.isSome (Xa r.a))), tv 22 (.bool (decide (Int.sign (Rat.num r.b) = 0))), bv 1 (Xl r), bv 2 (Xk (⟨0, 0⟩ : IvV)), bv 4 (Xk (kq (Xa r.a)))] (oT 1 (oO (aI trivial (h1 : (!(Option.isSome (Xa r.a))) = false)) (oT 1 (oO (Xh 1 trivial) (oO (Xh 1 trivial) (oO (Xh 1 (Yd r.b)) (oO (Xh 1 (oB (decide (Int.sign (Rat.num r.b) = 0)))) (oT 1 (oA [.rptr (.bool false), ki (Int.sign (Rat.num r.b)), cT (decide (Int.sign (Rat.num r.b) = 0))] oN))))))))) ?_
  refine cB (decide (Int.sign (Rat.num r.b) = 0)) (fun h2 => ?_) (fun h2 => ?_)
  ·
   have h2' := of_decide_eq_true h2
   refine rt [tv 1 (pb 1), tv 2 (pb 2), tv 3 (.bool (Option.isSome (Xa r.a))), tv 4 (pb 4), tv 5 (.bool (Option.isSome (Xa r.a))), bv 1 (Xl r), bv 2 (Xk (kq (Xa r.a))), bv 4 (Xk (kq (Xa r.a)))] (oT 4 oN) ?_
   refine Xg ?_
   have hl : (Xi r) = (Xa r.a) := by unfold Xi; simp only [h1, Xas h1, h2, X72]
   exact X7i ((.tup [Xk (kq (Xa r.a)), .bool (Option.isSome (Xa r.a))])) (by rw [hl]; exact (Xad _).symm)
  ·
   have h2' := of_decide_eq_false h2
   refine Xn ?_
   have := RootV.htd r
   have := Xbu (o := (Xa r.b)) (fun r h => Zh h)
   have := RootV.htd r
   have := Xbu (o := (Xa r.c)) (fun r h => Zh h)
   refine sh 2 [tv 1 (pb 1), tv 2 (pb 2), tv 3 (.bool false), tv 4 (pb 4), tv 5 (.bool (Option.isSome (Xa r.b))), tv 6 (pb 6), tv 7 (pb 7), tv 8 (.bool (Option.isSome (Xa r.c))), bv 1 (Xl r), bv 2 (Xk (⟨0, 0⟩ : IvV)), bv 4 (Xk (kq (Xa r.a))), bv 6 (Xk (kq (Xa r.b))), bv 7 (Xk (kq (Xa r.c)))] (oS (oT 2 (oO (Jl (J8 r.b (by omega)) (Xad _) : CS Tryz.prog 281 [Xc r.b] (.tup [Xk (kq (Xa r.b)), .bool (Option.isSome (Xa r.b))])) (oT 2 (oO (oB (Option.isSome (Xa r.b))) (oT 3 oN))))) (oS (oT 2 (oO (Jl (J8 r.c (by omega)) (Xad _) : CS Tryz.prog 281 [Xc r.c] (.tup [Xk (kq (Xa r.c)), .bool (Option.isSome (Xa r.c))])) (oT 2 (oO (oB (Option.isSome (Xa r.c))) (oT 3 (oA [.tup [Xk (kq (Xa r.b)), .bool (Option.isSome (Xa r.b))], .rptr (.bool (Option.isSome (Xa r.b))), .tup [Xk (kq (Xa r.c)), .bool (Option.isSome (Xa r.c))], .rptr (.bool (Option.isSome (Xa r.c)))] oN)))))) oN)) ?_
   refine Xe ?_
   refine Xe ?_
   rcases X7 (!(Option.isSome (Xa r.b))) with h3 | h3
   ·
    refine rh [tv 2 (pb 2), tv 3 (.bool false), tv 4 (pb 4), tv 5 (.bool (Option.isSome (Xa r.b))), tv 6 (pb 6), tv 7 (pb 7), tv 48 (.bool true), bv 2 (Xk (⟨0, 0⟩ : IvV)), bv 4 (Xk (kq (Xa r.a))), bv 6 (Xk (kq (Xa r.b))), bv 7 (Xk (kq (Xa r.c)))] (oT 1 (oO (aI trivial (h3 : (!(Option.isSome (Xa r.b))) = true)) (oT 1 (oO (gn [false]) (oO (gn [true]) (oT 2 (oO (gn [false]) (oO (gn [true]) (oO (gn [true]) (oO (gn [true]) (oT 1 (oA [.rptr (.bool true), .rptr (.bool (!(Option.isSome (Xa r.c)))), ki (Int.sign (Rat.num r.c)), cT (decide (Int.sign (Rat.num r.c) < 0))] oN)))))))))))) ?_
    refine cB (true) (fun _ => ?_) (fun h => Bool.noConfusion h)
    refine rt [tv 2 (pb 2), tv 3 (.bool false), tv 4 (pb 4), tv 5 (.bool (Option.isSome (Xa r.b))), tv 6 (pb 6), tv 7 (pb 7), bv 2 (Xk (⟨0, 0⟩ : IvV)), bv 4 (Xk (kq (Xa r.a))), bv 6 (Xk (kq (Xa r.b))), bv 7 (Xk (kq (Xa r.c)))] (oT 3 oN) ?_
    refine Xg ?_
    have hl : (Xi r) = none := by unfold Xi; simp only [h1, Xas h1, h2, h3, Xdt h3, X72]
    show Xca TL _ _ = some (Xdr Xk (.st [ki 0, ki 0]) (.bool true) (.bool false) (Xi r))
    rw [hl]; kernel_rfl
   ·
    rcases X7 (!(Option.isSome (Xa r.c))) with h4 | h4
    ·
     refine rh [tv 2 (pb 2), tv 3 (.bool false), tv 4 (pb 4), tv 5 (.bool (Option.isSome (Xa r.b))), tv 6 (pb 6), tv 7 (pb 7), tv 48 (.bool true), bv 2 (Xk (⟨0, 0⟩ : IvV)), bv 4 (Xk (kq (Xa r.a))), bv 6 (Xk (kq (Xa r.b))), bv 7 (Xk (kq (Xa r.c)))] (oT 1 (oO (aI trivial (h3 : (!(Option.isSome (Xa r.b))) = false)) (oT 1 (oO (Xh 1 trivial) (oO (Xh 1 (aI trivial (h4 : (!(Option.isSome (Xa r.c))) = true))) (oT 2 (oO (gn [false]) (oO (gn [true]) (oO (gn [true]) (oO (gn [true]) (oT 1 (oA [.rptr (.bool false), .rptr (.bool true), ki (Int.sign (Rat.num r.c)), cT (decide (Int.sign (Rat.num r.c) < 0))] oN)))))))))))) ?_
     refine cB (true) (fun _ => ?_) (fun h => Bool.noConfusion h)
     refine rt [tv 2 (pb 2), tv 3 (.bool false), tv 4 (pb 4), tv 5 (.bool (Option.isSome (Xa r.b))), tv 6 (pb 6), tv 7 (pb 7), bv 2 (Xk (⟨0, 0⟩ : IvV)), bv 4 (Xk (kq (Xa r.a))), bv 6 (Xk (kq (Xa r.b))), bv 7 (Xk (kq (Xa r.c)))] (oT 3 oN) ?_
     refine Xg ?_
     have hl : (Xi r) = none := by unfold Xi; simp only [h1, Xas h1, h2, h3, Xas h3, h4, Xdt h4, X72]
     show Xca TL _ _ = some (Xdr Xk (.st [ki 0, ki 0]) (.bool true) (.bool false) (Xi r))
     rw [hl]; kernel_rfl
    ·
     refine rh [tv 2 (pb 2), tv 3 (.bool false), tv 4 (pb 4), tv 5 (.bool (Option.isSome (Xa r.b))), tv 6 (pb 6), tv 7 (pb 7), tv 48 (.bool (decide (Int.sign (Rat.num r.c) < 0))), bv 2 (Xk (⟨0, 0⟩ : IvV)), bv 4 (Xk (kq (Xa r.a))), bv 6 (Xk (kq (Xa r.b))), bv 7 (Xk (kq (Xa r.c)))] (oT 1 (oO (aI trivial (h3 : (!(Option.isSome (Xa r.b))) = false)) (oT 1 (oO (Xh 1 trivial) (oO (Xh 1 (aI trivial (h4 : (!(Option.isSome (Xa r.c))) = false))) (oT 2 (oO (Xh 1 trivial) (oO (Xh 1 trivial) (oO (Xh 1 (Yd r.c)) (oO (Xh 1 (oB (decide (Int.sign (Rat.num r.c) < 0)))) (oT 1 (oA [.rptr (.bool false), .rptr (.bool false), ki (Int.sign (Rat.num r.c)), cT (decide (Int.sign (Rat.num r.c) < 0))] oN)))))))))))) ?_
     refine cB (decide (Int.sign (Rat.num r.c) < 0)) (fun h5 => ?_) (fun h5 => ?_)
     ·
      have h5' := of_decide_eq_true h5
      refine rt [tv 2 (pb 2), tv 3 (.bool false), tv 4 (pb 4), tv 5 (.bool (Option.isSome (Xa r.b))), tv 6 (pb 6), tv 7 (pb 7), bv 2 (Xk (⟨0, 0⟩ : IvV)), bv 4 (Xk (kq (Xa r.a))), bv 6 (Xk (kq (Xa r.b))), bv 7 (Xk (kq (Xa r.c)))] (oT 3 oN) ?_
      refine Xg ?_
      have hl : (Xi r) = none := by unfold Xi; simp only [h1, Xas h1, h2, h3, Xas h3, h4, Xas h4, h5, X72]
      show Xca TL _ _ = some (Xdr Xk (.st [ki 0, ki 0]) (.bool true) (.bool false) (Xi r))
      rw [hl]; kernel_rfl
     ·
      have h5' := of_decide_eq_false h5
      refine Xn ?_
      refine Xe ?_
      have := Xbu (o := (Xy (kq (Xa r.c)))) (fun r h => Xf2 (by assumption) h)
      refine sh 2 [tv 2 (pb 2), tv 3 (.bool false), tv 4 (pb 4), tv 5 (.bool (Option.isSome (Xy (kq (Xa r.c))))), tv 6 (pb 6), tv 7 (pb 7), tv 56 (.bool (!(Option.isSome (Xy (kq (Xa r.c)))))), bv 2 (Xk (⟨0, 0⟩ : IvV)), bv 4 (Xk (kq (Xa r.a))), bv 6 (Xk (kq (Xa r.b))), bv 7 (Xk (kq (Xy (kq (Xa r.c)))))] (oS (oT 1 (oO (Jl (Xhu (kq (Xa r.c)) (by assumption)) (Xad _) : CS Tryz.prog 280 [Xk (kq (Xa r.c))] (.tup [Xk (kq (Xy (kq (Xa r.c)))), .bool (Option.isSome (Xy (kq (Xa r.c))))])) (oT 2 (oO (oB (Option.isSome (Xy (kq (Xa r.c))))) (oT 2 oN))))) (oS (oT 1 (oO (oB (!(Option.isSome (Xy (kq (Xa r.c)))))) (oA [.tup [Xk (kq (Xy (kq (Xa r.c)))), .bool (Option.isSome (Xy (kq (Xa r.c))))], .rptr (.bool (Option.isSome (Xy (kq (Xa r.c))))), .rptr (.bool (!(Option.isSome (Xy (kq (Xa r.c))))))] oN))) oN)) ?_
      refine cB ((!(Option.isSome (Xy (kq (Xa r.c)))))) (fun h6 => ?_) (fun h6 => ?_)
      ·
       refine rt [tv 2 (pb 2), tv 3 (.bool false), tv 4 (pb 4), tv 5 (.bool (Option.isSome (Xy (kq (Xa r.c))))), tv 6 (pb 6), tv 7 (pb 7), bv 2 (Xk (⟨0, 0⟩ : IvV)), bv 4 (Xk (kq (Xa r.a))), bv 6 (Xk (kq (Xa r.b))), bv 7 (Xk (kq (Xy (kq (Xa r.c)))))] (oT 3 oN) ?_
       refine Xg ?_
       have hl : (Xi r) = none := by unfold Xi; simp only [h1, Xas h1, h2, h3, Xas h3, h4, Xas h4, h5, h6, Xdt h6, X72]
       show Xca TL _ _ = some (Xdr Xk (.st [ki 0, ki 0]) (.bool true) (.bool false) (Xi r))
       rw [hl]; kernel_rfl
      ·
       refine Xn ?_
       refine Xe ?_
       have := Xbu (o := (Xfg (kq (Xa r.b)) (kq (Xy (kq (Xa r.c)))))) (fun r h => Xgs (by assumption) (by assumption) h)
       refine sh 2 [tv 2 (pb 2), tv 3 (.bool false), tv 4 (pb 4), tv 6 (pb 6), tv 65 (.bool (!(Option.isSome (Xfg (kq (Xa r.b)) (kq (Xy (kq (Xa r.c)))))))), bv 2 (Xk (⟨0, 0⟩ : IvV)), bv 4 (Xk (kq (Xa r.a))), bv 6 (Xk (kq (Xfg (kq (Xa r.b)) (kq (Xy (kq (Xa r.c)))))))] (oS (oT 2 (oO (Jl (Xcp (kq (Xa r.b)) (kq (Xy (kq (Xa r.c)))) (by assumption) (by assumption)) (Xad _) : CS Tryz.prog 282 [Xk (kq (Xa r.b)), Xk (kq (Xy (kq (Xa r.c))))] (.tup [Xk (kq (Xfg (kq (Xa r.b)) (kq (Xy (kq (Xa r.c)))))), .bool (Option.isSome (Xfg (kq (Xa r.b)) (kq (Xy (kq (Xa r.c))))))])) (oT 2 (oO (oB (Option.isSome (Xfg (kq (Xa r.b)) (kq (Xy (kq (Xa r.c))))))) (oT 2 oN))))) (oS (oT 1 (oO (oB (!(Option.isSome (Xfg (kq (Xa r.b)) (kq (Xy (kq (Xa r.c)))))))) (oA [.tup [Xk (kq (Xfg (kq (Xa r.b)) (kq (Xy (kq (Xa r.c)))))), .bool (Option.isSome (Xfg (kq (Xa r.b)) (kq (Xy (kq (Xa r.c))))))], .rptr (.bool (Option.isSome (Xfg (kq (Xa r.b)) (kq (Xy (kq (Xa r.c))))))), .rptr (.bool (!(Option.isSome (Xfg (kq (Xa r.b)) (kq (Xy (kq (Xa r.c))))))))] oN))) oN)) ?_
       refine cB ((!(Option.isSome (Xfg (kq (Xa r.b)) (kq (Xy (kq (Xa r.c)))))))) (fun h7 => ?_) (fun h7 => ?_)
       ·
        refine rt [tv 2 (pb 2), tv 3 (.bool false), tv 4 (pb 4), tv 6 (pb 6), bv 2 (Xk (⟨0, 0⟩ : IvV)), bv 4 (Xk (kq (Xa r.a))), bv 6 (Xk (kq (Xfg (kq (Xa r.b)) (kq (Xy (kq (Xa r.c)))))))] (oT 3 oN) ?_
        refine Xg ?_
        have hl : (Xi r) = none := by unfold Xi; simp only [h1, Xas h1, h2, h3, Xas h3, h4, Xas h4, h5, h6, Xas h6, h7, Xdt h7, X72]
        show Xca TL _ _ = some (Xdr Xk (.st [ki 0, ki 0]) (.bool true) (.bool false) (Xi r))
        rw [hl]; kernel_rfl
       ·
        refine Xn ?_
        refine Xe ?_
        have := Xbu (o := (Yk (kq (Xa r.a)) (kq (Xfg (kq (Xa r.b)) (kq (Xy (kq (Xa r.c)))))))) (fun r h => Xak (by assumption) (by assumption) h)
        refine rh [tv 2 (pb 2), tv 3 (.bool (Option.isSome (Yk (kq (Xa r.a)) (kq (Xfg (kq (Xa r.b)) (kq (Xy (kq (Xa r.c))))))))), bv 2 (Xk (kq (Yk (kq (Xa r.a)) (kq (Xfg (kq (Xa r.b)) (kq (Xy (kq (Xa r.c)))))))))] (oT 2 (oO (Jl (Xb6 (kq (Xa r.a)) (kq (Xfg (kq (Xa r.b)) (kq (Xy (kq (Xa r.c)))))) (by assumption) (by assumption)) (Xad _) : CS Tryz.prog 283 [Xk (kq (Xa r.a)), Xk (kq (Xfg (kq (Xa r.b)) (kq (Xy (kq (Xa r.c))))))] (.tup [Xk (kq (Yk (kq (Xa r.a)) (kq (Xfg (kq (Xa r.b)) (kq (Xy (kq (Xa r.c)))))))), .bool (Option.isSome (Yk (kq (Xa r.a)) (kq (Xfg (kq (Xa r.b)) (kq (Xy (kq (Xa r.c))))))))])) (oT 1 (oO (oB (Option.isSome (Yk (kq (Xa r.a)) (kq (Xfg (kq (Xa r.b)) (kq (Xy (kq (Xa r.c))))))))) (oT 2 (oA [.tup [Xk (kq (Yk (kq (Xa r.a)) (kq (Xfg (kq (Xa r.b)) (kq (Xy (kq (Xa r.c)))))))), .bool (Option.isSome (Yk (kq (Xa r.a)) (kq (Xfg (kq (Xa r.b)) (kq (Xy (kq (Xa r.c))))))))], .rptr (.bool (Option.isSome (Yk (kq (Xa r.a)) (kq (Xfg (kq (Xa r.b)) (kq (Xy (kq (Xa r.c)))))))))] oN)))))) ?_
        refine Xg ?_
        have hl : (Xi r) = (Yk (kq (Xa r.a)) (kq (Xfg (kq (Xa r.b)) (kq (Xy (kq (Xa r.c))))))) := by unfold Xi; simp only [h1, Xas h1, h2, h3, Xas h3, h4, Xas h4, h5, h6, Xas h6, h7, Xas h7, X72]
        exact X7i ((.tup [Xk (kq (Yk (kq (Xa r.a)) (kq (Xfg (kq (Xa r.b)) (kq (Xy (kq (Xa r.c)))))))), .bool (Option.isSome (Yk (kq (Xa r.a)) (kq (Xfg (kq (Xa r.b)) (kq (Xy (kq (Xa r.c))))))))])) (by rw [hl]; exact (Xad _).symm)
def Kb (n : Rat) (a : IvV) (known : Bool) : (Option IvV) := (bif (!known) then none else (bif (!(Option.isSome (Xa n))) then none else (Xfg (kq (Xa n)) a)))
theorem Xj8 {n : Rat} {a : IvV} {known : Bool} {ro : IvV} (ha : IvV.ok a) : (Kb n a known) = some ro → ro.ok := by
 revert ro
 have := Xbu (o := (Xa n)) (fun r h => Zh h)
 have := Xbu (o := (Xfg (kq (Xa n)) a)) (fun r h => Xgs (by assumption) (by assumption) h)
 rcases X7 (!known) with k3 | k3
 ·
  intro ro h; unfold Kb at h; simp only [k3, Bool.not_true, Bool.not_false, cond_true, cond_false] at h
  cases h
 ·
  rcases X7 (!(Option.isSome (Xa n))) with k4 | k4
  ·
   intro ro h; unfold Kb at h; simp only [k3, k4, Bool.not_true, Bool.not_false, cond_true, cond_false] at h
   cases h
  ·
   intro ro h; unfold Kb at h; simp only [k3, k4, Bool.not_true, Bool.not_false, cond_true, cond_false] at h
   exact Xgs (by assumption) (by assumption) h
theorem Xjx (n : Rat) (a : IvV) (known : Bool) (hs : X6p n ≤ 17179869181) (ha : IvV.ok a) : CS Tryz.prog 291 [Xc n, Xk a, .bool known] (Xdr Xk (.st [ki 0, ki 0]) (.bool true) (.bool false) (Kb n a known)) := by
 refine Xge (N := 27) X6y Tryz.func291 rfl rfl rfl rfl rfl (Xg1 _ _ _ _ _) ?_
 have := Xbu (o := (Xa n)) (fun r h => Zh h)
 refine sh 2 [tv 2 (.bool known), tv 4 (pb 4), tv 6 (pb 6), tv 7 (.bool false), tv 8 (pb 8), tv 9 (.bool (Option.isSome (Xa n))), bv 4 (Xk a), bv 6 (Xk (⟨0, 0⟩ : IvV)), bv 8 (Xk (kq (Xa n)))] (oS (oT 4 oN) (oS (oT 1 (oO (Jl (J8 n (by omega)) (Xad _) : CS Tryz.prog 281 [Xc n] (.tup [Xk (kq (Xa n)), .bool (Option.isSome (Xa n))])) (oT 2 (oO (oB (Option.isSome (Xa n))) (oT 3 (oA [.tup [Xk (kq (Xa n)), .bool (Option.isSome (Xa n))], .rptr (.bool (Option.isSome (Xa n)))] oN)))))) oN)) ?_
 refine Xe ?_
 refine Xe ?_
 rcases X7 (!known) with h1 | h1
 ·
  refine rh [tv 4 (pb 4), tv 6 (pb 6), tv 7 (.bool false), tv 8 (pb 8), tv 20 (.bool true), bv 4 (Xk a), bv 6 (Xk (⟨0, 0⟩ : IvV)), bv 8 (Xk (kq (Xa n)))] (oT 1 (oO (aI trivial (h1 : (!known) = true)) (oT 1 (oO (gn [false]) (oO (gn [true]) (oT 1 (oA [.rptr (.bool true), .rptr (.bool (!(Option.isSome (Xa n))))] oN))))))) ?_
  refine cB (true) (fun _ => ?_) (fun h => Bool.noConfusion h)
  refine rt [tv 4 (pb 4), tv 6 (pb 6), tv 7 (.bool false), tv 8 (pb 8), bv 4 (Xk a), bv 6 (Xk (⟨0, 0⟩ : IvV)), bv 8 (Xk (kq (Xa n)))] (oT 3 oN) ?_
  refine Xg ?_
  have hl : (Kb n a known) = none := by unfold Kb; simp only [h1, Xdt h1, X72]
  show Xca TL _ _ = some (Xdr Xk (.st [ki 0, ki 0]) (.bool true) (.bool false) (Kb n a known))
  rw [hl]; kernel_rfl
 ·
  refine rh [tv 4 (pb 4), tv 6 (pb 6), tv 7 (.bool false), tv 8 (pb 8), tv 20 (.bool (!(Option.isSome (Xa n)))), bv 4 (Xk a), bv 6 (Xk (⟨0, 0⟩ : IvV)), bv 8 (Xk (kq (Xa n)))] (oT 1 (oO (aI trivial (h1 : (!known) = false)) (oT 1 (oO (Xh 1 trivial) (oO (Xh 1 (oB (!(Option.isSome (Xa n))))) (oT 1 (oA [.rptr (.bool false), .rptr (.bool (!(Option.isSome (Xa n))))] oN))))))) ?_
  refine cB ((!(Option.isSome (Xa n)))) (fun h2 => ?_) (fun h2 => ?_)
  ·
   refine rt [tv 4 (pb 4), tv 6 (pb 6), tv 7 (.bool false), tv 8 (pb 8), bv 4 (Xk a), bv 6 (Xk (⟨0, 0⟩ : IvV)), bv 8 (Xk (kq (Xa n)))] (oT 3 oN) ?_
   refine Xg ?_
   have hl : (Kb n a known) = none := by unfold Kb; simp only [h1, Xas h1, h2, Xdt h2, X72]
   show Xca TL _ _ = some (Xdr Xk (.st [ki 0, ki 0]) (.bool true) (.bool false) (Kb n a known))
   rw [hl]; kernel_rfl
  ·
   refine Xn ?_
   refine Xe ?_
   have := Xbu (o := (Xfg (kq (Xa n)) a)) (fun r h => Xgs (by assumption) (by assumption) h)
   refine rh [tv 6 (pb 6), tv 7 (.bool (Option.isSome (Xfg (kq (Xa n)) a))), bv 6 (Xk (kq (Xfg (kq (Xa n)) a)))] (oT 2 (oO (Jl (Xcp (kq (Xa n)) a (by assumption) (by assumption)) (Xad _) : CS Tryz.prog 282 [Xk (kq (Xa n)), Xk a] (.tup [Xk (kq (Xfg (kq (Xa n)) a)), .bool (Option.isSome (Xfg (kq (Xa n)) a))])) (oT 1 (oO (oB (Option.isSome (Xfg (kq (Xa n)) a))) (oT 2 (oA [.tup [Xk (kq (Xfg (kq (Xa n)) a)), .bool (Option.isSome (Xfg (kq (Xa n)) a))], .rptr (.bool (Option.isSome (Xfg (kq (Xa n)) a)))] oN)))))) ?_
   refine Xg ?_
   have hl : (Kb n a known) = (Xfg (kq (Xa n)) a) := by unfold Kb; simp only [h1, Xas h1, h2, Xas h2, X72]
   exact X7i ((.tup [Xk (kq (Xfg (kq (Xa n)) a)), .bool (Option.isSome (Xfg (kq (Xa n)) a))])) (by rw [hl]; exact (Xad _).symm)
def Ze (l : LnV) (p : PtV) : Option IvV := (Kb l.a (kq (Xi (⟨p.ax, p.bx, p.c⟩ : RootV))) (Option.isSome (Xi (⟨p.ax, p.bx, p.c⟩ : RootV))))
def Xam (l : LnV) (p : PtV) : Option IvV := (Xi (⟨p.ay, p.byy, p.c⟩ : RootV))
def Ja (l : LnV) (p : PtV) : Option IvV := (Kb l.b (kq (Xam l p)) (Option.isSome (Xam l p)))
def Jr (l : LnV) (p : PtV) : Option IvV := (Yk (kq (Ze l p)) (kq (Ja l p)))
def Jb (l : LnV) (p : PtV) : Option IvV := (Yk (kq (Jr l p)) (Zz (kq (Xa l.c))))
def Ys (l : LnV) (p : PtV) : (Int × Bool) := (bif (!(Option.isSome (Ze l p))) then (0, false) else (bif (!(Option.isSome (Ja l p))) then (0, false) else (bif (!(Option.isSome (Xa l.c))) then (0, false) else (bif (!(Option.isSome (Jr l p))) then (0, false) else (bif (!(Option.isSome (Jb l p))) then (0, false) else ((X5 (kq (Jb l p))).1, (X5 (kq (Jb l p))).2))))))
theorem Xqq (l : LnV) (p : PtV) (hs : LnV.ht l + PtV.ht p ≤ 17179869181) : CS Tryz.prog 270 [Xea l, Xr p] (.tup [ki (Ys l p).1, .bool (Ys l p).2]) := by
 refine cO 88 Tryz.func270 ?_
 have := PtV.htd p
 have := RootV.htm p.ax p.bx p.c
 have := Xbu (o := (Xi (⟨p.ax, p.bx, p.c⟩ : RootV))) (fun r h => Xdk h)
 have := LnV.htd l
 have := Xbu (o := (Ze l p)) (fun r h => Xj8 (by assumption) h)
 have := PtV.htd p
 have := RootV.htm p.ay p.byy p.c
 have := Xbu (o := (Xam l p)) (fun r h => Xdk h)
 have := LnV.htd l
 have := Xbu (o := (Ja l p)) (fun r h => Xj8 (by assumption) h)
 have := LnV.htd l
 have := Xbu (o := (Xa l.c)) (fun r h => Zh h)
 refine sh 6 [tv 4 (ki 0), tv 5 (.bool false), tv 6 (pb 6), tv 7 (.bool (Option.isSome (Ze l p))), tv 8 (pb 8), tv 9 (.bool (Option.isSome (Ja l p))), tv 10 (pb 10), tv 11 (.bool (Option.isSome (Xa l.c))), bv 6 (Xk (kq (Ze l p))), bv 8 (Xk (kq (Ja l p))), bv 10 (Xk (kq (Xa l.c)))] (oS (oT 4 oN) (oS (oT 7 (oO (Jl (Xem (⟨p.ax, p.bx, p.c⟩ : RootV) (by omega)) (Xad _) : CS Tryz.prog 259 [Xl (⟨p.ax, p.bx, p.c⟩ : RootV)] (.tup [Xk (kq (Xi (⟨p.ax, p.bx, p.c⟩ : RootV))), .bool (Option.isSome (Xi (⟨p.ax, p.bx, p.c⟩ : RootV)))])) (oT 2 (oO (oB (Option.isSome (Xi (⟨p.ax, p.bx, p.c⟩ : RootV)))) (oT 3 oN))))) (oS (oT 4 (oO (Jl (Xjx l.a (kq (Xi (⟨p.ax, p.bx, p.c⟩ : RootV))) (Option.isSome (Xi (⟨p.ax, p.bx, p.c⟩ : RootV))) (by omega) (by assumption)) (Xad _) : CS Tryz.prog 291 [Xc l.a, Xk (kq (Xi (⟨p.ax, p.bx, p.c⟩ : RootV))), .bool (Option.isSome (Xi (⟨p.ax, p.bx, p.c⟩ : RootV)))] (.tup [Xk (kq (Ze l p)), .bool (Option.isSome (Ze l p))])) (oT 2 (oO (oB (Option.isSome (Ze l p))) (oT 2 oN))))) (oS (oT 7 (oO (Jl (Xem (⟨p.ay, p.byy, p.c⟩ : RootV) (by omega)) (Xad _) : CS Tryz.prog 259 [Xl (⟨p.ay, p.byy, p.c⟩ : RootV)] (.tup [Xk (kq (Xam l p)), .bool (Option.isSome (Xam l p))])) (oT 2 (oO (oB (Option.isSome (Xam l p))) (oT 3 oN))))) (oS (oT 4 (oO (Jl (Xjx l.b (kq (Xam l p)) (Option.isSome (Xam l p)) (by omega) (by assumption)) (Xad _) : CS Tryz.prog 291 [Xc l.b, Xk (kq (Xam l p)), .bool (Option.isSome (Xam l p))] (.tup [Xk (kq (Ja l p)), .bool (Option.isSome (Ja l p))])) (oT 2 (oO (oB (Option.isSome (Ja l p))) (oT 2 oN))))) (oS (oT 2 (oO (Jl (J8 l.c (by omega)) (Xad _) : CS Tryz.prog 281 [Xc l.c] (.tup [Xk (kq (Xa l.c)), .bool (Option.isSome (Xa l.c))])) (oT 2 (oO (oB (Option.isSome (Xa l.c))) (oT 3 (oA [.tup [Xk (kq (Xi (⟨p.ax, p.bx, p.c⟩ : RootV))), .bool (Option.isSome (Xi (⟨p.ax, p.bx, p.c⟩ : RootV)))], .rptr (.bool (Option.isSome (Xi (⟨p.ax, p.bx, p.c⟩ : RootV)))), .tup [Xk (kq (Ze l p)), .bool (Option.isSome (Ze l p))], .rptr (.bool (Option.isSome (Ze l p))), .tup [Xk (kq (Xam l p)), .bool (Option.isSome (Xam l p))], .rptr (.bool (Option.isSome (Xam l p))), .tup [Xk (kq (Ja l p)), .bool (Option.isSome (Ja l p))], .rptr (.bool (Option.isSome (Ja l p))), .tup [Xk (kq (Xa l.c)), .bool (Option.isSome (Xa l.c))], .rptr (.bool (Option.isSome (Xa l.c)))] oN)))))) oN)))))) ?_
 refine Xe ?_
 refine Xe ?_
 rcases X7 (!(Option.isSome (Ze l p))) with h1 | h1
 ·
  refine rh [tv 4 (ki 0), tv 5 (.bool false), tv 6 (pb 6), tv 7 (.bool (Option.isSome (Ze l p))), tv 8 (pb 8), tv 10 (pb 10), tv 66 (.bool true), bv 6 (Xk (kq (Ze l p))), bv 8 (Xk (kq (Ja l p))), bv 10 (Xk (kq (Xa l.c)))] (oT 1 (oO (aI trivial (h1 : (!(Option.isSome (Ze l p))) = true)) (oT 1 (oO (gn [false]) (oO (gn [true]) (oT 2 (oO (gn [false]) (oO (gn [true]) (oT 1 (oA [.rptr (.bool true), .rptr (.bool (!(Option.isSome (Ja l p)))), .rptr (.bool (!(Option.isSome (Xa l.c))))] oN)))))))))) ?_
  refine cB (true) (fun _ => ?_) (fun h => Bool.noConfusion h)
  refine rt [tv 4 (ki 0), tv 5 (.bool false), tv 6 (pb 6), tv 7 (.bool (Option.isSome (Ze l p))), tv 8 (pb 8), tv 10 (pb 10), bv 6 (Xk (kq (Ze l p))), bv 8 (Xk (kq (Ja l p))), bv 10 (Xk (kq (Xa l.c)))] (oT 2 oN) ?_
  refine Xg ?_
  have hl : (Ys l p) = (0, false) := by unfold Ys; simp only [h1, Xdt h1, X72]
  show Xca TL _ _ = some (.tup [ki (Ys l p).1, .bool (Ys l p).2])
  rw [hl]; kernel_rfl
 ·
  rcases X7 (!(Option.isSome (Ja l p))) with h2 | h2
  ·
   refine rh [tv 4 (ki 0), tv 5 (.bool false), tv 6 (pb 6), tv 7 (.bool (Option.isSome (Ze l p))), tv 8 (pb 8), tv 10 (pb 10), tv 66 (.bool true), bv 6 (Xk (kq (Ze l p))), bv 8 (Xk (kq (Ja l p))), bv 10 (Xk (kq (Xa l.c)))] (oT 1 (oO (aI trivial (h1 : (!(Option.isSome (Ze l p))) = false)) (oT 1 (oO (Xh 1 trivial) (oO (Xh 1 (aI trivial (h2 : (!(Option.isSome (Ja l p))) = true))) (oT 2 (oO (gn [false]) (oO (gn [true]) (oT 1 (oA [.rptr (.bool false), .rptr (.bool true), .rptr (.bool (!(Option.isSome (Xa l.c))))] oN)))))))))) ?_
   refine cB (true) (fun _ => ?_) (fun h => Bool.noConfusion h)
   refine rt [tv 4 (ki 0), tv 5 (.bool false), tv 6 (pb 6), tv 7 (.bool (Option.isSome (Ze l p))), tv 8 (pb 8), tv 10 (pb 10), bv 6 (Xk (kq (Ze l p))), bv 8 (Xk (kq (Ja l p))), bv 10 (Xk (kq (Xa l.c)))] (oT 2 oN) ?_
   refine Xg ?_
   have hl : (Ys l p) = (0, false) := by unfold Ys; simp only [h1, Xas h1, h2, Xdt h2, X72]
   show Xca TL _ _ = some (.tup [ki (Ys l p).1, .bool (Ys l p).2])
   rw [hl]; kernel_rfl
  ·
   refine rh [tv 4 (ki 0), tv 5 (.bool false), tv 6 (pb 6), tv 7 (.bool (Option.isSome (Ze l p))), tv 8 (pb 8), tv 10 (pb 10), tv 66 (.bool (!(Option.isSome (Xa l.c)))), bv 6 (Xk (kq (Ze l p))), bv 8 (Xk (kq (Ja l p))), bv 10 (Xk (kq (Xa l.c)))] (oT 1 (oO (aI trivial (h1 : (!(Option.isSome (Ze l p))) = false)) (oT 1 (oO (Xh 1 trivial) (oO (Xh 1 (aI trivial (h2 : (!(Option.isSome (Ja l p))) = false))) (oT 2 (oO (Xh 1 trivial) (oO (Xh 1 (oB (!(Option.isSome (Xa l.c))))) (oT 1 (oA [.rptr (.bool false), .rptr (.bool false), .rptr (.bool (!(Option.isSome (Xa l.c))))] oN)))))))))) ?_
   refine cB ((!(Option.isSome (Xa l.c)))) (fun h3 => ?_) (fun h3 => ?_)
   ·
    refine rt [tv 4 (ki 0), tv 5 (.bool false), tv 6 (pb 6), tv 7 (.bool (Option.isSome (Ze l p))), tv 8 (pb 8), tv 10 (pb 10), bv 6 (Xk (kq (Ze l p))), bv 8 (Xk (kq (Ja l p))), bv 10 (Xk (kq (Xa l.c)))] (oT 2 oN) ?_
    refine Xg ?_
    have hl : (Ys l p) = (0, false) := by unfold Ys; simp only [h1, Xas h1, h2, Xas h2, h3, Xdt h3, X72]
    show Xca TL _ _ = some (.tup [ki (Ys l p).1, .bool (Ys l p).2])
    rw [hl]; kernel_rfl
   ·
    refine Xn ?_
    refine Xe ?_
    have := Xbu (o := (Jr l p)) (fun r h => Xak (by assumption) (by assumption) h)
    refine rh [tv 4 (ki 0), tv 5 (.bool false), tv 7 (.bool (Option.isSome (Jr l p))), tv 10 (pb 10), tv 12 (pb 12), bv 10 (Xk (kq (Xa l.c))), bv 12 (Xk (kq (Jr l p)))] (oT 2 (oO (Jl (Xb6 (kq (Ze l p)) (kq (Ja l p)) (by assumption) (by assumption)) (Xad _) : CS Tryz.prog 283 [Xk (kq (Ze l p)), Xk (kq (Ja l p))] (.tup [Xk (kq (Jr l p)), .bool (Option.isSome (Jr l p))])) (oT 2 (oO (oB (Option.isSome (Jr l p))) (oT 3 (oA [.tup [Xk (kq (Jr l p)), .bool (Option.isSome (Jr l p))], .rptr (.bool (Option.isSome (Jr l p)))] oN)))))) ?_
    refine Xe ?_
    refine rt [tv 4 (ki 0), tv 5 (.bool false), tv 7 (.bool (Option.isSome (Jr l p))), tv 10 (pb 10), tv 12 (pb 12), tv 74 (.bool (!(Option.isSome (Jr l p)))), bv 10 (Xk (kq (Xa l.c))), bv 12 (Xk (kq (Jr l p)))] (oT 1 (oO (oB (!(Option.isSome (Jr l p)))) (oA [.rptr (.bool (!(Option.isSome (Jr l p))))] oN))) ?_
    refine cB ((!(Option.isSome (Jr l p)))) (fun h4 => ?_) (fun h4 => ?_)
    ·
     refine rt [tv 4 (ki 0), tv 5 (.bool false), tv 7 (.bool (Option.isSome (Jr l p))), tv 10 (pb 10), tv 12 (pb 12), bv 10 (Xk (kq (Xa l.c))), bv 12 (Xk (kq (Jr l p)))] (oT 2 oN) ?_
     refine Xg ?_
     have hl : (Ys l p) = (0, false) := by unfold Ys; simp only [h1, Xas h1, h2, Xas h2, h3, Xas h3, h4, Xdt h4, X72]
     show Xca TL _ _ = some (.tup [ki (Ys l p).1, .bool (Ys l p).2])
     rw [hl]; kernel_rfl
    ·
     refine Xn ?_
     refine Xe ?_
     have := Xbu (o := (Jb l p)) (fun r h => Xak (by assumption) (Xci (by assumption)) h)
     refine sh 2 [tv 4 (ki 0), tv 5 (.bool false), tv 12 (pb 12), tv 83 (.bool (!(Option.isSome (Jb l p)))), bv 12 (Xk (kq (Jb l p)))] (oS (oT 2 (oC (Xi3 (kq (Xa l.c)) (by assumption)) (oO (Jl (Xb6 (kq (Jr l p)) (Zz (kq (Xa l.c))) (by assumption) (Xci (by assumption))) (Xad _) : CS Tryz.prog 283 [Xk (kq (Jr l p)), Xk (Zz (kq (Xa l.c)))] (.tup [Xk (kq (Jb l p)), .bool (Option.isSome (Jb l p))])) (oT 2 (oO (oB (Option.isSome (Jb l p))) (oT 2 oN)))))) (oS (oT 1 (oO (oB (!(Option.isSome (Jb l p)))) (oA [.tup [Xk (kq (Jb l p)), .bool (Option.isSome (Jb l p))], .rptr (.bool (Option.isSome (Jb l p))), .rptr (.bool (!(Option.isSome (Jb l p))))] oN))) oN)) ?_
     refine cB ((!(Option.isSome (Jb l p)))) (fun h5 => ?_) (fun h5 => ?_)
     ·
      refine rt [tv 4 (ki 0), tv 5 (.bool false), tv 12 (pb 12), bv 12 (Xk (kq (Jb l p)))] (oT 2 oN) ?_
      refine Xg ?_
      have hl : (Ys l p) = (0, false) := by unfold Ys; simp only [h1, Xas h1, h2, Xas h2, h3, Xas h3, h4, Xas h4, h5, Xdt h5, X72]
      show Xca TL _ _ = some (.tup [ki (Ys l p).1, .bool (Ys l p).2])
      rw [hl]; kernel_rfl
     ·
      refine Xn ?_
      refine rt [tv 4 (ki (X5 (kq (Jb l p))).1), tv 5 (.bool (X5 (kq (Jb l p))).2)] (oT 1 (oC (Xhi (kq (Jb l p))) (oT 1 (oO (oB ((X5 (kq (Jb l p))).2)) (oT 2 (oA [.rptr (.bool (X5 (kq (Jb l p))).2)] oN)))))) ?_
      refine Xg ?_
      have hl : (Ys l p) = ((X5 (kq (Jb l p))).1, (X5 (kq (Jb l p))).2) := by unfold Ys; simp only [h1, Xas h1, h2, Xas h2, h3, Xas h3, h4, Xas h4, h5, Xas h5, X72]
      show Xca TL _ _ = some (.tup [ki (Ys l p).1, .bool (Ys l p).2])
      rw [hl]; kernel_rfl
theorem Xbo (a b : Rat) (hs : X6p a + X6p b ≤ 17179869184) : CS Tryz.prog 154 [Xc a, Xc b] (Xc (a + b)) := by
 refine cO 8 Tryz.func154 ?_
 refine sh 2 [tv 4 (pb 4), bv 4 (Xc (a + b))] (oS (oT 3 oN) (oS (oT 2 (oC (Xaq a b (by omega)) (oT 1 oN))) oN)) ?_
 refine Xg ?_
 exact X7i ((Xc (a + b))) (rfl)
theorem Kd (a b : Rat) : X6p (a + b) ≤ 1 * (X6p a + X6p b) + 1 := Xj1 a b
theorem Xcv (a b : Rat) (hs : X6p a + X6p b ≤ 17179869184) : CS Tryz.prog 153 [Xc a, Xc b] (Xc (a - b)) := by
 refine cO 8 Tryz.func153 ?_
 refine sh 2 [tv 4 (pb 4), bv 4 (Xc (a - b))] (oS (oT 3 oN) (oS (oT 2 (oC (K9 a b (by omega)) (oT 1 oN))) oN)) ?_
 refine Xg ?_
 exact X7i ((Xc (a - b))) (rfl)
theorem Kx (a b : Rat) : X6p (a - b) ≤ 1 * (X6p a + X6p b) + 1 := Xnl a b
theorem Ji (a b : Rat) (hs : X6p a + X6p b ≤ 17179869184) : CS Tryz.prog 155 [Xc a, Xc b] (Xc (a * b)) := by
 refine cO 8 Tryz.func155 ?_
 refine sh 2 [tv 4 (pb 4), bv 4 (Xc (a * b))] (oS (oT 3 oN) (oS (oT 2 (oC (Zf a b (by omega)) (oT 1 oN))) oN)) ?_
 refine Xg ?_
 exact X7i ((Xc (a * b))) (rfl)
theorem Yl (a b : Rat) : X6p (a * b) ≤ 1 * (X6p a + X6p b) + 0 := Xmx a b
def Y2 (a : Rat) (b : Rat) : Rat := (Xfb (Xsp a b) (fun r2 => r2) ((0 : Int) : Rat))
theorem Xjt (a : Rat) (b : Rat) : X6p (Y2 a b) ≤ 1 * (X6p a + X6p b) + 3 := by
 rcases Xbs (Xsp a b) with k3 | ⟨r2, k3⟩
 ·
  rw [show (Y2 a b) = ((0 : Int) : Rat) by unfold Y2; simp only [k3, X72]]
  have := J4 0 (by omega) (by omega)
  omega
 ·
  rw [show (Y2 a b) = r2 by unfold Y2; simp only [k3, X72]]
  have := Xjn a b _ k3
  omega
theorem Xpl (a : Rat) (b : Rat) (hs : X6p a + X6p b ≤ 17179869184) : CS Tryz.prog 156 [Xc a, Xc b] (Xc (Y2 a b)) := by
 refine cO 17 Tryz.func156 ?_
 refine rt [tv 2 (pb 2), tv 3 (pb 3), tv 4 (pb 4), bv 2 (Xc a), bv 3 (Xc b), bv 4 zQ] (oT 3 oN) ?_
 refine Xe ?_
 rcases Xbs (Xsp a b) with h1 | ⟨r2, h1⟩
 ·
  refine rh [tv 4 (pb 4), tv 5 (pb 5), tv 6 (ki 6), bv 4 zQ, bv 5 zQ] (oT 2 (oO (Jl (Xe5 a b (by omega)) (by rw [h1]; rfl) : CS Tryz.prog 170 [Xc a, Xc b] (.tup [zQ, ki 6])) (oT 6 (oA [.tup [zQ, ki 6]] oN)))) ?_
  refine Xe ?_
  refine rt [tv 4 (pb 4), tv 5 (pb 5), tv 14 (.bool true), bv 4 zQ, bv 5 zQ] (oT 1 (oO (aI trivial (by decide : (!(decide ((6 : Int) = 0))) = true)) (oA [cT true] oN))) ?_
  refine cB (true) (fun _ => ?_) (fun h => Bool.noConfusion h)
  refine rt [tv 4 (pb 4), tv 5 (pb 5), bv 4 (Xc ((0 : Int) : Rat)), bv 5 zQ] (oC (Kr 0 (by omega) (by omega)) (oT 1 oN)) ?_
  exact Xg (lv Xc ((0 : Int) : Rat) (by unfold Y2; simp only [h1, X72]))
 ·
  refine rh [tv 4 (pb 4), tv 5 (pb 5), tv 6 (ki 0), bv 4 zQ, bv 5 (Xc r2)] (oT 2 (oO (Jl (Xe5 a b (by omega)) (by rw [h1]; rfl) : CS Tryz.prog 170 [Xc a, Xc b] (.tup [Xc r2, ki 0])) (oT 6 (oA [.tup [Xc r2, ki 0]] oN)))) ?_
  refine Xe ?_
  refine rt [tv 4 (pb 4), tv 5 (pb 5), tv 14 (.bool false), bv 4 zQ, bv 5 (Xc r2)] (oT 1 (oO (aI trivial (by decide : (!(decide ((0 : Int) = 0))) = false)) (oA [cT false] oN))) ?_
  refine cB (false) (fun h => Bool.noConfusion h) (fun _ => ?_)
  refine Xn ?_
  refine rt [tv 4 (pb 4), bv 4 (Xc r2)] (oT 2 oN) ?_
  exact Xg (lv Xc r2 (by unfold Y2; simp only [h1, X72]))
def Zd (a : Rat) (b : Rat) (c : Rat) : Int := (bif (decide ((Int.sign (Rat.num b) * Int.sign (Rat.num c)) = 0)) then (Int.sign (Rat.num a)) else (bif (decide (Int.sign (Rat.num a) = (Int.sign (Rat.num b) * Int.sign (Rat.num c)))) then (Int.sign (Rat.num a)) else (bif (decide (Int.sign (Rat.num a) = 0)) then (Int.sign (Rat.num b) * Int.sign (Rat.num c)) else (Int.sign (Rat.num a) * Xb3 (a * a) ((b * b) * c)))))
theorem Xpm (a : Rat) (b : Rat) (c : Rat) : -1 ≤ Zd a b c ∧ Zd a b c ≤ 1 := by
 rcases X7 (decide ((Int.sign (Rat.num b) * Int.sign (Rat.num c)) = 0)) with k4 | k4
 ·
  rw [show (Zd a b c) = (Int.sign (Rat.num a)) by unfold Zd; simp only [k4, X72]]
  have := (Xbh (Rat.num a))
  omega
 ·
  rcases X7 (decide (Int.sign (Rat.num a) = (Int.sign (Rat.num b) * Int.sign (Rat.num c)))) with k5 | k5
  ·
   rw [show (Zd a b c) = (Int.sign (Rat.num a)) by unfold Zd; simp only [k4, k5, X72]]
   have := (Xbh (Rat.num a))
   omega
  ·
   rcases X7 (decide (Int.sign (Rat.num a) = 0)) with k6 | k6
   ·
    rw [show (Zd a b c) = (Int.sign (Rat.num b) * Int.sign (Rat.num c)) by unfold Zd; simp only [k4, k5, k6, X72]]
    have := (Xbh (Rat.num b))
    have := (Xbh (Rat.num c))
    have := (Xo5 (Xbh (Rat.num b)) (Xbh (Rat.num c)))
    omega
   ·
    rw [show (Zd a b c) = (Int.sign (Rat.num a) * Xb3 (a * a) ((b * b) * c)) by unfold Zd; simp only [k4, k5, k6, X72]]
    have := (Xbh (Rat.num a))
    have := (Xk9 (a * a) ((b * b) * c))
    have := (Xo5 (Xbh (Rat.num a)) (Xk9 (a * a) ((b * b) * c)))
    omega
theorem Xjm (a : Rat) (b : Rat) (c : Rat) (hs : X6p a + X6p b + X6p c ≤ 8589934592) : CS Tryz.prog 269 [Xc a, Xc b, Xc c] (ki (Zd a b c)) := by
 refine cO 40 Tryz.func269 ?_
 refine sh 2 [tv 3 (pb 3), tv 4 (pb 4), tv 5 (pb 5), tv 6 (ki 0), tv 7 (ki (Int.sign (Rat.num a))), tv 8 (ki (Int.sign (Rat.num b) * Int.sign (Rat.num c))), bv 3 (Xc a), bv 4 (Xc b), bv 5 (Xc c)] (oS (oT 4 oN) (oS (oT 1 (oC (Yd a) (oT 1 (oC (Yd b) (oT 1 (oC (Yd c) (oO (Xb4 (Xbh (Rat.num b)) (Xbh (Rat.num c)) : Jx .mul .i64 (Int.sign (Rat.num b)) (Int.sign (Rat.num c)) = some (Int.sign (Rat.num b) * Int.sign (Rat.num c)) ∧ ((BinOp.mul = .quo ∨ BinOp.mul = .rem) → Int.sign (Rat.num c) ≠ (0 : Int))) (oT 2 (oA [ki (Int.sign (Rat.num b) * Int.sign (Rat.num c))] oN))))))))) oN)) ?_
 refine Xe ?_
 refine X6 ?_
 refine Xe ?_
 rcases X7 (decide ((Int.sign (Rat.num b) * Int.sign (Rat.num c)) = 0)) with h1 | h1
 ·
  have h1' := of_decide_eq_true h1
  refine rh [tv 3 (pb 3), tv 4 (pb 4), tv 5 (pb 5), tv 6 (ki 0), tv 7 (ki (Int.sign (Rat.num a))), tv 8 (ki (Int.sign (Rat.num b) * Int.sign (Rat.num c))), tv 16 (.bool true), bv 3 (Xc a), bv 4 (Xc b), bv 5 (Xc c)] (oT 1 (oO (aI trivial (h1 : (decide ((Int.sign (Rat.num b) * Int.sign (Rat.num c)) = 0)) = true)) (oT 1 (oO (gn [false]) (oO (gn [false]) (oO (gn [true, true]) (oT 2 (oA [cT true, cT (decide (Int.sign (Rat.num a) = (Int.sign (Rat.num b) * Int.sign (Rat.num c))))] oN)))))))) ?_
  refine cB (true) (fun _ => ?_) (fun h => Bool.noConfusion h)
  refine rt [tv 3 (pb 3), tv 4 (pb 4), tv 5 (pb 5), tv 6 (ki (Int.sign (Rat.num a))), tv 7 (ki (Int.sign (Rat.num a))), bv 3 (Xc a), bv 4 (Xc b), bv 5 (Xc c)] (oT 2 oN) ?_
  exact Xg (lv ki (Int.sign (Rat.num a)) (by unfold Zd; simp only [h1, X72]))
 ·
  have h1' := of_decide_eq_false h1
  refine rh [tv 3 (pb 3), tv 4 (pb 4), tv 5 (pb 5), tv 6 (ki 0), tv 7 (ki (Int.sign (Rat.num a))), tv 8 (ki (Int.sign (Rat.num b) * Int.sign (Rat.num c))), tv 16 (.bool (decide (Int.sign (Rat.num a) = (Int.sign (Rat.num b) * Int.sign (Rat.num c))))), bv 3 (Xc a), bv 4 (Xc b), bv 5 (Xc c)] (oT 1 (oO (aI trivial (h1 : (decide ((Int.sign (Rat.num b) * Int.sign (Rat.num c)) = 0)) = false)) (oT 1 (oO (Xh 1 trivial) (oO (Xh 1 trivial) (oO (Xh 2 (oB (decide (Int.sign (Rat.num a) = (Int.sign (Rat.num b) * Int.sign (Rat.num c)))))) (oT 2 (oA [cT false, cT (decide (Int.sign (Rat.num a) = (Int.sign (Rat.num b) * Int.sign (Rat.num c))))] oN)))))))) ?_
  refine cB (decide (Int.sign (Rat.num a) = (Int.sign (Rat.num b) * Int.sign (Rat.num c)))) (fun h2 => ?_) (fun h2 => ?_)
  ·
   have h2' := of_decide_eq_true h2
   refine rt [tv 3 (pb 3), tv 4 (pb 4), tv 5 (pb 5), tv 6 (ki (Int.sign (Rat.num a))), tv 7 (ki (Int.sign (Rat.num a))), bv 3 (Xc a), bv 4 (Xc b), bv 5 (Xc c)] (oT 2 oN) ?_
   exact Xg (lv ki (Int.sign (Rat.num a)) (by unfold Zd; simp only [h1, h2, X72]))
  ·
   have h2' := of_decide_eq_false h2
   refine rt [tv 3 (pb 3), tv 4 (pb 4), tv 5 (pb 5), tv 6 (ki 0), tv 7 (ki (Int.sign (Rat.num a))), tv 8 (ki (Int.sign (Rat.num b) * Int.sign (Rat.num c))), tv 25 (.bool (decide (Int.sign (Rat.num a) = 0))), bv 3 (Xc a), bv 4 (Xc b), bv 5 (Xc c)] (oT 1 (oO (oB (decide (Int.sign (Rat.num a) = 0))) (oT 1 (oA [cT (decide (Int.sign (Rat.num a) = 0))] oN)))) ?_
   refine cB (decide (Int.sign (Rat.num a) = 0)) (fun h3 => ?_) (fun h3 => ?_)
   ·
    have h3' := of_decide_eq_true h3
    refine rt [tv 3 (pb 3), tv 4 (pb 4), tv 5 (pb 5), tv 6 (ki (Int.sign (Rat.num b) * Int.sign (Rat.num c))), tv 7 (ki (Int.sign (Rat.num a))), bv 3 (Xc a), bv 4 (Xc b), bv 5 (Xc c)] (oT 2 oN) ?_
    exact Xg (lv ki (Int.sign (Rat.num b) * Int.sign (Rat.num c)) (by unfold Zd; simp only [h1, h2, h3, X72]))
   ·
    have h3' := of_decide_eq_false h3
    refine Xn ?_
    refine Xe ?_
    have := Yl b b
    have := Yl a a
    have := Yl (b * b) c
    refine rh [tv 6 (ki (Int.sign (Rat.num a) * Xb3 (a * a) ((b * b) * c)))] (oT 3 (oC (Ji a a (by omega)) (oT 2 (oC (Ji b b (by omega)) (oT 1 (oC (Ji (b * b) c (by omega)) (oC (Xbq (a * a) ((b * b) * c) (by omega)) (oO (Xb4 (Xbh (Rat.num a)) (Xk9 (a * a) ((b * b) * c)) : Jx .mul .i64 (Int.sign (Rat.num a)) (Xb3 (a * a) ((b * b) * c)) = some (Int.sign (Rat.num a) * Xb3 (a * a) ((b * b) * c)) ∧ ((BinOp.mul = .quo ∨ BinOp.mul = .rem) → Xb3 (a * a) ((b * b) * c) ≠ (0 : Int))) (oT 1 (oA [ki (Int.sign (Rat.num a) * Xb3 (a * a) ((b * b) * c))] oN)))))))))) ?_
    exact Xg (lv ki (Int.sign (Rat.num a) * Xb3 (a * a) ((b * b) * c)) (by unfold Zd; simp only [h1, h2, h3, X72]))
def Zc (l : LnV) (v : VecV) : VecV := (⟨v.x - (Y2 (((l.a * v.x) + (l.b * v.y)) - l.c) ((l.a * l.a) + (l.b * l.b)) * l.a), v.y - (Y2 (((l.a * v.x) + (l.b * v.y)) - l.c) ((l.a * l.a) + (l.b * l.b)) * l.b)⟩ : VecV)
theorem Xg2 (l : LnV) (v : VecV) : VecV.ht (Zc l v) ≤ 7 * (LnV.ht l + VecV.ht v) + 14 := by
 rw [show (Zc l v) = (⟨v.x - (Y2 (((l.a * v.x) + (l.b * v.y)) - l.c) ((l.a * l.a) + (l.b * l.b)) * l.a), v.y - (Y2 (((l.a * v.x) + (l.b * v.y)) - l.c) ((l.a * l.a) + (l.b * l.b)) * l.b)⟩ : VecV) by unfold Zc; rfl]
 have := VecV.htd v
 have := LnV.htd l
 have := Yl l.a v.x
 have := Yl l.b v.y
 have := Kd (l.a * v.x) (l.b * v.y)
 have := Kx ((l.a * v.x) + (l.b * v.y)) l.c
 have := Yl l.a l.a
 have := Yl l.b l.b
 have := Kd (l.a * l.a) (l.b * l.b)
 have := Xjt (((l.a * v.x) + (l.b * v.y)) - l.c) ((l.a * l.a) + (l.b * l.b))
 have := Yl (Y2 (((l.a * v.x) + (l.b * v.y)) - l.c) ((l.a * l.a) + (l.b * l.b))) l.a
 have := Kx v.x (Y2 (((l.a * v.x) + (l.b * v.y)) - l.c) ((l.a * l.a) + (l.b * l.b)) * l.a)
 have := Yl (Y2 (((l.a * v.x) + (l.b * v.y)) - l.c) ((l.a * l.a) + (l.b * l.b))) l.b
 have := Kx v.y (Y2 (((l.a * v.x) + (l.b * v.y)) - l.c) ((l.a * l.a) + (l.b * l.b)) * l.b)
 have := VecV.htm (v.x - (Y2 (((l.a * v.x) + (l.b * v.y)) - l.c) ((l.a * l.a) + (l.b * l.b)) * l.a)) (v.y - (Y2 (((l.a * v.x) + (l.b * v.y)) - l.c) ((l.a * l.a) + (l.b * l.b)) * l.b))
 omega
theorem Xpb (l : LnV) (v : VecV) (hs : LnV.ht l + VecV.ht v ≤ 4294967294) : CS Tryz.prog 70 [Xea l, Xt v] (Xt (Zc l v)) := by
 refine cO 49 Tryz.func70 ?_
 have := LnV.htd l
 have := VecV.htd v
 have := Yl l.a v.x
 have := Yl l.b v.y
 have := Kd (l.a * v.x) (l.b * v.y)
 have := LnV.htd l
 have := Yl l.a l.a
 have := Yl l.b l.b
 have := VecV.htd v
 have := Yl l.a v.x
 have := Yl l.b v.y
 have := Kd (l.a * v.x) (l.b * v.y)
 have := Kx ((l.a * v.x) + (l.b * v.y)) l.c
 have := Kd (l.a * l.a) (l.b * l.b)
 have := LnV.htd l
 have := VecV.htd v
 have := Yl l.a v.x
 have := Yl l.b v.y
 have := Kd (l.a * v.x) (l.b * v.y)
 have := Kx ((l.a * v.x) + (l.b * v.y)) l.c
 have := Yl l.a l.a
 have := Yl l.b l.b
 have := Kd (l.a * l.a) (l.b * l.b)
 have := Xjt (((l.a * v.x) + (l.b * v.y)) - l.c) ((l.a * l.a) + (l.b * l.b))
 have := Yl (Y2 (((l.a * v.x) + (l.b * v.y)) - l.c) ((l.a * l.a) + (l.b * l.b))) l.a
 have := Yl (Y2 (((l.a * v.x) + (l.b * v.y)) - l.c) ((l.a * l.a) + (l.b * l.b))) l.b
 refine sh 4 [tv 4 (pb 4), bv 4 (Xt (⟨v.x - (Y2 (((l.a * v.x) + (l.b * v.y)) - l.c) ((l.a * l.a) + (l.b * l.b)) * l.a), v.y - (Y2 (((l.a * v.x) + (l.b * v.y)) - l.c) ((l.a * l.a) + (l.b * l.b)) * l.b)⟩ : VecV))] (oS (oT 3 oN) (oS (oT 4 (oC (Ji l.a v.x (by omega)) (oT 4 (oC (Ji l.b v.y (by omega)) (oC (Xbo (l.a * v.x) (l.b * v.y) (by omega)) (oT 2 (oC (Xcv ((l.a * v.x) + (l.b * v.y)) l.c (by omega)) (oT 2 oN)))))))) (oS (oT 5 (oC (Ji l.a l.a (by omega)) (oT 4 (oC (Ji l.b l.b (by omega)) (oC (Xbo (l.a * l.a) (l.b * l.b) (by omega)) (oC (Xpl (((l.a * v.x) + (l.b * v.y)) - l.c) ((l.a * l.a) + (l.b * l.b)) (by omega)) (oT 2 oN))))))) (oS (oT 5 (oC (Ji (Y2 (((l.a * v.x) + (l.b * v.y)) - l.c) ((l.a * l.a) + (l.b * l.b))) l.a (by omega)) (oC (Xcv v.x (Y2 (((l.a * v.x) + (l.b * v.y)) - l.c) ((l.a * l.a) + (l.b * l.b)) * l.a) (by omega)) (oT 5 (oC (Ji (Y2 (((l.a * v.x) + (l.b * v.y)) - l.c) ((l.a * l.a) + (l.b * l.b))) l.b (by omega)) (oC (Xcv v.y (Y2 (((l.a * v.x) + (l.b * v.y)) - l.c) ((l.a * l.a) + (l.b * l.b)) * l.b) (by omega)) (oT 2 oN))))))) oN)))) ?_
 exact Xg (lv Xt (⟨v.x - (Y2 (((l.a * v.x) + (l.b * v.y)) - l.c) ((l.a * l.a) + (l.b * l.b)) * l.a), v.y - (Y2 (((l.a * v.x) + (l.b * v.y)) - l.c) ((l.a * l.a) + (l.b * l.b)) * l.b)⟩ : VecV) (by unfold Zc; rfl))
def Xm (a : Rat) (b : Rat) (c : Rat) (from' : Rat) : (Option IvV) := (bif (!(Option.isSome (Xi (⟨a, b, c⟩ : RootV)))) then none else (bif (!(Option.isSome (Xa from'))) then none else (Yk (kq (Xi (⟨a, b, c⟩ : RootV))) (Zz (kq (Xa from'))))))
theorem Xg4 {a : Rat} {b : Rat} {c : Rat} {from' : Rat} {ro : IvV} : (Xm a b c from') = some ro → ro.ok := by
 revert ro
 have := Xbu (o := (Xi (⟨a, b, c⟩ : RootV))) (fun r h => Xdk h)
 have := Xbu (o := (Xa from')) (fun r h => Zh h)
 have := Xbu (o := (Yk (kq (Xi (⟨a, b, c⟩ : RootV))) (Zz (kq (Xa from'))))) (fun r h => Xak (by assumption) (Xci (by assumption)) h)
 rcases X7 (!(Option.isSome (Xi (⟨a, b, c⟩ : RootV)))) with k3 | k3
 ·
  intro ro h; unfold Xm at h; simp only [k3, Bool.not_true, Bool.not_false, cond_true, cond_false] at h
  cases h
 ·
  rcases X7 (!(Option.isSome (Xa from'))) with k4 | k4
  ·
   intro ro h; unfold Xm at h; simp only [k3, k4, Bool.not_true, Bool.not_false, cond_true, cond_false] at h
   cases h
  ·
   intro ro h; unfold Xm at h; simp only [k3, k4, Bool.not_true, Bool.not_false, cond_true, cond_false] at h
   exact Xak (by assumption) (Xci (by assumption)) h
theorem Xg5 (a : Rat) (b : Rat) (c : Rat) (from' : Rat) (hs : X6p a + X6p b + X6p c + X6p from' ≤ 17179869181) : CS Tryz.prog 289 [Xc a, Xc b, Xc c, Xc from'] (Xdr Xk (.st [ki 0, ki 0]) (.bool true) (.bool false) (Xm a b c from')) := by
 refine Xge (N := 40) X6y Tryz.func289 rfl rfl rfl rfl rfl (Xg1 _ _ _ _ _) ?_
 have := RootV.htm a b c
 have := Xbu (o := (Xi (⟨a, b, c⟩ : RootV))) (fun r h => Xdk h)
 have := Xbu (o := (Xa from')) (fun r h => Zh h)
 refine sh 3 [tv 8 (pb 8), tv 9 (.bool false), tv 10 (pb 10), tv 11 (.bool (Option.isSome (Xi (⟨a, b, c⟩ : RootV)))), tv 12 (pb 12), tv 13 (.bool (Option.isSome (Xa from'))), bv 8 (Xk (⟨0, 0⟩ : IvV)), bv 10 (Xk (kq (Xi (⟨a, b, c⟩ : RootV)))), bv 12 (Xk (kq (Xa from')))] (oS (oT 6 oN) (oS (oT 4 (oO (Jl (Xem (⟨a, b, c⟩ : RootV) (by omega)) (Xad _) : CS Tryz.prog 259 [Xl (⟨a, b, c⟩ : RootV)] (.tup [Xk (kq (Xi (⟨a, b, c⟩ : RootV))), .bool (Option.isSome (Xi (⟨a, b, c⟩ : RootV)))])) (oT 2 (oO (oB (Option.isSome (Xi (⟨a, b, c⟩ : RootV)))) (oT 3 oN))))) (oS (oT 1 (oO (Jl (J8 from' (by omega)) (Xad _) : CS Tryz.prog 281 [Xc from'] (.tup [Xk (kq (Xa from')), .bool (Option.isSome (Xa from'))])) (oT 2 (oO (oB (Option.isSome (Xa from'))) (oT 3 (oA [.tup [Xk (kq (Xi (⟨a, b, c⟩ : RootV))), .bool (Option.isSome (Xi (⟨a, b, c⟩ : RootV)))], .rptr (.bool (Option.isSome (Xi (⟨a, b, c⟩ : RootV)))), .tup [Xk (kq (Xa from')), .bool (Option.isSome (Xa from'))], .rptr (.bool (Option.isSome (Xa from')))] oN)))))) oN))) ?_
 refine Xe ?_
 refine Xe ?_
 rcases X7 (!(Option.isSome (Xi (⟨a, b, c⟩ : RootV)))) with h1 | h1
 ·
  refine rh [tv 8 (pb 8), tv 9 (.bool false), tv 10 (pb 10), tv 12 (pb 12), tv 32 (.bool true), bv 8 (Xk (⟨0, 0⟩ : IvV)), bv 10 (Xk (kq (Xi (⟨a, b, c⟩ : RootV)))), bv 12 (Xk (kq (Xa from')))] (oT 1 (oO (aI trivial (h1 : (!(Option.isSome (Xi (⟨a, b, c⟩ : RootV)))) = true)) (oT 1 (oO (gn [false]) (oO (gn [true]) (oT 1 (oA [.rptr (.bool true), .rptr (.bool (!(Option.isSome (Xa from'))))] oN))))))) ?_
  refine cB (true) (fun _ => ?_) (fun h => Bool.noConfusion h)
  refine rt [tv 8 (pb 8), tv 9 (.bool false), tv 10 (pb 10), tv 12 (pb 12), bv 8 (Xk (⟨0, 0⟩ : IvV)), bv 10 (Xk (kq (Xi (⟨a, b, c⟩ : RootV)))), bv 12 (Xk (kq (Xa from')))] (oT 3 oN) ?_
  refine Xg ?_
  have hl : (Xm a b c from') = none := by unfold Xm; simp only [h1, Xdt h1, X72]
  show Xca TL _ _ = some (Xdr Xk (.st [ki 0, ki 0]) (.bool true) (.bool false) (Xm a b c from'))
  rw [hl]; kernel_rfl
 ·
  refine rh [tv 8 (pb 8), tv 9 (.bool false), tv 10 (pb 10), tv 12 (pb 12), tv 32 (.bool (!(Option.isSome (Xa from')))), bv 8 (Xk (⟨0, 0⟩ : IvV)), bv 10 (Xk (kq (Xi (⟨a, b, c⟩ : RootV)))), bv 12 (Xk (kq (Xa from')))] (oT 1 (oO (aI trivial (h1 : (!(Option.isSome (Xi (⟨a, b, c⟩ : RootV)))) = false)) (oT 1 (oO (Xh 1 trivial) (oO (Xh 1 (oB (!(Option.isSome (Xa from'))))) (oT 1 (oA [.rptr (.bool false), .rptr (.bool (!(Option.isSome (Xa from'))))] oN))))))) ?_
  refine cB ((!(Option.isSome (Xa from')))) (fun h2 => ?_) (fun h2 => ?_)
  ·
   refine rt [tv 8 (pb 8), tv 9 (.bool false), tv 10 (pb 10), tv 12 (pb 12), bv 8 (Xk (⟨0, 0⟩ : IvV)), bv 10 (Xk (kq (Xi (⟨a, b, c⟩ : RootV)))), bv 12 (Xk (kq (Xa from')))] (oT 3 oN) ?_
   refine Xg ?_
   have hl : (Xm a b c from') = none := by unfold Xm; simp only [h1, Xas h1, h2, Xdt h2, X72]
   show Xca TL _ _ = some (Xdr Xk (.st [ki 0, ki 0]) (.bool true) (.bool false) (Xm a b c from'))
   rw [hl]; kernel_rfl
  ·
   refine Xn ?_
   refine Xe ?_
   have := Xbu (o := (Yk (kq (Xi (⟨a, b, c⟩ : RootV))) (Zz (kq (Xa from'))))) (fun r h => Xak (by assumption) (Xci (by assumption)) h)
   refine rh [tv 8 (pb 8), tv 9 (.bool (Option.isSome (Yk (kq (Xi (⟨a, b, c⟩ : RootV))) (Zz (kq (Xa from')))))), bv 8 (Xk (kq (Yk (kq (Xi (⟨a, b, c⟩ : RootV))) (Zz (kq (Xa from'))))))] (oT 2 (oC (Xi3 (kq (Xa from')) (by assumption)) (oO (Jl (Xb6 (kq (Xi (⟨a, b, c⟩ : RootV))) (Zz (kq (Xa from'))) (by assumption) (Xci (by assumption))) (Xad _) : CS Tryz.prog 283 [Xk (kq (Xi (⟨a, b, c⟩ : RootV))), Xk (Zz (kq (Xa from')))] (.tup [Xk (kq (Yk (kq (Xi (⟨a, b, c⟩ : RootV))) (Zz (kq (Xa from'))))), .bool (Option.isSome (Yk (kq (Xi (⟨a, b, c⟩ : RootV))) (Zz (kq (Xa from')))))])) (oT 1 (oO (oB (Option.isSome (Yk (kq (Xi (⟨a, b, c⟩ : RootV))) (Zz (kq (Xa from')))))) (oT 2 (oA [.tup [Xk (kq (Yk (kq (Xi (⟨a, b, c⟩ : RootV))) (Zz (kq (Xa from'))))), .bool (Option.isSome (Yk (kq (Xi (⟨a, b, c⟩ : RootV))) (Zz (kq (Xa from')))))], .rptr (.bool (Option.isSome (Yk (kq (Xi (⟨a, b, c⟩ : RootV))) (Zz (kq (Xa from'))))))] oN))))))) ?_
   refine Xg ?_
   have hl : (Xm a b c from') = (Yk (kq (Xi (⟨a, b, c⟩ : RootV))) (Zz (kq (Xa from')))) := by unfold Xm; simp only [h1, Xas h1, h2, Xas h2, X72]
   exact X7i ((.tup [Xk (kq (Yk (kq (Xi (⟨a, b, c⟩ : RootV))) (Zz (kq (Xa from'))))), .bool (Option.isSome (Yk (kq (Xi (⟨a, b, c⟩ : RootV))) (Zz (kq (Xa from')))))])) (by rw [hl]; exact (Xad _).symm)
def Y8 (c : CiV) (p : PtV) : Option IvV := (Xfg (kq (Xm p.ax p.bx p.c c.x)) (kq (Xm p.ax p.bx p.c c.x)))
def Zm (c : CiV) (p : PtV) : Option IvV := (Xfg (kq (Xm p.ay p.byy p.c c.y)) (kq (Xm p.ay p.byy p.c c.y)))
def Zr (c : CiV) (p : PtV) : Option IvV := (Yk (kq (Y8 c p)) (kq (Zm c p)))
def Yy (c : CiV) (p : PtV) : Option IvV := (Yk (kq (Zr c p)) (Zz (kq (Xa c.q))))
def Xx (c : CiV) (p : PtV) : (Int × Bool) := (bif (!(Option.isSome (Xm p.ax p.bx p.c c.x))) then (0, false) else (bif (!(Option.isSome (Xm p.ay p.byy p.c c.y))) then (0, false) else (bif (!(Option.isSome (Xa c.q))) then (0, false) else (bif (!(Option.isSome (Y8 c p))) then (0, false) else (bif (!(Option.isSome (Zm c p))) then (0, false) else (bif (!(Option.isSome (Zr c p))) then (0, false) else (bif (!(Option.isSome (Yy c p))) then (0, false) else ((X5 (kq (Yy c p))).1, (X5 (kq (Yy c p))).2))))))))
theorem Xn7 (c : CiV) (p : PtV) : -1 ≤ (Xx c p).1 ∧ (Xx c p).1 ≤ 1 := by
 rcases X7 (!(Option.isSome (Xm p.ax p.bx p.c c.x))) with k8 | k8
 ·
  rw [show (Xx c p) = (0, false) by unfold Xx; simp only [k8, X72]]
  dsimp only
  omega
 ·
  rcases X7 (!(Option.isSome (Xm p.ay p.byy p.c c.y))) with k9 | k9
  ·
   rw [show (Xx c p) = (0, false) by unfold Xx; simp only [k8, k9, X72]]
   dsimp only
   omega
  ·
   rcases X7 (!(Option.isSome (Xa c.q))) with k10 | k10
   ·
    rw [show (Xx c p) = (0, false) by unfold Xx; simp only [k8, k9, k10, X72]]
    dsimp only
    omega
   ·
    rcases X7 (!(Option.isSome (Y8 c p))) with k11 | k11
    ·
     rw [show (Xx c p) = (0, false) by unfold Xx; simp only [k8, k9, k10, k11, X72]]
     dsimp only
     omega
    ·
     rcases X7 (!(Option.isSome (Zm c p))) with k12 | k12
     ·
      rw [show (Xx c p) = (0, false) by unfold Xx; simp only [k8, k9, k10, k11, k12, X72]]
      dsimp only
      omega
     ·
      rcases X7 (!(Option.isSome (Zr c p))) with k13 | k13
      ·
       rw [show (Xx c p) = (0, false) by unfold Xx; simp only [k8, k9, k10, k11, k12, k13, X72]]
       dsimp only
       omega
      ·
       rcases X7 (!(Option.isSome (Yy c p))) with k14 | k14
       ·
        rw [show (Xx c p) = (0, false) by unfold Xx; simp only [k8, k9, k10, k11, k12, k13, k14, X72]]
        dsimp only
        omega
       ·
        rw [show (Xx c p) = ((X5 (kq (Yy c p))).1, (X5 (kq (Yy c p))).2) by unfold Xx; simp only [k8, k9, k10, k11, k12, k13, k14, X72]]
        dsimp only
        have := (Xk8 (kq (Yy c p)))
        omega
theorem Xoh (c : CiV) (p : PtV) (hs : CiV.ht c + PtV.ht p ≤ 17179869181) : CS Tryz.prog 268 [Xbf c, Xr p] (.tup [ki (Xx c p).1, .bool (Xx c p).2]) := by
 refine cO 95 Tryz.func268 ?_
 have := PtV.htd p
 have := CiV.htd c
 have := Xbu (o := (Xm p.ax p.bx p.c c.x)) (fun r h => Xg4 h)
 have := PtV.htd p
 have := CiV.htd c
 have := Xbu (o := (Xm p.ay p.byy p.c c.y)) (fun r h => Xg4 h)
 have := CiV.htd c
 have := Xbu (o := (Xa c.q)) (fun r h => Zh h)
 refine sh 4 [tv 4 (ki 0), tv 5 (.bool false), tv 6 (pb 6), tv 7 (.bool (Option.isSome (Xm p.ax p.bx p.c c.x))), tv 8 (pb 8), tv 9 (.bool (Option.isSome (Xm p.ay p.byy p.c c.y))), tv 10 (pb 10), tv 11 (.bool (Option.isSome (Xa c.q))), bv 6 (Xk (kq (Xm p.ax p.bx p.c c.x))), bv 8 (Xk (kq (Xm p.ay p.byy p.c c.y))), bv 10 (Xk (kq (Xa c.q)))] (oS (oT 4 oN) (oS (oT 8 (oO (Jl (Xg5 p.ax p.bx p.c c.x (by omega)) (Xad _) : CS Tryz.prog 289 [Xc p.ax, Xc p.bx, Xc p.c, Xc c.x] (.tup [Xk (kq (Xm p.ax p.bx p.c c.x)), .bool (Option.isSome (Xm p.ax p.bx p.c c.x))])) (oT 2 (oO (oB (Option.isSome (Xm p.ax p.bx p.c c.x))) (oT 3 oN))))) (oS (oT 8 (oO (Jl (Xg5 p.ay p.byy p.c c.y (by omega)) (Xad _) : CS Tryz.prog 289 [Xc p.ay, Xc p.byy, Xc p.c, Xc c.y] (.tup [Xk (kq (Xm p.ay p.byy p.c c.y)), .bool (Option.isSome (Xm p.ay p.byy p.c c.y))])) (oT 2 (oO (oB (Option.isSome (Xm p.ay p.byy p.c c.y))) (oT 3 oN))))) (oS (oT 2 (oO (Jl (J8 c.q (by omega)) (Xad _) : CS Tryz.prog 281 [Xc c.q] (.tup [Xk (kq (Xa c.q)), .bool (Option.isSome (Xa c.q))])) (oT 2 (oO (oB (Option.isSome (Xa c.q))) (oT 3 (oA [.tup [Xk (kq (Xm p.ax p.bx p.c c.x)), .bool (Option.isSome (Xm p.ax p.bx p.c c.x))], .rptr (.bool (Option.isSome (Xm p.ax p.bx p.c c.x))), .tup [Xk (kq (Xm p.ay p.byy p.c c.y)), .bool (Option.isSome (Xm p.ay p.byy p.c c.y))], .rptr (.bool (Option.isSome (Xm p.ay p.byy p.c c.y))), .tup [Xk (kq (Xa c.q)), .bool (Option.isSome (Xa c.q))], .rptr (.bool (Option.isSome (Xa c.q)))] oN)))))) oN)))) ?_
 refine Xe ?_
 refine Xe ?_
 rcases X7 (!(Option.isSome (Xm p.ax p.bx p.c c.x))) with h1 | h1
 ·
  refine rh [tv 4 (ki 0), tv 5 (.bool false), tv 6 (pb 6), tv 7 (.bool (Option.isSome (Xm p.ax p.bx p.c c.x))), tv 8 (pb 8), tv 9 (.bool (Option.isSome (Xm p.ay p.byy p.c c.y))), tv 10 (pb 10), tv 55 (.bool true), bv 6 (Xk (kq (Xm p.ax p.bx p.c c.x))), bv 8 (Xk (kq (Xm p.ay p.byy p.c c.y))), bv 10 (Xk (kq (Xa c.q)))] (oT 1 (oO (aI trivial (h1 : (!(Option.isSome (Xm p.ax p.bx p.c c.x))) = true)) (oT 1 (oO (gn [false]) (oO (gn [true]) (oT 2 (oO (gn [false]) (oO (gn [true]) (oT 1 (oA [.rptr (.bool true), .rptr (.bool (!(Option.isSome (Xm p.ay p.byy p.c c.y)))), .rptr (.bool (!(Option.isSome (Xa c.q))))] oN)))))))))) ?_
  refine cB (true) (fun _ => ?_) (fun h => Bool.noConfusion h)
  refine rt [tv 4 (ki 0), tv 5 (.bool false), tv 6 (pb 6), tv 7 (.bool (Option.isSome (Xm p.ax p.bx p.c c.x))), tv 8 (pb 8), tv 9 (.bool (Option.isSome (Xm p.ay p.byy p.c c.y))), tv 10 (pb 10), bv 6 (Xk (kq (Xm p.ax p.bx p.c c.x))), bv 8 (Xk (kq (Xm p.ay p.byy p.c c.y))), bv 10 (Xk (kq (Xa c.q)))] (oT 2 oN) ?_
  refine Xg ?_
  have hl : (Xx c p) = (0, false) := by unfold Xx; simp only [h1, Xdt h1, X72]
  show Xca TL _ _ = some (.tup [ki (Xx c p).1, .bool (Xx c p).2])
  rw [hl]; kernel_rfl
 ·
  rcases X7 (!(Option.isSome (Xm p.ay p.byy p.c c.y))) with h2 | h2
  ·
   refine rh [tv 4 (ki 0), tv 5 (.bool false), tv 6 (pb 6), tv 7 (.bool (Option.isSome (Xm p.ax p.bx p.c c.x))), tv 8 (pb 8), tv 9 (.bool (Option.isSome (Xm p.ay p.byy p.c c.y))), tv 10 (pb 10), tv 55 (.bool true), bv 6 (Xk (kq (Xm p.ax p.bx p.c c.x))), bv 8 (Xk (kq (Xm p.ay p.byy p.c c.y))), bv 10 (Xk (kq (Xa c.q)))] (oT 1 (oO (aI trivial (h1 : (!(Option.isSome (Xm p.ax p.bx p.c c.x))) = false)) (oT 1 (oO (Xh 1 trivial) (oO (Xh 1 (aI trivial (h2 : (!(Option.isSome (Xm p.ay p.byy p.c c.y))) = true))) (oT 2 (oO (gn [false]) (oO (gn [true]) (oT 1 (oA [.rptr (.bool false), .rptr (.bool true), .rptr (.bool (!(Option.isSome (Xa c.q))))] oN)))))))))) ?_
   refine cB (true) (fun _ => ?_) (fun h => Bool.noConfusion h)
   refine rt [tv 4 (ki 0), tv 5 (.bool false), tv 6 (pb 6), tv 7 (.bool (Option.isSome (Xm p.ax p.bx p.c c.x))), tv 8 (pb 8), tv 9 (.bool (Option.isSome (Xm p.ay p.byy p.c c.y))), tv 10 (pb 10), bv 6 (Xk (kq (Xm p.ax p.bx p.c c.x))), bv 8 (Xk (kq (Xm p.ay p.byy p.c c.y))), bv 10 (Xk (kq (Xa c.q)))] (oT 2 oN) ?_
   refine Xg ?_
   have hl : (Xx c p) = (0, false) := by unfold Xx; simp only [h1, Xas h1, h2, Xdt h2, X72]
   show Xca TL _ _ = some (.tup [ki (Xx c p).1, .bool (Xx c p).2])
   rw [hl]; kernel_rfl
  ·
   refine rh [tv 4 (ki 0), tv 5 (.bool false), tv 6 (pb 6), tv 7 (.bool (Option.isSome (Xm p.ax p.bx p.c c.x))), tv 8 (pb 8), tv 9 (.bool (Option.isSome (Xm p.ay p.byy p.c c.y))), tv 10 (pb 10), tv 55 (.bool (!(Option.isSome (Xa c.q)))), bv 6 (Xk (kq (Xm p.ax p.bx p.c c.x))), bv 8 (Xk (kq (Xm p.ay p.byy p.c c.y))), bv 10 (Xk (kq (Xa c.q)))] (oT 1 (oO (aI trivial (h1 : (!(Option.isSome (Xm p.ax p.bx p.c c.x))) = false)) (oT 1 (oO (Xh 1 trivial) (oO (Xh 1 (aI trivial (h2 : (!(Option.isSome (Xm p.ay p.byy p.c c.y))) = false))) (oT 2 (oO (Xh 1 trivial) (oO (Xh 1 (oB (!(Option.isSome (Xa c.q))))) (oT 1 (oA [.rptr (.bool false), .rptr (.bool false), .rptr (.bool (!(Option.isSome (Xa c.q))))] oN)))))))))) ?_
   refine cB ((!(Option.isSome (Xa c.q)))) (fun h3 => ?_) (fun h3 => ?_)
   ·
    refine rt [tv 4 (ki 0), tv 5 (.bool false), tv 6 (pb 6), tv 7 (.bool (Option.isSome (Xm p.ax p.bx p.c c.x))), tv 8 (pb 8), tv 9 (.bool (Option.isSome (Xm p.ay p.byy p.c c.y))), tv 10 (pb 10), bv 6 (Xk (kq (Xm p.ax p.bx p.c c.x))), bv 8 (Xk (kq (Xm p.ay p.byy p.c c.y))), bv 10 (Xk (kq (Xa c.q)))] (oT 2 oN) ?_
    refine Xg ?_
    have hl : (Xx c p) = (0, false) := by unfold Xx; simp only [h1, Xas h1, h2, Xas h2, h3, Xdt h3, X72]
    show Xca TL _ _ = some (.tup [ki (Xx c p).1, .bool (Xx c p).2])
    rw [hl]; kernel_rfl
   ·
    refine Xn ?_
    have := Xbu (o := (Y8 c p)) (fun r h => Xgs (by assumption) (by assumption) h)
    have := Xbu (o := (Zm c p)) (fun r h => Xgs (by assumption) (by assumption) h)
    refine sh 2 [tv 4 (ki 0), tv 5 (.bool false), tv 7 (.bool (Option.isSome (Y8 c p))), tv 9 (.bool (Option.isSome (Zm c p))), tv 10 (pb 10), tv 12 (pb 12), tv 13 (pb 13), bv 10 (Xk (kq (Xa c.q))), bv 12 (Xk (kq (Y8 c p))), bv 13 (Xk (kq (Zm c p)))] (oS (oT 2 (oO (Jl (Xcp (kq (Xm p.ax p.bx p.c c.x)) (kq (Xm p.ax p.bx p.c c.x)) (by assumption) (by assumption)) (Xad _) : CS Tryz.prog 282 [Xk (kq (Xm p.ax p.bx p.c c.x)), Xk (kq (Xm p.ax p.bx p.c c.x))] (.tup [Xk (kq (Y8 c p)), .bool (Option.isSome (Y8 c p))])) (oT 2 (oO (oB (Option.isSome (Y8 c p))) (oT 3 oN))))) (oS (oT 2 (oO (Jl (Xcp (kq (Xm p.ay p.byy p.c c.y)) (kq (Xm p.ay p.byy p.c c.y)) (by assumption) (by assumption)) (Xad _) : CS Tryz.prog 282 [Xk (kq (Xm p.ay p.byy p.c c.y)), Xk (kq (Xm p.ay p.byy p.c c.y))] (.tup [Xk (kq (Zm c p)), .bool (Option.isSome (Zm c p))])) (oT 2 (oO (oB (Option.isSome (Zm c p))) (oT 3 (oA [.tup [Xk (kq (Y8 c p)), .bool (Option.isSome (Y8 c p))], .rptr (.bool (Option.isSome (Y8 c p))), .tup [Xk (kq (Zm c p)), .bool (Option.isSome (Zm c p))], .rptr (.bool (Option.isSome (Zm c p)))] oN)))))) oN)) ?_
    refine Xe ?_
    refine Xe ?_
    rcases X7 (!(Option.isSome (Y8 c p))) with h4 | h4
    ·
     refine rh [tv 4 (ki 0), tv 5 (.bool false), tv 7 (.bool (Option.isSome (Y8 c p))), tv 10 (pb 10), tv 12 (pb 12), tv 13 (pb 13), tv 73 (.bool true), bv 10 (Xk (kq (Xa c.q))), bv 12 (Xk (kq (Y8 c p))), bv 13 (Xk (kq (Zm c p)))] (oT 1 (oO (aI trivial (h4 : (!(Option.isSome (Y8 c p))) = true)) (oT 1 (oO (gn [false]) (oO (gn [true]) (oT 1 (oA [.rptr (.bool true), .rptr (.bool (!(Option.isSome (Zm c p))))] oN))))))) ?_
     refine cB (true) (fun _ => ?_) (fun h => Bool.noConfusion h)
     refine rt [tv 4 (ki 0), tv 5 (.bool false), tv 7 (.bool (Option.isSome (Y8 c p))), tv 10 (pb 10), tv 12 (pb 12), tv 13 (pb 13), bv 10 (Xk (kq (Xa c.q))), bv 12 (Xk (kq (Y8 c p))), bv 13 (Xk (kq (Zm c p)))] (oT 2 oN) ?_
     refine Xg ?_
     have hl : (Xx c p) = (0, false) := by unfold Xx; simp only [h1, Xas h1, h2, Xas h2, h3, Xas h3, h4, Xdt h4, X72]
     show Xca TL _ _ = some (.tup [ki (Xx c p).1, .bool (Xx c p).2])
     rw [hl]; kernel_rfl
    ·
     refine rh [tv 4 (ki 0), tv 5 (.bool false), tv 7 (.bool (Option.isSome (Y8 c p))), tv 10 (pb 10), tv 12 (pb 12), tv 13 (pb 13), tv 73 (.bool (!(Option.isSome (Zm c p)))), bv 10 (Xk (kq (Xa c.q))), bv 12 (Xk (kq (Y8 c p))), bv 13 (Xk (kq (Zm c p)))] (oT 1 (oO (aI trivial (h4 : (!(Option.isSome (Y8 c p))) = false)) (oT 1 (oO (Xh 1 trivial) (oO (Xh 1 (oB (!(Option.isSome (Zm c p))))) (oT 1 (oA [.rptr (.bool false), .rptr (.bool (!(Option.isSome (Zm c p))))] oN))))))) ?_
     refine cB ((!(Option.isSome (Zm c p)))) (fun h5 => ?_) (fun h5 => ?_)
     ·
      refine rt [tv 4 (ki 0), tv 5 (.bool false), tv 7 (.bool (Option.isSome (Y8 c p))), tv 10 (pb 10), tv 12 (pb 12), tv 13 (pb 13), bv 10 (Xk (kq (Xa c.q))), bv 12 (Xk (kq (Y8 c p))), bv 13 (Xk (kq (Zm c p)))] (oT 2 oN) ?_
      refine Xg ?_
      have hl : (Xx c p) = (0, false) := by unfold Xx; simp only [h1, Xas h1, h2, Xas h2, h3, Xas h3, h4, Xas h4, h5, Xdt h5, X72]
      show Xca TL _ _ = some (.tup [ki (Xx c p).1, .bool (Xx c p).2])
      rw [hl]; kernel_rfl
     ·
      refine Xn ?_
      refine Xe ?_
      have := Xbu (o := (Zr c p)) (fun r h => Xak (by assumption) (by assumption) h)
      refine rh [tv 4 (ki 0), tv 5 (.bool false), tv 7 (.bool (Option.isSome (Zr c p))), tv 10 (pb 10), tv 14 (pb 14), bv 10 (Xk (kq (Xa c.q))), bv 14 (Xk (kq (Zr c p)))] (oT 2 (oO (Jl (Xb6 (kq (Y8 c p)) (kq (Zm c p)) (by assumption) (by assumption)) (Xad _) : CS Tryz.prog 283 [Xk (kq (Y8 c p)), Xk (kq (Zm c p))] (.tup [Xk (kq (Zr c p)), .bool (Option.isSome (Zr c p))])) (oT 2 (oO (oB (Option.isSome (Zr c p))) (oT 3 (oA [.tup [Xk (kq (Zr c p)), .bool (Option.isSome (Zr c p))], .rptr (.bool (Option.isSome (Zr c p)))] oN)))))) ?_
      refine Xe ?_
      refine rt [tv 4 (ki 0), tv 5 (.bool false), tv 7 (.bool (Option.isSome (Zr c p))), tv 10 (pb 10), tv 14 (pb 14), tv 81 (.bool (!(Option.isSome (Zr c p)))), bv 10 (Xk (kq (Xa c.q))), bv 14 (Xk (kq (Zr c p)))] (oT 1 (oO (oB (!(Option.isSome (Zr c p)))) (oA [.rptr (.bool (!(Option.isSome (Zr c p))))] oN))) ?_
      refine cB ((!(Option.isSome (Zr c p)))) (fun h6 => ?_) (fun h6 => ?_)
      ·
       refine rt [tv 4 (ki 0), tv 5 (.bool false), tv 7 (.bool (Option.isSome (Zr c p))), tv 10 (pb 10), tv 14 (pb 14), bv 10 (Xk (kq (Xa c.q))), bv 14 (Xk (kq (Zr c p)))] (oT 2 oN) ?_
       refine Xg ?_
       have hl : (Xx c p) = (0, false) := by unfold Xx; simp only [h1, Xas h1, h2, Xas h2, h3, Xas h3, h4, Xas h4, h5, Xas h5, h6, Xdt h6, X72]
       show Xca TL _ _ = some (.tup [ki (Xx c p).1, .bool (Xx c p).2])
       rw [hl]; kernel_rfl
      ·
       refine Xn ?_
       refine Xe ?_
       have := Xbu (o := (Yy c p)) (fun r h => Xak (by assumption) (Xci (by assumption)) h)
       refine rh [tv 4 (ki 0), tv 5 (.bool false), tv 7 (.bool (Option.isSome (Yy c p))), tv 15 (pb 15), bv 15 (Xk (kq (Yy c p)))] (oT 2 (oC (Xi3 (kq (Xa c.q)) (by assumption)) (oO (Jl (Xb6 (kq (Zr c p)) (Zz (kq (Xa c.q))) (by assumption) (Xci (by assumption))) (Xad _) : CS Tryz.prog 283 [Xk (kq (Zr c p)), Xk (Zz (kq (Xa c.q)))] (.tup [Xk (kq (Yy c p)), .bool (Option.isSome (Yy c p))])) (oT 2 (oO (oB (Option.isSome (Yy c p))) (oT 3 (oA [.tup [Xk (kq (Yy c p)), .bool (Option.isSome (Yy c p))], .rptr (.bool (Option.isSome (Yy c p)))] oN))))))) ?_
       refine Xe ?_
       refine rt [tv 4 (ki 0), tv 5 (.bool false), tv 15 (pb 15), tv 90 (.bool (!(Option.isSome (Yy c p)))), bv 15 (Xk (kq (Yy c p)))] (oT 1 (oO (oB (!(Option.isSome (Yy c p)))) (oA [.rptr (.bool (!(Option.isSome (Yy c p))))] oN))) ?_
       refine cB ((!(Option.isSome (Yy c p)))) (fun h7 => ?_) (fun h7 => ?_)
       ·
        refine rt [tv 4 (ki 0), tv 5 (.bool false), tv 15 (pb 15), bv 15 (Xk (kq (Yy c p)))] (oT 2 oN) ?_
        refine Xg ?_
        have hl : (Xx c p) = (0, false) := by unfold Xx; simp only [h1, Xas h1, h2, Xas h2, h3, Xas h3, h4, Xas h4, h5, Xas h5, h6, Xas h6, h7, Xdt h7, X72]
        show Xca TL _ _ = some (.tup [ki (Xx c p).1, .bool (Xx c p).2])
        rw [hl]; kernel_rfl
       ·
        refine Xn ?_
        refine rt [tv 4 (ki (X5 (kq (Yy c p))).1), tv 5 (.bool (X5 (kq (Yy c p))).2)] (oT 1 (oC (Xhi (kq (Yy c p))) (oT 1 (oO (oB ((X5 (kq (Yy c p))).2)) (oT 2 (oA [.rptr (.bool (X5 (kq (Yy c p))).2)] oN)))))) ?_
        refine Xg ?_
        have hl : (Xx c p) = ((X5 (kq (Yy c p))).1, (X5 (kq (Yy c p))).2) := by unfold Xx; simp only [h1, Xas h1, h2, Xas h2, h3, Xas h3, h4, Xas h4, h5, Xas h5, h6, Xas h6, h7, Xas h7, X72]
        show Xca TL _ _ = some (.tup [ki (Xx c p).1, .bool (Xx c p).2])
        rw [hl]; kernel_rfl
def Xbr (l : LnV) (p : PtV) : Int := (bif (Ys l p).2 then (Ys l p).1 else (Zd (((l.a * p.ax) + (l.b * p.ay)) - l.c) ((l.a * p.bx) + (l.b * p.byy)) p.c))
theorem Xpi (l : LnV) (p : PtV) (hs : LnV.ht l + PtV.ht p ≤ 4294967294) : CS Tryz.prog 231 [Xea l, Xr p] (ki (Xbr l p)) := by
 refine cO 43 Tryz.func231 ?_
 refine rt [tv 2 (pb 2), tv 3 (pb 3), tv 4 (ki 0), bv 2 (Xea l), bv 3 (Xr p)] (oT 3 oN) ?_
 refine Xe ?_
 refine sh 2 [tv 2 (pb 2), tv 3 (pb 3), tv 4 (ki 0), tv 5 (ki (Ys l p).1), tv 13 (.bool (Ys l p).2), bv 2 (Xea l), bv 3 (Xr p)] (oS (oT 2 (oC (Xqq l p (by omega)) (oT 2 (oO (oB ((Ys l p).2)) (oT 2 oN))))) (oS (oT 1 (oA [.rptr (.bool (Ys l p).2)] oN)) oN)) ?_
 refine cB ((Ys l p).2) (fun h1 => ?_) (fun h1 => ?_)
 ·
  refine rt [tv 2 (pb 2), tv 3 (pb 3), tv 4 (ki (Ys l p).1), bv 2 (Xea l), bv 3 (Xr p)] (oT 2 oN) ?_
  exact Xg (lv ki ((Ys l p).1) (by unfold Xbr; simp only [h1, X72]))
 ·
  refine Xn ?_
  refine Xe ?_
  have := LnV.htd l
  have := PtV.htd p
  have := Yl l.a p.ax
  have := Yl l.b p.ay
  have := Kd (l.a * p.ax) (l.b * p.ay)
  have := Yl l.a p.bx
  have := Yl l.b p.byy
  have := Kx ((l.a * p.ax) + (l.b * p.ay)) l.c
  have := Kd (l.a * p.bx) (l.b * p.byy)
  refine rh [tv 4 (ki (Zd (((l.a * p.ax) + (l.b * p.ay)) - l.c) ((l.a * p.bx) + (l.b * p.byy)) p.c))] (oT 4 (oC (Ji l.a p.ax (by omega)) (oT 4 (oC (Ji l.b p.ay (by omega)) (oC (Xbo (l.a * p.ax) (l.b * p.ay) (by omega)) (oT 2 (oC (Xcv ((l.a * p.ax) + (l.b * p.ay)) l.c (by omega)) (oT 4 (oC (Ji l.a p.bx (by omega)) (oT 4 (oC (Ji l.b p.byy (by omega)) (oC (Xbo (l.a * p.bx) (l.b * p.byy) (by omega)) (oT 2 (oC (Xjm (((l.a * p.ax) + (l.b * p.ay)) - l.c) ((l.a * p.bx) + (l.b * p.byy)) p.c (by omega)) (oT 1 oN))))))))))))))) ?_
  exact Xg (lv ki (Zd (((l.a * p.ax) + (l.b * p.ay)) - l.c) ((l.a * p.bx) + (l.b * p.byy)) p.c) (by unfold Xbr; simp only [h1, X72]))
def Xaw (c : CiV) (p : PtV) : Int := (bif (Xx c p).2 then (-(Xx c p).1) else (-(Zd (((((p.ax - c.x) * (p.ax - c.x)) + ((p.ay - c.y) * (p.ay - c.y))) + (p.c * ((p.bx * p.bx) + (p.byy * p.byy)))) - c.q) ((((p.ax - c.x) * p.bx) + ((p.ay - c.y) * p.byy)) + (((p.ax - c.x) * p.bx) + ((p.ay - c.y) * p.byy))) p.c)))
theorem Xmv (c : CiV) (p : PtV) (hs : CiV.ht c + PtV.ht p ≤ 2147483644) : CS Tryz.prog 230 [Xbf c, Xr p] (ki (Xaw c p)) := by
 refine cO 72 Tryz.func230 ?_
 refine rt [tv 2 (pb 2), tv 3 (pb 3), tv 4 (ki 0), bv 2 (Xbf c), bv 3 (Xr p)] (oT 3 oN) ?_
 refine Xe ?_
 refine sh 2 [tv 2 (pb 2), tv 3 (pb 3), tv 4 (ki 0), tv 5 (ki (Xx c p).1), tv 19 (.bool (Xx c p).2), bv 2 (Xbf c), bv 3 (Xr p)] (oS (oT 2 (oC (Xoh c p (by omega)) (oT 2 (oO (oB ((Xx c p).2)) (oT 2 oN))))) (oS (oT 1 (oA [.rptr (.bool (Xx c p).2)] oN)) oN)) ?_
 refine cB ((Xx c p).2) (fun h1 => ?_) (fun h1 => ?_)
 ·
  refine Xe ?_
  have := (Xn7 c p)
  refine rh [tv 2 (pb 2), tv 3 (pb 3), tv 4 (ki (-(Xx c p).1)), bv 2 (Xbf c), bv 3 (Xr p)] (oT 1 (oO (Xhm (by omega) (by omega) : (-(Xx c p).1) = IntKind.i64.wrap (0 - (Xx c p).1)) (oT 1 (oA [ki (-(Xx c p).1)] oN)))) ?_
  exact Xg (lv ki (-(Xx c p).1) (by unfold Xaw; simp only [h1, X72]))
 ·
  refine Xn ?_
  have := PtV.htd p
  have := CiV.htd c
  have := PtV.htd p
  have := CiV.htd c
  have := Kx p.ax c.x
  have := Kx p.ay c.y
  have := Yl (p.ax - c.x) (p.ax - c.x)
  have := Yl (p.ay - c.y) (p.ay - c.y)
  have := Yl p.bx p.bx
  have := Yl p.byy p.byy
  have := Kd (p.bx * p.bx) (p.byy * p.byy)
  have := Kd ((p.ax - c.x) * (p.ax - c.x)) ((p.ay - c.y) * (p.ay - c.y))
  have := Yl p.c ((p.bx * p.bx) + (p.byy * p.byy))
  have := PtV.htd p
  have := CiV.htd c
  have := Kx p.ax c.x
  have := Kx p.ay c.y
  have := Yl (p.ax - c.x) p.bx
  have := Yl (p.ay - c.y) p.byy
  have := PtV.htd p
  have := CiV.htd c
  have := Kx p.ax c.x
  have := Yl (p.ax - c.x) (p.ax - c.x)
  have := Kx p.ay c.y
  have := Yl (p.ay - c.y) (p.ay - c.y)
  have := Kd ((p.ax - c.x) * (p.ax - c.x)) ((p.ay - c.y) * (p.ay - c.y))
  have := Yl p.bx p.bx
  have := Yl p.byy p.byy
  have := Kd (p.bx * p.bx) (p.byy * p.byy)
  have := Yl p.c ((p.bx * p.bx) + (p.byy * p.byy))
  have := Kd (((p.ax - c.x) * (p.ax - c.x)) + ((p.ay - c.y) * (p.ay - c.y))) (p.c * ((p.bx * p.bx) + (p.byy * p.byy)))
  have := Yl (p.ax - c.x) p.bx
  have := Yl (p.ay - c.y) p.byy
  have := Kd ((p.ax - c.x) * p.bx) ((p.ay - c.y) * p.byy)
  have := Kx ((((p.ax - c.x) * (p.ax - c.x)) + ((p.ay - c.y) * (p.ay - c.y))) + (p.c * ((p.bx * p.bx) + (p.byy * p.byy)))) c.q
  have := Kd (((p.ax - c.x) * p.bx) + ((p.ay - c.y) * p.byy)) (((p.ax - c.x) * p.bx) + ((p.ay - c.y) * p.byy))
  have := (Xpm (((((p.ax - c.x) * (p.ax - c.x)) + ((p.ay - c.y) * (p.ay - c.y))) + (p.c * ((p.bx * p.bx) + (p.byy * p.byy)))) - c.q) ((((p.ax - c.x) * p.bx) + ((p.ay - c.y) * p.byy)) + (((p.ax - c.x) * p.bx) + ((p.ay - c.y) * p.byy))) p.c)
  refine sh 5 [tv 4 (ki (-(Zd (((((p.ax - c.x) * (p.ax - c.x)) + ((p.ay - c.y) * (p.ay - c.y))) + (p.c * ((p.bx * p.bx) + (p.byy * p.byy)))) - c.q) ((((p.ax - c.x) * p.bx) + ((p.ay - c.y) * p.byy)) + (((p.ax - c.x) * p.bx) + ((p.ay - c.y) * p.byy))) p.c)))] (oS (oT 4 (oC (Xcv p.ax c.x (by omega)) (oT 4 (oC (Xcv p.ay c.y (by omega)) (oT 4 oN))))) (oS (oT 8 oN) (oS (oT 2 (oC (Ji (p.ax - c.x) (p.ax - c.x) (by omega)) (oT 2 (oC (Ji (p.ay - c.y) (p.ay - c.y) (by omega)) (oC (Xbo ((p.ax - c.x) * (p.ax - c.x)) ((p.ay - c.y) * (p.ay - c.y)) (by omega)) (oT 4 (oC (Ji p.bx p.bx (by omega)) (oT 2 (oC (Ji p.byy p.byy (by omega)) (oC (Xbo (p.bx * p.bx) (p.byy * p.byy) (by omega)) (oC (Ji p.c ((p.bx * p.bx) + (p.byy * p.byy)) (by omega)) (oC (Xbo (((p.ax - c.x) * (p.ax - c.x)) + ((p.ay - c.y) * (p.ay - c.y))) (p.c * ((p.bx * p.bx) + (p.byy * p.byy))) (by omega)) (oT 2 oN))))))))))))) (oS (oT 2 (oC (Ji (p.ax - c.x) p.bx (by omega)) (oT 2 (oC (Ji (p.ay - c.y) p.byy (by omega)) (oC (Xbo ((p.ax - c.x) * p.bx) ((p.ay - c.y) * p.byy) (by omega)) (oT 2 oN)))))) (oS (oT 3 (oC (Xcv ((((p.ax - c.x) * (p.ax - c.x)) + ((p.ay - c.y) * (p.ay - c.y))) + (p.c * ((p.bx * p.bx) + (p.byy * p.byy)))) c.q (by omega)) (oT 2 (oC (Xbo (((p.ax - c.x) * p.bx) + ((p.ay - c.y) * p.byy)) (((p.ax - c.x) * p.bx) + ((p.ay - c.y) * p.byy)) (by omega)) (oT 2 (oC (Xjm (((((p.ax - c.x) * (p.ax - c.x)) + ((p.ay - c.y) * (p.ay - c.y))) + (p.c * ((p.bx * p.bx) + (p.byy * p.byy)))) - c.q) ((((p.ax - c.x) * p.bx) + ((p.ay - c.y) * p.byy)) + (((p.ax - c.x) * p.bx) + ((p.ay - c.y) * p.byy))) p.c (by omega)) (oO (Xhm (by omega) (by omega) : (-(Zd (((((p.ax - c.x) * (p.ax - c.x)) + ((p.ay - c.y) * (p.ay - c.y))) + (p.c * ((p.bx * p.bx) + (p.byy * p.byy)))) - c.q) ((((p.ax - c.x) * p.bx) + ((p.ay - c.y) * p.byy)) + (((p.ax - c.x) * p.bx) + ((p.ay - c.y) * p.byy))) p.c)) = IntKind.i64.wrap (0 - Zd (((((p.ax - c.x) * (p.ax - c.x)) + ((p.ay - c.y) * (p.ay - c.y))) + (p.c * ((p.bx * p.bx) + (p.byy * p.byy)))) - c.q) ((((p.ax - c.x) * p.bx) + ((p.ay - c.y) * p.byy)) + (((p.ax - c.x) * p.bx) + ((p.ay - c.y) * p.byy))) p.c)) (oT 1 (oA [ki (-(Zd (((((p.ax - c.x) * (p.ax - c.x)) + ((p.ay - c.y) * (p.ay - c.y))) + (p.c * ((p.bx * p.bx) + (p.byy * p.byy)))) - c.q) ((((p.ax - c.x) * p.bx) + ((p.ay - c.y) * p.byy)) + (((p.ax - c.x) * p.bx) + ((p.ay - c.y) * p.byy))) p.c))] oN))))))))) oN))))) ?_
  exact Xg (lv ki (-(Zd (((((p.ax - c.x) * (p.ax - c.x)) + ((p.ay - c.y) * (p.ay - c.y))) + (p.c * ((p.bx * p.bx) + (p.byy * p.byy)))) - c.q) ((((p.ax - c.x) * p.bx) + ((p.ay - c.y) * p.byy)) + (((p.ax - c.x) * p.bx) + ((p.ay - c.y) * p.byy))) p.c)) (by unfold Xaw; simp only [h1, X72]))
open Go Go.RowKit
def Xs (a : Rat) (b : Rat) (m : Rat) : Int := (bif (decide ((Int.sign (Rat.num b) * Int.sign (Rat.num m)) = 0)) then (Int.sign (Rat.num a)) else (bif (decide (Int.sign (Rat.num a) = (Int.sign (Rat.num b) * Int.sign (Rat.num m)))) then (Int.sign (Rat.num a)) else (bif (decide (Int.sign (Rat.num a) = 0)) then (Int.sign (Rat.num b) * Int.sign (Rat.num m)) else (Int.sign (Rat.num a) * Xb3 (a * a) ((b * b) * m)))))
theorem Kg (a : Rat) (b : Rat) (m : Rat) : -1 ≤ Xs a b m ∧ Xs a b m ≤ 1 := by
 rcases X7 (decide ((Int.sign (Rat.num b) * Int.sign (Rat.num m)) = 0)) with k4 | k4
 ·
  rw [show (Xs a b m) = (Int.sign (Rat.num a)) by unfold Xs; simp only [k4, X72]]
  have := (Xbh (Rat.num a))
  omega
 ·
  rcases X7 (decide (Int.sign (Rat.num a) = (Int.sign (Rat.num b) * Int.sign (Rat.num m)))) with k5 | k5
  ·
   rw [show (Xs a b m) = (Int.sign (Rat.num a)) by unfold Xs; simp only [k4, k5, X72]]
   have := (Xbh (Rat.num a))
   omega
  ·
   rcases X7 (decide (Int.sign (Rat.num a) = 0)) with k6 | k6
   ·
    rw [show (Xs a b m) = (Int.sign (Rat.num b) * Int.sign (Rat.num m)) by unfold Xs; simp only [k4, k5, k6, X72]]
    have := (Xbh (Rat.num b))
    have := (Xbh (Rat.num m))
    have := (Xo5 (Xbh (Rat.num b)) (Xbh (Rat.num m)))
    omega
   ·
    rw [show (Xs a b m) = (Int.sign (Rat.num a) * Xb3 (a * a) ((b * b) * m)) by unfold Xs; simp only [k4, k5, k6, X72]]
    have := (Xbh (Rat.num a))
    have := (Xk9 (a * a) ((b * b) * m))
    have := (Xo5 (Xbh (Rat.num a)) (Xk9 (a * a) ((b * b) * m)))
    omega
theorem Xdi (a : Rat) (b : Rat) (m : Rat) (hs : X6p a + X6p b + X6p m ≤ 8589934592) : CS Tryz.prog 219 [Xc a, Xc b, Xc m] (ki (Xs a b m)) := by
 refine cO 40 Tryz.func219 ?_
 refine sh 2 [tv 3 (pb 3), tv 4 (pb 4), tv 5 (pb 5), tv 6 (ki 0), tv 7 (ki (Int.sign (Rat.num a))), tv 8 (ki (Int.sign (Rat.num b) * Int.sign (Rat.num m))), bv 3 (Xc a), bv 4 (Xc b), bv 5 (Xc m)] (oS (oT 4 oN) (oS (oT 1 (oC (Yd a) (oT 1 (oC (Yd b) (oT 1 (oC (Yd m) (oO (Xb4 (Xbh (Rat.num b)) (Xbh (Rat.num m)) : Jx .mul .i64 (Int.sign (Rat.num b)) (Int.sign (Rat.num m)) = some (Int.sign (Rat.num b) * Int.sign (Rat.num m)) ∧ ((BinOp.mul = .quo ∨ BinOp.mul = .rem) → Int.sign (Rat.num m) ≠ (0 : Int))) (oT 2 (oA [ki (Int.sign (Rat.num b) * Int.sign (Rat.num m))] oN))))))))) oN)) ?_
 refine Xe ?_
 refine X6 ?_
 refine Xe ?_
 rcases X7 (decide ((Int.sign (Rat.num b) * Int.sign (Rat.num m)) = 0)) with h1 | h1
 ·
  have h1' := of_decide_eq_true h1
  refine rh [tv 3 (pb 3), tv 4 (pb 4), tv 5 (pb 5), tv 6 (ki 0), tv 7 (ki (Int.sign (Rat.num a))), tv 8 (ki (Int.sign (Rat.num b) * Int.sign (Rat.num m))), tv 16 (.bool true), bv 3 (Xc a), bv 4 (Xc b), bv 5 (Xc m)] (oT 1 (oO (aI trivial (h1 : (decide ((Int.sign (Rat.num b) * Int.sign (Rat.num m)) = 0)) = true)) (oT 1 (oO (gn [false]) (oO (gn [false]) (oO (gn [true, true]) (oT 2 (oA [cT true, cT (decide (Int.sign (Rat.num a) = (Int.sign (Rat.num b) * Int.sign (Rat.num m))))] oN)))))))) ?_
  refine cB (true) (fun _ => ?_) (fun h => Bool.noConfusion h)
  refine rt [tv 3 (pb 3), tv 4 (pb 4), tv 5 (pb 5), tv 6 (ki (Int.sign (Rat.num a))), tv 7 (ki (Int.sign (Rat.num a))), bv 3 (Xc a), bv 4 (Xc b), bv 5 (Xc m)] (oT 2 oN) ?_
  exact Xg (lv ki (Int.sign (Rat.num a)) (by unfold Xs; simp only [h1, X72]))
 ·
  have h1' := of_decide_eq_false h1
  refine rh [tv 3 (pb 3), tv 4 (pb 4), tv 5 (pb 5), tv 6 (ki 0), tv 7 (ki (Int.sign (Rat.num a))), tv 8 (ki (Int.sign (Rat.num b) * Int.sign (Rat.num m))), tv 16 (.bool (decide (Int.sign (Rat.num a) = (Int.sign (Rat.num b) * Int.sign (Rat.num m))))), bv 3 (Xc a), bv 4 (Xc b), bv 5 (Xc m)] (oT 1 (oO (aI trivial (h1 : (decide ((Int.sign (Rat.num b) * Int.sign (Rat.num m)) = 0)) = false)) (oT 1 (oO (Xh 1 trivial) (oO (Xh 1 trivial) (oO (Xh 2 (oB (decide (Int.sign (Rat.num a) = (Int.sign (Rat.num b) * Int.sign (Rat.num m)))))) (oT 2 (oA [cT false, cT (decide (Int.sign (Rat.num a) = (Int.sign (Rat.num b) * Int.sign (Rat.num m))))] oN)))))))) ?_
  refine cB (decide (Int.sign (Rat.num a) = (Int.sign (Rat.num b) * Int.sign (Rat.num m)))) (fun h2 => ?_) (fun h2 => ?_)
  ·
   have h2' := of_decide_eq_true h2
   refine rt [tv 3 (pb 3), tv 4 (pb 4), tv 5 (pb 5), tv 6 (ki (Int.sign (Rat.num a))), tv 7 (ki (Int.sign (Rat.num a))), bv 3 (Xc a), bv 4 (Xc b), bv 5 (Xc m)] (oT 2 oN) ?_
   exact Xg (lv ki (Int.sign (Rat.num a)) (by unfold Xs; simp only [h1, h2, X72]))
  ·
   have h2' := of_decide_eq_false h2
   refine rt [tv 3 (pb 3), tv 4 (pb 4), tv 5 (pb 5), tv 6 (ki 0), tv 7 (ki (Int.sign (Rat.num a))), tv 8 (ki (Int.sign (Rat.num b) * Int.sign (Rat.num m))), tv 25 (.bool (decide (Int.sign (Rat.num a) = 0))), bv 3 (Xc a), bv 4 (Xc b), bv 5 (Xc m)] (oT 1 (oO (oB (decide (Int.sign (Rat.num a) = 0))) (oT 1 (oA [cT (decide (Int.sign (Rat.num a) = 0))] oN)))) ?_
   refine cB (decide (Int.sign (Rat.num a) = 0)) (fun h3 => ?_) (fun h3 => ?_)
   ·
    have h3' := of_decide_eq_true h3
    refine rt [tv 3 (pb 3), tv 4 (pb 4), tv 5 (pb 5), tv 6 (ki (Int.sign (Rat.num b) * Int.sign (Rat.num m))), tv 7 (ki (Int.sign (Rat.num a))), bv 3 (Xc a), bv 4 (Xc b), bv 5 (Xc m)] (oT 2 oN) ?_
    exact Xg (lv ki (Int.sign (Rat.num b) * Int.sign (Rat.num m)) (by unfold Xs; simp only [h1, h2, h3, X72]))
   ·
    have h3' := of_decide_eq_false h3
    refine Xn ?_
    refine Xe ?_
    have := X8 b b
    have := X8 a a
    have := X8 (b * b) m
    refine rh [tv 6 (ki (Int.sign (Rat.num a) * Xb3 (a * a) ((b * b) * m)))] (oT 3 (oC (Zf a a (by omega)) (oT 2 (oC (Zf b b (by omega)) (oT 1 (oC (Zf (b * b) m (by omega)) (oC (Xbq (a * a) ((b * b) * m) (by omega)) (oO (Xb4 (Xbh (Rat.num a)) (Xk9 (a * a) ((b * b) * m)) : Jx .mul .i64 (Int.sign (Rat.num a)) (Xb3 (a * a) ((b * b) * m)) = some (Int.sign (Rat.num a) * Xb3 (a * a) ((b * b) * m)) ∧ ((BinOp.mul = .quo ∨ BinOp.mul = .rem) → Xb3 (a * a) ((b * b) * m) ≠ (0 : Int))) (oT 1 (oA [ki (Int.sign (Rat.num a) * Xb3 (a * a) ((b * b) * m))] oN)))))))))) ?_
    exact Xg (lv ki (Int.sign (Rat.num a) * Xb3 (a * a) ((b * b) * m)) (by unfold Xs; simp only [h1, h2, h3, X72]))
def Zl (q : QuadV) : Option IvV := (Xy (kq (Xa q.m)))
def Xdx (q : QuadV) : Bool := (Option.isSome (Xa q.m) && Option.isSome (Zl q))
def Xd3 (q : QuadV) : Bool := (Xdx q && Option.isSome (Xa q.n))
def Zn (q : QuadV) : Option IvV := (Xy (kq (Xa q.n)))
def Jy (q : QuadV) : Bool := (Xd3 q && Option.isSome (Zn q))
def Xd1 (q : QuadV) : Bool := (Jy q && Option.isSome (Xa q.b))
def Z7 (q : QuadV) : Option IvV := (Xfg (kq (Xa q.b)) (kq (Zl q)))
def Xdv (q : QuadV) : Bool := (Xd1 q && Option.isSome (Z7 q))
def Xdy (q : QuadV) : Bool := (Xdv q && Option.isSome (Xa q.c))
def Z5 (q : QuadV) : Option IvV := (Xfg (kq (Xa q.c)) (kq (Zn q)))
def Xdb (q : QuadV) : Bool := (Xdy q && Option.isSome (Z5 q))
def Xdf (q : QuadV) : Bool := (Xdb q && Option.isSome (Xa q.d))
def Je (q : QuadV) : Option IvV := (Xfg (kq (Zl q)) (kq (Zn q)))
def Xdg (q : QuadV) : Bool := (Xdf q && Option.isSome (Je q))
def Zu (q : QuadV) : Option IvV := (Xfg (kq (Xa q.d)) (kq (Je q)))
def Jq (q : QuadV) : Bool := (Xdg q && Option.isSome (Zu q))
def Xdh (q : QuadV) : Bool := (Jq q && Option.isSome (Xa q.a))
def Jf (q : QuadV) : Option IvV := (Yk (kq (Xa q.a)) (kq (Z7 q)))
def Xdd (q : QuadV) : Bool := (Xdh q && Option.isSome (Jf q))
def Jg (q : QuadV) : Option IvV := (Yk (kq (Z5 q)) (kq (Zu q)))
def Xde (q : QuadV) : Bool := (Xdd q && Option.isSome (Jg q))
def Yv (q : QuadV) : Option IvV := (Yk (kq (Jf q)) (kq (Jg q)))
def Kw (q : QuadV) : Bool := (Xde q && Option.isSome (Yv q))
def X9 (q : QuadV) : (Int × Bool) := (bif (!(Jy q)) then (0, false) else (bif (!(Jq q)) then (0, false) else (bif (!(Kw q)) then (0, false) else ((X5 (kq (Yv q))).1, (X5 (kq (Yv q))).2))))
theorem Xoe (q : QuadV) : -1 ≤ (X9 q).1 ∧ (X9 q).1 ≤ 1 := by
 rcases X7 (!(Jy q)) with k4 | k4
 ·
  rw [show (X9 q) = (0, false) by unfold X9; simp only [k4, X72]]
  dsimp only
  omega
 ·
  rcases X7 (!(Jq q)) with k5 | k5
  ·
   rw [show (X9 q) = (0, false) by unfold X9; simp only [k4, k5, X72]]
   dsimp only
   omega
  ·
   rcases X7 (!(Kw q)) with k6 | k6
   ·
    rw [show (X9 q) = (0, false) by unfold X9; simp only [k4, k5, k6, X72]]
    dsimp only
    omega
   ·
    rw [show (X9 q) = ((X5 (kq (Yv q))).1, (X5 (kq (Yv q))).2) by unfold X9; simp only [k4, k5, k6, X72]]
    dsimp only
    have := (Xk8 (kq (Yv q)))
    omega
theorem Xoc (q : QuadV) (hs : QuadV.ht q ≤ 17179869181) : CS Tryz.prog 252 [Jn q] (.tup [ki (X9 q).1, .bool (X9 q).2]) := by
 refine cO 126 Tryz.func252 ?_
 have := QuadV.htd q
 have := Xbu (o := (Xa q.m)) (fun r h => Zh h)
 have := Xbu (o := (Zl q)) (fun r h => Xf2 (by assumption) h)
 have := QuadV.htd q
 have := Xbu (o := (Xa q.n)) (fun r h => Zh h)
 have := Xbu (o := (Zn q)) (fun r h => Xf2 (by assumption) h)
 refine sh 4 [tv 1 (pb 1), tv 2 (ki 0), tv 3 (.bool false), tv 4 (pb 12), tv 5 (pb 5), tv 6 (pb 6), bv 1 (Jn q), bv 5 (Xk (kq (Zl q))), bv 6 (Xk (kq (Zn q))), bv 12 (.st [.bool (Jy q)])] (oS (oT 3 oN) (oS (oT 3 oN) (oS (oT 4 (oO (Jl (J8 q.m (by omega)) (Xad _) : CS Tryz.prog 281 [Xc q.m] (.tup [Xk (kq (Xa q.m)), .bool (Option.isSome (Xa q.m))])) (oT 1 (oO (oB (Option.isSome (Xa q.m))) (oO (Xey true (Option.isSome (Xa q.m)) (kq (Xa q.m)) : CB Tryz.prog 279 1 (.st [.bool true]) [Xk (kq (Xa q.m)), .bool (Option.isSome (Xa q.m))] (.st [.bool (Option.isSome (Xa q.m))]) (Xk (kq (Xa q.m)))) (oO (Jl (Xhu (kq (Xa q.m)) (by assumption)) (Xad _) : CS Tryz.prog 280 [Xk (kq (Xa q.m))] (.tup [Xk (kq (Zl q)), .bool (Option.isSome (Zl q))])) (oT 1 (oO (oB (Option.isSome (Zl q))) (oO (Xey (Option.isSome (Xa q.m)) (Option.isSome (Zl q)) (kq (Zl q)) : CB Tryz.prog 279 1 (.st [.bool (Option.isSome (Xa q.m))]) [Xk (kq (Zl q)), .bool (Option.isSome (Zl q))] (.st [.bool (Xdx q)]) (Xk (kq (Zl q)))) (oT 2 oN)))))))))) (oS (oT 4 (oO (Jl (J8 q.n (by omega)) (Xad _) : CS Tryz.prog 281 [Xc q.n] (.tup [Xk (kq (Xa q.n)), .bool (Option.isSome (Xa q.n))])) (oT 1 (oO (oB (Option.isSome (Xa q.n))) (oO (Xey (Xdx q) (Option.isSome (Xa q.n)) (kq (Xa q.n)) : CB Tryz.prog 279 1 (.st [.bool (Xdx q)]) [Xk (kq (Xa q.n)), .bool (Option.isSome (Xa q.n))] (.st [.bool (Xd3 q)]) (Xk (kq (Xa q.n)))) (oO (Jl (Xhu (kq (Xa q.n)) (by assumption)) (Xad _) : CS Tryz.prog 280 [Xk (kq (Xa q.n))] (.tup [Xk (kq (Zn q)), .bool (Option.isSome (Zn q))])) (oT 1 (oO (oB (Option.isSome (Zn q))) (oO (Xey (Xd3 q) (Option.isSome (Zn q)) (kq (Zn q)) : CB Tryz.prog 279 1 (.st [.bool (Xd3 q)]) [Xk (kq (Zn q)), .bool (Option.isSome (Zn q))] (.st [.bool (Jy q)]) (Xk (kq (Zn q)))) (oT 2 (oA [.tup [Xk (kq (Xa q.m)), .bool (Option.isSome (Xa q.m))], .rptr (.bool (Option.isSome (Xa q.m))), .rptr .none, .rptr (.st [.bool (Option.isSome (Xa q.m))]), Xk (kq (Xa q.m)), .tup [Xk (kq (Zl q)), .bool (Option.isSome (Zl q))], .rptr (.bool (Option.isSome (Zl q))), .rptr .none, .rptr (.st [.bool (Xdx q)]), Xk (kq (Zl q)), .tup [Xk (kq (Xa q.n)), .bool (Option.isSome (Xa q.n))], .rptr (.bool (Option.isSome (Xa q.n))), .rptr .none, .rptr (.st [.bool (Xd3 q)]), Xk (kq (Xa q.n)), .tup [Xk (kq (Zn q)), .bool (Option.isSome (Zn q))], .rptr (.bool (Option.isSome (Zn q))), .rptr .none, .rptr (.st [.bool (Jy q)]), Xk (kq (Zn q))] oN))))))))))) oN)))) ?_
 refine Xe ?_
 refine rt [tv 1 (pb 1), tv 2 (ki 0), tv 3 (.bool false), tv 4 (pb 12), tv 5 (pb 5), tv 6 (pb 6), tv 41 (.bool (!(Jy q))), bv 1 (Jn q), bv 5 (Xk (kq (Zl q))), bv 6 (Xk (kq (Zn q))), bv 12 (.st [.bool (Jy q)])] (oT 3 (oO (oB (Jy q)) (oO (oB (!(Jy q))) (oA [.rptr (.bool (Jy q)), .rptr (.bool (!(Jy q)))] oN)))) ?_
 refine cB ((!(Jy q))) (fun h1 => ?_) (fun h1 => ?_)
 ·
  refine rt [tv 1 (pb 1), tv 2 (ki 0), tv 3 (.bool false), tv 4 (pb 12), tv 5 (pb 5), tv 6 (pb 6), bv 1 (Jn q), bv 5 (Xk (kq (Zl q))), bv 6 (Xk (kq (Zn q))), bv 12 (.st [.bool (Jy q)])] (oT 2 oN) ?_
  refine Xg ?_
  have hl : (X9 q) = (0, false) := by unfold X9; simp only [h1, Xdt h1, X72]
  show Xca TL _ _ = some (.tup [ki (X9 q).1, .bool (X9 q).2])
  rw [hl]; kernel_rfl
 ·
  refine Xn ?_
  have := QuadV.htd q
  have := Xbu (o := (Xa q.b)) (fun r h => Zh h)
  have := Xbu (o := (Z7 q)) (fun r h => Xgs (by assumption) (by assumption) h)
  have := QuadV.htd q
  have := Xbu (o := (Xa q.c)) (fun r h => Zh h)
  have := Xbu (o := (Z5 q)) (fun r h => Xgs (by assumption) (by assumption) h)
  have := QuadV.htd q
  have := Xbu (o := (Xa q.d)) (fun r h => Zh h)
  have := Xbu (o := (Je q)) (fun r h => Xgs (by assumption) (by assumption) h)
  have := Xbu (o := (Zu q)) (fun r h => Xgs (by assumption) (by assumption) h)
  refine sh 3 [tv 1 (pb 1), tv 2 (ki 0), tv 3 (.bool false), tv 4 (pb 12), tv 7 (pb 7), tv 8 (pb 8), tv 9 (pb 9), bv 1 (Jn q), bv 7 (Xk (kq (Z7 q))), bv 8 (Xk (kq (Z5 q))), bv 9 (Xk (kq (Zu q))), bv 12 (.st [.bool (Jq q)])] (oS (oT 4 (oO (Jl (J8 q.b (by omega)) (Xad _) : CS Tryz.prog 281 [Xc q.b] (.tup [Xk (kq (Xa q.b)), .bool (Option.isSome (Xa q.b))])) (oT 1 (oO (oB (Option.isSome (Xa q.b))) (oO (Xey (Jy q) (Option.isSome (Xa q.b)) (kq (Xa q.b)) : CB Tryz.prog 279 1 (.st [.bool (Jy q)]) [Xk (kq (Xa q.b)), .bool (Option.isSome (Xa q.b))] (.st [.bool (Xd1 q)]) (Xk (kq (Xa q.b)))) (oT 1 (oO (Jl (Xcp (kq (Xa q.b)) (kq (Zl q)) (by assumption) (by assumption)) (Xad _) : CS Tryz.prog 282 [Xk (kq (Xa q.b)), Xk (kq (Zl q))] (.tup [Xk (kq (Z7 q)), .bool (Option.isSome (Z7 q))])) (oT 1 (oO (oB (Option.isSome (Z7 q))) (oO (Xey (Xd1 q) (Option.isSome (Z7 q)) (kq (Z7 q)) : CB Tryz.prog 279 1 (.st [.bool (Xd1 q)]) [Xk (kq (Z7 q)), .bool (Option.isSome (Z7 q))] (.st [.bool (Xdv q)]) (Xk (kq (Z7 q)))) (oT 2 oN))))))))))) (oS (oT 4 (oO (Jl (J8 q.c (by omega)) (Xad _) : CS Tryz.prog 281 [Xc q.c] (.tup [Xk (kq (Xa q.c)), .bool (Option.isSome (Xa q.c))])) (oT 1 (oO (oB (Option.isSome (Xa q.c))) (oO (Xey (Xdv q) (Option.isSome (Xa q.c)) (kq (Xa q.c)) : CB Tryz.prog 279 1 (.st [.bool (Xdv q)]) [Xk (kq (Xa q.c)), .bool (Option.isSome (Xa q.c))] (.st [.bool (Xdy q)]) (Xk (kq (Xa q.c)))) (oT 1 (oO (Jl (Xcp (kq (Xa q.c)) (kq (Zn q)) (by assumption) (by assumption)) (Xad _) : CS Tryz.prog 282 [Xk (kq (Xa q.c)), Xk (kq (Zn q))] (.tup [Xk (kq (Z5 q)), .bool (Option.isSome (Z5 q))])) (oT 1 (oO (oB (Option.isSome (Z5 q))) (oO (Xey (Xdy q) (Option.isSome (Z5 q)) (kq (Z5 q)) : CB Tryz.prog 279 1 (.st [.bool (Xdy q)]) [Xk (kq (Z5 q)), .bool (Option.isSome (Z5 q))] (.st [.bool (Xdb q)]) (Xk (kq (Z5 q)))) (oT 2 oN))))))))))) (oS (oT 4 (oO (Jl (J8 q.d (by omega)) (Xad _) : CS Tryz.prog 281 [Xc q.d] (.tup [Xk (kq (Xa q.d)), .bool (Option.isSome (Xa q.d))])) (oT 1 (oO (oB (Option.isSome (Xa q.d))) (oO (Xey (Xdb q) (Option.isSome (Xa q.d)) (kq (Xa q.d)) : CB Tryz.prog 279 1 (.st [.bool (Xdb q)]) [Xk (kq (Xa q.d)), .bool (Option.isSome (Xa q.d))] (.st [.bool (Xdf q)]) (Xk (kq (Xa q.d)))) (oT 3 (oO (Jl (Xcp (kq (Zl q)) (kq (Zn q)) (by assumption) (by assumption)) (Xad _) : CS Tryz.prog 282 [Xk (kq (Zl q)), Xk (kq (Zn q))] (.tup [Xk (kq (Je q)), .bool (Option.isSome (Je q))])) (oT 1 (oO (oB (Option.isSome (Je q))) (oO (Xey (Xdf q) (Option.isSome (Je q)) (kq (Je q)) : CB Tryz.prog 279 1 (.st [.bool (Xdf q)]) [Xk (kq (Je q)), .bool (Option.isSome (Je q))] (.st [.bool (Xdg q)]) (Xk (kq (Je q)))) (oO (Jl (Xcp (kq (Xa q.d)) (kq (Je q)) (by assumption) (by assumption)) (Xad _) : CS Tryz.prog 282 [Xk (kq (Xa q.d)), Xk (kq (Je q))] (.tup [Xk (kq (Zu q)), .bool (Option.isSome (Zu q))])) (oT 1 (oO (oB (Option.isSome (Zu q))) (oO (Xey (Xdg q) (Option.isSome (Zu q)) (kq (Zu q)) : CB Tryz.prog 279 1 (.st [.bool (Xdg q)]) [Xk (kq (Zu q)), .bool (Option.isSome (Zu q))] (.st [.bool (Jq q)]) (Xk (kq (Zu q)))) (oT 2 (oA [.tup [Xk (kq (Xa q.b)), .bool (Option.isSome (Xa q.b))], .rptr (.bool (Option.isSome (Xa q.b))), .rptr .none, .rptr (.st [.bool (Xd1 q)]), Xk (kq (Xa q.b)), .tup [Xk (kq (Z7 q)), .bool (Option.isSome (Z7 q))], .rptr (.bool (Option.isSome (Z7 q))), .rptr .none, .rptr (.st [.bool (Xdv q)]), Xk (kq (Z7 q)), .tup [Xk (kq (Xa q.c)), .bool (Option.isSome (Xa q.c))], .rptr (.bool (Option.isSome (Xa q.c))), .rptr .none, .rptr (.st [.bool (Xdy q)]), Xk (kq (Xa q.c)), .tup [Xk (kq (Z5 q)), .bool (Option.isSome (Z5 q))], .rptr (.bool (Option.isSome (Z5 q))), .rptr .none, .rptr (.st [.bool (Xdb q)]), Xk (kq (Z5 q)), .tup [Xk (kq (Xa q.d)), .bool (Option.isSome (Xa q.d))], .rptr (.bool (Option.isSome (Xa q.d))), .rptr .none, .rptr (.st [.bool (Xdf q)]), Xk (kq (Xa q.d)), .tup [Xk (kq (Je q)), .bool (Option.isSome (Je q))], .rptr (.bool (Option.isSome (Je q))), .rptr .none, .rptr (.st [.bool (Xdg q)]), Xk (kq (Je q)), .tup [Xk (kq (Zu q)), .bool (Option.isSome (Zu q))], .rptr (.bool (Option.isSome (Zu q))), .rptr .none, .rptr (.st [.bool (Jq q)]), Xk (kq (Zu q))] oN)))))))))))))))) oN))) ?_
  refine Xe ?_
  refine rt [tv 1 (pb 1), tv 2 (ki 0), tv 3 (.bool false), tv 4 (pb 12), tv 7 (pb 7), tv 8 (pb 8), tv 9 (pb 9), tv 91 (.bool (!(Jq q))), bv 1 (Jn q), bv 7 (Xk (kq (Z7 q))), bv 8 (Xk (kq (Z5 q))), bv 9 (Xk (kq (Zu q))), bv 12 (.st [.bool (Jq q)])] (oT 3 (oO (oB (Jq q)) (oO (oB (!(Jq q))) (oA [.rptr (.bool (Jq q)), .rptr (.bool (!(Jq q)))] oN)))) ?_
  refine cB ((!(Jq q))) (fun h2 => ?_) (fun h2 => ?_)
  ·
   refine rt [tv 1 (pb 1), tv 2 (ki 0), tv 3 (.bool false), tv 4 (pb 12), tv 7 (pb 7), tv 8 (pb 8), tv 9 (pb 9), bv 1 (Jn q), bv 7 (Xk (kq (Z7 q))), bv 8 (Xk (kq (Z5 q))), bv 9 (Xk (kq (Zu q))), bv 12 (.st [.bool (Jq q)])] (oT 2 oN) ?_
   refine Xg ?_
   have hl : (X9 q) = (0, false) := by unfold X9; simp only [h1, Xas h1, h2, Xdt h2, X72]
   show Xca TL _ _ = some (.tup [ki (X9 q).1, .bool (X9 q).2])
   rw [hl]; kernel_rfl
  ·
   refine Xn ?_
   refine Xe ?_
   have := QuadV.htd q
   have := Xbu (o := (Xa q.a)) (fun r h => Zh h)
   have := Xbu (o := (Jf q)) (fun r h => Xak (by assumption) (by assumption) h)
   have := Xbu (o := (Jg q)) (fun r h => Xak (by assumption) (by assumption) h)
   have := Xbu (o := (Yv q)) (fun r h => Xak (by assumption) (by assumption) h)
   refine rh [tv 2 (ki 0), tv 3 (.bool false), tv 4 (pb 12), tv 10 (pb 10), bv 10 (Xk (kq (Yv q))), bv 12 (.st [.bool (Kw q)])] (oT 5 (oO (Jl (J8 q.a (by omega)) (Xad _) : CS Tryz.prog 281 [Xc q.a] (.tup [Xk (kq (Xa q.a)), .bool (Option.isSome (Xa q.a))])) (oT 1 (oO (oB (Option.isSome (Xa q.a))) (oO (Xey (Jq q) (Option.isSome (Xa q.a)) (kq (Xa q.a)) : CB Tryz.prog 279 1 (.st [.bool (Jq q)]) [Xk (kq (Xa q.a)), .bool (Option.isSome (Xa q.a))] (.st [.bool (Xdh q)]) (Xk (kq (Xa q.a)))) (oT 1 (oO (Jl (Xb6 (kq (Xa q.a)) (kq (Z7 q)) (by assumption) (by assumption)) (Xad _) : CS Tryz.prog 283 [Xk (kq (Xa q.a)), Xk (kq (Z7 q))] (.tup [Xk (kq (Jf q)), .bool (Option.isSome (Jf q))])) (oT 1 (oO (oB (Option.isSome (Jf q))) (oO (Xey (Xdh q) (Option.isSome (Jf q)) (kq (Jf q)) : CB Tryz.prog 279 1 (.st [.bool (Xdh q)]) [Xk (kq (Jf q)), .bool (Option.isSome (Jf q))] (.st [.bool (Xdd q)]) (Xk (kq (Jf q)))) (oT 3 (oO (Jl (Xb6 (kq (Z5 q)) (kq (Zu q)) (by assumption) (by assumption)) (Xad _) : CS Tryz.prog 283 [Xk (kq (Z5 q)), Xk (kq (Zu q))] (.tup [Xk (kq (Jg q)), .bool (Option.isSome (Jg q))])) (oT 1 (oO (oB (Option.isSome (Jg q))) (oO (Xey (Xdd q) (Option.isSome (Jg q)) (kq (Jg q)) : CB Tryz.prog 279 1 (.st [.bool (Xdd q)]) [Xk (kq (Jg q)), .bool (Option.isSome (Jg q))] (.st [.bool (Xde q)]) (Xk (kq (Jg q)))) (oO (Jl (Xb6 (kq (Jf q)) (kq (Jg q)) (by assumption) (by assumption)) (Xad _) : CS Tryz.prog 283 [Xk (kq (Jf q)), Xk (kq (Jg q))] (.tup [Xk (kq (Yv q)), .bool (Option.isSome (Yv q))])) (oT 1 (oO (oB (Option.isSome (Yv q))) (oO (Xey (Xde q) (Option.isSome (Yv q)) (kq (Yv q)) : CB Tryz.prog 279 1 (.st [.bool (Xde q)]) [Xk (kq (Yv q)), .bool (Option.isSome (Yv q))] (.st [.bool (Kw q)]) (Xk (kq (Yv q)))) (oT 2 (oA [.tup [Xk (kq (Xa q.a)), .bool (Option.isSome (Xa q.a))], .rptr (.bool (Option.isSome (Xa q.a))), .rptr .none, .rptr (.st [.bool (Xdh q)]), Xk (kq (Xa q.a)), .tup [Xk (kq (Jf q)), .bool (Option.isSome (Jf q))], .rptr (.bool (Option.isSome (Jf q))), .rptr .none, .rptr (.st [.bool (Xdd q)]), Xk (kq (Jf q)), .tup [Xk (kq (Jg q)), .bool (Option.isSome (Jg q))], .rptr (.bool (Option.isSome (Jg q))), .rptr .none, .rptr (.st [.bool (Xde q)]), Xk (kq (Jg q)), .tup [Xk (kq (Yv q)), .bool (Option.isSome (Yv q))], .rptr (.bool (Option.isSome (Yv q))), .rptr .none, .rptr (.st [.bool (Kw q)]), Xk (kq (Yv q))] oN))))))))))))))))))))) ?_
   refine Xe ?_
   refine rt [tv 2 (ki 0), tv 3 (.bool false), tv 10 (pb 10), tv 121 (.bool (!(Kw q))), bv 10 (Xk (kq (Yv q)))] (oT 3 (oO (oB (Kw q)) (oO (oB (!(Kw q))) (oA [.rptr (.bool (Kw q)), .rptr (.bool (!(Kw q)))] oN)))) ?_
   refine cB ((!(Kw q))) (fun h3 => ?_) (fun h3 => ?_)
   ·
    refine rt [tv 2 (ki 0), tv 3 (.bool false), tv 10 (pb 10), bv 10 (Xk (kq (Yv q)))] (oT 2 oN) ?_
    refine Xg ?_
    have hl : (X9 q) = (0, false) := by unfold X9; simp only [h1, Xas h1, h2, Xas h2, h3, Xdt h3, X72]
    show Xca TL _ _ = some (.tup [ki (X9 q).1, .bool (X9 q).2])
    rw [hl]; kernel_rfl
   ·
    refine Xn ?_
    refine rt [tv 2 (ki (X5 (kq (Yv q))).1), tv 3 (.bool (X5 (kq (Yv q))).2)] (oT 1 (oC (Xhi (kq (Yv q))) (oT 1 (oO (oB ((X5 (kq (Yv q))).2)) (oT 2 (oA [.rptr (.bool (X5 (kq (Yv q))).2)] oN)))))) ?_
    refine Xg ?_
    have hl : (X9 q) = ((X5 (kq (Yv q))).1, (X5 (kq (Yv q))).2) := by unfold X9; simp only [h1, Xas h1, h2, Xas h2, h3, Xas h3, X72]
    show Xca TL _ _ = some (.tup [ki (X9 q).1, .bool (X9 q).2])
    rw [hl]; kernel_rfl
theorem Xfn (a b : Rat) (hs : X6p a + X6p b ≤ 17179869184) : CS Tryz.prog 253 [Xc a, Xc b] (Xc (a + b)) := by
 refine cO 8 Tryz.func253 ?_
 refine sh 2 [tv 4 (pb 4), bv 4 (Xc (a + b))] (oS (oT 3 oN) (oS (oT 2 (oC (Xaq a b (by omega)) (oT 1 oN))) oN)) ?_
 refine Xg ?_
 exact X7i ((Xc (a + b))) (rfl)
theorem Xc0 (a b : Rat) : X6p (a + b) ≤ 1 * (X6p a + X6p b) + 1 := Xj1 a b
def Yr (q : QuadV) : Int := (bif (decide (Int.sign (Rat.num q.m) < 0)) then 0 else (bif (decide (Int.sign (Rat.num q.n) < 0)) then 0 else (bif (X9 q).2 then (X9 q).1 else (bif (decide ((Xs q.c q.d q.m * Int.sign (Rat.num q.n)) = 0)) then (Xs q.a q.b q.m) else (bif (decide (Xs q.a q.b q.m = (Xs q.c q.d q.m * Int.sign (Rat.num q.n)))) then (Xs q.a q.b q.m) else (bif (decide (Xs q.a q.b q.m = 0)) then (Xs q.c q.d q.m * Int.sign (Rat.num q.n)) else (Xs q.a q.b q.m * Xs (((q.a * q.a) + (q.m * (q.b * q.b))) - (q.n * ((q.c * q.c) + (q.m * (q.d * q.d))))) (((q.a * q.b) - (q.n * (q.c * q.d))) + ((q.a * q.b) - (q.n * (q.c * q.d)))) q.m)))))))
theorem Xjy (q : QuadV) : -1 ≤ Yr q ∧ Yr q ≤ 1 := by
 rcases X7 (decide (Int.sign (Rat.num q.m) < 0)) with k7 | k7
 ·
  rw [show (Yr q) = 0 by unfold Yr; simp only [k7, X72]]
  omega
 ·
  rcases X7 (decide (Int.sign (Rat.num q.n) < 0)) with k8 | k8
  ·
   rw [show (Yr q) = 0 by unfold Yr; simp only [k7, k8, X72]]
   omega
  ·
   rcases X7 ((X9 q).2) with k9 | k9
   ·
    rw [show (Yr q) = (X9 q).1 by unfold Yr; simp only [k7, k8, k9, X72]]
    have := (Xoe q)
    omega
   ·
    rcases X7 (decide ((Xs q.c q.d q.m * Int.sign (Rat.num q.n)) = 0)) with k10 | k10
    ·
     rw [show (Yr q) = (Xs q.a q.b q.m) by unfold Yr; simp only [k7, k8, k9, k10, X72]]
     have := (Kg q.a q.b q.m)
     omega
    ·
     rcases X7 (decide (Xs q.a q.b q.m = (Xs q.c q.d q.m * Int.sign (Rat.num q.n)))) with k11 | k11
     ·
      rw [show (Yr q) = (Xs q.a q.b q.m) by unfold Yr; simp only [k7, k8, k9, k10, k11, X72]]
      have := (Kg q.a q.b q.m)
      omega
     ·
      rcases X7 (decide (Xs q.a q.b q.m = 0)) with k12 | k12
      ·
       rw [show (Yr q) = (Xs q.c q.d q.m * Int.sign (Rat.num q.n)) by unfold Yr; simp only [k7, k8, k9, k10, k11, k12, X72]]
       have := (Kg q.c q.d q.m)
       have := (Xbh (Rat.num q.n))
       have := (Xo5 (Kg q.c q.d q.m) (Xbh (Rat.num q.n)))
       omega
      ·
       rw [show (Yr q) = (Xs q.a q.b q.m * Xs (((q.a * q.a) + (q.m * (q.b * q.b))) - (q.n * ((q.c * q.c) + (q.m * (q.d * q.d))))) (((q.a * q.b) - (q.n * (q.c * q.d))) + ((q.a * q.b) - (q.n * (q.c * q.d)))) q.m) by unfold Yr; simp only [k7, k8, k9, k10, k11, k12, X72]]
       have := (Kg q.a q.b q.m)
       have := (Kg (((q.a * q.a) + (q.m * (q.b * q.b))) - (q.n * ((q.c * q.c) + (q.m * (q.d * q.d))))) (((q.a * q.b) - (q.n * (q.c * q.d))) + ((q.a * q.b) - (q.n * (q.c * q.d)))) q.m)
       have := (Xo5 (Kg q.a q.b q.m) (Kg (((q.a * q.a) + (q.m * (q.b * q.b))) - (q.n * ((q.c * q.c) + (q.m * (q.d * q.d))))) (((q.a * q.b) - (q.n * (q.c * q.d))) + ((q.a * q.b) - (q.n * (q.c * q.d)))) q.m))
       omega
theorem Xjq (q : QuadV) (hs : QuadV.ht q ≤ 2147483646) : CS Tryz.prog 199 [Jn q] (ki (Yr q)) := by
 refine cO 127 Tryz.func199 ?_
 refine rt [tv 1 (pb 1), tv 2 (ki 0), bv 1 (Jn q)] (oT 2 oN) ?_
 refine Xe ?_
 refine Xe ?_
 rcases X7 (decide (Int.sign (Rat.num q.m) < 0)) with h1 | h1
 ·
  have h1' := of_decide_eq_true h1
  refine rh [tv 1 (pb 1), tv 2 (ki 0), tv 20 (.bool true), bv 1 (Jn q)] (oT 2 (oC (Yd q.m) (oO (aI trivial (h1 : (decide (Int.sign (Rat.num q.m) < 0)) = true)) (oT 1 (oO (gn [false]) (oO (gn [true]) (oO (gn [true]) (oO (gn [true]) (oT 1 (oA [cT true, ki (Int.sign (Rat.num q.n)), cT (decide (Int.sign (Rat.num q.n) < 0))] oN)))))))))) ?_
  refine cB (true) (fun _ => ?_) (fun h => Bool.noConfusion h)
  refine rt [tv 1 (pb 1), tv 2 (ki 0), bv 1 (Jn q)] (oT 1 oN) ?_
  exact Xg (lv ki 0 (by unfold Yr; simp only [h1, X72]))
 ·
  have h1' := of_decide_eq_false h1
  refine rh [tv 1 (pb 1), tv 2 (ki 0), tv 20 (.bool (decide (Int.sign (Rat.num q.n) < 0))), bv 1 (Jn q)] (oT 2 (oC (Yd q.m) (oO (aI trivial (h1 : (decide (Int.sign (Rat.num q.m) < 0)) = false)) (oT 1 (oO (Xh 1 trivial) (oO (Xh 1 trivial) (oO (Xh 1 (Yd q.n)) (oO (Xh 1 (oB (decide (Int.sign (Rat.num q.n) < 0)))) (oT 1 (oA [cT false, ki (Int.sign (Rat.num q.n)), cT (decide (Int.sign (Rat.num q.n) < 0))] oN)))))))))) ?_
  refine cB (decide (Int.sign (Rat.num q.n) < 0)) (fun h2 => ?_) (fun h2 => ?_)
  ·
   have h2' := of_decide_eq_true h2
   refine rt [tv 1 (pb 1), tv 2 (ki 0), bv 1 (Jn q)] (oT 1 oN) ?_
   exact Xg (lv ki 0 (by unfold Yr; simp only [h1, h2, X72]))
  ·
   have h2' := of_decide_eq_false h2
   refine Xn ?_
   refine Xe ?_
   refine sh 2 [tv 1 (pb 1), tv 2 (ki 0), tv 3 (ki (X9 q).1), tv 26 (.bool (X9 q).2), bv 1 (Jn q)] (oS (oT 1 (oC (Xoc q (by omega)) (oT 2 (oO (oB ((X9 q).2)) (oT 2 oN))))) (oS (oT 1 (oA [.rptr (.bool (X9 q).2)] oN)) oN)) ?_
   refine cB ((X9 q).2) (fun h3 => ?_) (fun h3 => ?_)
   ·
    refine rt [tv 1 (pb 1), tv 2 (ki (X9 q).1), bv 1 (Jn q)] (oT 2 oN) ?_
    exact Xg (lv ki ((X9 q).1) (by unfold Yr; simp only [h1, h2, h3, X72]))
   ·
    refine Xn ?_
    refine Xe ?_
    have := QuadV.htd q
    refine rh [tv 1 (pb 1), tv 2 (ki 0), tv 5 (ki (Xs q.a q.b q.m)), tv 6 (ki (Xs q.c q.d q.m * Int.sign (Rat.num q.n))), bv 1 (Jn q)] (oT 6 (oC (Xdi q.a q.b q.m (by omega)) (oT 6 (oC (Xdi q.c q.d q.m (by omega)) (oT 2 (oC (Yd q.n) (oO (Xb4 (Kg q.c q.d q.m) (Xbh (Rat.num q.n)) : Jx .mul .i64 (Xs q.c q.d q.m) (Int.sign (Rat.num q.n)) = some (Xs q.c q.d q.m * Int.sign (Rat.num q.n)) ∧ ((BinOp.mul = .quo ∨ BinOp.mul = .rem) → Int.sign (Rat.num q.n) ≠ (0 : Int))) (oT 2 (oA [ki (Xs q.c q.d q.m * Int.sign (Rat.num q.n))] oN))))))))) ?_
    refine Xe ?_
    refine X6 ?_
    refine Xe ?_
    rcases X7 (decide ((Xs q.c q.d q.m * Int.sign (Rat.num q.n)) = 0)) with h4 | h4
    ·
     have h4' := of_decide_eq_true h4
     refine rh [tv 1 (pb 1), tv 2 (ki 0), tv 5 (ki (Xs q.a q.b q.m)), tv 6 (ki (Xs q.c q.d q.m * Int.sign (Rat.num q.n))), tv 46 (.bool true), bv 1 (Jn q)] (oT 1 (oO (aI trivial (h4 : (decide ((Xs q.c q.d q.m * Int.sign (Rat.num q.n)) = 0)) = true)) (oT 1 (oO (gn [false]) (oO (gn [false]) (oO (gn [true, true]) (oT 2 (oA [cT true, cT (decide (Xs q.a q.b q.m = (Xs q.c q.d q.m * Int.sign (Rat.num q.n))))] oN)))))))) ?_
     refine cB (true) (fun _ => ?_) (fun h => Bool.noConfusion h)
     refine rt [tv 1 (pb 1), tv 2 (ki (Xs q.a q.b q.m)), tv 5 (ki (Xs q.a q.b q.m)), bv 1 (Jn q)] (oT 2 oN) ?_
     exact Xg (lv ki (Xs q.a q.b q.m) (by unfold Yr; simp only [h1, h2, h3, h4, X72]))
    ·
     have h4' := of_decide_eq_false h4
     refine rh [tv 1 (pb 1), tv 2 (ki 0), tv 5 (ki (Xs q.a q.b q.m)), tv 6 (ki (Xs q.c q.d q.m * Int.sign (Rat.num q.n))), tv 46 (.bool (decide (Xs q.a q.b q.m = (Xs q.c q.d q.m * Int.sign (Rat.num q.n))))), bv 1 (Jn q)] (oT 1 (oO (aI trivial (h4 : (decide ((Xs q.c q.d q.m * Int.sign (Rat.num q.n)) = 0)) = false)) (oT 1 (oO (Xh 1 trivial) (oO (Xh 1 trivial) (oO (Xh 2 (oB (decide (Xs q.a q.b q.m = (Xs q.c q.d q.m * Int.sign (Rat.num q.n)))))) (oT 2 (oA [cT false, cT (decide (Xs q.a q.b q.m = (Xs q.c q.d q.m * Int.sign (Rat.num q.n))))] oN)))))))) ?_
     refine cB (decide (Xs q.a q.b q.m = (Xs q.c q.d q.m * Int.sign (Rat.num q.n)))) (fun h5 => ?_) (fun h5 => ?_)
     ·
      have h5' := of_decide_eq_true h5
      refine rt [tv 1 (pb 1), tv 2 (ki (Xs q.a q.b q.m)), tv 5 (ki (Xs q.a q.b q.m)), bv 1 (Jn q)] (oT 2 oN) ?_
      exact Xg (lv ki (Xs q.a q.b q.m) (by unfold Yr; simp only [h1, h2, h3, h4, h5, X72]))
     ·
      have h5' := of_decide_eq_false h5
      refine rt [tv 1 (pb 1), tv 2 (ki 0), tv 5 (ki (Xs q.a q.b q.m)), tv 6 (ki (Xs q.c q.d q.m * Int.sign (Rat.num q.n))), tv 55 (.bool (decide (Xs q.a q.b q.m = 0))), bv 1 (Jn q)] (oT 1 (oO (oB (decide (Xs q.a q.b q.m = 0))) (oT 1 (oA [cT (decide (Xs q.a q.b q.m = 0))] oN)))) ?_
      refine cB (decide (Xs q.a q.b q.m = 0)) (fun h6 => ?_) (fun h6 => ?_)
      ·
       have h6' := of_decide_eq_true h6
       refine rt [tv 1 (pb 1), tv 2 (ki (Xs q.c q.d q.m * Int.sign (Rat.num q.n))), tv 5 (ki (Xs q.a q.b q.m)), bv 1 (Jn q)] (oT 2 oN) ?_
       exact Xg (lv ki (Xs q.c q.d q.m * Int.sign (Rat.num q.n)) (by unfold Yr; simp only [h1, h2, h3, h4, h5, h6, X72]))
      ·
       have h6' := of_decide_eq_false h6
       refine Xn ?_
       have := QuadV.htd q
       have := X8 q.b q.b
       have := X8 q.a q.a
       have := X8 q.m (q.b * q.b)
       have := X8 q.d q.d
       have := X8 q.c q.c
       have := X8 q.m (q.d * q.d)
       have := Xc0 (q.c * q.c) (q.m * (q.d * q.d))
       have := Xc0 (q.a * q.a) (q.m * (q.b * q.b))
       have := X8 q.n ((q.c * q.c) + (q.m * (q.d * q.d)))
       have := QuadV.htd q
       have := X8 q.c q.d
       have := X8 q.a q.b
       have := X8 q.n (q.c * q.d)
       have := QuadV.htd q
       have := X8 q.a q.b
       have := X8 q.c q.d
       have := X8 q.n (q.c * q.d)
       have := Kc (q.a * q.b) (q.n * (q.c * q.d))
       have := X8 q.a q.a
       have := X8 q.b q.b
       have := X8 q.m (q.b * q.b)
       have := Xc0 (q.a * q.a) (q.m * (q.b * q.b))
       have := X8 q.c q.c
       have := X8 q.d q.d
       have := X8 q.m (q.d * q.d)
       have := Xc0 (q.c * q.c) (q.m * (q.d * q.d))
       have := X8 q.n ((q.c * q.c) + (q.m * (q.d * q.d)))
       have := Kc ((q.a * q.a) + (q.m * (q.b * q.b))) (q.n * ((q.c * q.c) + (q.m * (q.d * q.d))))
       have := Xc0 ((q.a * q.b) - (q.n * (q.c * q.d))) ((q.a * q.b) - (q.n * (q.c * q.d)))
       refine sh 5 [tv 2 (ki (Xs q.a q.b q.m * Xs (((q.a * q.a) + (q.m * (q.b * q.b))) - (q.n * ((q.c * q.c) + (q.m * (q.d * q.d))))) (((q.a * q.b) - (q.n * (q.c * q.d))) + ((q.a * q.b) - (q.n * (q.c * q.d)))) q.m))] (oS (oT 1 oN) (oS (oT 1 oN) (oS (oT 6 (oC (Zf q.a q.a (by omega)) (oT 8 (oC (Zf q.b q.b (by omega)) (oC (Zf q.m (q.b * q.b) (by omega)) (oC (Xfn (q.a * q.a) (q.m * (q.b * q.b)) (by omega)) (oT 9 (oC (Zf q.c q.c (by omega)) (oT 8 (oC (Zf q.d q.d (by omega)) (oC (Zf q.m (q.d * q.d) (by omega)) (oC (Xfn (q.c * q.c) (q.m * (q.d * q.d)) (by omega)) (oC (Zf q.n ((q.c * q.c) + (q.m * (q.d * q.d))) (by omega)) (oC (K9 ((q.a * q.a) + (q.m * (q.b * q.b))) (q.n * ((q.c * q.c) + (q.m * (q.d * q.d)))) (by omega)) (oT 2 oN))))))))))))))) (oS (oT 5 (oC (Zf q.a q.b (by omega)) (oT 8 (oC (Zf q.c q.d (by omega)) (oC (Zf q.n (q.c * q.d) (by omega)) (oC (K9 (q.a * q.b) (q.n * (q.c * q.d)) (by omega)) (oT 2 oN))))))) (oS (oT 5 (oC (Xfn ((q.a * q.b) - (q.n * (q.c * q.d))) ((q.a * q.b) - (q.n * (q.c * q.d))) (by omega)) (oT 2 (oC (Xdi (((q.a * q.a) + (q.m * (q.b * q.b))) - (q.n * ((q.c * q.c) + (q.m * (q.d * q.d))))) (((q.a * q.b) - (q.n * (q.c * q.d))) + ((q.a * q.b) - (q.n * (q.c * q.d)))) q.m (by omega)) (oO (Xb4 (Kg q.a q.b q.m) (Kg (((q.a * q.a) + (q.m * (q.b * q.b))) - (q.n * ((q.c * q.c) + (q.m * (q.d * q.d))))) (((q.a * q.b) - (q.n * (q.c * q.d))) + ((q.a * q.b) - (q.n * (q.c * q.d)))) q.m) : Jx .mul .i64 (Xs q.a q.b q.m) (Xs (((q.a * q.a) + (q.m * (q.b * q.b))) - (q.n * ((q.c * q.c) + (q.m * (q.d * q.d))))) (((q.a * q.b) - (q.n * (q.c * q.d))) + ((q.a * q.b) - (q.n * (q.c * q.d)))) q.m) = some (Xs q.a q.b q.m * Xs (((q.a * q.a) + (q.m * (q.b * q.b))) - (q.n * ((q.c * q.c) + (q.m * (q.d * q.d))))) (((q.a * q.b) - (q.n * (q.c * q.d))) + ((q.a * q.b) - (q.n * (q.c * q.d)))) q.m) ∧ ((BinOp.mul = .quo ∨ BinOp.mul = .rem) → Xs (((q.a * q.a) + (q.m * (q.b * q.b))) - (q.n * ((q.c * q.c) + (q.m * (q.d * q.d))))) (((q.a * q.b) - (q.n * (q.c * q.d))) + ((q.a * q.b) - (q.n * (q.c * q.d)))) q.m ≠ (0 : Int))) (oT 1 (oA [ki (Xs q.a q.b q.m * Xs (((q.a * q.a) + (q.m * (q.b * q.b))) - (q.n * ((q.c * q.c) + (q.m * (q.d * q.d))))) (((q.a * q.b) - (q.n * (q.c * q.d))) + ((q.a * q.b) - (q.n * (q.c * q.d)))) q.m)] oN))))))) oN))))) ?_
       exact Xg (lv ki (Xs q.a q.b q.m * Xs (((q.a * q.a) + (q.m * (q.b * q.b))) - (q.n * ((q.c * q.c) + (q.m * (q.d * q.d))))) (((q.a * q.b) - (q.n * (q.c * q.d))) + ((q.a * q.b) - (q.n * (q.c * q.d)))) q.m) (by unfold Yr; simp only [h1, h2, h3, h4, h5, h6, X72]))
def X1 (a : RootV) (b : RootV) : (Int × Bool) := (bif (!(Option.isSome (Xi a))) then (0, false) else (bif (!(Option.isSome (Xi b))) then (0, false) else (bif (decide ((kq (Xi a)).high < (kq (Xi b)).low)) then ((-1), true) else (bif (decide ((kq (Xi b)).high < (kq (Xi a)).low)) then (1, true) else (0, false)))))
theorem Xjf (a : RootV) (b : RootV) : -1 ≤ (X1 a b).1 ∧ (X1 a b).1 ≤ 1 := by
 rcases X7 (!(Option.isSome (Xi a))) with k5 | k5
 ·
  rw [show (X1 a b) = (0, false) by unfold X1; simp only [k5, X72]]
  dsimp only
  omega
 ·
  rcases X7 (!(Option.isSome (Xi b))) with k6 | k6
  ·
   rw [show (X1 a b) = (0, false) by unfold X1; simp only [k5, k6, X72]]
   dsimp only
   omega
  ·
   rcases X7 (decide ((kq (Xi a)).high < (kq (Xi b)).low)) with k7 | k7
   ·
    rw [show (X1 a b) = ((-1), true) by unfold X1; simp only [k5, k6, k7, X72]]
    dsimp only
    omega
   ·
    rcases X7 (decide ((kq (Xi b)).high < (kq (Xi a)).low)) with k8 | k8
    ·
     rw [show (X1 a b) = (1, true) by unfold X1; simp only [k5, k6, k7, k8, X72]]
     dsimp only
     omega
    ·
     rw [show (X1 a b) = (0, false) by unfold X1; simp only [k5, k6, k7, k8, X72]]
     dsimp only
     omega
theorem Xje (a : RootV) (b : RootV) (hs : RootV.ht a + RootV.ht b ≤ 17179869181) : CS Tryz.prog 218 [Xl a, Xl b] (.tup [ki (X1 a b).1, .bool (X1 a b).2]) := by
 refine cO 39 Tryz.func218 ?_
 have := Xbu (o := (Xi a)) (fun r h => Xdk h)
 have := Xbu (o := (Xi b)) (fun r h => Xdk h)
 refine sh 3 [tv 4 (ki 0), tv 5 (.bool false), tv 6 (pb 6), tv 7 (.bool (Option.isSome (Xi a))), tv 8 (pb 8), tv 9 (.bool (Option.isSome (Xi b))), bv 6 (Xk (kq (Xi a))), bv 8 (Xk (kq (Xi b)))] (oS (oT 4 oN) (oS (oT 1 (oO (Jl (Xem a (by omega)) (Xad _) : CS Tryz.prog 259 [Xl a] (.tup [Xk (kq (Xi a)), .bool (Option.isSome (Xi a))])) (oT 2 (oO (oB (Option.isSome (Xi a))) (oT 3 oN))))) (oS (oT 1 (oO (Jl (Xem b (by omega)) (Xad _) : CS Tryz.prog 259 [Xl b] (.tup [Xk (kq (Xi b)), .bool (Option.isSome (Xi b))])) (oT 2 (oO (oB (Option.isSome (Xi b))) (oT 3 (oA [.tup [Xk (kq (Xi a)), .bool (Option.isSome (Xi a))], .rptr (.bool (Option.isSome (Xi a))), .tup [Xk (kq (Xi b)), .bool (Option.isSome (Xi b))], .rptr (.bool (Option.isSome (Xi b)))] oN)))))) oN))) ?_
 refine Xe ?_
 refine X6 ?_
 refine Xe ?_
 rcases X7 (!(Option.isSome (Xi a))) with h1 | h1
 ·
  refine rh [tv 4 (ki 0), tv 5 (.bool false), tv 6 (pb 6), tv 8 (pb 8), tv 20 (.bool true), bv 6 (Xk (kq (Xi a))), bv 8 (Xk (kq (Xi b)))] (oT 1 (oO (aI trivial (h1 : (!(Option.isSome (Xi a))) = true)) (oT 1 (oO (gn [false]) (oO (gn [true]) (oT 2 (oA [.rptr (.bool true), .rptr (.bool (!(Option.isSome (Xi b))))] oN))))))) ?_
  refine cB (true) (fun _ => ?_) (fun h => Bool.noConfusion h)
  refine rt [tv 4 (ki 0), tv 5 (.bool false)] (oT 2 oN) ?_
  refine Xg ?_
  have hl : (X1 a b) = (0, false) := by unfold X1; simp only [h1, Xdt h1, X72]
  show Xca TL _ _ = some (.tup [ki (X1 a b).1, .bool (X1 a b).2])
  rw [hl]; kernel_rfl
 ·
  refine rh [tv 4 (ki 0), tv 5 (.bool false), tv 6 (pb 6), tv 8 (pb 8), tv 20 (.bool (!(Option.isSome (Xi b)))), bv 6 (Xk (kq (Xi a))), bv 8 (Xk (kq (Xi b)))] (oT 1 (oO (aI trivial (h1 : (!(Option.isSome (Xi a))) = false)) (oT 1 (oO (Xh 1 trivial) (oO (Xh 1 (oB (!(Option.isSome (Xi b))))) (oT 2 (oA [.rptr (.bool false), .rptr (.bool (!(Option.isSome (Xi b))))] oN))))))) ?_
  refine cB ((!(Option.isSome (Xi b)))) (fun h2 => ?_) (fun h2 => ?_)
  ·
   refine rt [tv 4 (ki 0), tv 5 (.bool false)] (oT 2 oN) ?_
   refine Xg ?_
   have hl : (X1 a b) = (0, false) := by unfold X1; simp only [h1, Xas h1, h2, Xdt h2, X72]
   show Xca TL _ _ = some (.tup [ki (X1 a b).1, .bool (X1 a b).2])
   rw [hl]; kernel_rfl
  ·
   refine rt [tv 4 (ki 0), tv 5 (.bool false), tv 6 (pb 6), tv 8 (pb 8), tv 27 (.bool (decide ((kq (Xi a)).high < (kq (Xi b)).low))), bv 6 (Xk (kq (Xi a))), bv 8 (Xk (kq (Xi b)))] (oT 4 (oO (oB (decide ((kq (Xi a)).high < (kq (Xi b)).low))) (oT 1 (oA [cT (decide ((kq (Xi a)).high < (kq (Xi b)).low))] oN)))) ?_
   refine cB (decide ((kq (Xi a)).high < (kq (Xi b)).low)) (fun h3 => ?_) (fun h3 => ?_)
   ·
    have h3' := of_decide_eq_true h3
    refine rt [tv 4 (ki (-1)), tv 5 (.bool true)] (oT 2 oN) ?_
    refine Xg ?_
    have hl : (X1 a b) = ((-1), true) := by unfold X1; simp only [h1, Xas h1, h2, Xas h2, h3, X72]
    show Xca TL _ _ = some (.tup [ki (X1 a b).1, .bool (X1 a b).2])
    rw [hl]; kernel_rfl
   ·
    have h3' := of_decide_eq_false h3
    refine rt [tv 4 (ki 0), tv 5 (.bool false), tv 33 (.bool (decide ((kq (Xi b)).high < (kq (Xi a)).low)))] (oT 4 (oO (oB (decide ((kq (Xi b)).high < (kq (Xi a)).low))) (oT 1 (oA [cT (decide ((kq (Xi b)).high < (kq (Xi a)).low))] oN)))) ?_
    refine cB (decide ((kq (Xi b)).high < (kq (Xi a)).low)) (fun h4 => ?_) (fun h4 => ?_)
    ·
     have h4' := of_decide_eq_true h4
     refine rt [tv 4 (ki 1), tv 5 (.bool true)] (oT 2 oN) ?_
     refine Xg ?_
     have hl : (X1 a b) = (1, true) := by unfold X1; simp only [h1, Xas h1, h2, Xas h2, h3, h4, X72]
     show Xca TL _ _ = some (.tup [ki (X1 a b).1, .bool (X1 a b).2])
     rw [hl]; kernel_rfl
    ·
     have h4' := of_decide_eq_false h4
     refine Xn ?_
     refine rt [tv 4 (ki 0), tv 5 (.bool false)] (oT 2 oN) ?_
     refine Xg ?_
     have hl : (X1 a b) = (0, false) := by unfold X1; simp only [h1, Xas h1, h2, Xas h2, h3, h4, X72]
     show Xca TL _ _ = some (.tup [ki (X1 a b).1, .bool (X1 a b).2])
     rw [hl]; kernel_rfl
def Zk (a : Rat) : Rat := (-(-a))
theorem Xfk (a : Rat) : X6p (Zk a) ≤ 1 * X6p a + 0 := by
 rw [show (Zk a) = (-(-a)) by unfold Zk; rfl]
 have := Xce a
 have := Xce (-a)
 omega
theorem Xft (a : Rat) (hs : X6p a ≤ 17179869184) : CS Tryz.prog 260 [Xc a] (Xc (Zk a)) := by
 refine cO 6 Tryz.func260 ?_
 have := Xce a
 refine sh 2 [tv 2 (pb 2), bv 2 (Xc (-(-a)))] (oS (oT 2 oN) (oS (oT 1 (oC (Xc6 a (by omega)) (oC (Xc6 (-a) (by omega)) (oT 1 oN)))) oN)) ?_
 exact Xg (lv Xc (-(-a)) (by unfold Zk; rfl))
def J3 (a : RootV) (b : RootV) : QuadV := (⟨a.a - b.a, Zk a.b, (-b.b), ((0 : Int) : Rat), Zk a.c, Zk b.c⟩ : QuadV)
theorem Xk7 (a : RootV) (b : RootV) : QuadV.ht (J3 a b) ≤ 1 * (RootV.ht a + RootV.ht b) + 4 := by
 rw [show (J3 a b) = (⟨a.a - b.a, Zk a.b, (-b.b), ((0 : Int) : Rat), Zk a.c, Zk b.c⟩ : QuadV) by unfold J3; rfl]
 have := RootV.htd a
 have := RootV.htd b
 have := Kc a.a b.a
 have := Xfk a.b
 have := Xce b.b
 have := J4 0 (by omega) (by omega)
 have := Xfk a.c
 have := Xfk b.c
 have := QuadV.htm (a.a - b.a) (Zk a.b) (-b.b) ((0 : Int) : Rat) (Zk a.c) (Zk b.c)
 omega
theorem Xk6 (a : RootV) (b : RootV) (hs : RootV.ht a + RootV.ht b ≤ 17179869184) : CS Tryz.prog 220 [Xl a, Xl b] (Jn (J3 a b)) := by
 refine cO 24 Tryz.func220 ?_
 have := RootV.htd a
 have := RootV.htd b
 refine sh 2 [tv 4 (pb 4), bv 4 (Jn (⟨a.a - b.a, Zk a.b, (-b.b), ((0 : Int) : Rat), Zk a.c, Zk b.c⟩ : QuadV))] (oS (oT 3 oN) (oS (oT 4 (oC (K9 a.a b.a (by omega)) (oT 2 (oC (Xft a.b (by omega)) (oT 2 (oC (Xc6 b.b (by omega)) (oC (Kr 0 (by omega) (by omega)) (oT 2 (oC (Xft a.c (by omega)) (oT 2 (oC (Xft b.c (by omega)) (oT 2 oN)))))))))))) oN)) ?_
 exact Xg (lv Jn (⟨a.a - b.a, Zk a.b, (-b.b), ((0 : Int) : Rat), Zk a.c, Zk b.c⟩ : QuadV) (by unfold J3; rfl))
def Xu (a : RootV) (b : RootV) : Int := (bif (decide (Int.sign (Rat.num a.b) = 0)) then (bif (decide (Int.sign (Rat.num b.b) = 0)) then (Xb3 a.a b.a) else (bif (X1 a b).2 then (X1 a b).1 else (bif (decide (Xb3 a.c b.c = 0)) then (Xs (a.a - b.a) (a.b - b.b) a.c) else (Yr (J3 a b))))) else (bif (X1 a b).2 then (X1 a b).1 else (bif (decide (Xb3 a.c b.c = 0)) then (Xs (a.a - b.a) (a.b - b.b) a.c) else (Yr (J3 a b)))))
theorem Xqn (a : RootV) (b : RootV) : -1 ≤ Xu a b ∧ Xu a b ≤ 1 := by
 rcases X7 (decide (Int.sign (Rat.num a.b) = 0)) with k7 | k7
 ·
  rcases X7 (decide (Int.sign (Rat.num b.b) = 0)) with k8 | k8
  ·
   rw [show (Xu a b) = (Xb3 a.a b.a) by unfold Xu; simp only [k7, k8, X72]]
   have := (Xk9 a.a b.a)
   omega
  ·
   rcases X7 ((X1 a b).2) with k9 | k9
   ·
    rw [show (Xu a b) = (X1 a b).1 by unfold Xu; simp only [k7, k8, k9, X72]]
    have := (Xjf a b)
    omega
   ·
    rcases X7 (decide (Xb3 a.c b.c = 0)) with k10 | k10
    ·
     rw [show (Xu a b) = (Xs (a.a - b.a) (a.b - b.b) a.c) by unfold Xu; simp only [k7, k8, k9, k10, X72]]
     have := (Kg (a.a - b.a) (a.b - b.b) a.c)
     omega
    ·
     rw [show (Xu a b) = (Yr (J3 a b)) by unfold Xu; simp only [k7, k8, k9, k10, X72]]
     have := (Xjy (J3 a b))
     omega
 ·
  rcases X7 ((X1 a b).2) with k11 | k11
  ·
   rw [show (Xu a b) = (X1 a b).1 by unfold Xu; simp only [k7, k11, X72]]
   have := (Xjf a b)
   omega
  ·
   rcases X7 (decide (Xb3 a.c b.c = 0)) with k12 | k12
   ·
    rw [show (Xu a b) = (Xs (a.a - b.a) (a.b - b.b) a.c) by unfold Xu; simp only [k7, k11, k12, X72]]
    have := (Kg (a.a - b.a) (a.b - b.b) a.c)
    omega
   ·
    rw [show (Xu a b) = (Yr (J3 a b)) by unfold Xu; simp only [k7, k11, k12, X72]]
    have := (Xjy (J3 a b))
    omega
theorem Xai (a : RootV) (b : RootV) (hs : RootV.ht a + RootV.ht b ≤ 2147483642) : CS Tryz.prog 146 [Xl a, Xl b] (ki (Xu a b)) := by
 refine cO 53 Tryz.func146 ?_
 refine rt [tv 2 (pb 2), tv 3 (pb 3), tv 4 (ki 0), bv 2 (Xl a), bv 3 (Xl b)] (oT 3 oN) ?_
 refine Xe ?_
 refine Xe ?_
 rcases X7 (decide (Int.sign (Rat.num a.b) = 0)) with h1 | h1
 ·
  have h1' := of_decide_eq_true h1
  refine rh [tv 2 (pb 2), tv 3 (pb 3), tv 4 (ki 0), tv 16 (.bool (decide (Int.sign (Rat.num b.b) = 0))), bv 2 (Xl a), bv 3 (Xl b)] (oT 2 (oC (Yd a.b) (oO (aI trivial (h1 : (decide (Int.sign (Rat.num a.b) = 0)) = true)) (oT 1 (oO (Xh 1 trivial) (oO (Xh 1 trivial) (oO (Xh 1 (Yd b.b)) (oO (Xh 1 (oB (decide (Int.sign (Rat.num b.b) = 0)))) (oT 1 (oA [cT true, ki (Int.sign (Rat.num b.b)), cT (decide (Int.sign (Rat.num b.b) = 0))] oN)))))))))) ?_
  refine cB (decide (Int.sign (Rat.num b.b) = 0)) (fun h2 => ?_) (fun h2 => ?_)
  ·
   have h2' := of_decide_eq_true h2
   refine Xe ?_
   have := RootV.htd a
   have := RootV.htd b
   refine rh [tv 2 (pb 2), tv 3 (pb 3), tv 4 (ki (Xb3 a.a b.a)), bv 2 (Xl a), bv 3 (Xl b)] (oT 4 (oC (Xbq a.a b.a (by omega)) (oT 1 oN))) ?_
   exact Xg (lv ki (Xb3 a.a b.a) (by unfold Xu; simp only [h1, h2, X72]))
  ·
   have h2' := of_decide_eq_false h2
   refine Xn ?_
   refine Xe ?_
   refine sh 2 [tv 2 (pb 2), tv 3 (pb 3), tv 4 (ki 0), tv 5 (ki (X1 a b).1), tv 28 (.bool (X1 a b).2), bv 2 (Xl a), bv 3 (Xl b)] (oS (oT 2 (oC (Xje a b (by omega)) (oT 2 (oO (oB ((X1 a b).2)) (oT 2 oN))))) (oS (oT 1 (oA [.rptr (.bool (X1 a b).2)] oN)) oN)) ?_
   refine cB ((X1 a b).2) (fun h3 => ?_) (fun h3 => ?_)
   ·
    refine rt [tv 2 (pb 2), tv 3 (pb 3), tv 4 (ki (X1 a b).1), bv 2 (Xl a), bv 3 (Xl b)] (oT 2 oN) ?_
    exact Xg (lv ki ((X1 a b).1) (by unfold Xu; simp only [h1, h2, h3, X72]))
   ·
    refine Xn ?_
    refine Xe ?_
    refine Xe ?_
    have := RootV.htd a
    have := RootV.htd b
    refine rh [tv 2 (pb 2), tv 3 (pb 3), tv 4 (ki 0), tv 35 (.bool (decide (Xb3 a.c b.c = 0))), bv 2 (Xl a), bv 3 (Xl b)] (oT 4 (oC (Xbq a.c b.c (by omega)) (oO (oB (decide (Xb3 a.c b.c = 0))) (oA [cT (decide (Xb3 a.c b.c = 0))] oN)))) ?_
    refine cB (decide (Xb3 a.c b.c = 0)) (fun h4 => ?_) (fun h4 => ?_)
    ·
     have h4' := of_decide_eq_true h4
     refine Xe ?_
     have := RootV.htd a
     have := RootV.htd b
     have := Kc a.a b.a
     have := Kc a.b b.b
     refine rh [tv 2 (pb 2), tv 3 (pb 3), tv 4 (ki (Xs (a.a - b.a) (a.b - b.b) a.c)), bv 2 (Xl a), bv 3 (Xl b)] (oT 4 (oC (K9 a.a b.a (by omega)) (oT 4 (oC (K9 a.b b.b (by omega)) (oT 2 (oC (Xdi (a.a - b.a) (a.b - b.b) a.c (by omega)) (oT 1 oN))))))) ?_
     exact Xg (lv ki (Xs (a.a - b.a) (a.b - b.b) a.c) (by unfold Xu; simp only [h1, h2, h3, h4, X72]))
    ·
     have h4' := of_decide_eq_false h4
     refine Xn ?_
     refine Xe ?_
     have := Xk7 a b
     refine rh [tv 4 (ki (Yr (J3 a b)))] (oT 2 (oC (Xk6 a b (by omega)) (oC (Xjq (J3 a b) (by omega)) (oT 1 oN)))) ?_
     exact Xg (lv ki (Yr (J3 a b)) (by unfold Xu; simp only [h1, h2, h3, h4, X72]))
 ·
  have h1' := of_decide_eq_false h1
  refine rh [tv 2 (pb 2), tv 3 (pb 3), tv 4 (ki 0), tv 16 (.bool false), bv 2 (Xl a), bv 3 (Xl b)] (oT 2 (oC (Yd a.b) (oO (aI trivial (h1 : (decide (Int.sign (Rat.num a.b) = 0)) = false)) (oT 1 (oO (gn [false]) (oO (gn [true]) (oO (gn [true]) (oO (gn [true]) (oT 1 (oA [cT false, ki (Int.sign (Rat.num b.b)), cT (decide (Int.sign (Rat.num b.b) = 0))] oN)))))))))) ?_
  refine cB (false) (fun h => Bool.noConfusion h) (fun _ => ?_)
  refine Xn ?_
  refine Xe ?_
  refine sh 2 [tv 2 (pb 2), tv 3 (pb 3), tv 4 (ki 0), tv 5 (ki (X1 a b).1), tv 28 (.bool (X1 a b).2), bv 2 (Xl a), bv 3 (Xl b)] (oS (oT 2 (oC (Xje a b (by omega)) (oT 2 (oO (oB ((X1 a b).2)) (oT 2 oN))))) (oS (oT 1 (oA [.rptr (.bool (X1 a b).2)] oN)) oN)) ?_
  refine cB ((X1 a b).2) (fun h5 => ?_) (fun h5 => ?_)
  ·
   refine rt [tv 2 (pb 2), tv 3 (pb 3), tv 4 (ki (X1 a b).1), bv 2 (Xl a), bv 3 (Xl b)] (oT 2 oN) ?_
   exact Xg (lv ki ((X1 a b).1) (by unfold Xu; simp only [h1, h5, X72]))
  ·
   refine Xn ?_
   refine Xe ?_
   refine Xe ?_
   have := RootV.htd a
   have := RootV.htd b
   refine rh [tv 2 (pb 2), tv 3 (pb 3), tv 4 (ki 0), tv 35 (.bool (decide (Xb3 a.c b.c = 0))), bv 2 (Xl a), bv 3 (Xl b)] (oT 4 (oC (Xbq a.c b.c (by omega)) (oO (oB (decide (Xb3 a.c b.c = 0))) (oA [cT (decide (Xb3 a.c b.c = 0))] oN)))) ?_
   refine cB (decide (Xb3 a.c b.c = 0)) (fun h6 => ?_) (fun h6 => ?_)
   ·
    have h6' := of_decide_eq_true h6
    refine Xe ?_
    have := RootV.htd a
    have := RootV.htd b
    have := Kc a.a b.a
    have := Kc a.b b.b
    refine rh [tv 2 (pb 2), tv 3 (pb 3), tv 4 (ki (Xs (a.a - b.a) (a.b - b.b) a.c)), bv 2 (Xl a), bv 3 (Xl b)] (oT 4 (oC (K9 a.a b.a (by omega)) (oT 4 (oC (K9 a.b b.b (by omega)) (oT 2 (oC (Xdi (a.a - b.a) (a.b - b.b) a.c (by omega)) (oT 1 oN))))))) ?_
    exact Xg (lv ki (Xs (a.a - b.a) (a.b - b.b) a.c) (by unfold Xu; simp only [h1, h5, h6, X72]))
   ·
    have h6' := of_decide_eq_false h6
    refine Xn ?_
    refine Xe ?_
    have := Xk7 a b
    refine rh [tv 4 (ki (Yr (J3 a b)))] (oT 2 (oC (Xk6 a b (by omega)) (oC (Xjq (J3 a b) (by omega)) (oT 1 oN)))) ?_
    exact Xg (lv ki (Yr (J3 a b)) (by unfold Xu; simp only [h1, h5, h6, X72]))
def Yg (a : RootV) (b : Rat) : Int := (Xu a (Z6 b))
theorem Xfx (a : RootV) (b : Rat) (hs : RootV.ht a + X6p b ≤ 2147483636) : CS Tryz.prog 84 [Xl a, Xc b] (ki (Yg a b)) := by
 refine cO 9 Tryz.func84 ?_
 have := Xfd b
 refine sh 2 [tv 4 (ki (Xu a (Z6 b)))] (oS (oT 3 oN) (oS (oT 2 (oC (Xfa b) (oC (Xai a (Z6 b) (by omega)) (oT 1 oN)))) oN)) ?_
 exact Xg (lv ki (Xu a (Z6 b)) (by unfold Yg; rfl))
def Y5  : Rat := ((0 : Int) : Rat)
theorem Xiu  : X6p Y5 ≤ 3 := by
 rw [show Y5 = ((0 : Int) : Rat) by unfold Y5; rfl]
 have := J4 0 (by omega) (by omega)
 omega
theorem Xfe  : CS Tryz.prog 152 [] (Xc Y5) := by
 refine cO 2 Tryz.func152 ?_
 refine sh 2 [tv 0 (pb 0), bv 0 (Xc ((0 : Int) : Rat))] (oS (oT 1 oN) (oS (oC (Kr 0 (by omega) (by omega)) (oT 1 oN)) oN)) ?_
 exact Xg (lv Xc ((0 : Int) : Rat) (by unfold Y5; rfl))
def Xb0 (v : VecV) : PtV := (⟨v.x, Y5, v.y, Y5, Y5⟩ : PtV)
theorem Xuw (v : VecV) : PtV.ht (Xb0 v) ≤ 1 * VecV.ht v + 9 := by
 rw [show (Xb0 v) = (⟨v.x, Y5, v.y, Y5, Y5⟩ : PtV) by unfold Xb0; rfl]
 have := VecV.htd v
 have := Xiu 
 have := PtV.htm v.x Y5 v.y Y5 Y5
 omega
theorem Xvn (v : VecV) : CS Tryz.prog 68 [Xt v] (Xr (Xb0 v)) := by
 refine cO 11 Tryz.func68 ?_
 refine sh 2 [tv 2 (pb 2), bv 2 (Xr (⟨v.x, Y5, v.y, Y5, Y5⟩ : PtV))] (oS (oT 2 oN) (oS (oT 2 (oC Xfe (oT 2 (oC Xfe (oC Xfe (oT 2 oN)))))) oN)) ?_
 exact Xg (lv Xr (⟨v.x, Y5, v.y, Y5, Y5⟩ : PtV) (by unfold Xb0; rfl))
def Y4 (a : Rat) (b : Rat) (c : Rat) : RootV := (bif (decide (Int.sign (Rat.num b) = 0)) then (⟨a, b, Y5⟩ : RootV) else (⟨a, b, c⟩ : RootV))
theorem Xex (a : Rat) (b : Rat) (c : Rat) : RootV.ht (Y4 a b c) ≤ 1 * (X6p a + X6p b + X6p c) + 3 := by
 rcases X7 (decide (Int.sign (Rat.num b) = 0)) with k2 | k2
 ·
  rw [show (Y4 a b c) = (⟨a, b, Y5⟩ : RootV) by unfold Y4; simp only [k2, X72]]
  have := Xiu 
  have := RootV.htm a b Y5
  omega
 ·
  rw [show (Y4 a b c) = (⟨a, b, c⟩ : RootV) by unfold Y4; simp only [k2, X72]]
  have := RootV.htm a b c
  omega
theorem Xet (a : Rat) (b : Rat) (c : Rat) : CS Tryz.prog 150 [Xc a, Xc b, Xc c] (Xl (Y4 a b c)) := by
 refine cO 15 Tryz.func150 ?_
 refine rt [tv 3 (pb 3), tv 4 (pb 4), tv 5 (pb 5), tv 6 (pb 6), bv 3 (Xc a), bv 4 (Xc b), bv 5 (Xc c), bv 6 X61] (oT 4 oN) ?_
 refine Xe ?_
 refine rt [tv 3 (pb 3), tv 4 (pb 4), tv 5 (pb 5), tv 6 (pb 6), tv 9 (.bool (decide (Int.sign (Rat.num b) = 0))), bv 3 (Xc a), bv 4 (Xc b), bv 5 (Xc c), bv 6 X61] (oT 1 (oC (Yd b) (oO (oB (decide (Int.sign (Rat.num b) = 0))) (oA [cT (decide (Int.sign (Rat.num b) = 0))] oN)))) ?_
 refine cB (decide (Int.sign (Rat.num b) = 0)) (fun h1 => ?_) (fun h1 => ?_)
 ·
  have h1' := of_decide_eq_true h1
  refine rh [tv 3 (pb 3), tv 4 (pb 4), tv 5 (pb 5), tv 6 (pb 6), bv 3 (Xc a), bv 4 (Xc b), bv 5 (Xc Y5), bv 6 X61] (oC Xfe (oT 1 oN)) ?_
  refine rt [tv 6 (pb 6), bv 6 (Xl (⟨a, b, Y5⟩ : RootV))] (oT 5 oN) ?_
  exact Xg (lv Xl (⟨a, b, Y5⟩ : RootV) (by unfold Y4; simp only [h1, X72]))
 ·
  have h1' := of_decide_eq_false h1
  refine Xn ?_
  refine rt [tv 6 (pb 6), bv 6 (Xl (⟨a, b, c⟩ : RootV))] (oT 5 oN) ?_
  exact Xg (lv Xl (⟨a, b, c⟩ : RootV) (by unfold Y4; simp only [h1, X72]))
def Ye (p : PtV) : RootV := (Y4 p.ax p.bx p.c)
theorem Xhz (p : PtV) : RootV.ht (Ye p) ≤ 1 * PtV.ht p + 3 := by
 rw [show (Ye p) = (Y4 p.ax p.bx p.c) by unfold Ye; rfl]
 have := PtV.htd p
 have := Xex p.ax p.bx p.c
 omega
theorem Xh8 (p : PtV) : CS Tryz.prog 271 [Xr p] (Xl (Ye p)) := by
 refine cO 10 Tryz.func271 ?_
 refine sh 2 [tv 2 (pb 2), bv 2 (Xl (Y4 p.ax p.bx p.c))] (oS (oT 2 oN) (oS (oT 6 (oC (Xet p.ax p.bx p.c) (oT 1 oN))) oN)) ?_
 exact Xg (lv Xl (Y4 p.ax p.bx p.c) (by unfold Ye; rfl))
def Jt (p : PtV) : RootV := (Y4 p.ay p.byy p.c)
theorem Xnh (p : PtV) : RootV.ht (Jt p) ≤ 1 * PtV.ht p + 3 := by
 rw [show (Jt p) = (Y4 p.ay p.byy p.c) by unfold Jt; rfl]
 have := PtV.htd p
 have := Xex p.ay p.byy p.c
 omega
theorem Xmy (p : PtV) : CS Tryz.prog 272 [Xr p] (Xl (Jt p)) := by
 refine cO 10 Tryz.func272 ?_
 refine sh 2 [tv 2 (pb 2), bv 2 (Xl (Y4 p.ay p.byy p.c))] (oS (oT 2 oN) (oS (oT 6 (oC (Xet p.ay p.byy p.c) (oT 1 oN))) oN)) ?_
 exact Xg (lv Xl (Y4 p.ay p.byy p.c) (by unfold Jt; rfl))
def Yu (p : PtV) (q : PtV) : Int := (bif (!(decide (Xu (Ye p) (Ye q) = 0))) then (Xu (Ye p) (Ye q)) else (Xu (Jt p) (Jt q)))
theorem Xjc (p : PtV) (q : PtV) (hs : PtV.ht p + PtV.ht q ≤ 2147483636) : CS Tryz.prog 232 [Xr p, Xr q] (ki (Yu p q)) := by
 refine cO 19 Tryz.func232 ?_
 refine rt [tv 2 (pb 2), tv 3 (pb 3), tv 4 (ki 0), bv 2 (Xr p), bv 3 (Xr q)] (oT 3 oN) ?_
 refine Xe ?_
 have := Xhz p
 have := Xhz q
 refine sh 2 [tv 2 (pb 2), tv 3 (pb 3), tv 4 (ki 0), tv 5 (ki (Xu (Ye p) (Ye q))), tv 12 (.bool (!(decide (Xu (Ye p) (Ye q) = 0)))), bv 2 (Xr p), bv 3 (Xr q)] (oS (oT 1 (oC (Xh8 p) (oT 1 (oC (Xh8 q) (oC (Xai (Ye p) (Ye q) (by omega)) (oT 1 oN)))))) (oS (oT 1 (oO (oB (!(decide (Xu (Ye p) (Ye q) = 0)))) (oA [cT (!(decide (Xu (Ye p) (Ye q) = 0)))] oN))) oN)) ?_
 refine cB ((!(decide (Xu (Ye p) (Ye q) = 0)))) (fun h1 => ?_) (fun h1 => ?_)
 ·
  have h1' := of_decide_eq_false (Xdt h1)
  refine rt [tv 2 (pb 2), tv 3 (pb 3), tv 4 (ki (Xu (Ye p) (Ye q))), bv 2 (Xr p), bv 3 (Xr q)] (oT 2 oN) ?_
  exact Xg (lv ki (Xu (Ye p) (Ye q)) (by unfold Yu; simp only [h1, Xdt h1, X72]))
 ·
  have h1' := of_decide_eq_true (Xas h1)
  refine Xn ?_
  refine Xe ?_
  have := Xnh p
  have := Xnh q
  refine rh [tv 4 (ki (Xu (Jt p) (Jt q)))] (oT 1 (oC (Xmy p) (oT 1 (oC (Xmy q) (oC (Xai (Jt p) (Jt q) (by omega)) (oT 1 oN)))))) ?_
  exact Xg (lv ki (Xu (Jt p) (Jt q)) (by unfold Yu; simp only [h1, Xas h1, X72]))
def Zt (p : PtV) : PtV := (bif (decide (Int.sign (Rat.num p.bx) = 0)) then (bif (decide (Int.sign (Rat.num p.byy) = 0)) then (⟨p.ax, p.bx, p.ay, p.byy, Y5⟩ : PtV) else p) else p)
theorem Xga (p : PtV) : PtV.ht (Zt p) ≤ 1 * PtV.ht p + 3 := by
 rcases X7 (decide (Int.sign (Rat.num p.bx) = 0)) with k3 | k3
 ·
  rcases X7 (decide (Int.sign (Rat.num p.byy) = 0)) with k4 | k4
  ·
   rw [show (Zt p) = (⟨p.ax, p.bx, p.ay, p.byy, Y5⟩ : PtV) by unfold Zt; simp only [k3, k4, X72]]
   have := PtV.htd p
   have := Xiu 
   have := PtV.htm p.ax p.bx p.ay p.byy Y5
   omega
  ·
   rw [show (Zt p) = p by unfold Zt; simp only [k3, k4, X72]]
   omega
 ·
  rw [show (Zt p) = p by unfold Zt; simp only [k3, X72]]
  omega
theorem Xgf (p : PtV) : CS Tryz.prog 171 [Xr p] (Xr (Zt p)) := by
 refine cO 16 Tryz.func171 ?_
 refine rt [tv 1 (pb 1), tv 2 (pb 2), bv 1 (Xr p), bv 2 X7q] (oT 2 oN) ?_
 refine Xe ?_
 refine Xe ?_
 rcases X7 (decide (Int.sign (Rat.num p.bx) = 0)) with h1 | h1
 ·
  have h1' := of_decide_eq_true h1
  refine rh [tv 1 (pb 1), tv 2 (pb 2), tv 12 (.bool (decide (Int.sign (Rat.num p.byy) = 0))), bv 1 (Xr p), bv 2 X7q] (oT 2 (oC (Yd p.bx) (oO (aI trivial (h1 : (decide (Int.sign (Rat.num p.bx) = 0)) = true)) (oT 1 (oO (Xh 1 trivial) (oO (Xh 1 trivial) (oO (Xh 1 (Yd p.byy)) (oO (Xh 1 (oB (decide (Int.sign (Rat.num p.byy) = 0)))) (oT 1 (oA [cT true, ki (Int.sign (Rat.num p.byy)), cT (decide (Int.sign (Rat.num p.byy) = 0))] oN)))))))))) ?_
  refine cB (decide (Int.sign (Rat.num p.byy) = 0)) (fun h2 => ?_) (fun h2 => ?_)
  ·
   have h2' := of_decide_eq_true h2
   refine rh [tv 1 (pb 1), tv 2 (pb 2), bv 1 (.st [Xc p.ax, Xc p.bx, Xc p.ay, Xc p.byy, Xc Y5]), bv 2 X7q] (oC Xfe (oT 2 oN)) ?_
   refine rt [tv 2 (pb 2), bv 2 (.st [Xc p.ax, Xc p.bx, Xc p.ay, Xc p.byy, Xc Y5])] (oT 2 oN) ?_
   exact Xg (lv Xr (⟨p.ax, p.bx, p.ay, p.byy, Y5⟩ : PtV) (by unfold Zt; simp only [h1, h2, X72]))
  ·
   have h2' := of_decide_eq_false h2
   refine Xn ?_
   refine rt [tv 2 (pb 2), bv 2 (Xr p)] (oT 2 oN) ?_
   exact Xg (lv Xr p (by unfold Zt; simp only [h1, h2, X72]))
 ·
  have h1' := of_decide_eq_false h1
  refine rh [tv 1 (pb 1), tv 2 (pb 2), tv 12 (.bool false), bv 1 (Xr p), bv 2 X7q] (oT 2 (oC (Yd p.bx) (oO (aI trivial (h1 : (decide (Int.sign (Rat.num p.bx) = 0)) = false)) (oT 1 (oO (gn [false]) (oO (gn [true]) (oO (gn [true]) (oO (gn [true]) (oT 1 (oA [cT false, ki (Int.sign (Rat.num p.byy)), cT (decide (Int.sign (Rat.num p.byy) = 0))] oN)))))))))) ?_
  refine cB (false) (fun h => Bool.noConfusion h) (fun _ => ?_)
  refine Xn ?_
  refine rt [tv 2 (pb 2), bv 2 (Xr p)] (oT 2 oN) ?_
  exact Xg (lv Xr p (by unfold Zt; simp only [h1, X72]))
def Jv (x : RootV) (y : RootV) : (Option PtV) := (bif (decide (Int.sign (Rat.num x.b) = 0)) then (some (Zt (⟨x.a, x.b, y.a, y.b, y.c⟩ : PtV))) else (bif (!(decide (Int.sign (Rat.num y.b) = 0))) then (bif (!(decide (Xb3 x.c y.c = 0))) then none else (some (Zt (⟨x.a, x.b, y.a, y.b, x.c⟩ : PtV)))) else (some (Zt (⟨x.a, x.b, y.a, y.b, x.c⟩ : PtV)))))
theorem Xsb (x : RootV) (y : RootV) : ∀ ro, Jv x y = some ro → PtV.ht ro ≤ 1 * (RootV.ht x + RootV.ht y) + 3 := by
 rcases X7 (decide (Int.sign (Rat.num x.b) = 0)) with k4 | k4
 ·
  intro ro hr; unfold Jv at hr; simp only [k4, X72] at hr; cases hr
  have := RootV.htd x
  have := RootV.htd y
  have := PtV.htm x.a x.b y.a y.b y.c
  have := Xga (⟨x.a, x.b, y.a, y.b, y.c⟩ : PtV)
  omega
 ·
  rcases X7 (!(decide (Int.sign (Rat.num y.b) = 0))) with k5 | k5
  ·
   rcases X7 (!(decide (Xb3 x.c y.c = 0))) with k6 | k6
   ·
    intro ro hr; unfold Jv at hr; simp only [k4, k5, k6, X72] at hr; cases hr
   ·
    intro ro hr; unfold Jv at hr; simp only [k4, k5, k6, X72] at hr; cases hr
    have := RootV.htd x
    have := RootV.htd y
    have := PtV.htm x.a x.b y.a y.b x.c
    have := Xga (⟨x.a, x.b, y.a, y.b, x.c⟩ : PtV)
    omega
  ·
   intro ro hr; unfold Jv at hr; simp only [k4, k5, X72] at hr; cases hr
   have := RootV.htd x
   have := RootV.htd y
   have := PtV.htm x.a x.b y.a y.b x.c
   have := Xga (⟨x.a, x.b, y.a, y.b, x.c⟩ : PtV)
   omega
theorem Xlq (x : RootV) (y : RootV) (hs : RootV.ht x + RootV.ht y ≤ 17179869184) : CS Tryz.prog 88 [Xl x, Xl y] (Xdr Xr X7q (ki 0) (ki 1) (Jv x y)) := by
 refine Xge (N := 39) X6y Tryz.func88 rfl rfl rfl rfl rfl (Xg1 _ _ _ _ _) ?_
 refine sh 2 [tv 2 (pb 2), tv 3 (pb 3), tv 4 (pb 4), tv 5 (ki 0), tv 6 (pb 6), bv 2 (Xl x), bv 3 (Xl y), bv 4 X7q, bv 6 (Xc x.c)] (oS (oT 4 oN) (oS (oT 4 oN) oN)) ?_
 refine Xe ?_
 refine rt [tv 2 (pb 2), tv 3 (pb 3), tv 4 (pb 4), tv 5 (ki 0), tv 6 (pb 6), tv 12 (.bool (decide (Int.sign (Rat.num x.b) = 0))), bv 2 (Xl x), bv 3 (Xl y), bv 4 X7q, bv 6 (Xc x.c)] (oT 2 (oC (Yd x.b) (oO (oB (decide (Int.sign (Rat.num x.b) = 0))) (oA [cT (decide (Int.sign (Rat.num x.b) = 0))] oN)))) ?_
 refine cB (decide (Int.sign (Rat.num x.b) = 0)) (fun h1 => ?_) (fun h1 => ?_)
 ·
  have h1' := of_decide_eq_true h1
  refine rh [tv 2 (pb 2), tv 3 (pb 3), tv 4 (pb 4), tv 5 (ki 0), tv 6 (pb 6), bv 2 (Xl x), bv 3 (Xl y), bv 4 X7q, bv 6 (Xc y.c)] (oT 3 oN) ?_
  refine rt [tv 4 (pb 4), tv 5 (ki 0), bv 4 (Xr (Zt (⟨x.a, x.b, y.a, y.b, y.c⟩ : PtV)))] (oT 10 (oC (Xgf (⟨x.a, x.b, y.a, y.b, y.c⟩ : PtV)) (oT 2 oN))) ?_
  refine Xg ?_
  have hl : (Jv x y) = (some (Zt (⟨x.a, x.b, y.a, y.b, y.c⟩ : PtV))) := by unfold Jv; simp only [h1, X72]
  show Xca TL _ _ = some (Xdr Xr X7q (ki 0) (ki 1) (Jv x y))
  rw [hl]; kernel_rfl
 ·
  have h1' := of_decide_eq_false h1
  refine Xe ?_
  rcases X7 (!(decide (Int.sign (Rat.num y.b) = 0))) with h2 | h2
  ·
   have h2' := of_decide_eq_false (Xdt h2)
   have := RootV.htd x
   have := RootV.htd y
   refine rh [tv 2 (pb 2), tv 3 (pb 3), tv 4 (pb 4), tv 5 (ki 0), tv 6 (pb 6), tv 26 (.bool (!(decide (Xb3 x.c y.c = 0)))), bv 2 (Xl x), bv 3 (Xl y), bv 4 X7q, bv 6 (Xc x.c)] (oT 2 (oC (Yd y.b) (oO (aI trivial (X5q (Xdt h2) : (!(decide (Int.sign (Rat.num y.b) = 0))) = true)) (oT 1 (oO (Xh 1 trivial) (oO (Xh 1 trivial) (oO (Xh 1 trivial) (oO (Xh 1 trivial) (oO (Xh 2 (Xbq x.c y.c (by omega))) (oO (Xh 1 (oB (!(decide (Xb3 x.c y.c = 0))))) (oT 1 (oA [cT true, ki (Xb3 x.c y.c), cT (!(decide (Xb3 x.c y.c = 0)))] oN)))))))))))) ?_
   refine cB ((!(decide (Xb3 x.c y.c = 0)))) (fun h3 => ?_) (fun h3 => ?_)
   ·
    have h3' := of_decide_eq_false (Xdt h3)
    refine rt [tv 2 (pb 2), tv 3 (pb 3), tv 4 (pb 4), tv 5 (ki 1), tv 6 (pb 6), bv 2 (Xl x), bv 3 (Xl y), bv 4 X7q, bv 6 (Xc x.c)] (oT 3 oN) ?_
    refine Xg ?_
    have hl : (Jv x y) = none := by unfold Jv; simp only [h1, h2, Xdt h2, h3, Xdt h3, X72]
    show Xca TL _ _ = some (Xdr Xr X7q (ki 0) (ki 1) (Jv x y))
    rw [hl]; kernel_rfl
   ·
    have h3' := of_decide_eq_true (Xas h3)
    refine Xn ?_
    refine rt [tv 4 (pb 4), tv 5 (ki 0), bv 4 (Xr (Zt (⟨x.a, x.b, y.a, y.b, x.c⟩ : PtV)))] (oT 10 (oC (Xgf (⟨x.a, x.b, y.a, y.b, x.c⟩ : PtV)) (oT 2 oN))) ?_
    refine Xg ?_
    have hl : (Jv x y) = (some (Zt (⟨x.a, x.b, y.a, y.b, x.c⟩ : PtV))) := by unfold Jv; simp only [h1, h2, Xdt h2, h3, Xas h3, X72]
    show Xca TL _ _ = some (Xdr Xr X7q (ki 0) (ki 1) (Jv x y))
    rw [hl]; kernel_rfl
  ·
   have h2' := of_decide_eq_true (Xas h2)
   refine rh [tv 2 (pb 2), tv 3 (pb 3), tv 4 (pb 4), tv 5 (ki 0), tv 6 (pb 6), tv 26 (.bool false), bv 2 (Xl x), bv 3 (Xl y), bv 4 X7q, bv 6 (Xc x.c)] (oT 2 (oC (Yd y.b) (oO (aI trivial (X5j (Xas h2) : (!(decide (Int.sign (Rat.num y.b) = 0))) = false)) (oT 1 (oO (gn [false]) (oO (gn [true]) (oO (gn [false]) (oO (gn [true]) (oO (gn [true, true]) (oO (gn [true]) (oT 1 (oA [cT false, ki (Xb3 x.c y.c), cT (!(decide (Xb3 x.c y.c = 0)))] oN)))))))))))) ?_
   refine cB (false) (fun h => Bool.noConfusion h) (fun _ => ?_)
   refine Xn ?_
   refine rt [tv 4 (pb 4), tv 5 (ki 0), bv 4 (Xr (Zt (⟨x.a, x.b, y.a, y.b, x.c⟩ : PtV)))] (oT 10 (oC (Xgf (⟨x.a, x.b, y.a, y.b, x.c⟩ : PtV)) (oT 2 oN))) ?_
   refine Xg ?_
   have hl : (Jv x y) = (some (Zt (⟨x.a, x.b, y.a, y.b, x.c⟩ : PtV))) := by unfold Jv; simp only [h1, h2, Xas h2, X72]
   show Xca TL _ _ = some (Xdr Xr X7q (ki 0) (ki 1) (Jv x y))
   rw [hl]; kernel_rfl
def Ju (p : PtV) (v : VecV) : RootV := (Y4 ((((p.ax - v.x) * (p.ax - v.x)) + ((p.ay - v.y) * (p.ay - v.y))) + (((p.bx * p.bx) + (p.byy * p.byy)) * p.c)) ((((p.ax - v.x) * p.bx) + ((p.ay - v.y) * p.byy)) + (((p.ax - v.x) * p.bx) + ((p.ay - v.y) * p.byy))) p.c)
theorem Xe6 (p : PtV) (v : VecV) : RootV.ht (Ju p v) ≤ 4 * (PtV.ht p + VecV.ht v) + 17 := by
 rw [show (Ju p v) = (Y4 ((((p.ax - v.x) * (p.ax - v.x)) + ((p.ay - v.y) * (p.ay - v.y))) + (((p.bx * p.bx) + (p.byy * p.byy)) * p.c)) ((((p.ax - v.x) * p.bx) + ((p.ay - v.y) * p.byy)) + (((p.ax - v.x) * p.bx) + ((p.ay - v.y) * p.byy))) p.c) by unfold Ju; rfl]
 have := PtV.htd p
 have := VecV.htd v
 have := Kc p.ax v.x
 have := X8 (p.ax - v.x) (p.ax - v.x)
 have := Kc p.ay v.y
 have := X8 (p.ay - v.y) (p.ay - v.y)
 have := Xa5 ((p.ax - v.x) * (p.ax - v.x)) ((p.ay - v.y) * (p.ay - v.y))
 have := X8 p.bx p.bx
 have := X8 p.byy p.byy
 have := Xa5 (p.bx * p.bx) (p.byy * p.byy)
 have := X8 ((p.bx * p.bx) + (p.byy * p.byy)) p.c
 have := Xa5 (((p.ax - v.x) * (p.ax - v.x)) + ((p.ay - v.y) * (p.ay - v.y))) (((p.bx * p.bx) + (p.byy * p.byy)) * p.c)
 have := X8 (p.ax - v.x) p.bx
 have := X8 (p.ay - v.y) p.byy
 have := Xa5 ((p.ax - v.x) * p.bx) ((p.ay - v.y) * p.byy)
 have := Xa5 (((p.ax - v.x) * p.bx) + ((p.ay - v.y) * p.byy)) (((p.ax - v.x) * p.bx) + ((p.ay - v.y) * p.byy))
 have := Xex ((((p.ax - v.x) * (p.ax - v.x)) + ((p.ay - v.y) * (p.ay - v.y))) + (((p.bx * p.bx) + (p.byy * p.byy)) * p.c)) ((((p.ax - v.x) * p.bx) + ((p.ay - v.y) * p.byy)) + (((p.ax - v.x) * p.bx) + ((p.ay - v.y) * p.byy))) p.c
 omega
theorem Xj0 (p : PtV) (v : VecV) (hs : PtV.ht p + VecV.ht v ≤ 8589934589) : CS Tryz.prog 66 [Xr p, Xt v] (Xl (Ju p v)) := by
 refine cO 65 Tryz.func66 ?_
 have := PtV.htd p
 have := VecV.htd v
 have := PtV.htd p
 have := VecV.htd v
 have := Kc p.ax v.x
 have := Kc p.ay v.y
 have := X8 (p.ax - v.x) (p.ax - v.x)
 have := X8 (p.ay - v.y) (p.ay - v.y)
 have := X8 p.bx p.bx
 have := X8 p.byy p.byy
 have := Xa5 (p.bx * p.bx) (p.byy * p.byy)
 have := Xa5 ((p.ax - v.x) * (p.ax - v.x)) ((p.ay - v.y) * (p.ay - v.y))
 have := X8 ((p.bx * p.bx) + (p.byy * p.byy)) p.c
 have := PtV.htd p
 have := VecV.htd v
 have := Kc p.ax v.x
 have := Kc p.ay v.y
 have := X8 (p.ax - v.x) p.bx
 have := X8 (p.ay - v.y) p.byy
 have := PtV.htd p
 have := VecV.htd v
 have := Kc p.ax v.x
 have := X8 (p.ax - v.x) p.bx
 have := Kc p.ay v.y
 have := X8 (p.ay - v.y) p.byy
 have := Xa5 ((p.ax - v.x) * p.bx) ((p.ay - v.y) * p.byy)
 refine sh 6 [tv 4 (pb 4), bv 4 (Xl (Y4 ((((p.ax - v.x) * (p.ax - v.x)) + ((p.ay - v.y) * (p.ay - v.y))) + (((p.bx * p.bx) + (p.byy * p.byy)) * p.c)) ((((p.ax - v.x) * p.bx) + ((p.ay - v.y) * p.byy)) + (((p.ax - v.x) * p.bx) + ((p.ay - v.y) * p.byy))) p.c))] (oS (oT 3 oN) (oS (oT 4 (oC (K9 p.ax v.x (by omega)) (oT 4 (oC (K9 p.ay v.y (by omega)) (oT 4 oN))))) (oS (oT 1 oN) (oS (oT 3 (oC (Zf (p.ax - v.x) (p.ax - v.x) (by omega)) (oT 3 (oC (Zf (p.ay - v.y) (p.ay - v.y) (by omega)) (oC (Xaq ((p.ax - v.x) * (p.ax - v.x)) ((p.ay - v.y) * (p.ay - v.y)) (by omega)) (oT 6 (oC (Zf p.bx p.bx (by omega)) (oT 5 (oC (Zf p.byy p.byy (by omega)) (oC (Xaq (p.bx * p.bx) (p.byy * p.byy) (by omega)) (oT 2 (oC (Zf ((p.bx * p.bx) + (p.byy * p.byy)) p.c (by omega)) (oC (Xaq (((p.ax - v.x) * (p.ax - v.x)) + ((p.ay - v.y) * (p.ay - v.y))) (((p.bx * p.bx) + (p.byy * p.byy)) * p.c) (by omega)) (oT 2 oN)))))))))))))) (oS (oT 4 (oC (Zf (p.ax - v.x) p.bx (by omega)) (oT 4 (oC (Zf (p.ay - v.y) p.byy (by omega)) (oC (Xaq ((p.ax - v.x) * p.bx) ((p.ay - v.y) * p.byy) (by omega)) (oT 2 oN)))))) (oS (oT 3 (oC (Xaq (((p.ax - v.x) * p.bx) + ((p.ay - v.y) * p.byy)) (((p.ax - v.x) * p.bx) + ((p.ay - v.y) * p.byy)) (by omega)) (oT 2 (oC (Xet ((((p.ax - v.x) * (p.ax - v.x)) + ((p.ay - v.y) * (p.ay - v.y))) + (((p.bx * p.bx) + (p.byy * p.byy)) * p.c)) ((((p.ax - v.x) * p.bx) + ((p.ay - v.y) * p.byy)) + (((p.ax - v.x) * p.bx) + ((p.ay - v.y) * p.byy))) p.c) (oT 1 oN))))) oN)))))) ?_
 exact Xg (lv Xl (Y4 ((((p.ax - v.x) * (p.ax - v.x)) + ((p.ay - v.y) * (p.ay - v.y))) + (((p.bx * p.bx) + (p.byy * p.byy)) * p.c)) ((((p.ax - v.x) * p.bx) + ((p.ay - v.y) * p.byy)) + (((p.ax - v.x) * p.bx) + ((p.ay - v.y) * p.byy))) p.c) (by unfold Ju; rfl))
def J9 (a : RootV) (b : RootV) : RootV := (bif (decide (Xu b a < 0)) then b else a)
theorem Xmd (a : RootV) (b : RootV) : RootV.ht (J9 a b) ≤ 1 * (RootV.ht a + RootV.ht b) + 0 := by
 rcases X7 (decide (Xu b a < 0)) with k2 | k2
 ·
  rw [show (J9 a b) = b by unfold J9; simp only [k2, X72]]
  omega
 ·
  rw [show (J9 a b) = a by unfold J9; simp only [k2, X72]]
  omega
theorem Xmo (a : RootV) (b : RootV) (hs : RootV.ht a + RootV.ht b ≤ 2147483642) : CS Tryz.prog 65 [Xl a, Xl b] (Xl (J9 a b)) := by
 refine cO 11 Tryz.func65 ?_
 refine rt [tv 2 (pb 2), tv 3 (pb 3), tv 4 (pb 4), bv 2 (Xl a), bv 3 (Xl b), bv 4 X61] (oT 3 oN) ?_
 refine Xe ?_
 refine rt [tv 2 (pb 2), tv 3 (pb 3), tv 4 (pb 4), tv 8 (.bool (decide (Xu b a < 0))), bv 2 (Xl a), bv 3 (Xl b), bv 4 X61] (oT 2 (oC (Xai b a (by omega)) (oO (oB (decide (Xu b a < 0))) (oA [cT (decide (Xu b a < 0))] oN)))) ?_
 refine cB (decide (Xu b a < 0)) (fun h1 => ?_) (fun h1 => ?_)
 ·
  have h1' := of_decide_eq_true h1
  refine rt [tv 2 (pb 2), tv 4 (pb 4), bv 2 (Xl a), bv 4 (Xl b)] (oT 2 oN) ?_
  exact Xg (lv Xl b (by unfold J9; simp only [h1, X72]))
 ·
  have h1' := of_decide_eq_false h1
  refine Xn ?_
  refine rt [tv 4 (pb 4), bv 4 (Xl a)] (oT 2 oN) ?_
  exact Xg (lv Xl a (by unfold J9; simp only [h1, X72]))
def Xp (l : LnV) (p : PtV) : RootV := (Yp (((-l.b) * p.ax) + (l.a * p.ay)) (((-l.b) * p.bx) + (l.a * p.byy)) p.c)
theorem Kf (l : LnV) (p : PtV) : RootV.ht (Xp l p) ≤ 2 * (LnV.ht l + PtV.ht p) + 9 := by
 rw [show (Xp l p) = (Yp (((-l.b) * p.ax) + (l.a * p.ay)) (((-l.b) * p.bx) + (l.a * p.byy)) p.c) by unfold Xp; rfl]
 have := LnV.htd l
 have := Xce l.b
 have := PtV.htd p
 have := Z1 (-l.b) p.ax
 have := Z1 l.a p.ay
 have := Xcc ((-l.b) * p.ax) (l.a * p.ay)
 have := Z1 (-l.b) p.bx
 have := Z1 l.a p.byy
 have := Xcc ((-l.b) * p.bx) (l.a * p.byy)
 have := Xbd (((-l.b) * p.ax) + (l.a * p.ay)) (((-l.b) * p.bx) + (l.a * p.byy)) p.c
 omega
theorem Xfr (l : LnV) (p : PtV) (hs : LnV.ht l + PtV.ht p ≤ 8589934591) : CS Tryz.prog 151 [Xea l, Xr p] (Xl (Xp l p)) := by
 refine cO 33 Tryz.func151 ?_
 have := LnV.htd l
 have := LnV.htd l
 have := Xce l.b
 have := PtV.htd p
 have := Z1 (-l.b) p.ax
 have := Z1 l.a p.ay
 have := Z1 (-l.b) p.bx
 have := Z1 l.a p.byy
 have := Xcc ((-l.b) * p.ax) (l.a * p.ay)
 have := Xcc ((-l.b) * p.bx) (l.a * p.byy)
 refine sh 3 [tv 4 (pb 4), bv 4 (Xl (Yp (((-l.b) * p.ax) + (l.a * p.ay)) (((-l.b) * p.bx) + (l.a * p.byy)) p.c))] (oS (oT 3 oN) (oS (oT 2 (oC (Xc6 l.b (by omega)) (oT 6 oN))) (oS (oT 3 (oC (Xaa (-l.b) p.ax (by omega)) (oT 3 (oC (Xaa l.a p.ay (by omega)) (oC (Xe9 ((-l.b) * p.ax) (l.a * p.ay) (by omega)) (oT 3 (oC (Xaa (-l.b) p.bx (by omega)) (oT 3 (oC (Xaa l.a p.byy (by omega)) (oC (Xe9 ((-l.b) * p.bx) (l.a * p.byy) (by omega)) (oT 2 (oC (Xcf (((-l.b) * p.ax) + (l.a * p.ay)) (((-l.b) * p.bx) + (l.a * p.byy)) p.c (by omega)) (oT 1 oN))))))))))))) oN))) ?_
 exact Xg (lv Xl (Yp (((-l.b) * p.ax) + (l.a * p.ay)) (((-l.b) * p.bx) + (l.a * p.byy)) p.c) (by unfold Xp; rfl))
open Go Go.RowKit
def Xck (c : CrvV) (p : PtV) : Bool := (Xjk c (fun s1 => (decide (Xbr s1.l p = 0))) (fun a2 => (decide (Xaw a2.k p = 0))))
theorem Xhf (c : CrvV) (p : PtV) (hs : CrvV.ht c + PtV.ht p ≤ 2147483644) : CS Tryz.prog 172 [Xz c, Xr p] (.bool (Xck c p)) := by
 refine cO 17 Tryz.func172 ?_
 refine rt [tv 2 (pb 2), tv 3 (pb 3), tv 4 (.bool false), bv 2 (Xz c), bv 3 (Xr p)] (oT 3 oN) ?_
 refine Xe ?_
 refine Xe ?_
 rcases c with s1 | a2
 ·
  refine rh [tv 2 (pb 2), tv 3 (pb 3), tv 4 (.bool false), tv 6 (.bool false), bv 2 (Xz (CrvV.seg s1)), bv 3 (Xr p)] (oT 1 (oO (oB false) (oA [.rptr (.bool false)] oN))) ?_
  refine cB (false) (fun h => Bool.noConfusion h) (fun _ => ?_)
  refine Xn ?_
  refine Xe ?_
  have : CrvV.ht (CrvV.seg s1) = SegV.ht s1 := rfl
  have := SegV.htd s1
  refine rh [tv 4 (.bool (decide (Xbr s1.l p = 0)))] (oT 3 (oC (Xpi s1.l p (by omega)) (oO (oB (decide (Xbr s1.l p = 0))) (oT 1 (oA [cT (decide (Xbr s1.l p = 0))] oN))))) ?_
  exact Xg (lv AV.bool (decide (Xbr s1.l p = 0)) (by unfold Xck; rfl))
 ·
  refine rh [tv 2 (pb 2), tv 3 (pb 3), tv 4 (.bool false), tv 6 (.bool true), bv 2 (Xz (CrvV.arc a2)), bv 3 (Xr p)] (oT 1 (oO (oB true) (oA [.rptr (.bool true)] oN))) ?_
  refine cB (true) (fun _ => ?_) (fun h => Bool.noConfusion h)
  refine Xe ?_
  have : CrvV.ht (CrvV.arc a2) = ArcV.ht a2 := rfl
  have := ArcV.htd a2
  refine rh [tv 2 (pb 2), tv 3 (pb 3), tv 4 (.bool (decide (Xaw a2.k p = 0))), bv 2 (Xz (CrvV.arc a2)), bv 3 (Xr p)] (oT 3 (oC (Xmv a2.k p (by omega)) (oO (oB (decide (Xaw a2.k p = 0))) (oT 1 (oA [cT (decide (Xaw a2.k p = 0))] oN))))) ?_
  exact Xg (lv AV.bool (decide (Xaw a2.k p = 0)) (by unfold Xck; rfl))
def Yf (c : CiV) (p : PtV) : Int := (bif (decide (0 < Yg (Jt p) c.y)) then (bif (decide (Yg (Jt p) c.y = 0)) then 0 else 0) else (bif (decide (Yg (Jt p) c.y = 0)) then (bif (decide (0 < Yg (Ye p) c.x)) then 0 else 1) else 1))
theorem Xmf (c : CiV) (p : PtV) : 0 ≤ Yf c p ∧ Yf c p ≤ 1 := by
 rcases X7 (decide (0 < Yg (Jt p) c.y)) with k5 | k5
 ·
  rcases X7 (decide (Yg (Jt p) c.y = 0)) with k6 | k6
  ·
   rw [show (Yf c p) = 0 by unfold Yf; simp only [k5, k6, X72]]
   omega
  ·
   rw [show (Yf c p) = 0 by unfold Yf; simp only [k5, k6, X72]]
   omega
 ·
  rcases X7 (decide (Yg (Jt p) c.y = 0)) with k7 | k7
  ·
   rcases X7 (decide (0 < Yg (Ye p) c.x)) with k8 | k8
   ·
    rw [show (Yf c p) = 0 by unfold Yf; simp only [k5, k7, k8, X72]]
    omega
   ·
    rw [show (Yf c p) = 1 by unfold Yf; simp only [k5, k7, k8, X72]]
    omega
  ·
   rw [show (Yf c p) = 1 by unfold Yf; simp only [k5, k7, X72]]
   omega
theorem Xml (c : CiV) (p : PtV) (hs : CiV.ht c + PtV.ht p ≤ 2147483633) : CS Tryz.prog 292 [Xbf c, Xr p] (ki (Yf c p)) := by
 refine cO 25 Tryz.func292 ?_
 have := Xnh p
 have := CiV.htd c
 refine sh 2 [tv 2 (pb 2), tv 3 (pb 3), tv 4 (ki 0), tv 5 (ki (Yg (Jt p) c.y)), bv 2 (Xbf c), bv 3 (Xr p)] (oS (oT 3 oN) (oS (oT 1 (oC (Xmy p) (oT 2 (oC (Xfx (Jt p) c.y (by omega)) (oT 1 oN))))) oN)) ?_
 refine Xe ?_
 refine Xe ?_
 rcases X7 (decide (0 < Yg (Jt p) c.y)) with h1 | h1
 ·
  have h1' := of_decide_eq_true h1
  rcases X7 (decide (Yg (Jt p) c.y = 0)) with h2 | h2
  ·
   have h2' := of_decide_eq_true h2
   refine rh [tv 4 (ki 0), tv 24 (.bool true)] (oT 1 (oO (aI trivial (h1 : (decide (0 < Yg (Jt p) c.y)) = true)) (oT 1 (oO (gn [false]) (oO (gn [true]) (oO (gn [true]) (oO (gn [false]) (oO (gn [true]) (oO (gn [false]) (oO (gn [true]) (oO (gn [true, true]) (oO (gn [true]) (oO (gn [true, true]) (oT 1 (oA [cT true, cT true, Xl (Ye p), ki (Yg (Ye p) c.x), cT (decide (0 < Yg (Ye p) c.x))] oN))))))))))))))) ?_
   refine cB (true) (fun _ => ?_) (fun h => Bool.noConfusion h)
   refine rt [tv 4 (ki 0)] (oT 1 oN) ?_
   exact Xg (lv ki 0 (by unfold Yf; simp only [h1, h2, X72]))
  ·
   have h2' := of_decide_eq_false h2
   refine rh [tv 4 (ki 0), tv 24 (.bool true)] (oT 1 (oO (aI trivial (h1 : (decide (0 < Yg (Jt p) c.y)) = true)) (oT 1 (oO (gn [false]) (oO (gn [true]) (oO (gn [true]) (oO (gn [false]) (oO (gn [true]) (oO (gn [false]) (oO (gn [true]) (oO (gn [true, true]) (oO (gn [true]) (oO (gn [true, true]) (oT 1 (oA [cT true, cT false, Xl (Ye p), ki (Yg (Ye p) c.x), cT (decide (0 < Yg (Ye p) c.x))] oN))))))))))))))) ?_
   refine cB (true) (fun _ => ?_) (fun h => Bool.noConfusion h)
   refine rt [tv 4 (ki 0)] (oT 1 oN) ?_
   exact Xg (lv ki 0 (by unfold Yf; simp only [h1, h2, X72]))
 ·
  have h1' := of_decide_eq_false h1
  rcases X7 (decide (Yg (Jt p) c.y = 0)) with h3 | h3
  ·
   have h3' := of_decide_eq_true h3
   have := Xhz p
   have := CiV.htd c
   refine rh [tv 4 (ki 0), tv 24 (.bool (decide (0 < Yg (Ye p) c.x)))] (oT 1 (oO (aI trivial (h1 : (decide (0 < Yg (Jt p) c.y)) = false)) (oT 1 (oO (Xh 1 trivial) (oO (Xh 1 (aI trivial (h3 : (decide (Yg (Jt p) c.y = 0)) = true))) (oO (Xh 1 trivial) (oO (Xh 1 trivial) (oO (Xh 1 (Xh8 p)) (oO (Xh 1 trivial) (oO (Xh 1 trivial) (oO (Xh 2 (Xfx (Ye p) c.x (by omega))) (oO (Xh 1 (oB (decide (0 < Yg (Ye p) c.x)))) (oO (Xh 2 trivial) (oT 1 (oA [cT false, cT true, Xl (Ye p), ki (Yg (Ye p) c.x), cT (decide (0 < Yg (Ye p) c.x))] oN))))))))))))))) ?_
   refine cB (decide (0 < Yg (Ye p) c.x)) (fun h4 => ?_) (fun h4 => ?_)
   ·
    have h4' := of_decide_eq_true h4
    refine rt [tv 4 (ki 0)] (oT 1 oN) ?_
    exact Xg (lv ki 0 (by unfold Yf; simp only [h1, h3, h4, X72]))
   ·
    have h4' := of_decide_eq_false h4
    refine Xn ?_
    refine rt [tv 4 (ki 1)] (oT 1 oN) ?_
    exact Xg (lv ki 1 (by unfold Yf; simp only [h1, h3, h4, X72]))
  ·
   have h3' := of_decide_eq_false h3
   refine rh [tv 4 (ki 0), tv 24 (.bool false)] (oT 1 (oO (aI trivial (h1 : (decide (0 < Yg (Jt p) c.y)) = false)) (oT 1 (oO (Xh 1 trivial) (oO (Xh 1 (aI trivial (h3 : (decide (Yg (Jt p) c.y = 0)) = false))) (oO (Xh 1 trivial) (oO (gn [false]) (oO (gn [true]) (oO (gn [false]) (oO (gn [true]) (oO (gn [true, true]) (oO (gn [true]) (oO (Xh 1 trivial) (oT 1 (oA [cT false, cT false, Xl (Ye p), ki (Yg (Ye p) c.x), cT (decide (0 < Yg (Ye p) c.x))] oN))))))))))))))) ?_
   refine cB (false) (fun h => Bool.noConfusion h) (fun _ => ?_)
   refine Xn ?_
   refine rt [tv 4 (ki 1)] (oT 1 oN) ?_
   exact Xg (lv ki 1 (by unfold Yf; simp only [h1, h3, X72]))
def Xcj (n : Int) : Int := (X6v 1 (X71 (-1) n))
theorem Xmg (n : Int) : CS Tryz.prog 275 [ki n] (ki (Xcj n)) := by
 refine cO 6 Tryz.func275 ?_
 refine sh 2 [tv 2 (ki (X6v 1 (X71 (-1) n)))] (oS (oT 1 oN) (oS (oT 1 (oO (oB (X71 (-1) n)) (oO (oB (X6v 1 (X71 (-1) n))) (oT 1 (oA [.tup [ki (X71 (-1) n)], .tup [ki (X6v 1 (X71 (-1) n))]] oN))))) oN)) ?_
 exact Xg (lv ki (X6v 1 (X71 (-1) n)) (by unfold Xcj; rfl))
def Xgc (c : CrvV) : CrvV := (Xjk c (fun s1 => (CrvV.seg (⟨s1.l, s1.t, s1.f⟩ : SegV))) (fun a2 => (CrvV.arc (⟨a2.k, (!a2.cw), a2.t, a2.f⟩ : ArcV))))
theorem Xob (c : CrvV) : CS Tryz.prog 273 [Xz c] (Xz (Xgc c)) := by
 refine Xge (N := 18) X6y Tryz.func273 rfl rfl rfl rfl rfl (X23 _) ?_
 refine rt [tv 1 (pb 1), tv 2 (pb 2), bv 1 (Xz c), bv 2 (.st [.bool false, X61, X61, .bool false, X7q, X7q])] (oT 2 oN) ?_
 refine Xe ?_
 rcases c with s1 | a2
 ·
  refine rh [tv 1 (pb 1), tv 2 (pb 2), bv 1 (.st [.bool false, Xea s1.l, X61, .bool false, Xr s1.t, Xr s1.f]), bv 2 (.st [.bool false, X61, X61, .bool false, X7q, X7q])] (oT 8 oN) ?_
  refine sh 2 [tv 2 (pb 2), bv 2 (.st [.bool false, Xea s1.l, X61, .bool false, Xr s1.t, Xr s1.f])] (oS (oT 1 (oO (oB false) (oT 1 (oO (gn [false]) (oO (gn [true]) (oO (gn [true]) (oT 3 oN))))))) (oS (oT 2 (oA [.rptr (.bool false), .rptr (.bool false), .rptr (.bool true)] oN)) oN)) ?_
  exact Xg (lv Xz (CrvV.seg (⟨s1.l, s1.t, s1.f⟩ : SegV)) (by unfold Xgc; rfl))
 ·
  refine rh [tv 1 (pb 1), tv 2 (pb 2), bv 1 (.st [.bool true, X61, Xbf a2.k, .bool a2.cw, Xr a2.t, Xr a2.f]), bv 2 (.st [.bool false, X61, X61, .bool false, X7q, X7q])] (oT 8 oN) ?_
  refine sh 2 [tv 2 (pb 2), bv 2 (.st [.bool true, X61, Xbf a2.k, .bool (!a2.cw), Xr a2.t, Xr a2.f])] (oS (oT 1 (oO (oB true) (oT 1 (oO (Xh 1 trivial) (oO (Xh 1 (oB a2.cw)) (oO (Xh 1 (oB (!a2.cw))) (oT 3 oN))))))) (oS (oT 2 (oA [.rptr (.bool true), .rptr (.bool a2.cw), .rptr (.bool (!a2.cw))] oN)) oN)) ?_
  exact Xg (lv Xz (CrvV.arc (⟨a2.k, (!a2.cw), a2.t, a2.f⟩ : ArcV)) (by unfold Xgc; rfl))
def Kh (s : SegV) (p : PtV) : Bool := (bif (decide (0 < Xu (Xp s.l s.f) (Xp s.l s.t))) then (bif (decide (Xu (Xp s.l s.t) (Xp s.l p) ≤ 0)) then (decide (Xu (Xp s.l p) (Xp s.l s.f) ≤ 0)) else false) else (bif (decide (Xu (Xp s.l s.f) (Xp s.l p) ≤ 0)) then (decide (Xu (Xp s.l p) (Xp s.l s.t) ≤ 0)) else false))
theorem Xlz (s : SegV) (p : PtV) (hs : SegV.ht s + PtV.ht p ≤ 536870906) : CS Tryz.prog 67 [Xz (CrvV.seg s), Xr p] (.bool (Kh s p)) := by
 refine cO 38 Tryz.func67 ?_
 have := SegV.htd s
 refine sh 2 [tv 4 (.bool false), tv 5 (pb 5), tv 6 (pb 6), tv 7 (pb 7), bv 5 (Xl (Xp s.l p)), bv 6 (Xl (Xp s.l s.f)), bv 7 (Xl (Xp s.l s.t))] (oS (oT 3 oN) (oS (oT 3 (oC (Xfr s.l p (by omega)) (oT 4 (oC (Xfr s.l s.f (by omega)) (oT 4 (oC (Xfr s.l s.t (by omega)) (oT 6 oN))))))) oN)) ?_
 refine Xe ?_
 refine Xe ?_
 have := SegV.htd s
 have := Kf s.l s.f
 have := Kf s.l s.t
 refine rh [tv 4 (.bool false), tv 5 (pb 5), tv 6 (pb 6), tv 7 (pb 7), tv 25 (.bool (decide (0 < Xu (Xp s.l s.f) (Xp s.l s.t)))), bv 5 (Xl (Xp s.l p)), bv 6 (Xl (Xp s.l s.f)), bv 7 (Xl (Xp s.l s.t))] (oT 2 (oC (Xai (Xp s.l s.f) (Xp s.l s.t) (by omega)) (oO (oB (decide (0 < Xu (Xp s.l s.f) (Xp s.l s.t)))) (oA [cT (decide (0 < Xu (Xp s.l s.f) (Xp s.l s.t)))] oN)))) ?_
 refine cB (decide (0 < Xu (Xp s.l s.f) (Xp s.l s.t))) (fun h1 => ?_) (fun h1 => ?_)
 ·
  have h1' := of_decide_eq_true h1
  refine rh [tv 4 (.bool false), tv 5 (pb 5), tv 6 (pb 6), tv 7 (pb 7), bv 5 (Xl (Xp s.l p)), bv 6 (Xl (Xp s.l s.t)), bv 7 (Xl (Xp s.l s.f))] (oT 4 oN) ?_
  refine Xe ?_
  rcases X7 (decide (Xu (Xp s.l s.t) (Xp s.l p) ≤ 0)) with h2 | h2
  ·
   have h2' := of_decide_eq_true h2
   have := SegV.htd s
   have := Kf s.l s.t
   have := Kf s.l p
   have := Kf s.l s.f
   refine rh [tv 4 (.bool (decide (Xu (Xp s.l p) (Xp s.l s.f) ≤ 0)))] (oT 2 (oC (Xai (Xp s.l s.t) (Xp s.l p) (by omega)) (oO (aI trivial (h2 : (decide (Xu (Xp s.l s.t) (Xp s.l p) ≤ 0)) = true)) (oT 1 (oO (Xh 1 trivial) (oO (Xh 1 trivial) (oO (Xh 2 (Xai (Xp s.l p) (Xp s.l s.f) (by omega))) (oO (Xh 1 (oB (decide (Xu (Xp s.l p) (Xp s.l s.f) ≤ 0)))) (oT 2 (oA [cT true, ki (Xu (Xp s.l p) (Xp s.l s.f)), cT (decide (Xu (Xp s.l p) (Xp s.l s.f) ≤ 0))] oN)))))))))) ?_
   exact Xg (lv AV.bool (decide (Xu (Xp s.l p) (Xp s.l s.f) ≤ 0)) (by unfold Kh; simp only [h1, h2, X72]))
  ·
   have h2' := of_decide_eq_false h2
   have := SegV.htd s
   have := Kf s.l s.t
   have := Kf s.l p
   refine rh [tv 4 (.bool false)] (oT 2 (oC (Xai (Xp s.l s.t) (Xp s.l p) (by omega)) (oO (aI trivial (h2 : (decide (Xu (Xp s.l s.t) (Xp s.l p) ≤ 0)) = false)) (oT 1 (oO (gn [false]) (oO (gn [false]) (oO (gn [true, true]) (oO (gn [true]) (oT 2 (oA [cT false, ki (Xu (Xp s.l p) (Xp s.l s.f)), cT (decide (Xu (Xp s.l p) (Xp s.l s.f) ≤ 0))] oN)))))))))) ?_
   exact Xg (lv AV.bool false (by unfold Kh; simp only [h1, h2, X72]))
 ·
  have h1' := of_decide_eq_false h1
  refine Xn ?_
  refine Xe ?_
  rcases X7 (decide (Xu (Xp s.l s.f) (Xp s.l p) ≤ 0)) with h3 | h3
  ·
   have h3' := of_decide_eq_true h3
   have := SegV.htd s
   have := Kf s.l s.f
   have := Kf s.l p
   have := Kf s.l s.t
   refine rh [tv 4 (.bool (decide (Xu (Xp s.l p) (Xp s.l s.t) ≤ 0)))] (oT 2 (oC (Xai (Xp s.l s.f) (Xp s.l p) (by omega)) (oO (aI trivial (h3 : (decide (Xu (Xp s.l s.f) (Xp s.l p) ≤ 0)) = true)) (oT 1 (oO (Xh 1 trivial) (oO (Xh 1 trivial) (oO (Xh 2 (Xai (Xp s.l p) (Xp s.l s.t) (by omega))) (oO (Xh 1 (oB (decide (Xu (Xp s.l p) (Xp s.l s.t) ≤ 0)))) (oT 2 (oA [cT true, ki (Xu (Xp s.l p) (Xp s.l s.t)), cT (decide (Xu (Xp s.l p) (Xp s.l s.t) ≤ 0))] oN)))))))))) ?_
   exact Xg (lv AV.bool (decide (Xu (Xp s.l p) (Xp s.l s.t) ≤ 0)) (by unfold Kh; simp only [h1, h3, X72]))
  ·
   have h3' := of_decide_eq_false h3
   have := SegV.htd s
   have := Kf s.l s.f
   have := Kf s.l p
   refine rh [tv 4 (.bool false)] (oT 2 (oC (Xai (Xp s.l s.f) (Xp s.l p) (by omega)) (oO (aI trivial (h3 : (decide (Xu (Xp s.l s.f) (Xp s.l p) ≤ 0)) = false)) (oT 1 (oO (gn [false]) (oO (gn [false]) (oO (gn [true, true]) (oO (gn [true]) (oT 2 (oA [cT false, ki (Xu (Xp s.l p) (Xp s.l s.t)), cT (decide (Xu (Xp s.l p) (Xp s.l s.t) ≤ 0))] oN)))))))))) ?_
   exact Xg (lv AV.bool false (by unfold Kh; simp only [h1, h3, X72]))
def Xv (a : ArcV) : VecV := (⟨a.k.x, a.k.y⟩ : VecV)
theorem Xcu (a : ArcV) : VecV.ht (Xv a) ≤ 1 * ArcV.ht a + 0 := by
 rw [show (Xv a) = (⟨a.k.x, a.k.y⟩ : VecV) by unfold Xv; rfl]
 have := ArcV.htd a
 have := CiV.htd a.k
 have := VecV.htm a.k.x a.k.y
 omega
theorem Xlw (a : ArcV) : CS Tryz.prog 73 [Xz (CrvV.arc a)] (Xt (Xv a)) := by
 refine cO 10 Tryz.func73 ?_
 refine sh 2 [tv 2 (pb 2), bv 2 (Xt (⟨a.k.x, a.k.y⟩ : VecV))] (oS (oT 2 oN) (oS (oT 8 oN) oN)) ?_
 exact Xg (lv Xt (⟨a.k.x, a.k.y⟩ : VecV) (by unfold Xv; rfl))
def X0 (a : ArcV) : ArcV := (bif a.cw then (⟨a.k, (!a.cw), a.t, a.f⟩ : ArcV) else a)
theorem Xhk (a : ArcV) : ArcV.ht (X0 a) ≤ 1 * ArcV.ht a + 0 := by
 rcases X7 a.cw with k2 | k2
 ·
  rw [show (X0 a) = (⟨a.k, (!a.cw), a.t, a.f⟩ : ArcV) by unfold X0; simp only [k2, X72]]
  have := ArcV.htd a
  have := ArcV.htm a.k (!a.cw) a.t a.f
  omega
 ·
  rw [show (X0 a) = a by unfold X0; simp only [k2, X72]]
  omega
theorem Xhp (a : ArcV) : CS Tryz.prog 233 [Xz (CrvV.arc a)] (Xz (CrvV.arc (X0 a))) := by
 refine cO 8 Tryz.func233 ?_
 refine rt [tv 1 (pb 1), tv 2 (pb 2), bv 1 (Xz (CrvV.arc a)), bv 2 (.st [.bool false, X61, X61, .bool false, X7q, X7q])] (oT 2 oN) ?_
 refine Xe ?_
 refine rt [tv 1 (pb 1), tv 2 (pb 2), tv 4 (.bool a.cw), bv 1 (Xz (CrvV.arc a)), bv 2 (.st [.bool false, X61, X61, .bool false, X7q, X7q])] (oT 1 (oO (oB a.cw) (oA [.rptr (.bool a.cw)] oN))) ?_
 refine cB (a.cw) (fun h1 => ?_) (fun h1 => ?_)
 ·
  refine rt [tv 1 (pb 1), tv 2 (pb 2), bv 1 (Xz (CrvV.arc a)), bv 2 (Xz (CrvV.arc (⟨a.k, (!a.cw), a.t, a.f⟩ : ArcV)))] (oT 1 (oO (Jl (Xob (CrvV.arc a)) rfl : CS Tryz.prog 273 [Xz (CrvV.arc a)] (Xz (CrvV.arc (⟨a.k, (!a.cw), a.t, a.f⟩ : ArcV)))) (oT 1 (oA [Xz (CrvV.arc (⟨a.k, (!a.cw), a.t, a.f⟩ : ArcV))] oN)))) ?_
  refine Xg ?_
  have hl : (X0 a) = (⟨a.k, (!a.cw), a.t, a.f⟩ : ArcV) := by unfold X0; simp only [h1, X72]
  show Xca TL _ _ = some (Xz (CrvV.arc (X0 a)))
  rw [hl]; kernel_rfl
 ·
  refine Xn ?_
  refine rt [tv 2 (pb 2), bv 2 (Xz (CrvV.arc a))] (oT 2 oN) ?_
  refine Xg ?_
  have hl : (X0 a) = a := by unfold X0; simp only [h1, X72]
  show Xca TL _ _ = some (Xz (CrvV.arc (X0 a)))
  rw [hl]; kernel_rfl
def Zs (c : CiV) (p : PtV) (q : PtV) : Int := (bif (!(decide (Yf c p = Yf c q))) then (Yf c p - Yf c q) else (bif (decide (Yf c p = 0)) then (-(Xu (Ye p) (Ye q))) else (Xu (Ye p) (Ye q))))
theorem Xjp (c : CiV) (p : PtV) (q : PtV) (hs : CiV.ht c + PtV.ht p + PtV.ht q ≤ 2147483633) : CS Tryz.prog 276 [Xbf c, Xr p, Xr q] (ki (Zs c p q)) := by
 refine cO 32 Tryz.func276 ?_
 refine sh 2 [tv 4 (pb 4), tv 5 (pb 5), tv 6 (ki 0), tv 7 (ki (Yf c p)), tv 8 (ki (Yf c q)), bv 4 (Xr p), bv 5 (Xr q)] (oS (oT 4 oN) (oS (oT 2 (oC (Xml c p (by omega)) (oT 2 (oC (Xml c q (by omega)) (oT 2 oN))))) oN)) ?_
 refine Xe ?_
 refine rt [tv 4 (pb 4), tv 5 (pb 5), tv 6 (ki 0), tv 7 (ki (Yf c p)), tv 8 (ki (Yf c q)), tv 18 (.bool (!(decide (Yf c p = Yf c q)))), bv 4 (Xr p), bv 5 (Xr q)] (oT 2 (oO (oB (!(decide (Yf c p = Yf c q)))) (oA [cT (!(decide (Yf c p = Yf c q)))] oN))) ?_
 refine cB ((!(decide (Yf c p = Yf c q)))) (fun h1 => ?_) (fun h1 => ?_)
 ·
  have h1' := of_decide_eq_false (Xdt h1)
  refine Xe ?_
  have := (Xmf c p)
  have := (Xmf c q)
  refine rh [tv 4 (pb 4), tv 5 (pb 5), tv 6 (ki (Yf c p - Yf c q)), tv 7 (ki (Yf c p)), bv 4 (Xr p), bv 5 (Xr q)] (oT 2 (oO (Yw (x := (Yf c p)) (y := (Yf c q)) (by omega) (by omega)) (oT 1 (oA [ki (Yf c p - Yf c q)] oN)))) ?_
  exact Xg (lv ki (Yf c p - Yf c q) (by unfold Zs; simp only [h1, Xdt h1, X72]))
 ·
  have h1' := of_decide_eq_true (Xas h1)
  refine Xn ?_
  refine Xe ?_
  have := Xhz p
  have := Xhz q
  refine rh [tv 6 (ki 0), tv 7 (ki (Yf c p)), tv 9 (ki (Xu (Ye p) (Ye q)))] (oT 1 (oC (Xh8 p) (oT 1 (oC (Xh8 q) (oC (Xai (Ye p) (Ye q) (by omega)) (oT 1 oN)))))) ?_
  refine Xe ?_
  refine rt [tv 6 (ki 0), tv 9 (ki (Xu (Ye p) (Ye q))), tv 28 (.bool (decide (Yf c p = 0)))] (oT 1 (oO (oB (decide (Yf c p = 0))) (oA [cT (decide (Yf c p = 0))] oN))) ?_
  refine cB (decide (Yf c p = 0)) (fun h2 => ?_) (fun h2 => ?_)
  ·
   have h2' := of_decide_eq_true h2
   refine Xe ?_
   have := (Xqn (Ye p) (Ye q))
   refine rh [tv 6 (ki (-(Xu (Ye p) (Ye q)))), tv 9 (ki (Xu (Ye p) (Ye q)))] (oT 1 (oO (Xhm (by omega) (by omega) : (-(Xu (Ye p) (Ye q))) = IntKind.i64.wrap (0 - Xu (Ye p) (Ye q))) (oT 1 (oA [ki (-(Xu (Ye p) (Ye q)))] oN)))) ?_
   exact Xg (lv ki (-(Xu (Ye p) (Ye q))) (by unfold Zs; simp only [h1, Xas h1, h2, X72]))
  ·
   have h2' := of_decide_eq_false h2
   refine Xn ?_
   refine rt [tv 6 (ki (Xu (Ye p) (Ye q)))] (oT 2 oN) ?_
   exact Xg (lv ki (Xu (Ye p) (Ye q)) (by unfold Zs; simp only [h1, Xas h1, h2, X72]))
def Yo (c : CiV) (from' : PtV) (p : PtV) : Int := (bif (decide (Zs c p from' = 0)) then 0 else (bif (decide (0 < Zs c p from')) then 1 else 2))
theorem Xk5 (c : CiV) (from' : PtV) (p : PtV) : 0 ≤ Yo c from' p ∧ Yo c from' p ≤ 2 := by
 rcases X7 (decide (Zs c p from' = 0)) with k3 | k3
 ·
  rw [show (Yo c from' p) = 0 by unfold Yo; simp only [k3, X72]]
  omega
 ·
  rcases X7 (decide (0 < Zs c p from')) with k4 | k4
  ·
   rw [show (Yo c from' p) = 1 by unfold Yo; simp only [k3, k4, X72]]
   omega
  ·
   rw [show (Yo c from' p) = 2 by unfold Yo; simp only [k3, k4, X72]]
   omega
theorem Xk3 (c : CiV) (from' : PtV) (p : PtV) (hs : CiV.ht c + PtV.ht from' + PtV.ht p ≤ 2147483633) : CS Tryz.prog 274 [Xbf c, Xr from', Xr p] (ki (Yo c from' p)) := by
 refine cO 18 Tryz.func274 ?_
 refine sh 2 [tv 6 (ki 0), tv 7 (ki (Zs c p from'))] (oS (oT 4 oN) (oS (oT 3 (oC (Xjp c p from' (by omega)) (oT 1 oN))) oN)) ?_
 refine Xe ?_
 refine X6 ?_
 refine rt [tv 6 (ki 0), tv 7 (ki (Zs c p from')), tv 12 (.bool (decide (Zs c p from' = 0)))] (oT 1 (oO (oB (decide (Zs c p from' = 0))) (oT 1 (oA [cT (decide (Zs c p from' = 0))] oN)))) ?_
 refine cB (decide (Zs c p from' = 0)) (fun h1 => ?_) (fun h1 => ?_)
 ·
  have h1' := of_decide_eq_true h1
  refine rt [tv 6 (ki 0)] (oT 1 oN) ?_
  exact Xg (lv ki 0 (by unfold Yo; simp only [h1, X72]))
 ·
  have h1' := of_decide_eq_false h1
  refine rt [tv 6 (ki 0), tv 15 (.bool (decide (0 < Zs c p from')))] (oT 1 (oO (oB (decide (0 < Zs c p from'))) (oT 1 (oA [cT (decide (0 < Zs c p from'))] oN)))) ?_
  refine cB (decide (0 < Zs c p from')) (fun h2 => ?_) (fun h2 => ?_)
  ·
   have h2' := of_decide_eq_true h2
   refine rt [tv 6 (ki 1)] (oT 1 oN) ?_
   exact Xg (lv ki 1 (by unfold Yo; simp only [h1, h2, X72]))
  ·
   have h2' := of_decide_eq_false h2
   refine Xn ?_
   refine rt [tv 6 (ki 2)] (oT 1 oN) ?_
   exact Xg (lv ki 2 (by unfold Yo; simp only [h1, h2, X72]))
def Xcn (c : CiV) (from' : PtV) (p : PtV) (q : PtV) : Int := (bif (!(decide (Yo c from' p = Yo c from' q))) then (Xcj (Yo c from' p - Yo c from' q)) else (Xcj (Zs c p q)))
theorem Xsa (c : CiV) (from' : PtV) (p : PtV) (q : PtV) (hs : CiV.ht c + PtV.ht from' + PtV.ht p + PtV.ht q ≤ 2147483633) : CS Tryz.prog 234 [Xbf c, Xr from', Xr p, Xr q] (ki (Xcn c from' p q)) := by
 refine cO 31 Tryz.func234 ?_
 refine rt [tv 4 (pb 4), tv 5 (pb 5), tv 6 (pb 6), tv 7 (pb 7), tv 8 (ki 0), bv 4 (Xbf c), bv 5 (Xr from'), bv 6 (Xr p), bv 7 (Xr q)] (oT 5 oN) ?_
 refine Xe ?_
 refine sh 2 [tv 4 (pb 4), tv 6 (pb 6), tv 7 (pb 7), tv 8 (ki 0), tv 9 (ki (Yo c from' p)), tv 10 (ki (Yo c from' q)), tv 21 (.bool (!(decide (Yo c from' p = Yo c from' q)))), bv 4 (Xbf c), bv 6 (Xr p), bv 7 (Xr q)] (oS (oT 3 (oC (Xk3 c from' p (by omega)) (oT 3 (oC (Xk3 c from' q (by omega)) (oT 2 oN))))) (oS (oT 2 (oO (oB (!(decide (Yo c from' p = Yo c from' q)))) (oA [cT (!(decide (Yo c from' p = Yo c from' q)))] oN))) oN)) ?_
 refine cB ((!(decide (Yo c from' p = Yo c from' q)))) (fun h1 => ?_) (fun h1 => ?_)
 ·
  have h1' := of_decide_eq_false (Xdt h1)
  refine Xe ?_
  have := (Xk5 c from' p)
  have := (Xk5 c from' q)
  refine rh [tv 4 (pb 4), tv 6 (pb 6), tv 7 (pb 7), tv 8 (ki (Xcj (Yo c from' p - Yo c from' q))), bv 4 (Xbf c), bv 6 (Xr p), bv 7 (Xr q)] (oT 2 (oO (Yw (x := (Yo c from' p)) (y := (Yo c from' q)) (by omega) (by omega)) (oA [ki (Yo c from' p - Yo c from' q)] (oC (Xmg (Yo c from' p - Yo c from' q)) (oT 1 oN))))) ?_
  exact Xg (lv ki (Xcj (Yo c from' p - Yo c from' q)) (by unfold Xcn; simp only [h1, Xdt h1, X72]))
 ·
  have h1' := of_decide_eq_true (Xas h1)
  refine Xn ?_
  refine rt [tv 8 (ki (Xcj (Zs c p q)))] (oT 3 (oC (Xjp c p q (by omega)) (oC (Xmg (Zs c p q)) (oT 1 oN)))) ?_
  exact Xg (lv ki (Xcj (Zs c p q)) (by unfold Xcn; simp only [h1, Xas h1, X72]))
def Xah (c : CrvV) (p : PtV) : Bool := (Xjk c (fun s1 => (bif (decide (Yu s1.f p = 0)) then true else (bif (decide (Yu p s1.t = 0)) then true else (decide (Yu s1.f p = Yu p s1.t))))) (fun a2 => (decide (Xcn ((X0 a2).k) ((X0 a2).f) p ((X0 a2).t) ≤ 0))))
theorem Xog (c : CrvV) (p : PtV) (hs : CrvV.ht c + PtV.ht p ≤ 715827877) : CS Tryz.prog 173 [Xz c, Xr p] (.bool (Xah c p)) := by
 refine cO 41 Tryz.func173 ?_
 refine rt [tv 2 (pb 2), tv 3 (pb 3), tv 4 (.bool false), bv 2 (Xz c), bv 3 (Xr p)] (oT 3 oN) ?_
 refine Xe ?_
 refine Xe ?_
 rcases c with s1 | a2
 ·
  refine rh [tv 2 (pb 2), tv 3 (pb 3), tv 4 (.bool false), tv 10 (.bool true), bv 2 (Xz (CrvV.seg s1)), bv 3 (Xr p)] (oT 1 (oO (oB false) (oO (oB true) (oA [.rptr (.bool false), .rptr (.bool true)] oN)))) ?_
  refine cB (true) (fun _ => ?_) (fun h => Bool.noConfusion h)
  refine Xe ?_
  have : CrvV.ht (CrvV.seg s1) = SegV.ht s1 := rfl
  have := SegV.htd s1
  refine rh [tv 2 (pb 2), tv 3 (pb 3), tv 4 (.bool false), tv 5 (ki (Yu s1.f p)), tv 6 (ki (Yu p s1.t)), bv 2 (Xz (CrvV.seg s1)), bv 3 (Xr p)] (oT 3 (oC (Xjc s1.f p (by omega)) (oT 3 (oC (Xjc p s1.t (by omega)) (oT 2 oN))))) ?_
  refine Xe ?_
  rcases X7 (decide (Yu s1.f p = 0)) with h3 | h3
  ·
   have h3' := of_decide_eq_true h3
   refine rh [tv 2 (pb 2), tv 3 (pb 3), tv 4 (.bool true), bv 2 (Xz (CrvV.seg s1)), bv 3 (Xr p)] (oT 1 (oO (aI trivial (h3 : (decide (Yu s1.f p = 0)) = true)) (oT 1 (oO (gn [false]) (oO (gn [true]) (oT 2 (oO (gn [false]) (oO (gn [false]) (oO (gn [true, true]) (oT 2 (oA [cT true, cT (decide (Yu p s1.t = 0)), cT (decide (Yu s1.f p = Yu p s1.t))] oN))))))))))) ?_
   exact Xg (lv AV.bool true (by unfold Xah; simp only [h3, X72]))
  ·
   have h3' := of_decide_eq_false h3
   rcases X7 (decide (Yu p s1.t = 0)) with h4 | h4
   ·
    have h4' := of_decide_eq_true h4
    refine rh [tv 2 (pb 2), tv 3 (pb 3), tv 4 (.bool true), bv 2 (Xz (CrvV.seg s1)), bv 3 (Xr p)] (oT 1 (oO (aI trivial (h3 : (decide (Yu s1.f p = 0)) = false)) (oT 1 (oO (Xh 1 trivial) (oO (Xh 1 (aI trivial (h4 : (decide (Yu p s1.t = 0)) = true))) (oT 2 (oO (gn [false]) (oO (gn [false]) (oO (gn [true, true]) (oT 2 (oA [cT false, cT true, cT (decide (Yu s1.f p = Yu p s1.t))] oN))))))))))) ?_
    exact Xg (lv AV.bool true (by unfold Xah; simp only [h3, h4, X72]))
   ·
    have h4' := of_decide_eq_false h4
    refine rh [tv 2 (pb 2), tv 3 (pb 3), tv 4 (.bool (decide (Yu s1.f p = Yu p s1.t))), bv 2 (Xz (CrvV.seg s1)), bv 3 (Xr p)] (oT 1 (oO (aI trivial (h3 : (decide (Yu s1.f p = 0)) = false)) (oT 1 (oO (Xh 1 trivial) (oO (Xh 1 (aI trivial (h4 : (decide (Yu p s1.t = 0)) = false))) (oT 2 (oO (Xh 1 trivial) (oO (Xh 1 trivial) (oO (Xh 2 (oB (decide (Yu s1.f p = Yu p s1.t)))) (oT 2 (oA [cT false, cT false, cT (decide (Yu s1.f p = Yu p s1.t))] oN))))))))))) ?_
    exact Xg (lv AV.bool (decide (Yu s1.f p = Yu p s1.t)) (by unfold Xah; simp only [h3, h4, X72]))
 ·
  refine rh [tv 2 (pb 2), tv 3 (pb 3), tv 4 (.bool false), tv 10 (.bool false), bv 2 (Xz (CrvV.arc a2)), bv 3 (Xr p)] (oT 1 (oO (oB true) (oO (oB false) (oA [.rptr (.bool true), .rptr (.bool false)] oN)))) ?_
  refine cB (false) (fun h => Bool.noConfusion h) (fun _ => ?_)
  refine Xn ?_
  have : CrvV.ht (CrvV.arc a2) = ArcV.ht a2 := rfl
  have := Xhk a2
  have : ArcV.ht (X0 a2) = CiV.ht ((X0 a2).k) + PtV.ht ((X0 a2).f) + PtV.ht ((X0 a2).t) := rfl
  refine sh 2 [tv 4 (.bool (decide (Xcn ((X0 a2).k) ((X0 a2).f) p ((X0 a2).t) ≤ 0)))] (oS (oT 1 (oC (Xhp a2) (oT 2 oN))) (oS (oT 7 (oC (Xsa ((X0 a2).k) ((X0 a2).f) p ((X0 a2).t) (by omega)) (oO (oB (decide (Xcn ((X0 a2).k) ((X0 a2).f) p ((X0 a2).t) ≤ 0))) (oT 1 (oA [cT (decide (Xcn ((X0 a2).k) ((X0 a2).f) p ((X0 a2).t) ≤ 0))] oN))))) oN)) ?_
  exact Xg (lv AV.bool (decide (Xcn ((X0 a2).k) ((X0 a2).f) p ((X0 a2).t) ≤ 0)) (by unfold Xah; rfl))
def Xes (c : CrvV) (p : PtV) : Bool := (bif (Xck c p) then (Xah c p) else false)
theorem Xu9 (c : CrvV) (p : PtV) (hs : CrvV.ht c + PtV.ht p ≤ 715827877) : CS Tryz.prog 89 [Xz c, Xr p] (.bool (Xes c p)) := by
 refine cO 13 Tryz.func89 ?_
 refine rt [tv 2 (pb 2), tv 3 (pb 3), tv 4 (.bool false), bv 2 (Xz c), bv 3 (Xr p)] (oT 3 oN) ?_
 refine Xe ?_
 rcases X7 (Xck c p) with h1 | h1
 ·
  refine rh [tv 4 (.bool (Xah c p))] (oT 2 (oO (Jl (Xhf c p (by omega)) (by rw [h1]) : CS Tryz.prog 172 [Xz c, Xr p] (.bool true)) (oT 1 (oO (Xh 1 trivial) (oO (Xh 1 trivial) (oO (Xh 2 (Xog c p (by omega))) (oT 2 (oA [.bool true, .bool (Xah c p)] oN)))))))) ?_
  exact Xg (lv AV.bool (Xah c p) (by unfold Xes; simp only [h1, X72]))
 ·
  refine rh [tv 4 (.bool false)] (oT 2 (oO (Jl (Xhf c p (by omega)) (by rw [h1]) : CS Tryz.prog 172 [Xz c, Xr p] (.bool false)) (oT 1 (oO (gn [false]) (oO (gn [false]) (oO (gn [true, true]) (oT 2 (oA [.bool false, .bool (Xah c p)] oN)))))))) ?_
  exact Xg (lv AV.bool false (by unfold Xes; simp only [h1, X72]))
def Ki (c : CrvV) (d' : VecV) : Bool := (Xjk c (fun s1 => false) (fun a2 => (bif (Xbc d') then true else (Xfb (Jv (Yp a2.k.x d'.x (Ya a2.k.q (Xq d' d'))) (Yp a2.k.y d'.y (Ya a2.k.q (Xq d' d')))) (fun r5 => (Xes (CrvV.arc a2) r5)) false))))
theorem Xmj (c : CrvV) (d' : VecV) (hs : CrvV.ht c + VecV.ht d' ≤ 143165570) : CS Tryz.prog 24 [Xz c, Xt d'] (.bool (Ki c d')) := by
 refine cO 49 Tryz.func24 ?_
 refine rt [tv 2 (pb 2), tv 3 (pb 3), tv 4 (.bool false), bv 2 (Xz c), bv 3 (Xt d')] (oT 3 oN) ?_
 refine Xe ?_
 refine Xe ?_
 rcases c with s1 | a2
 ·
  refine rh [tv 2 (pb 2), tv 3 (pb 3), tv 4 (.bool false), tv 14 (.bool true), bv 2 (Xz (CrvV.seg s1)), bv 3 (Xt d')] (oT 1 (oO (oB false) (oO (oB true) (oT 1 (oO (gn [false]) (oO (gn [true]) (oT 1 (oA [.rptr (.bool false), .rptr (.bool true), .bool (Xbc d')] oN)))))))) ?_
  refine cB (true) (fun _ => ?_) (fun h => Bool.noConfusion h)
  refine rt [tv 2 (pb 2), tv 3 (pb 3), tv 4 (.bool false), bv 2 (Xz (CrvV.seg s1)), bv 3 (Xt d')] (oT 1 (oO (oB false) (oT 1 (oA [.rptr (.bool false)] oN)))) ?_
  exact Xg (lv AV.bool false (by unfold Ki; rfl))
 ·
  refine rh [tv 2 (pb 2), tv 3 (pb 3), tv 4 (.bool false), tv 14 (.bool (Xbc d')), bv 2 (Xz (CrvV.arc a2)), bv 3 (Xt d')] (oT 1 (oO (oB true) (oO (oB false) (oT 1 (oO (Xh 1 trivial) (oO (Xh 1 (Xoa d')) (oT 1 (oA [.rptr (.bool true), .rptr (.bool false), .bool (Xbc d')] oN)))))))) ?_
  refine cB (Xbc d') (fun h3 => ?_) (fun h3 => ?_)
  ·
   refine rt [tv 2 (pb 2), tv 3 (pb 3), tv 4 (.bool true), bv 2 (Xz (CrvV.arc a2)), bv 3 (Xt d')] (oT 1 (oO (oB true) (oT 1 (oA [.rptr (.bool true)] oN)))) ?_
   exact Xg (lv AV.bool true (by unfold Ki; simp only [h3, X72]))
  ·
   refine Xn ?_
   refine Xe ?_
   have : CrvV.ht (CrvV.arc a2) = ArcV.ht a2 := rfl
   have := ArcV.htd a2
   have := CiV.htd a2.k
   have := Ko d' d'
   refine rh [tv 2 (pb 2), tv 3 (pb 3), tv 4 (.bool false), tv 5 (pb 5), bv 2 (Xz (CrvV.arc a2)), bv 3 (Xt d'), bv 5 (Xc (Ya a2.k.q (Xq d' d')))] (oT 5 (oC (Xcd d' d' (by omega)) (oC (Xi9 a2.k.q (Xq d' d') (by omega)) (oT 2 oN)))) ?_
   refine Xe ?_
   rcases Xbs (Jv (Yp a2.k.x d'.x (Ya a2.k.q (Xq d' d'))) (Yp a2.k.y d'.y (Ya a2.k.q (Xq d' d')))) with h4 | ⟨r5, h4⟩
   ·
    have : CrvV.ht (CrvV.arc a2) = ArcV.ht a2 := rfl
    have := ArcV.htd a2
    have := CiV.htd a2.k
    have := VecV.htd d'
    have := Ko d' d'
    have := Xeq a2.k.q (Xq d' d')
    have := Xbd a2.k.x d'.x (Ya a2.k.q (Xq d' d'))
    have := Xbd a2.k.y d'.y (Ya a2.k.q (Xq d' d'))
    refine rh [tv 2 (pb 2), tv 4 (.bool false), tv 6 (pb 6), tv 7 (ki 1), bv 2 (Xz (CrvV.arc a2)), bv 6 X7q] (oT 6 (oC (Xcf a2.k.x d'.x (Ya a2.k.q (Xq d' d')) (by omega)) (oT 6 (oC (Xcf a2.k.y d'.y (Ya a2.k.q (Xq d' d')) (by omega)) (oO (Jl (Xlq (Yp a2.k.x d'.x (Ya a2.k.q (Xq d' d'))) (Yp a2.k.y d'.y (Ya a2.k.q (Xq d' d'))) (by omega)) (by rw [h4]; rfl) : CS Tryz.prog 88 [Xl (Yp a2.k.x d'.x (Ya a2.k.q (Xq d' d'))), Xl (Yp a2.k.y d'.y (Ya a2.k.q (Xq d' d')))] (.tup [X7q, ki 1])) (oT 6 (oA [.tup [X7q, ki 1]] oN))))))) ?_
    refine rt [tv 4 (.bool false)] (oT 1 (oO (aI trivial (by decide : (decide ((1 : Int) = 0)) = false)) (oT 1 (oO (gn [false]) (oO (gn [false]) (oO (gn [true, true]) (oT 2 (oA [cT false, .bool false] oN)))))))) ?_
    exact Xg (lv AV.bool false (by unfold Ki; simp only [h3, h4, X72]))
   ·
    have : CrvV.ht (CrvV.arc a2) = ArcV.ht a2 := rfl
    have := ArcV.htd a2
    have := CiV.htd a2.k
    have := VecV.htd d'
    have := Ko d' d'
    have := Xeq a2.k.q (Xq d' d')
    have := Xbd a2.k.x d'.x (Ya a2.k.q (Xq d' d'))
    have := Xbd a2.k.y d'.y (Ya a2.k.q (Xq d' d'))
    refine rh [tv 2 (pb 2), tv 4 (.bool false), tv 6 (pb 6), tv 7 (ki 0), bv 2 (Xz (CrvV.arc a2)), bv 6 (Xr r5)] (oT 6 (oC (Xcf a2.k.x d'.x (Ya a2.k.q (Xq d' d')) (by omega)) (oT 6 (oC (Xcf a2.k.y d'.y (Ya a2.k.q (Xq d' d')) (by omega)) (oO (Jl (Xlq (Yp a2.k.x d'.x (Ya a2.k.q (Xq d' d'))) (Yp a2.k.y d'.y (Ya a2.k.q (Xq d' d'))) (by omega)) (by rw [h4]; rfl) : CS Tryz.prog 88 [Xl (Yp a2.k.x d'.x (Ya a2.k.q (Xq d' d'))), Xl (Yp a2.k.y d'.y (Ya a2.k.q (Xq d' d')))] (.tup [Xr r5, ki 0])) (oT 6 (oA [.tup [Xr r5, ki 0]] oN))))))) ?_
    refine Xe ?_
    have : CrvV.ht (CrvV.arc a2) = ArcV.ht a2 := rfl
    have := ArcV.htd a2
    have := CiV.htd a2.k
    have := VecV.htd d'
    have := Ko d' d'
    have := Xeq a2.k.q (Xq d' d')
    have := Xbd a2.k.x d'.x (Ya a2.k.q (Xq d' d'))
    have := Xbd a2.k.y d'.y (Ya a2.k.q (Xq d' d'))
    have := Xsb (Yp a2.k.x d'.x (Ya a2.k.q (Xq d' d'))) (Yp a2.k.y d'.y (Ya a2.k.q (Xq d' d'))) _ h4
    refine rh [tv 4 (.bool (Xes (CrvV.arc a2) r5))] (oT 1 (oO (aI trivial (by decide : (decide ((0 : Int) = 0)) = true)) (oT 1 (oO (Xh 1 trivial) (oO (Xh 1 trivial) (oO (Xh 2 (Xu9 (CrvV.arc a2) r5 (by omega))) (oT 2 (oA [cT true, .bool (Xes (CrvV.arc a2) r5)] oN)))))))) ?_
    exact Xg (lv AV.bool (Xes (CrvV.arc a2) r5) (by unfold Ki; simp only [h3, h4, X72]))
end Am
end Go.Proofs.YtmlgfablnbbceaaGreat

