/- What is proved: see the last text of this claim. -/
import Derived.Test.YtmlgfablnbbceaaGreatKc
set_option linter.all false
namespace Go.Proofs.YtmlgfablnbbceaaGreat
namespace Am
open Go Go.RowKit
theorem Xl0 (a b : List Int) (ga : Lm.G a) (gb : Lm.G b) (hb : 0 < Lm.V b := by omega) (h1 : (Lm.trim b).length = 1) (hs : a.length + b.length ≤ 1099511627776 := by omega) : CS Tryz.prog 286 [Xj a, Xj b] (.tup [Xj (Lm.dg (Lm.trim a).length (Lm.V a / Lm.V b)), Xj [Lm.V a % Lm.V b]]) := by
 have gx := Lm.G_trim ga
 have gy := Lm.G_trim gb
 have nx := Lm.trim_Nz a
 have ny := Lm.trim_Nz b
 have lx := Lm.trim_len a
 have ly := Lm.trim_len b
 have vx := Lm.V_trim a
 have vy := Lm.V_trim b
 obtain ⟨x, hx⟩ : ∃ x, x = Lm.trim a := ⟨_, rfl⟩
 obtain ⟨y, hy⟩ : ∃ y, y = Lm.trim b := ⟨_, rfl⟩
 rw [← hx] at gx nx lx vx
 rw [← hy] at gy ny ly vy
 rw [← hx, ← vx, ← vy]
 rw [← hy] at h1
 have h1c : decide (((y.length : Nat) : Int) = 1) = true := decide_eq_true (by omega)
 have hy1 := Lm.V_one h1
 have hyb := Lm.G_get gy 0
 refine cO 179 Tryz.func286 ?_
 refine sh 2 [tv 0 (Xj x), tv 1 (Xj y), tv 4 .nil, tv 5 .nil] (oS (oT 2 oN) (oS (oT 1 (oO (Jl (Xar a) (by rw [← hx]) : CS Tryz.prog 278 [Xj a] (Xj x)) (oT 1 (oO (Jl (Xar b) (by rw [← hy]) : CS Tryz.prog 278 [Xj b] (Xj y)) (oT 2 (oA [Xj x, Xj y] oN)))))) oN)) ?_
 refine Xe ?_
 refine rt [tv 0 (Xj x), tv 1 (Xj y), tv 4 .nil, tv 5 .nil, tv 23 (.bool true)] (oT 1 (oO (aI trivial (Yx _ : ((y.length : Nat) : Int) = (((uw y).length : Nat) : Int))) (oO (aI trivial (h1c : (decide (((y.length : Nat) : Int) = 1)) = true)) (oA [.tup [ki ((y.length : Nat) : Int)], cT true] oN)))) ?_
 refine cB (true) (fun _ => ?_) (fun h => Bool.noConfusion h)
 refine rt [tv 0 (Xj x), tv 1 (Xj y), tv 4 (Xj (Lm.dg x.length (Lm.V x / Lm.V y))), tv 5 (Xj [Lm.V x % Lm.V y])] (oT 2 (oO (J0 0 (by omega) (Zj (by (try simp only [List.length_set, List.length_append, List.length_cons, List.length_nil, List.length_replicate]); omega)) : (0 : Int) ≤ 0 ∧ (uw y)[Int.toNat 0]? = some (kw (y.getD 0 0))) (oT 1 (oO (Jl (Xhw x (y.getD 0 0) gx) (by rw [← Lm.V_one (by omega)]) : CS Tryz.prog 298 [Xj x, kw (y.getD 0 0)] (.tup [Xj (Lm.dg x.length (Lm.V x / Lm.V y)), Xj [Lm.V x % Lm.V y]])) (oT 4 (oA [kw (y.getD 0 0), .tup [Xj (Lm.dg x.length (Lm.V x / Lm.V y)), Xj [Lm.V x % Lm.V y]]] oN)))))) ?_
 refine Xg ?_
 exact X7i ((.tup [Xj (Lm.dg x.length (Lm.V x / Lm.V y)), Xj [Lm.V x % Lm.V y]])) (rfl)
theorem Xlv (a b : List Int) (ga : Lm.G a) (gb : Lm.G b) (hb : 0 < Lm.V b := by omega) (h1 : (Lm.trim b).length ≠ 1) (h2 : Lm.V a < Lm.V b := by omega) (hs : a.length + b.length ≤ 1099511627776 := by omega) : CS Tryz.prog 286 [Xj a, Xj b] (.tup [.nil, Xj (Lm.trim a)]) := by
 have gx := Lm.G_trim ga
 have gy := Lm.G_trim gb
 have nx := Lm.trim_Nz a
 have ny := Lm.trim_Nz b
 have lx := Lm.trim_len a
 have ly := Lm.trim_len b
 have vx := Lm.V_trim a
 have vy := Lm.V_trim b
 obtain ⟨x, hx⟩ : ∃ x, x = Lm.trim a := ⟨_, rfl⟩
 obtain ⟨y, hy⟩ : ∃ y, y = Lm.trim b := ⟨_, rfl⟩
 rw [← hx] at gx nx lx vx
 rw [← hy] at gy ny ly vy
 rw [← hx]
 rw [← hy] at h1
 have h1c : decide (((y.length : Nat) : Int) = 1) = false := decide_eq_false (by omega)
 have h2c : decide (Int.sign (Lm.V x - Lm.V y) < 0) = true := decide_eq_true (Int.sign_neg_iff.2 (by omega))
 refine cO 179 Tryz.func286 ?_
 refine sh 2 [tv 0 (Xj x), tv 1 (Xj y), tv 4 .nil, tv 5 .nil] (oS (oT 2 oN) (oS (oT 1 (oO (Jl (Xar a) (by rw [← hx]) : CS Tryz.prog 278 [Xj a] (Xj x)) (oT 1 (oO (Jl (Xar b) (by rw [← hy]) : CS Tryz.prog 278 [Xj b] (Xj y)) (oT 2 (oA [Xj x, Xj y] oN)))))) oN)) ?_
 refine Xe ?_
 refine rt [tv 0 (Xj x), tv 1 (Xj y), tv 4 .nil, tv 5 .nil, tv 23 (.bool false)] (oT 1 (oO (aI trivial (Yx _ : ((y.length : Nat) : Int) = (((uw y).length : Nat) : Int))) (oO (aI trivial (h1c : (decide (((y.length : Nat) : Int) = 1)) = false)) (oA [.tup [ki ((y.length : Nat) : Int)], cT false] oN)))) ?_
 refine cB (false) (fun h => Bool.noConfusion h) (fun _ => ?_)
 refine Xn ?_
 refine Xe ?_
 refine rt [tv 0 (Xj x), tv 1 (Xj y), tv 4 .nil, tv 5 .nil, tv 34 (.bool true)] (oT 2 (oC (Xct x y gx gy) (oO (aI trivial (h2c : (decide (Int.sign (Lm.V x - Lm.V y) < 0)) = true)) (oA [cT true] oN)))) ?_
 refine cB (true) (fun _ => ?_) (fun h => Bool.noConfusion h)
 refine rt [tv 0 (Xj x), tv 1 (Xj y), tv 4 .nil, tv 5 (.own 36 1), ov 36 (Xj x)] (oT 1 (oO (aI (show (uw x).length * 4 ≤ 35184372088832 by simp only [J1]; (try simp only [List.length_set, List.length_append, List.length_cons, List.length_nil, List.length_replicate]); omega) (rfl : (uw x) = uw x)) (oT 2 (oA [.tup [.sl 1 (uw x)]] oN)))) ?_
 refine Xio [.own 36 1] [tv 4 .nil, tv 5 (.own 36 1), (.o 36, ⟨1, false, Xj x⟩)] (by kernel_rfl) (by kernel_rfl) ?_
 refine Xg ?_
 exact X7i ((.tup [.nil, Xj x])) (rfl)
set_option maxHeartbeats 2000000 in
theorem Xlr (a b : List Int) (ga : Lm.G a) (gb : Lm.G b) (hb : 0 < Lm.V b := by omega) (h1 : (Lm.trim b).length ≠ 1) (h2 : Lm.V b ≤ Lm.V a := by omega) (m : Nat) (s : Int) (hm : m + (Lm.trim b).length = (Lm.trim a).length + 2) (hsd : s = 1000000000 / ((Lm.trim b).getD ((Lm.trim b).length - 1) 0 + 1)) (hs : a.length + b.length ≤ 1099511627776 := by omega) : CS Tryz.prog 286 [Xj a, Xj b] (.tup [Xj (Lm.dg m (Lm.V a / Lm.V b)), Xj (Lm.dg (Lm.digs (Lm.V a * s % (Lm.V b * s)).natAbs).length (Lm.V a % Lm.V b))]) := by
 have gx := Lm.G_trim ga
 have gy := Lm.G_trim gb
 have nx := Lm.trim_Nz a
 have ny := Lm.trim_Nz b
 have lx := Lm.trim_len a
 have ly := Lm.trim_len b
 have vx := Lm.V_trim a
 have vy := Lm.V_trim b
 obtain ⟨x, hx⟩ : ∃ x, x = Lm.trim a := ⟨_, rfl⟩
 obtain ⟨y, hy⟩ : ∃ y, y = Lm.trim b := ⟨_, rfl⟩
 rw [← hx] at gx nx lx vx
 rw [← hy] at gy ny ly vy
 rw [← hx, ← hy] at hm
 rw [← hy] at hsd
 rw [← hy] at h1
 have h1c : decide (((y.length : Nat) : Int) = 1) = false := decide_eq_false (by omega)
 have h2c : decide (Int.sign (Lm.V x - Lm.V y) < 0) = false := decide_eq_false (fun h => by have := Int.sign_neg_iff.1 h; omega)
 have hyn : 2 ≤ y.length := by
  have : y ≠ [] := fun h => by rw [h] at vy; simp at vy; omega
  have := List.length_pos_iff.2 this
  omega
 have hyt := Lm.G_get gy (y.length - 1)
 have hyt0 := Lm.top_pos gy ny (by omega)
 obtain ⟨hs0, hs1, hs2⟩ := Lm.scale_ok hyt0 hyt.2 hsd
 have gs : Lm.G [s] := Lm.G_cons.2 ⟨⟨by omega, hs1⟩, Lm.G_nil⟩
 have vs : Lm.V [s] = s := by simp [Lm.V_cons]
 obtain ⟨p, hp⟩ : ∃ p, p = Lm.dg (x.length + [s].length) (Lm.V x * Lm.V [s]) := ⟨_, rfl⟩
 obtain ⟨v, hv⟩ : ∃ v, v = Lm.trim (Lm.dg (y.length + [s].length) (Lm.V y * Lm.V [s])) := ⟨_, rfl⟩
 obtain ⟨gp, lp, vp⟩ := Lm.prod_p gx gs vs hp
 obtain ⟨gv, lv, vv⟩ := Lm.prod_v gy ny hyn gs vs hs0 hs2 hv
 have hxy := Lm.len_le gx gy ny (by omega) (show Lm.V y ≤ Lm.V x by omega)
 have hlp : (p ++ [0]).length = x.length + 2 := by simp [lp]
 have hvp : Lm.V (p ++ [0]) = Lm.V x * s := by rw [Lm.V_append, vp]; simp [Lm.V_cons]
 have gpp : Lm.G (p ++ [0]) := Lm.G_snoc gp (by omega) (by omega)
 have hv1 := Lm.top_pos gv (by rw [hv]; exact Lm.trim_Nz _) (by omega)
 rw [lv] at hv1
 have hv1' := Lm.G_get gv (y.length - 1)
 have hv2 := Lm.G_get gv (y.length - 2)
 have hvt := Lm.V_top2 (l := v) (j := y.length - 2) (by omega)
 rw [show y.length - 2 + 1 = y.length - 1 by omega] at hvt
 have hV0 : 0 < Lm.V v := by
  rw [vv]; exact Int.mul_pos (by omega) hs0
 have hinit := Lm.div_init gx gy ny (by omega) hs0 hs1 (show Lm.V y * s = Lm.V v by omega) hm
 refine cO 179 Tryz.func286 ?_
 refine sh 2 [tv 0 (Xj x), tv 1 (Xj y), tv 4 .nil, tv 5 .nil] (oS (oT 2 oN) (oS (oT 1 (oO (Jl (Xar a) (by rw [← hx]) : CS Tryz.prog 278 [Xj a] (Xj x)) (oT 1 (oO (Jl (Xar b) (by rw [← hy]) : CS Tryz.prog 278 [Xj b] (Xj y)) (oT 2 (oA [Xj x, Xj y] oN)))))) oN)) ?_
 refine Xe ?_
 refine rt [tv 0 (Xj x), tv 1 (Xj y), tv 4 .nil, tv 5 .nil, tv 23 (.bool false)] (oT 1 (oO (aI trivial (Yx _ : ((y.length : Nat) : Int) = (((uw y).length : Nat) : Int))) (oO (aI trivial (h1c : (decide (((y.length : Nat) : Int) = 1)) = false)) (oA [.tup [ki ((y.length : Nat) : Int)], cT false] oN)))) ?_
 refine cB (false) (fun h => Bool.noConfusion h) (fun _ => ?_)
 refine Xn ?_
 refine Xe ?_
 refine rt [tv 0 (Xj x), tv 1 (Xj y), tv 4 .nil, tv 5 .nil, tv 34 (.bool false)] (oT 2 (oC (Xct x y gx gy) (oO (aI trivial (h2c : (decide (Int.sign (Lm.V x - Lm.V y) < 0)) = false)) (oA [cT false] oN)))) ?_
 refine cB (false) (fun h => Bool.noConfusion h) (fun _ => ?_)
 refine Xn ?_
 refine sh 5 [tv 4 .nil, tv 5 .nil, tv 6 (ki ((y.length : Nat) : Int)), tv 7 (kw s), tv 8 (.own 51 2), tv 9 (Xj v), tv 10 (.own 63 1), (.o 51, ⟨2, true, Xj (p ++ [0])⟩), ov 63 (Xj (List.replicate m 0))] (oS (oT 1 (oO (aI trivial (Yx _ : ((y.length : Nat) : Int) = (((uw y).length : Nat) : Int))) (oT 1 oN))) (oS (oT 2 (oO (Xax (Yw (by omega) (by omega)) (by omega) : Jx .sub .i64 ((y.length : Nat) : Int) 1 = some ((y.length - 1 : Nat) : Int) ∧ ((BinOp.sub = .quo ∨ BinOp.sub = .rem) → 1 ≠ (0 : Int))) (oO (J0 (y.length - 1) (by omega) (Zj (by (try simp only [List.length_set, List.length_append, List.length_cons, List.length_nil, List.length_replicate]); omega)) : (0 : Int) ≤ ((y.length - 1 : Nat) : Int) ∧ (uw y)[Int.toNat ((y.length - 1 : Nat) : Int)]? = some (kw (y.getD (y.length - 1) 0))) (oT 1 (oO ((Jj (by omega) (by omega)).symm : (y.getD (y.length - 1) 0) = IntKind.u64.wrap (y.getD (y.length - 1) 0)) (oO (Jp (x := (y.getD (y.length - 1) 0)) (y := 1) (by omega) (by omega)) (oO (Xae (x := 1000000000) (y := (y.getD (y.length - 1) 0 + 1)) (by omega) (by omega) (by omega)) (oO (show s = IntKind.u32.wrap (1000000000 / (y.getD (y.length - 1) 0 + 1)) by rw [← hsd]; exact (K6 (by omega) (by omega)).symm) (oT 1 oN))))))))) (oS (oT 3 (oO (show X7a Tryz.prog 248 [Xj x, Xj [s]] 1 (uw p) by rw [hp]; exact Xhy x [s] gx gs (by simp only [List.length_cons, List.length_nil]; omega)) (oT 1 (oO (aI (show ((uw p).length + (uw ([0])).length) * 4 ≤ 35184372088832 by simp only [J1]; (try simp only [List.length_set, List.length_append, List.length_cons, List.length_nil, List.length_replicate]); omega) (Xcb _ _ : (uw (p ++ [0])) = uw p ++ uw ([0]))) (oT 1 oN))))) (oS (oT 3 (oA [.tup [ki ((y.length : Nat) : Int)], ki ((y.length - 1 : Nat) : Int), kw (y.getD (y.length - 1) 0), ku (y.getD (y.length - 1) 0), ku (y.getD (y.length - 1) 0 + 1), ku (1000000000 / (y.getD (y.length - 1) 0 + 1)), kw s, .rptr .none, .own 0 0, .sl 1 (uw p), .tup [.sl 1 (uw (p ++ [0]))]] (oC (Xja y [s] gy gs (by simp only [List.length_cons, List.length_nil]; omega)) (oO (Jl (Xar _ (by rw [Lm.dg_len]; simp only [List.length_cons, List.length_nil]; omega)) (by rw [← hv]) : CS Tryz.prog 278 [Xj (Lm.dg (y.length + [s].length) (Lm.V y * Lm.V [s]))] (Xj v)) (oT 1 oN))))) (oS (oT 1 (oO (aI trivial (Yx _ : (((p ++ [0]).length : Nat) : Int) = (((uw (p ++ [0])).length : Nat) : Int))) (oT 1 (oO (Xax (Yw (by omega) (by omega)) (by omega) : Jx .sub .i64 (((p ++ [0]).length : Nat) : Int) ((y.length : Nat) : Int) = some ((m : Nat) : Int) ∧ ((BinOp.sub = .quo ∨ BinOp.sub = .rem) → ((y.length : Nat) : Int) ≠ (0 : Int))) (oO (aI (show (0 : Int) ≤ ((m : Nat) : Int) ∧ (((m : Nat) : Int) : Int) ≤ ((m : Nat) : Int) ∧ 4 * Int.toNat ((m : Nat) : Int) ≤ 281474976710656 by omega) (Xic m (by omega) : (uw (List.replicate m 0)) = List.replicate (Int.toNat ((m : Nat) : Int)) (kw 0))) (oT 1 (oA [Xj v, .tup [ki (((p ++ [0]).length : Nat) : Int)], ki ((m : Nat) : Int), .tup [.sl 1 (uw (List.replicate m 0))]] oN))))))) oN))))) ?_
 refine Xe ?_
 refine rt [tv 4 .nil, tv 5 .nil, tv 6 (ki ((y.length : Nat) : Int)), tv 7 (kw s), tv 8 (.own 51 2), tv 9 (Xj v), tv 10 (.own 63 1), tv 11 (ki (((m : Nat) : Int) - 1)), (.o 51, ⟨2, true, Xj (p ++ [0])⟩), ov 63 (Xj (List.replicate m 0))] (oT 1 (oO (aI trivial (Yx _ : (((p ++ [0]).length : Nat) : Int) = (((uw (p ++ [0])).length : Nat) : Int))) (oT 1 (oO (Xax (Yw (by omega) (by omega)) (by omega) : Jx .sub .i64 (((p ++ [0]).length : Nat) : Int) ((y.length : Nat) : Int) = some ((m : Nat) : Int) ∧ ((BinOp.sub = .quo ∨ BinOp.sub = .rem) → ((y.length : Nat) : Int) ≠ (0 : Int))) (oO (Yw (x := ((m : Nat) : Int)) (y := 1) (by omega) (by omega)) (oT 1 (oA [.tup [ki (((p ++ [0]).length : Nat) : Int)], ki ((m : Nat) : Int), ki (((m : Nat) : Int) - 1)] oN))))))) ?_
 refine X6 ?_
 refine Z0 (fun n0 l0 => ∃ (i : Nat) (u : List Int) (q : List Int), (i ≤ m ∧ Lm.G u ∧ u.length = x.length + 2 ∧ Lm.V u < Lm.V v * Lm.P i ∧ Lm.G q ∧ q.length = m ∧ Lm.V u + Lm.P i * Lm.V (q.drop i) * Lm.V v = Lm.V x * s) ∧ i = n0 ∧ l0 = [tv 4 .nil, tv 5 .nil, tv 6 (ki ((y.length : Nat) : Int)), tv 7 (kw s), tv 8 (.own 51 1), tv 9 (Xj v), tv 10 (.own 63 1), tv 11 (ki (((i : Nat) : Int) - 1)), ov 51 (Xj u), ov 63 (Xj q)]) (n := m) (by kernel_rfl) ⟨m, p ++ [0], List.replicate m 0, ⟨Nat.le_refl _, gpp, hlp, by rw [hvp]; exact hinit, Lm.G_zeros _, by simp, by rw [hvp, List.drop_of_length_le (by simp)]; simp⟩, rfl, (by kernel_rfl)⟩ ?_
 rintro n0 l0 ⟨i, u, q, ⟨hi1, hi2, hi3, hi4, hi5, hi6, hi7⟩, rfl, rfl⟩
 refine Xe ?_
 refine rt [tv 4 .nil, tv 5 .nil, tv 6 (ki ((y.length : Nat) : Int)), tv 7 (kw s), tv 8 (.own 51 1), tv 9 (Xj v), tv 10 (.own 63 1), tv 11 (ki (((i : Nat) : Int) - 1)), tv 70 (.bool (decide (0 ≤ (((i : Nat) : Int) - 1)))), ov 51 (Xj u), ov 63 (Xj q)] (oT 1 (oO (oB (decide (0 ≤ (((i : Nat) : Int) - 1)))) (oA [cT (decide (0 ≤ (((i : Nat) : Int) - 1)))] oN))) ?_
 refine cB (decide (0 ≤ (((i : Nat) : Int) - 1))) (fun h1 => ?_) (fun h1 => ?_)
 ·
  have h1' := of_decide_eq_true h1
  refine Xn ?_
  refine Xe ?_
  refine X6 ?_
  have hi0 : 1 ≤ i := by omega
  have hP1 := Lm.P_pred hi0
  have hX := Lm.V_top3 (l := u) (j := i - 1 + y.length - 2) hi2 (by omega) (by rw [show i - 1 + y.length - 2 + 3 = i + y.length by omega]; exact Lm.lt_PP gv lv hi4)
  rw [show i - 1 + y.length - 2 + 1 = i - 1 + y.length - 1 by omega, show i - 1 + y.length - 2 + 2 = i - 1 + y.length by omega] at hX
  have hu0 := Lm.G_get hi2 (i - 1 + y.length)
  have hu1 := Lm.G_get hi2 (i - 1 + y.length - 1)
  have hu2 := Lm.G_get hi2 (i - 1 + y.length - 2)
  have hM := Lm.P_pos (i - 1 + y.length - 2)
  have hul := Lm.V_bound (Lm.G_take hi2 (i - 1 + y.length - 2))
  rw [List.length_take, Nat.min_eq_left (by omega)] at hul
  obtain ⟨hD, hdl0, hdl1⟩ := Lm.div_D (k := i - 1) gv (show v.length = y.length by omega) hyn hvt
  have hD0 : 0 < Lm.V v * Lm.P (i - 1) := Int.mul_pos hV0 (Lm.P_pos _)
  have hXD : Lm.V u < 1000000000 * (Lm.V v * Lm.P (i - 1)) := by
   rw [hP1] at hi4; rw [show 1000000000 * (Lm.V v * Lm.P (i - 1)) = Lm.V v * (1000000000 * Lm.P (i - 1)) by grind]; exact hi4
  have hk0 := Lm.K0 hM hX hul.1 hu1.1 hu2.1 hD hdl1 hv2.2 hXD
  have hT0 : 0 ≤ ((u.getD (i - 1 + y.length) 0 * 1000000000) + u.getD (i - 1 + y.length - 1) 0) := by omega
  have hk1 := Lm.K1 (T := ((u.getD (i - 1 + y.length) 0 * 1000000000) + u.getD (i - 1 + y.length - 1) 0)) hM hX hul.2 hu2.2 hD hdl0 hv2.1 (by omega) hT0 hv1
  have hq0 := Lm.quo_le (T := ((u.getD (i - 1 + y.length) 0 * 1000000000) + u.getD (i - 1 + y.length - 1) 0)) (v1 := (v.getD (y.length - 1) 0)) (by omega) hv1 hk0 hu1.2 (by omega)
  have hq1 := Lm.quo_rem (T := ((u.getD (i - 1 + y.length) 0 * 1000000000) + u.getD (i - 1 + y.length - 1) 0)) (v1 := (v.getD (y.length - 1) 0)) hv1
  refine sh 2 [tv 4 .nil, tv 5 .nil, tv 6 (ki ((y.length : Nat) : Int)), tv 7 (kw s), tv 8 (.own 51 1), tv 9 (Xj v), tv 10 (.own 63 1), tv 11 (ki (((i : Nat) : Int) - 1)), tv 13 (ku (((u.getD (i - 1 + y.length) 0 * 1000000000) + u.getD (i - 1 + y.length - 1) 0) / v.getD (y.length - 1) 0)), tv 14 (ku (((u.getD (i - 1 + y.length) 0 * 1000000000) + u.getD (i - 1 + y.length - 1) 0) % v.getD (y.length - 1) 0)), ov 51 (Xj u), ov 63 (Xj q)] (oS (oT 3 (oO (Xax (X3 (by omega) (by omega)) (by omega) : Jx .add .i64 (((i : Nat) : Int) - 1) ((y.length : Nat) : Int) = some ((i - 1 + y.length : Nat) : Int) ∧ ((BinOp.add = .quo ∨ BinOp.add = .rem) → ((y.length : Nat) : Int) ≠ (0 : Int))) (oO (Xb9 (i - 1 + y.length) (by omega) (by simp only [J1]; (try simp only [List.length_set, List.length_append, List.length_cons, List.length_nil, List.length_replicate]); omega) : (0 : Int) ≤ ((i - 1 + y.length : Nat) : Int) ∧ Int.toNat ((i - 1 + y.length : Nat) : Int) < (uw u).length) (oO (Zj (by (try simp only [List.length_set, List.length_append, List.length_cons, List.length_nil, List.length_replicate]); omega) : (uw u)[i - 1 + y.length]? = some (kw (u.getD (i - 1 + y.length) 0))) (oO ((Jj (by omega) (by omega)).symm : (u.getD (i - 1 + y.length) 0) = IntKind.u64.wrap (u.getD (i - 1 + y.length) 0)) (oO (Xaf (x := (u.getD (i - 1 + y.length) 0)) (y := 1000000000) (by omega) (by omega)) (oT 3 (oO (Xax (X3 (by omega) (by omega)) (by omega) : Jx .add .i64 (((i : Nat) : Int) - 1) ((y.length : Nat) : Int) = some ((i - 1 + y.length : Nat) : Int) ∧ ((BinOp.add = .quo ∨ BinOp.add = .rem) → ((y.length : Nat) : Int) ≠ (0 : Int))) (oO (Xax (Yw (by omega) (by omega)) (by omega) : Jx .sub .i64 ((i - 1 + y.length : Nat) : Int) 1 = some ((i - 1 + y.length - 1 : Nat) : Int) ∧ ((BinOp.sub = .quo ∨ BinOp.sub = .rem) → 1 ≠ (0 : Int))) (oO (Xb9 (i - 1 + y.length - 1) (by omega) (by simp only [J1]; (try simp only [List.length_set, List.length_append, List.length_cons, List.length_nil, List.length_replicate]); omega) : (0 : Int) ≤ ((i - 1 + y.length - 1 : Nat) : Int) ∧ Int.toNat ((i - 1 + y.length - 1 : Nat) : Int) < (uw u).length) (oO (Zj (by (try simp only [List.length_set, List.length_append, List.length_cons, List.length_nil, List.length_replicate]); omega) : (uw u)[i - 1 + y.length - 1]? = some (kw (u.getD (i - 1 + y.length - 1) 0))) (oO ((Jj (by omega) (by omega)).symm : (u.getD (i - 1 + y.length - 1) 0) = IntKind.u64.wrap (u.getD (i - 1 + y.length - 1) 0)) (oO (Jp (x := (u.getD (i - 1 + y.length) 0 * 1000000000)) (y := (u.getD (i - 1 + y.length - 1) 0)) (by omega) (by omega)) (oT 1 oN)))))))))))))) (oS (oT 3 (oO (Xax (Yw (by omega) (by omega)) (by omega) : Jx .sub .i64 ((y.length : Nat) : Int) 1 = some ((y.length - 1 : Nat) : Int) ∧ ((BinOp.sub = .quo ∨ BinOp.sub = .rem) → 1 ≠ (0 : Int))) (oO (J0 (y.length - 1) (by omega) (Zj (by (try simp only [List.length_set, List.length_append, List.length_cons, List.length_nil, List.length_replicate]); omega)) : (0 : Int) ≤ ((y.length - 1 : Nat) : Int) ∧ (uw v)[Int.toNat ((y.length - 1 : Nat) : Int)]? = some (kw (v.getD (y.length - 1) 0))) (oT 1 (oO ((Jj (by omega) (by omega)).symm : (v.getD (y.length - 1) 0) = IntKind.u64.wrap (v.getD (y.length - 1) 0)) (oO (Xae (x := ((u.getD (i - 1 + y.length) 0 * 1000000000) + u.getD (i - 1 + y.length - 1) 0)) (y := (v.getD (y.length - 1) 0)) (by omega) (by omega) (by omega)) (oT 3 (oO (Xax (Yw (by omega) (by omega)) (by omega) : Jx .sub .i64 ((y.length : Nat) : Int) 1 = some ((y.length - 1 : Nat) : Int) ∧ ((BinOp.sub = .quo ∨ BinOp.sub = .rem) → 1 ≠ (0 : Int))) (oO (J0 (y.length - 1) (by omega) (Zj (by (try simp only [List.length_set, List.length_append, List.length_cons, List.length_nil, List.length_replicate]); omega)) : (0 : Int) ≤ ((y.length - 1 : Nat) : Int) ∧ (uw v)[Int.toNat ((y.length - 1 : Nat) : Int)]? = some (kw (v.getD (y.length - 1) 0))) (oT 1 (oO ((Jj (by omega) (by omega)).symm : (v.getD (y.length - 1) 0) = IntKind.u64.wrap (v.getD (y.length - 1) 0)) (oO (Xa0 (x := ((u.getD (i - 1 + y.length) 0 * 1000000000) + u.getD (i - 1 + y.length - 1) 0)) (y := (v.getD (y.length - 1) 0)) (by omega) (by omega) trivial) (oT 2 (oA [ki ((i - 1 + y.length : Nat) : Int), kw (u.getD (i - 1 + y.length) 0), ku (u.getD (i - 1 + y.length) 0), ku (u.getD (i - 1 + y.length) 0 * 1000000000), ki ((i - 1 + y.length : Nat) : Int), ki ((i - 1 + y.length - 1 : Nat) : Int), kw (u.getD (i - 1 + y.length - 1) 0), ku (u.getD (i - 1 + y.length - 1) 0), ku ((u.getD (i - 1 + y.length) 0 * 1000000000) + u.getD (i - 1 + y.length - 1) 0), ki ((y.length - 1 : Nat) : Int), kw (v.getD (y.length - 1) 0), ku (v.getD (y.length - 1) 0), ku (((u.getD (i - 1 + y.length) 0 * 1000000000) + u.getD (i - 1 + y.length - 1) 0) / v.getD (y.length - 1) 0), ki ((y.length - 1 : Nat) : Int), kw (v.getD (y.length - 1) 0), ku (v.getD (y.length - 1) 0), ku (((u.getD (i - 1 + y.length) 0 * 1000000000) + u.getD (i - 1 + y.length - 1) 0) % v.getD (y.length - 1) 0)] oN)))))))))))))) oN)) ?_
  refine Xe ?_
  refine X6 ?_
  refine Z0 (fun n0 l0 => ∃ (g : Int) (r : Int), (0 ≤ g ∧ g ≤ 2000000000 ∧ 0 ≤ r ∧ r < 1000000000 ∧ r = ((u.getD (i - 1 + y.length) 0 * 1000000000) + u.getD (i - 1 + y.length - 1) 0) - g * v.getD (y.length - 1) 0 ∧ Lm.V u < (g + 1) * (Lm.V v * Lm.P (i - 1))) ∧ g.toNat = n0 ∧ l0 = [tv 4 .nil, tv 5 .nil, tv 6 (ki ((y.length : Nat) : Int)), tv 7 (kw s), tv 8 (.own 51 1), tv 9 (Xj v), tv 10 (.own 63 1), tv 11 (ki (((i : Nat) : Int) - 1)), tv 13 (ku g), tv 14 (ku r), ov 51 (Xj u), ov 63 (Xj q)]) (n := (((u.getD (i - 1 + y.length) 0 * 1000000000) + u.getD (i - 1 + y.length - 1) 0) / v.getD (y.length - 1) 0).toNat) (by kernel_rfl) ⟨((u.getD (i - 1 + y.length) 0 * 1000000000) + u.getD (i - 1 + y.length - 1) 0) / v.getD (y.length - 1) 0, ((u.getD (i - 1 + y.length) 0 * 1000000000) + u.getD (i - 1 + y.length - 1) 0) % v.getD (y.length - 1) 0, ⟨hq0.1, hq0.2, hq1.1, by omega, hq1.2.2, hk1⟩, rfl, (by kernel_rfl)⟩ ?_
  rintro n0 l0 ⟨g, r, ⟨hg0, hg1, hr0, hr1, hr2, hg2⟩, rfl, rfl⟩
  have hgm := Lm.guess_fits hg0 hg1 hv2.1 hv2.2
  refine Xe ?_
  refine Xe ?_
  rcases X7 (decide (1000000000 ≤ g)) with h2 | h2
  ·
   have h2' := of_decide_eq_true h2
   refine rh [tv 4 .nil, tv 5 .nil, tv 6 (ki ((y.length : Nat) : Int)), tv 7 (kw s), tv 8 (.own 51 1), tv 9 (Xj v), tv 10 (.own 63 1), tv 11 (ki (((i : Nat) : Int) - 1)), tv 13 (ku g), tv 14 (ku r), tv 129 (.bool true), ov 51 (Xj u), ov 63 (Xj q)] (oT 1 (oO (aI trivial (h2 : (decide (1000000000 ≤ g)) = true)) (oT 1 (oO (gn [false]) (oO (gn [false]) (oO (gn [false]) (oO (gn [true]) (oO (gn [true, true]) (oO (gn [true]) (oO (gn [true]) (oO (gn [true, true]) (oO (gn [false]) (oO (gn [true]) (oO (gn [false]) (oO (gn [false]) (oO (gn [false]) (oO (gn [true, true]) (oO (gn [true]) (oO (gn [true, true]) (oO (gn [true]) (oO (gn [true]) (oO (gn [true, true]) (oO (gn [true, true]) (oT 1 (oA [cT true, ki ((y.length - 2 : Nat) : Int), kw (v.getD (y.length - 2) 0), ku (v.getD (y.length - 2) 0), ku (g * v.getD (y.length - 2) 0), ku (r * 1000000000), ki ((i - 1 + y.length : Nat) : Int), ki ((i - 1 + y.length - 2 : Nat) : Int), kw (u.getD (i - 1 + y.length - 2) 0), ku (u.getD (i - 1 + y.length - 2) 0), ku ((r * 1000000000) + u.getD (i - 1 + y.length - 2) 0), cT (decide (((r * 1000000000) + u.getD (i - 1 + y.length - 2) 0) < (g * v.getD (y.length - 2) 0)))] oN))))))))))))))))))))))))) ?_
   refine cB (true) (fun _ => ?_) (fun h => Bool.noConfusion h)
   refine Xn ?_
   refine X6 ?_
   have hgq0 : Lm.V u < g * (Lm.V v * Lm.P (i - 1)) := by
    first
    | exact Lm.K2 hD0 hXD (by omega)
    | exact Lm.K3 hM hX hul.2 hD hdl0 hg0 (by omega) hr2 (by omega)
   have hg3 := Lm.pos_of_lt (Lm.V_bound hi2).1 hgq0 hD0
   refine sh 3 [tv 4 .nil, tv 5 .nil, tv 6 (ki ((y.length : Nat) : Int)), tv 7 (kw s), tv 8 (.own 51 1), tv 9 (Xj v), tv 10 (.own 63 1), tv 11 (ki (((i : Nat) : Int) - 1)), tv 13 (ku (g - 1)), tv 14 (ku (r + v.getD (y.length - 1) 0)), tv 141 (.bool (decide (1000000000 ≤ (r + v.getD (y.length - 1) 0)))), ov 51 (Xj u), ov 63 (Xj q)] (oS (oT 1 (oO (Xcw (x := g) (y := 1) (by omega) (by omega)) (oT 1 oN))) (oS (oT 3 (oO (Xax (Yw (by omega) (by omega)) (by omega) : Jx .sub .i64 ((y.length : Nat) : Int) 1 = some ((y.length - 1 : Nat) : Int) ∧ ((BinOp.sub = .quo ∨ BinOp.sub = .rem) → 1 ≠ (0 : Int))) (oO (J0 (y.length - 1) (by omega) (Zj (by (try simp only [List.length_set, List.length_append, List.length_cons, List.length_nil, List.length_replicate]); omega)) : (0 : Int) ≤ ((y.length - 1 : Nat) : Int) ∧ (uw v)[Int.toNat ((y.length - 1 : Nat) : Int)]? = some (kw (v.getD (y.length - 1) 0))) (oT 1 (oO ((Jj (by omega) (by omega)).symm : (v.getD (y.length - 1) 0) = IntKind.u64.wrap (v.getD (y.length - 1) 0)) (oO (Jp (x := r) (y := (v.getD (y.length - 1) 0)) (by omega) (by omega)) (oT 1 oN))))))) (oS (oT 1 (oO (oB (decide (1000000000 ≤ (r + v.getD (y.length - 1) 0)))) (oA [ku (g - 1), ki ((y.length - 1 : Nat) : Int), kw (v.getD (y.length - 1) 0), ku (v.getD (y.length - 1) 0), ku (r + v.getD (y.length - 1) 0), cT (decide (1000000000 ≤ (r + v.getD (y.length - 1) 0)))] oN))) oN))) ?_
   refine cB (decide (1000000000 ≤ (r + v.getD (y.length - 1) 0))) (fun h3 => ?_) (fun h3 => ?_)
   ·
    have h3' := of_decide_eq_true h3
    refine Z3 ?_
    refine Xe ?_
    refine Xe ?_
    have hrr : (r + v.getD (y.length - 1) 0) = ((u.getD (i - 1 + y.length) 0 * 1000000000) + u.getD (i - 1 + y.length - 1) 0) - (g - 1) * (v.getD (y.length - 1) 0) := by rw [hr2, Int.sub_mul]; omega
    have hgn : 0 ≤ g - 1 := by omega
    obtain ⟨hgB, hkt⟩ := Lm.K5 hu1.2 hu2.1 hv1 hv2.1 hv2.2 hk0 hgn (by omega) hrr (by omega)
    have hgq : Lm.V u < (g - 1 + 1) * (Lm.V v * Lm.P (i - 1)) := by rw [Int.sub_add_cancel]; exact hgq0
    have hk4 := Lm.K4 hM hX hul.1 hD hdl0 hdl1 hv2.1 hv1 hgn hgB (by omega) hrr hkt
    obtain ⟨u3, hu3⟩ : ∃ u3, u3 = Lm.dg u.length ((Lm.V u - Lm.P (i - 1) * (Lm.V v * (g - 1))) % Lm.P ((i - 1) + (y.length + 1))) := ⟨_, rfl⟩
    have hbig : Lm.V u < Lm.P (i - 1 + (y.length + 1)) := by
     rw [show i - 1 + (y.length + 1) = i + y.length by omega]; exact Lm.lt_PP gv lv hi4
    have gu3 : Lm.G u3 := by rw [hu3]; exact Lm.G_dg _ _
    have lu3 : u3.length = u.length := by rw [hu3]; simp
    refine rh [tv 4 .nil, tv 5 .nil, tv 6 (ki ((y.length : Nat) : Int)), tv 7 (kw s), tv 8 (.own 51 1), tv 9 (Xj v), tv 10 (.own 63 1), tv 11 (ki (((i : Nat) : Int) - 1)), tv 13 (ku (g - 1)), tv 151 (.bool (decide ((Lm.V u - Lm.P (i - 1) * (Lm.V v * (g - 1))) < 0))), ov 51 (Xj u3), ov 63 (Xj q)] (oT 4 (oO (Xax (X3 (by omega) (by omega)) (by omega) : Jx .add .i64 (((i : Nat) : Int) - 1) ((y.length : Nat) : Int) = some ((i - 1 + y.length : Nat) : Int) ∧ ((BinOp.add = .quo ∨ BinOp.add = .rem) → ((y.length : Nat) : Int) ≠ (0 : Int))) (oO (X3 (x := ((i - 1 + y.length : Nat) : Int)) (y := 1) (by omega) (by omega)) (oO (aI (show (((i : Nat) : Int) - 1) = (((i - 1) : Nat) : Int) by omega) (aI (show ((i - 1 + y.length + 1 : Nat) : Int) = (((i - 1) + (y.length + 1) : Nat) : Int) by omega) (aI (show 0 < (y.length + 1) by omega) (show (i - 1) + (y.length + 1) ≤ (uw u).length by simp only [J1]; (try simp only [List.length_set, List.length_append, List.length_cons, List.length_nil, List.length_replicate]); omega)))) (oT 2 (oO (show CW Tryz.prog 299 1 (i - 1) (y.length + 1) (uw u) [Xj v, ku (g - 1)] (uw u3) (.bool (decide ((Lm.V u - Lm.P (i - 1) * (Lm.V v * (g - 1))) < 0))) by rw [hu3]; exact Xew u v (g - 1) (i - 1) (y.length + 1) hi2 gv (by omega) (by omega) hgn hgB hbig (by omega)) (oA [ki ((i - 1 + y.length : Nat) : Int), ki ((i - 1 + y.length + 1 : Nat) : Int), .rptr .none, .win 0 0 0 (i - 1) (y.length + 1), .rptr .none, .sl 1 (uw u3), .bool (decide ((Lm.V u - Lm.P (i - 1) * (Lm.V v * (g - 1))) < 0))] oN))))))) ?_
    refine cB (decide ((Lm.V u - Lm.P (i - 1) * (Lm.V v * (g - 1))) < 0)) (fun h4 => ?_) (fun h4 => ?_)
    ·
     have h4' := of_decide_eq_true h4
     refine Xe ?_
     have hGp := Lm.pos_of_mul (Lm.V_bound hi2).1 (show Lm.V u - Lm.P (i - 1) * (Lm.V v * (g - 1)) < 0 by assumption) (Lm.P_pos _) hV0
     refine rh [tv 4 .nil, tv 5 .nil, tv 6 (ki ((y.length : Nat) : Int)), tv 7 (kw s), tv 8 (.own 51 1), tv 9 (Xj v), tv 10 (.own 63 1), tv 11 (ki (((i : Nat) : Int) - 1)), tv 13 (ku ((g - 1) - 1)), ov 51 (Xj u3), ov 63 (Xj q)] (oT 1 (oO (Xcw (x := (g - 1)) (y := 1) (by omega) (by omega)) (oT 1 (oA [ku ((g - 1) - 1)] oN)))) ?_
     obtain ⟨u4, hu4⟩ : ∃ u4, u4 = Lm.dg u3.length ((Lm.V u3 + Lm.P (i - 1) * Lm.V v) % Lm.P ((i - 1) + (y.length + 1))) := ⟨_, rfl⟩
     have gu4 : Lm.G u4 := by rw [hu4]; exact Lm.G_dg _ _
     have lu4 : u4.length = u.length := by rw [hu4, ← lu3]; simp
     have hb3 : Lm.V u3 < Lm.P (i - 1 + (y.length + 1)) := by
      rw [hu3, Lm.V_dg_mod hi2 (by omega)]; exact Int.emod_lt_of_pos _ (Lm.P_pos _)
     refine rh [tv 4 .nil, tv 5 .nil, tv 6 (ki ((y.length : Nat) : Int)), tv 7 (kw s), tv 8 (.own 51 1), tv 9 (Xj v), tv 10 (.own 63 1), tv 11 (ki (((i : Nat) : Int) - 1)), tv 13 (ku ((g - 1) - 1)), ov 51 (Xj u4), ov 63 (Xj q)] (oT 4 (oO (Xax (X3 (by omega) (by omega)) (by omega) : Jx .add .i64 (((i : Nat) : Int) - 1) ((y.length : Nat) : Int) = some ((i - 1 + y.length : Nat) : Int) ∧ ((BinOp.add = .quo ∨ BinOp.add = .rem) → ((y.length : Nat) : Int) ≠ (0 : Int))) (oO (X3 (x := ((i - 1 + y.length : Nat) : Int)) (y := 1) (by omega) (by omega)) (oO (aI (show (((i : Nat) : Int) - 1) = (((i - 1) : Nat) : Int) by omega) (aI (show ((i - 1 + y.length + 1 : Nat) : Int) = (((i - 1) + (y.length + 1) : Nat) : Int) by omega) (aI (show 0 < (y.length + 1) by omega) (show (i - 1) + (y.length + 1) ≤ (uw u3).length by simp only [J1]; (try simp only [List.length_set, List.length_append, List.length_cons, List.length_nil, List.length_replicate]); omega)))) (oT 1 (oO (show CW Tryz.prog 300 1 (i - 1) (y.length + 1) (uw u3) [Xj v] (uw u4) (.tup []) by rw [hu4]; exact Xe7 u3 v (i - 1) (y.length + 1) gu3 gv (by omega) (by omega) hb3 (by omega)) (oA [ki ((i - 1 + y.length : Nat) : Int), ki ((i - 1 + y.length + 1 : Nat) : Int), .rptr .none, .win 0 0 0 (i - 1) (y.length + 1), .rptr .none, .sl 1 (uw u4), .tup []] oN))))))) ?_
     obtain ⟨hz1, hz4, hz7⟩ := Lm.div_neg (gg := (g - 1)) hi2 (by omega) hu3 hu4 hbig hk4 (by omega) (Lm.W_le gv lv)
     have hz2 := gu4
     have hgp : 0 ≤ ((g - 1) - 1) := Lm.div_gp hz7 hz4 hD0 (Lm.V_bound hi2).1
     refine rh [tv 4 .nil, tv 5 .nil, tv 6 (ki ((y.length : Nat) : Int)), tv 7 (kw s), tv 8 (.own 51 1), tv 9 (Xj v), tv 10 (.own 63 1), tv 11 (ki (((i : Nat) : Int) - 1)), ov 51 (Xj u4), ov 63 (Xj (q.set (i - 1) ((g - 1) - 1)))] (oT 3 (oO ((K6 (by omega) (by omega)).symm : ((g - 1) - 1) = IntKind.u32.wrap ((g - 1) - 1)) (oO (Xb9 (i - 1) (by omega) (by simp only [J1]; (try simp only [List.length_set, List.length_append, List.length_cons, List.length_nil, List.length_replicate]); omega) : (0 : Int) ≤ (((i : Nat) : Int) - 1) ∧ Int.toNat (((i : Nat) : Int) - 1) < (uw q).length) (oO (aI (Xns (i - 1) (by omega) (Zj (by (try simp only [List.length_set, List.length_append, List.length_cons, List.length_nil, List.length_replicate]); omega)) : (uw q)[Int.toNat (((i : Nat) : Int) - 1)]? = some (kw (q.getD (i - 1) 0))) (Xj6 (i - 1) (by omega) (Xbt _ _ _) : (uw (q.set (i - 1) ((g - 1) - 1))) = (uw q).set (Int.toNat (((i : Nat) : Int) - 1)) (kw ((g - 1) - 1)))) (oA [kw ((g - 1) - 1), .tup [.sl 1 (uw (q.set (i - 1) ((g - 1) - 1)))], kw (q.getD (i - 1) 0)] oN))))) ?_
     refine rh [tv 4 .nil, tv 5 .nil, tv 6 (ki ((y.length : Nat) : Int)), tv 7 (kw s), tv 8 (.own 51 1), tv 9 (Xj v), tv 10 (.own 63 1), tv 11 (ki ((((i - 1) : Nat) : Int) - 1)), ov 51 (Xj u4), ov 63 (Xj (q.set (i - 1) ((g - 1) - 1)))] (oT 1 (oO (Xax (Yw (by omega) (by omega)) (by omega) : Jx .sub .i64 (((i : Nat) : Int) - 1) 1 = some ((((i - 1) : Nat) : Int) - 1) ∧ ((BinOp.sub = .quo ∨ BinOp.sub = .rem) → 1 ≠ (0 : Int))) (oT 1 (oA [ki ((((i - 1) : Nat) : Int) - 1)] oN)))) ?_
     exact ⟨i - 1, [tv 4 .nil, tv 5 .nil, tv 6 (ki ((y.length : Nat) : Int)), tv 7 (kw s), tv 8 (.own 51 1), tv 9 (Xj v), tv 10 (.own 63 1), tv 11 (ki ((((i - 1) : Nat) : Int) - 1)), ov 51 (Xj u4), ov 63 (Xj (q.set (i - 1) ((g - 1) - 1)))], (by omega), rfl, (by kernel_rfl), i - 1, u4, q.set (i - 1) ((g - 1) - 1), ⟨by omega, hz2, by omega, hz4, Lm.G_set hi5 _ (by omega) (by omega), by simp [hi6], by rw [Lm.drop_set _ _ (by omega), Lm.V_cons, show i - 1 + 1 = i by omega]; exact Lm.div_acc hP1 hi7 hz7⟩, rfl, (by kernel_rfl)⟩
    ·
     have h4' := of_decide_eq_false h4
     refine Xn ?_
     obtain ⟨hz1, hz4, hz7⟩ := Lm.div_pos hi2 (by omega) hu3 hbig hgq (by omega) (Int.mul_nonneg (Int.le_of_lt (Lm.P_pos _)) (Int.mul_nonneg (by omega) (by omega)))
     have hz2 := gu3
     refine rh [tv 4 .nil, tv 5 .nil, tv 6 (ki ((y.length : Nat) : Int)), tv 7 (kw s), tv 8 (.own 51 1), tv 9 (Xj v), tv 10 (.own 63 1), tv 11 (ki (((i : Nat) : Int) - 1)), ov 51 (Xj u3), ov 63 (Xj (q.set (i - 1) (g - 1)))] (oT 3 (oO ((K6 (by omega) (by omega)).symm : (g - 1) = IntKind.u32.wrap (g - 1)) (oO (Xb9 (i - 1) (by omega) (by simp only [J1]; (try simp only [List.length_set, List.length_append, List.length_cons, List.length_nil, List.length_replicate]); omega) : (0 : Int) ≤ (((i : Nat) : Int) - 1) ∧ Int.toNat (((i : Nat) : Int) - 1) < (uw q).length) (oO (aI (Xns (i - 1) (by omega) (Zj (by (try simp only [List.length_set, List.length_append, List.length_cons, List.length_nil, List.length_replicate]); omega)) : (uw q)[Int.toNat (((i : Nat) : Int) - 1)]? = some (kw (q.getD (i - 1) 0))) (Xj6 (i - 1) (by omega) (Xbt _ _ _) : (uw (q.set (i - 1) (g - 1))) = (uw q).set (Int.toNat (((i : Nat) : Int) - 1)) (kw (g - 1)))) (oA [kw (g - 1), .tup [.sl 1 (uw (q.set (i - 1) (g - 1)))], kw (q.getD (i - 1) 0)] oN))))) ?_
     refine rh [tv 4 .nil, tv 5 .nil, tv 6 (ki ((y.length : Nat) : Int)), tv 7 (kw s), tv 8 (.own 51 1), tv 9 (Xj v), tv 10 (.own 63 1), tv 11 (ki ((((i - 1) : Nat) : Int) - 1)), ov 51 (Xj u3), ov 63 (Xj (q.set (i - 1) (g - 1)))] (oT 1 (oO (Xax (Yw (by omega) (by omega)) (by omega) : Jx .sub .i64 (((i : Nat) : Int) - 1) 1 = some ((((i - 1) : Nat) : Int) - 1) ∧ ((BinOp.sub = .quo ∨ BinOp.sub = .rem) → 1 ≠ (0 : Int))) (oT 1 (oA [ki ((((i - 1) : Nat) : Int) - 1)] oN)))) ?_
     exact ⟨i - 1, [tv 4 .nil, tv 5 .nil, tv 6 (ki ((y.length : Nat) : Int)), tv 7 (kw s), tv 8 (.own 51 1), tv 9 (Xj v), tv 10 (.own 63 1), tv 11 (ki ((((i - 1) : Nat) : Int) - 1)), ov 51 (Xj u3), ov 63 (Xj (q.set (i - 1) (g - 1)))], (by omega), rfl, (by kernel_rfl), i - 1, u3, q.set (i - 1) (g - 1), ⟨by omega, hz2, by omega, hz4, Lm.G_set hi5 _ (by omega) (by omega), by simp [hi6], by rw [Lm.drop_set _ _ (by omega), Lm.V_cons, show i - 1 + 1 = i by omega]; exact Lm.div_acc hP1 hi7 hz7⟩, rfl, (by kernel_rfl)⟩
   ·
    have h3' := of_decide_eq_false h3
    refine Xcz (live := [tv 4 .nil, tv 5 .nil, tv 6 (ki ((y.length : Nat) : Int)), tv 7 (kw s), tv 8 (.own 51 1), tv 9 (Xj v), tv 10 (.own 63 1), tv 11 (ki (((i : Nat) : Int) - 1)), tv 13 (ku (g - 1)), tv 14 (ku (r + v.getD (y.length - 1) 0)), ov 51 (Xj u), ov 63 (Xj q)]) (by kernel_rfl) (by kernel_rfl) ?_
    refine Xn ?_
    exact ⟨(g - 1).toNat, [tv 4 .nil, tv 5 .nil, tv 6 (ki ((y.length : Nat) : Int)), tv 7 (kw s), tv 8 (.own 51 1), tv 9 (Xj v), tv 10 (.own 63 1), tv 11 (ki (((i : Nat) : Int) - 1)), tv 13 (ku (g - 1)), tv 14 (ku (r + v.getD (y.length - 1) 0)), ov 51 (Xj u), ov 63 (Xj q)], (by omega), rfl, (by kernel_rfl), g - 1, r + v.getD (y.length - 1) 0, ⟨by omega, by omega, by omega, by omega, by rw [hr2, Int.sub_mul]; omega, by rw [Int.sub_add_cancel]; exact hgq0⟩, rfl, (by kernel_rfl)⟩
  ·
   have h2' := of_decide_eq_false h2
   refine rh [tv 4 .nil, tv 5 .nil, tv 6 (ki ((y.length : Nat) : Int)), tv 7 (kw s), tv 8 (.own 51 1), tv 9 (Xj v), tv 10 (.own 63 1), tv 11 (ki (((i : Nat) : Int) - 1)), tv 13 (ku g), tv 14 (ku r), tv 129 (.bool (decide (((r * 1000000000) + u.getD (i - 1 + y.length - 2) 0) < (g * v.getD (y.length - 2) 0)))), ov 51 (Xj u), ov 63 (Xj q)] (oT 1 (oO (aI trivial (h2 : (decide (1000000000 ≤ g)) = false)) (oT 1 (oO (Xh 1 trivial) (oO (Xh 1 trivial) (oO (Xh 1 trivial) (oO (Xh 1 (Xax (Yw (by omega) (by omega)) (by omega) : Jx .sub .i64 ((y.length : Nat) : Int) 2 = some ((y.length - 2 : Nat) : Int) ∧ ((BinOp.sub = .quo ∨ BinOp.sub = .rem) → 2 ≠ (0 : Int)))) (oO (Xh 2 (J0 (y.length - 2) (by omega) (Zj (by (try simp only [List.length_set, List.length_append, List.length_cons, List.length_nil, List.length_replicate]); omega)) : (0 : Int) ≤ ((y.length - 2 : Nat) : Int) ∧ (uw v)[Int.toNat ((y.length - 2 : Nat) : Int)]? = some (kw (v.getD (y.length - 2) 0)))) (oO (Xh 1 trivial) (oO (Xh 1 ((Jj (by omega) (by omega)).symm : (v.getD (y.length - 2) 0) = IntKind.u64.wrap (v.getD (y.length - 2) 0))) (oO (Xh 2 (Xaf (x := g) (y := (v.getD (y.length - 2) 0)) (by omega) (by omega))) (oO (Xh 1 trivial) (oO (Xh 1 (Xaf (x := r) (y := 1000000000) (by omega) (by omega))) (oO (Xh 1 trivial) (oO (Xh 1 trivial) (oO (Xh 1 trivial) (oO (Xh 2 (Xax (X3 (by omega) (by omega)) (by omega) : Jx .add .i64 (((i : Nat) : Int) - 1) ((y.length : Nat) : Int) = some ((i - 1 + y.length : Nat) : Int) ∧ ((BinOp.add = .quo ∨ BinOp.add = .rem) → ((y.length : Nat) : Int) ≠ (0 : Int)))) (oO (Xh 1 (Xax (Yw (by omega) (by omega)) (by omega) : Jx .sub .i64 ((i - 1 + y.length : Nat) : Int) 2 = some ((i - 1 + y.length - 2 : Nat) : Int) ∧ ((BinOp.sub = .quo ∨ BinOp.sub = .rem) → 2 ≠ (0 : Int)))) (oO (Xh 2 (Xb9 (i - 1 + y.length - 2) (by omega) (by simp only [J1]; (try simp only [List.length_set, List.length_append, List.length_cons, List.length_nil, List.length_replicate]); omega) : (0 : Int) ≤ ((i - 1 + y.length - 2 : Nat) : Int) ∧ Int.toNat ((i - 1 + y.length - 2 : Nat) : Int) < (uw u).length)) (oO (Xh 1 (Zj (by (try simp only [List.length_set, List.length_append, List.length_cons, List.length_nil, List.length_replicate]); omega) : (uw u)[i - 1 + y.length - 2]? = some (kw (u.getD (i - 1 + y.length - 2) 0)))) (oO (Xh 1 ((Jj (by omega) (by omega)).symm : (u.getD (i - 1 + y.length - 2) 0) = IntKind.u64.wrap (u.getD (i - 1 + y.length - 2) 0))) (oO (Xh 2 (Jp (x := (r * 1000000000)) (y := (u.getD (i - 1 + y.length - 2) 0)) (by omega) (by omega))) (oO (Xh 2 (oB (decide (((r * 1000000000) + u.getD (i - 1 + y.length - 2) 0) < (g * v.getD (y.length - 2) 0))))) (oT 1 (oA [cT false, ki ((y.length - 2 : Nat) : Int), kw (v.getD (y.length - 2) 0), ku (v.getD (y.length - 2) 0), ku (g * v.getD (y.length - 2) 0), ku (r * 1000000000), ki ((i - 1 + y.length : Nat) : Int), ki ((i - 1 + y.length - 2 : Nat) : Int), kw (u.getD (i - 1 + y.length - 2) 0), ku (u.getD (i - 1 + y.length - 2) 0), ku ((r * 1000000000) + u.getD (i - 1 + y.length - 2) 0), cT (decide (((r * 1000000000) + u.getD (i - 1 + y.length - 2) 0) < (g * v.getD (y.length - 2) 0)))] oN))))))))))))))))))))))))) ?_
   refine cB (decide (((r * 1000000000) + u.getD (i - 1 + y.length - 2) 0) < (g * v.getD (y.length - 2) 0))) (fun h5 => ?_) (fun h5 => ?_)
   ·
    have h5' := of_decide_eq_true h5
    refine Xn ?_
    refine X6 ?_
    have hgq0 : Lm.V u < g * (Lm.V v * Lm.P (i - 1)) := by
     first
     | exact Lm.K2 hD0 hXD (by omega)
     | exact Lm.K3 hM hX hul.2 hD hdl0 hg0 (by omega) hr2 (by omega)
    have hg3 := Lm.pos_of_lt (Lm.V_bound hi2).1 hgq0 hD0
    refine sh 3 [tv 4 .nil, tv 5 .nil, tv 6 (ki ((y.length : Nat) : Int)), tv 7 (kw s), tv 8 (.own 51 1), tv 9 (Xj v), tv 10 (.own 63 1), tv 11 (ki (((i : Nat) : Int) - 1)), tv 13 (ku (g - 1)), tv 14 (ku (r + v.getD (y.length - 1) 0)), tv 141 (.bool (decide (1000000000 ≤ (r + v.getD (y.length - 1) 0)))), ov 51 (Xj u), ov 63 (Xj q)] (oS (oT 1 (oO (Xcw (x := g) (y := 1) (by omega) (by omega)) (oT 1 oN))) (oS (oT 3 (oO (Xax (Yw (by omega) (by omega)) (by omega) : Jx .sub .i64 ((y.length : Nat) : Int) 1 = some ((y.length - 1 : Nat) : Int) ∧ ((BinOp.sub = .quo ∨ BinOp.sub = .rem) → 1 ≠ (0 : Int))) (oO (J0 (y.length - 1) (by omega) (Zj (by (try simp only [List.length_set, List.length_append, List.length_cons, List.length_nil, List.length_replicate]); omega)) : (0 : Int) ≤ ((y.length - 1 : Nat) : Int) ∧ (uw v)[Int.toNat ((y.length - 1 : Nat) : Int)]? = some (kw (v.getD (y.length - 1) 0))) (oT 1 (oO ((Jj (by omega) (by omega)).symm : (v.getD (y.length - 1) 0) = IntKind.u64.wrap (v.getD (y.length - 1) 0)) (oO (Jp (x := r) (y := (v.getD (y.length - 1) 0)) (by omega) (by omega)) (oT 1 oN))))))) (oS (oT 1 (oO (oB (decide (1000000000 ≤ (r + v.getD (y.length - 1) 0)))) (oA [ku (g - 1), ki ((y.length - 1 : Nat) : Int), kw (v.getD (y.length - 1) 0), ku (v.getD (y.length - 1) 0), ku (r + v.getD (y.length - 1) 0), cT (decide (1000000000 ≤ (r + v.getD (y.length - 1) 0)))] oN))) oN))) ?_
    refine cB (decide (1000000000 ≤ (r + v.getD (y.length - 1) 0))) (fun h6 => ?_) (fun h6 => ?_)
    ·
     have h6' := of_decide_eq_true h6
     refine Z3 ?_
     refine Xe ?_
     refine Xe ?_
     have hrr : (r + v.getD (y.length - 1) 0) = ((u.getD (i - 1 + y.length) 0 * 1000000000) + u.getD (i - 1 + y.length - 1) 0) - (g - 1) * (v.getD (y.length - 1) 0) := by rw [hr2, Int.sub_mul]; omega
     have hgn : 0 ≤ g - 1 := by omega
     obtain ⟨hgB, hkt⟩ := Lm.K5 hu1.2 hu2.1 hv1 hv2.1 hv2.2 hk0 hgn (by omega) hrr (by omega)
     have hgq : Lm.V u < (g - 1 + 1) * (Lm.V v * Lm.P (i - 1)) := by rw [Int.sub_add_cancel]; exact hgq0
     have hk4 := Lm.K4 hM hX hul.1 hD hdl0 hdl1 hv2.1 hv1 hgn hgB (by omega) hrr hkt
     obtain ⟨u3, hu3⟩ : ∃ u3, u3 = Lm.dg u.length ((Lm.V u - Lm.P (i - 1) * (Lm.V v * (g - 1))) % Lm.P ((i - 1) + (y.length + 1))) := ⟨_, rfl⟩
     have hbig : Lm.V u < Lm.P (i - 1 + (y.length + 1)) := by
      rw [show i - 1 + (y.length + 1) = i + y.length by omega]; exact Lm.lt_PP gv lv hi4
     have gu3 : Lm.G u3 := by rw [hu3]; exact Lm.G_dg _ _
     have lu3 : u3.length = u.length := by rw [hu3]; simp
     refine rh [tv 4 .nil, tv 5 .nil, tv 6 (ki ((y.length : Nat) : Int)), tv 7 (kw s), tv 8 (.own 51 1), tv 9 (Xj v), tv 10 (.own 63 1), tv 11 (ki (((i : Nat) : Int) - 1)), tv 13 (ku (g - 1)), tv 151 (.bool (decide ((Lm.V u - Lm.P (i - 1) * (Lm.V v * (g - 1))) < 0))), ov 51 (Xj u3), ov 63 (Xj q)] (oT 4 (oO (Xax (X3 (by omega) (by omega)) (by omega) : Jx .add .i64 (((i : Nat) : Int) - 1) ((y.length : Nat) : Int) = some ((i - 1 + y.length : Nat) : Int) ∧ ((BinOp.add = .quo ∨ BinOp.add = .rem) → ((y.length : Nat) : Int) ≠ (0 : Int))) (oO (X3 (x := ((i - 1 + y.length : Nat) : Int)) (y := 1) (by omega) (by omega)) (oO (aI (show (((i : Nat) : Int) - 1) = (((i - 1) : Nat) : Int) by omega) (aI (show ((i - 1 + y.length + 1 : Nat) : Int) = (((i - 1) + (y.length + 1) : Nat) : Int) by omega) (aI (show 0 < (y.length + 1) by omega) (show (i - 1) + (y.length + 1) ≤ (uw u).length by simp only [J1]; (try simp only [List.length_set, List.length_append, List.length_cons, List.length_nil, List.length_replicate]); omega)))) (oT 2 (oO (show CW Tryz.prog 299 1 (i - 1) (y.length + 1) (uw u) [Xj v, ku (g - 1)] (uw u3) (.bool (decide ((Lm.V u - Lm.P (i - 1) * (Lm.V v * (g - 1))) < 0))) by rw [hu3]; exact Xew u v (g - 1) (i - 1) (y.length + 1) hi2 gv (by omega) (by omega) hgn hgB hbig (by omega)) (oA [ki ((i - 1 + y.length : Nat) : Int), ki ((i - 1 + y.length + 1 : Nat) : Int), .rptr .none, .win 0 0 0 (i - 1) (y.length + 1), .rptr .none, .sl 1 (uw u3), .bool (decide ((Lm.V u - Lm.P (i - 1) * (Lm.V v * (g - 1))) < 0))] oN))))))) ?_
     refine cB (decide ((Lm.V u - Lm.P (i - 1) * (Lm.V v * (g - 1))) < 0)) (fun h7 => ?_) (fun h7 => ?_)
     ·
      have h7' := of_decide_eq_true h7
      refine Xe ?_
      have hGp := Lm.pos_of_mul (Lm.V_bound hi2).1 (show Lm.V u - Lm.P (i - 1) * (Lm.V v * (g - 1)) < 0 by assumption) (Lm.P_pos _) hV0
      refine rh [tv 4 .nil, tv 5 .nil, tv 6 (ki ((y.length : Nat) : Int)), tv 7 (kw s), tv 8 (.own 51 1), tv 9 (Xj v), tv 10 (.own 63 1), tv 11 (ki (((i : Nat) : Int) - 1)), tv 13 (ku ((g - 1) - 1)), ov 51 (Xj u3), ov 63 (Xj q)] (oT 1 (oO (Xcw (x := (g - 1)) (y := 1) (by omega) (by omega)) (oT 1 (oA [ku ((g - 1) - 1)] oN)))) ?_
      obtain ⟨u4, hu4⟩ : ∃ u4, u4 = Lm.dg u3.length ((Lm.V u3 + Lm.P (i - 1) * Lm.V v) % Lm.P ((i - 1) + (y.length + 1))) := ⟨_, rfl⟩
      have gu4 : Lm.G u4 := by rw [hu4]; exact Lm.G_dg _ _
      have lu4 : u4.length = u.length := by rw [hu4, ← lu3]; simp
      have hb3 : Lm.V u3 < Lm.P (i - 1 + (y.length + 1)) := by
       rw [hu3, Lm.V_dg_mod hi2 (by omega)]; exact Int.emod_lt_of_pos _ (Lm.P_pos _)
      refine rh [tv 4 .nil, tv 5 .nil, tv 6 (ki ((y.length : Nat) : Int)), tv 7 (kw s), tv 8 (.own 51 1), tv 9 (Xj v), tv 10 (.own 63 1), tv 11 (ki (((i : Nat) : Int) - 1)), tv 13 (ku ((g - 1) - 1)), ov 51 (Xj u4), ov 63 (Xj q)] (oT 4 (oO (Xax (X3 (by omega) (by omega)) (by omega) : Jx .add .i64 (((i : Nat) : Int) - 1) ((y.length : Nat) : Int) = some ((i - 1 + y.length : Nat) : Int) ∧ ((BinOp.add = .quo ∨ BinOp.add = .rem) → ((y.length : Nat) : Int) ≠ (0 : Int))) (oO (X3 (x := ((i - 1 + y.length : Nat) : Int)) (y := 1) (by omega) (by omega)) (oO (aI (show (((i : Nat) : Int) - 1) = (((i - 1) : Nat) : Int) by omega) (aI (show ((i - 1 + y.length + 1 : Nat) : Int) = (((i - 1) + (y.length + 1) : Nat) : Int) by omega) (aI (show 0 < (y.length + 1) by omega) (show (i - 1) + (y.length + 1) ≤ (uw u3).length by simp only [J1]; (try simp only [List.length_set, List.length_append, List.length_cons, List.length_nil, List.length_replicate]); omega)))) (oT 1 (oO (show CW Tryz.prog 300 1 (i - 1) (y.length + 1) (uw u3) [Xj v] (uw u4) (.tup []) by rw [hu4]; exact Xe7 u3 v (i - 1) (y.length + 1) gu3 gv (by omega) (by omega) hb3 (by omega)) (oA [ki ((i - 1 + y.length : Nat) : Int), ki ((i - 1 + y.length + 1 : Nat) : Int), .rptr .none, .win 0 0 0 (i - 1) (y.length + 1), .rptr .none, .sl 1 (uw u4), .tup []] oN))))))) ?_
      obtain ⟨hz1, hz4, hz7⟩ := Lm.div_neg (gg := (g - 1)) hi2 (by omega) hu3 hu4 hbig hk4 (by omega) (Lm.W_le gv lv)
      have hz2 := gu4
      have hgp : 0 ≤ ((g - 1) - 1) := Lm.div_gp hz7 hz4 hD0 (Lm.V_bound hi2).1
      refine rh [tv 4 .nil, tv 5 .nil, tv 6 (ki ((y.length : Nat) : Int)), tv 7 (kw s), tv 8 (.own 51 1), tv 9 (Xj v), tv 10 (.own 63 1), tv 11 (ki (((i : Nat) : Int) - 1)), ov 51 (Xj u4), ov 63 (Xj (q.set (i - 1) ((g - 1) - 1)))] (oT 3 (oO ((K6 (by omega) (by omega)).symm : ((g - 1) - 1) = IntKind.u32.wrap ((g - 1) - 1)) (oO (Xb9 (i - 1) (by omega) (by simp only [J1]; (try simp only [List.length_set, List.length_append, List.length_cons, List.length_nil, List.length_replicate]); omega) : (0 : Int) ≤ (((i : Nat) : Int) - 1) ∧ Int.toNat (((i : Nat) : Int) - 1) < (uw q).length) (oO (aI (Xns (i - 1) (by omega) (Zj (by (try simp only [List.length_set, List.length_append, List.length_cons, List.length_nil, List.length_replicate]); omega)) : (uw q)[Int.toNat (((i : Nat) : Int) - 1)]? = some (kw (q.getD (i - 1) 0))) (Xj6 (i - 1) (by omega) (Xbt _ _ _) : (uw (q.set (i - 1) ((g - 1) - 1))) = (uw q).set (Int.toNat (((i : Nat) : Int) - 1)) (kw ((g - 1) - 1)))) (oA [kw ((g - 1) - 1), .tup [.sl 1 (uw (q.set (i - 1) ((g - 1) - 1)))], kw (q.getD (i - 1) 0)] oN))))) ?_
      refine rh [tv 4 .nil, tv 5 .nil, tv 6 (ki ((y.length : Nat) : Int)), tv 7 (kw s), tv 8 (.own 51 1), tv 9 (Xj v), tv 10 (.own 63 1), tv 11 (ki ((((i - 1) : Nat) : Int) - 1)), ov 51 (Xj u4), ov 63 (Xj (q.set (i - 1) ((g - 1) - 1)))] (oT 1 (oO (Xax (Yw (by omega) (by omega)) (by omega) : Jx .sub .i64 (((i : Nat) : Int) - 1) 1 = some ((((i - 1) : Nat) : Int) - 1) ∧ ((BinOp.sub = .quo ∨ BinOp.sub = .rem) → 1 ≠ (0 : Int))) (oT 1 (oA [ki ((((i - 1) : Nat) : Int) - 1)] oN)))) ?_
      exact ⟨i - 1, [tv 4 .nil, tv 5 .nil, tv 6 (ki ((y.length : Nat) : Int)), tv 7 (kw s), tv 8 (.own 51 1), tv 9 (Xj v), tv 10 (.own 63 1), tv 11 (ki ((((i - 1) : Nat) : Int) - 1)), ov 51 (Xj u4), ov 63 (Xj (q.set (i - 1) ((g - 1) - 1)))], (by omega), rfl, (by kernel_rfl), i - 1, u4, q.set (i - 1) ((g - 1) - 1), ⟨by omega, hz2, by omega, hz4, Lm.G_set hi5 _ (by omega) (by omega), by simp [hi6], by rw [Lm.drop_set _ _ (by omega), Lm.V_cons, show i - 1 + 1 = i by omega]; exact Lm.div_acc hP1 hi7 hz7⟩, rfl, (by kernel_rfl)⟩
     ·
      have h7' := of_decide_eq_false h7
      refine Xn ?_
      obtain ⟨hz1, hz4, hz7⟩ := Lm.div_pos hi2 (by omega) hu3 hbig hgq (by omega) (Int.mul_nonneg (Int.le_of_lt (Lm.P_pos _)) (Int.mul_nonneg (by omega) (by omega)))
      have hz2 := gu3
      refine rh [tv 4 .nil, tv 5 .nil, tv 6 (ki ((y.length : Nat) : Int)), tv 7 (kw s), tv 8 (.own 51 1), tv 9 (Xj v), tv 10 (.own 63 1), tv 11 (ki (((i : Nat) : Int) - 1)), ov 51 (Xj u3), ov 63 (Xj (q.set (i - 1) (g - 1)))] (oT 3 (oO ((K6 (by omega) (by omega)).symm : (g - 1) = IntKind.u32.wrap (g - 1)) (oO (Xb9 (i - 1) (by omega) (by simp only [J1]; (try simp only [List.length_set, List.length_append, List.length_cons, List.length_nil, List.length_replicate]); omega) : (0 : Int) ≤ (((i : Nat) : Int) - 1) ∧ Int.toNat (((i : Nat) : Int) - 1) < (uw q).length) (oO (aI (Xns (i - 1) (by omega) (Zj (by (try simp only [List.length_set, List.length_append, List.length_cons, List.length_nil, List.length_replicate]); omega)) : (uw q)[Int.toNat (((i : Nat) : Int) - 1)]? = some (kw (q.getD (i - 1) 0))) (Xj6 (i - 1) (by omega) (Xbt _ _ _) : (uw (q.set (i - 1) (g - 1))) = (uw q).set (Int.toNat (((i : Nat) : Int) - 1)) (kw (g - 1)))) (oA [kw (g - 1), .tup [.sl 1 (uw (q.set (i - 1) (g - 1)))], kw (q.getD (i - 1) 0)] oN))))) ?_
      refine rh [tv 4 .nil, tv 5 .nil, tv 6 (ki ((y.length : Nat) : Int)), tv 7 (kw s), tv 8 (.own 51 1), tv 9 (Xj v), tv 10 (.own 63 1), tv 11 (ki ((((i - 1) : Nat) : Int) - 1)), ov 51 (Xj u3), ov 63 (Xj (q.set (i - 1) (g - 1)))] (oT 1 (oO (Xax (Yw (by omega) (by omega)) (by omega) : Jx .sub .i64 (((i : Nat) : Int) - 1) 1 = some ((((i - 1) : Nat) : Int) - 1) ∧ ((BinOp.sub = .quo ∨ BinOp.sub = .rem) → 1 ≠ (0 : Int))) (oT 1 (oA [ki ((((i - 1) : Nat) : Int) - 1)] oN)))) ?_
      exact ⟨i - 1, [tv 4 .nil, tv 5 .nil, tv 6 (ki ((y.length : Nat) : Int)), tv 7 (kw s), tv 8 (.own 51 1), tv 9 (Xj v), tv 10 (.own 63 1), tv 11 (ki ((((i - 1) : Nat) : Int) - 1)), ov 51 (Xj u3), ov 63 (Xj (q.set (i - 1) (g - 1)))], (by omega), rfl, (by kernel_rfl), i - 1, u3, q.set (i - 1) (g - 1), ⟨by omega, hz2, by omega, hz4, Lm.G_set hi5 _ (by omega) (by omega), by simp [hi6], by rw [Lm.drop_set _ _ (by omega), Lm.V_cons, show i - 1 + 1 = i by omega]; exact Lm.div_acc hP1 hi7 hz7⟩, rfl, (by kernel_rfl)⟩
    ·
     have h6' := of_decide_eq_false h6
     refine Xcz (live := [tv 4 .nil, tv 5 .nil, tv 6 (ki ((y.length : Nat) : Int)), tv 7 (kw s), tv 8 (.own 51 1), tv 9 (Xj v), tv 10 (.own 63 1), tv 11 (ki (((i : Nat) : Int) - 1)), tv 13 (ku (g - 1)), tv 14 (ku (r + v.getD (y.length - 1) 0)), ov 51 (Xj u), ov 63 (Xj q)]) (by kernel_rfl) (by kernel_rfl) ?_
     refine Xn ?_
     exact ⟨(g - 1).toNat, [tv 4 .nil, tv 5 .nil, tv 6 (ki ((y.length : Nat) : Int)), tv 7 (kw s), tv 8 (.own 51 1), tv 9 (Xj v), tv 10 (.own 63 1), tv 11 (ki (((i : Nat) : Int) - 1)), tv 13 (ku (g - 1)), tv 14 (ku (r + v.getD (y.length - 1) 0)), ov 51 (Xj u), ov 63 (Xj q)], (by omega), rfl, (by kernel_rfl), g - 1, r + v.getD (y.length - 1) 0, ⟨by omega, by omega, by omega, by omega, by rw [hr2, Int.sub_mul]; omega, by rw [Int.sub_add_cancel]; exact hgq0⟩, rfl, (by kernel_rfl)⟩
   ·
    have h5' := of_decide_eq_false h5
    refine Z3 ?_
    refine Xe ?_
    refine Xe ?_
    have hgB : g < 1000000000 := by omega
    have hkt : g * v.getD (y.length - 2) 0 ≤ r * 1000000000 + (u.getD (i - 1 + y.length - 2) 0) := by omega
    have hrr : r = ((u.getD (i - 1 + y.length) 0 * 1000000000) + u.getD (i - 1 + y.length - 1) 0) - g * (v.getD (y.length - 1) 0) := hr2
    have hgq := hg2
    have hgn : 0 ≤ g := hg0
    have hk4 := Lm.K4 hM hX hul.1 hD hdl0 hdl1 hv2.1 hv1 hgn hgB (by omega) hrr hkt
    obtain ⟨u3, hu3⟩ : ∃ u3, u3 = Lm.dg u.length ((Lm.V u - Lm.P (i - 1) * (Lm.V v * g)) % Lm.P ((i - 1) + (y.length + 1))) := ⟨_, rfl⟩
    have hbig : Lm.V u < Lm.P (i - 1 + (y.length + 1)) := by
     rw [show i - 1 + (y.length + 1) = i + y.length by omega]; exact Lm.lt_PP gv lv hi4
    have gu3 : Lm.G u3 := by rw [hu3]; exact Lm.G_dg _ _
    have lu3 : u3.length = u.length := by rw [hu3]; simp
    refine rh [tv 4 .nil, tv 5 .nil, tv 6 (ki ((y.length : Nat) : Int)), tv 7 (kw s), tv 8 (.own 51 1), tv 9 (Xj v), tv 10 (.own 63 1), tv 11 (ki (((i : Nat) : Int) - 1)), tv 13 (ku g), tv 151 (.bool (decide ((Lm.V u - Lm.P (i - 1) * (Lm.V v * g)) < 0))), ov 51 (Xj u3), ov 63 (Xj q)] (oT 4 (oO (Xax (X3 (by omega) (by omega)) (by omega) : Jx .add .i64 (((i : Nat) : Int) - 1) ((y.length : Nat) : Int) = some ((i - 1 + y.length : Nat) : Int) ∧ ((BinOp.add = .quo ∨ BinOp.add = .rem) → ((y.length : Nat) : Int) ≠ (0 : Int))) (oO (X3 (x := ((i - 1 + y.length : Nat) : Int)) (y := 1) (by omega) (by omega)) (oO (aI (show (((i : Nat) : Int) - 1) = (((i - 1) : Nat) : Int) by omega) (aI (show ((i - 1 + y.length + 1 : Nat) : Int) = (((i - 1) + (y.length + 1) : Nat) : Int) by omega) (aI (show 0 < (y.length + 1) by omega) (show (i - 1) + (y.length + 1) ≤ (uw u).length by simp only [J1]; (try simp only [List.length_set, List.length_append, List.length_cons, List.length_nil, List.length_replicate]); omega)))) (oT 2 (oO (show CW Tryz.prog 299 1 (i - 1) (y.length + 1) (uw u) [Xj v, ku g] (uw u3) (.bool (decide ((Lm.V u - Lm.P (i - 1) * (Lm.V v * g)) < 0))) by rw [hu3]; exact Xew u v g (i - 1) (y.length + 1) hi2 gv (by omega) (by omega) hgn hgB hbig (by omega)) (oA [ki ((i - 1 + y.length : Nat) : Int), ki ((i - 1 + y.length + 1 : Nat) : Int), .rptr .none, .win 0 0 0 (i - 1) (y.length + 1), .rptr .none, .sl 1 (uw u3), .bool (decide ((Lm.V u - Lm.P (i - 1) * (Lm.V v * g)) < 0))] oN))))))) ?_
    refine cB (decide ((Lm.V u - Lm.P (i - 1) * (Lm.V v * g)) < 0)) (fun h8 => ?_) (fun h8 => ?_)
    ·
     have h8' := of_decide_eq_true h8
     refine Xe ?_
     have hGp := Lm.pos_of_mul (Lm.V_bound hi2).1 (show Lm.V u - Lm.P (i - 1) * (Lm.V v * g) < 0 by assumption) (Lm.P_pos _) hV0
     refine rh [tv 4 .nil, tv 5 .nil, tv 6 (ki ((y.length : Nat) : Int)), tv 7 (kw s), tv 8 (.own 51 1), tv 9 (Xj v), tv 10 (.own 63 1), tv 11 (ki (((i : Nat) : Int) - 1)), tv 13 (ku (g - 1)), ov 51 (Xj u3), ov 63 (Xj q)] (oT 1 (oO (Xcw (x := g) (y := 1) (by omega) (by omega)) (oT 1 (oA [ku (g - 1)] oN)))) ?_
     obtain ⟨u4, hu4⟩ : ∃ u4, u4 = Lm.dg u3.length ((Lm.V u3 + Lm.P (i - 1) * Lm.V v) % Lm.P ((i - 1) + (y.length + 1))) := ⟨_, rfl⟩
     have gu4 : Lm.G u4 := by rw [hu4]; exact Lm.G_dg _ _
     have lu4 : u4.length = u.length := by rw [hu4, ← lu3]; simp
     have hb3 : Lm.V u3 < Lm.P (i - 1 + (y.length + 1)) := by
      rw [hu3, Lm.V_dg_mod hi2 (by omega)]; exact Int.emod_lt_of_pos _ (Lm.P_pos _)
     refine rh [tv 4 .nil, tv 5 .nil, tv 6 (ki ((y.length : Nat) : Int)), tv 7 (kw s), tv 8 (.own 51 1), tv 9 (Xj v), tv 10 (.own 63 1), tv 11 (ki (((i : Nat) : Int) - 1)), tv 13 (ku (g - 1)), ov 51 (Xj u4), ov 63 (Xj q)] (oT 4 (oO (Xax (X3 (by omega) (by omega)) (by omega) : Jx .add .i64 (((i : Nat) : Int) - 1) ((y.length : Nat) : Int) = some ((i - 1 + y.length : Nat) : Int) ∧ ((BinOp.add = .quo ∨ BinOp.add = .rem) → ((y.length : Nat) : Int) ≠ (0 : Int))) (oO (X3 (x := ((i - 1 + y.length : Nat) : Int)) (y := 1) (by omega) (by omega)) (oO (aI (show (((i : Nat) : Int) - 1) = (((i - 1) : Nat) : Int) by omega) (aI (show ((i - 1 + y.length + 1 : Nat) : Int) = (((i - 1) + (y.length + 1) : Nat) : Int) by omega) (aI (show 0 < (y.length + 1) by omega) (show (i - 1) + (y.length + 1) ≤ (uw u3).length by simp only [J1]; (try simp only [List.length_set, List.length_append, List.length_cons, List.length_nil, List.length_replicate]); omega)))) (oT 1 (oO (show CW Tryz.prog 300 1 (i - 1) (y.length + 1) (uw u3) [Xj v] (uw u4) (.tup []) by rw [hu4]; exact Xe7 u3 v (i - 1) (y.length + 1) gu3 gv (by omega) (by omega) hb3 (by omega)) (oA [ki ((i - 1 + y.length : Nat) : Int), ki ((i - 1 + y.length + 1 : Nat) : Int), .rptr .none, .win 0 0 0 (i - 1) (y.length + 1), .rptr .none, .sl 1 (uw u4), .tup []] oN))))))) ?_
     obtain ⟨hz1, hz4, hz7⟩ := Lm.div_neg (gg := g) hi2 (by omega) hu3 hu4 hbig hk4 (by omega) (Lm.W_le gv lv)
     have hz2 := gu4
     have hgp : 0 ≤ (g - 1) := Lm.div_gp hz7 hz4 hD0 (Lm.V_bound hi2).1
     refine rh [tv 4 .nil, tv 5 .nil, tv 6 (ki ((y.length : Nat) : Int)), tv 7 (kw s), tv 8 (.own 51 1), tv 9 (Xj v), tv 10 (.own 63 1), tv 11 (ki (((i : Nat) : Int) - 1)), ov 51 (Xj u4), ov 63 (Xj (q.set (i - 1) (g - 1)))] (oT 3 (oO ((K6 (by omega) (by omega)).symm : (g - 1) = IntKind.u32.wrap (g - 1)) (oO (Xb9 (i - 1) (by omega) (by simp only [J1]; (try simp only [List.length_set, List.length_append, List.length_cons, List.length_nil, List.length_replicate]); omega) : (0 : Int) ≤ (((i : Nat) : Int) - 1) ∧ Int.toNat (((i : Nat) : Int) - 1) < (uw q).length) (oO (aI (Xns (i - 1) (by omega) (Zj (by (try simp only [List.length_set, List.length_append, List.length_cons, List.length_nil, List.length_replicate]); omega)) : (uw q)[Int.toNat (((i : Nat) : Int) - 1)]? = some (kw (q.getD (i - 1) 0))) (Xj6 (i - 1) (by omega) (Xbt _ _ _) : (uw (q.set (i - 1) (g - 1))) = (uw q).set (Int.toNat (((i : Nat) : Int) - 1)) (kw (g - 1)))) (oA [kw (g - 1), .tup [.sl 1 (uw (q.set (i - 1) (g - 1)))], kw (q.getD (i - 1) 0)] oN))))) ?_
     refine rh [tv 4 .nil, tv 5 .nil, tv 6 (ki ((y.length : Nat) : Int)), tv 7 (kw s), tv 8 (.own 51 1), tv 9 (Xj v), tv 10 (.own 63 1), tv 11 (ki ((((i - 1) : Nat) : Int) - 1)), ov 51 (Xj u4), ov 63 (Xj (q.set (i - 1) (g - 1)))] (oT 1 (oO (Xax (Yw (by omega) (by omega)) (by omega) : Jx .sub .i64 (((i : Nat) : Int) - 1) 1 = some ((((i - 1) : Nat) : Int) - 1) ∧ ((BinOp.sub = .quo ∨ BinOp.sub = .rem) → 1 ≠ (0 : Int))) (oT 1 (oA [ki ((((i - 1) : Nat) : Int) - 1)] oN)))) ?_
     exact ⟨i - 1, [tv 4 .nil, tv 5 .nil, tv 6 (ki ((y.length : Nat) : Int)), tv 7 (kw s), tv 8 (.own 51 1), tv 9 (Xj v), tv 10 (.own 63 1), tv 11 (ki ((((i - 1) : Nat) : Int) - 1)), ov 51 (Xj u4), ov 63 (Xj (q.set (i - 1) (g - 1)))], (by omega), rfl, (by kernel_rfl), i - 1, u4, q.set (i - 1) (g - 1), ⟨by omega, hz2, by omega, hz4, Lm.G_set hi5 _ (by omega) (by omega), by simp [hi6], by rw [Lm.drop_set _ _ (by omega), Lm.V_cons, show i - 1 + 1 = i by omega]; exact Lm.div_acc hP1 hi7 hz7⟩, rfl, (by kernel_rfl)⟩
    ·
     have h8' := of_decide_eq_false h8
     refine Xn ?_
     obtain ⟨hz1, hz4, hz7⟩ := Lm.div_pos hi2 (by omega) hu3 hbig hgq (by omega) (Int.mul_nonneg (Int.le_of_lt (Lm.P_pos _)) (Int.mul_nonneg (by omega) (by omega)))
     have hz2 := gu3
     refine rh [tv 4 .nil, tv 5 .nil, tv 6 (ki ((y.length : Nat) : Int)), tv 7 (kw s), tv 8 (.own 51 1), tv 9 (Xj v), tv 10 (.own 63 1), tv 11 (ki (((i : Nat) : Int) - 1)), ov 51 (Xj u3), ov 63 (Xj (q.set (i - 1) g))] (oT 3 (oO ((K6 (by omega) (by omega)).symm : g = IntKind.u32.wrap g) (oO (Xb9 (i - 1) (by omega) (by simp only [J1]; (try simp only [List.length_set, List.length_append, List.length_cons, List.length_nil, List.length_replicate]); omega) : (0 : Int) ≤ (((i : Nat) : Int) - 1) ∧ Int.toNat (((i : Nat) : Int) - 1) < (uw q).length) (oO (aI (Xns (i - 1) (by omega) (Zj (by (try simp only [List.length_set, List.length_append, List.length_cons, List.length_nil, List.length_replicate]); omega)) : (uw q)[Int.toNat (((i : Nat) : Int) - 1)]? = some (kw (q.getD (i - 1) 0))) (Xj6 (i - 1) (by omega) (Xbt _ _ _) : (uw (q.set (i - 1) g)) = (uw q).set (Int.toNat (((i : Nat) : Int) - 1)) (kw g))) (oA [kw g, .tup [.sl 1 (uw (q.set (i - 1) g))], kw (q.getD (i - 1) 0)] oN))))) ?_
     refine rh [tv 4 .nil, tv 5 .nil, tv 6 (ki ((y.length : Nat) : Int)), tv 7 (kw s), tv 8 (.own 51 1), tv 9 (Xj v), tv 10 (.own 63 1), tv 11 (ki ((((i - 1) : Nat) : Int) - 1)), ov 51 (Xj u3), ov 63 (Xj (q.set (i - 1) g))] (oT 1 (oO (Xax (Yw (by omega) (by omega)) (by omega) : Jx .sub .i64 (((i : Nat) : Int) - 1) 1 = some ((((i - 1) : Nat) : Int) - 1) ∧ ((BinOp.sub = .quo ∨ BinOp.sub = .rem) → 1 ≠ (0 : Int))) (oT 1 (oA [ki ((((i - 1) : Nat) : Int) - 1)] oN)))) ?_
     exact ⟨i - 1, [tv 4 .nil, tv 5 .nil, tv 6 (ki ((y.length : Nat) : Int)), tv 7 (kw s), tv 8 (.own 51 1), tv 9 (Xj v), tv 10 (.own 63 1), tv 11 (ki ((((i - 1) : Nat) : Int) - 1)), ov 51 (Xj u3), ov 63 (Xj (q.set (i - 1) g))], (by omega), rfl, (by kernel_rfl), i - 1, u3, q.set (i - 1) g, ⟨by omega, hz2, by omega, hz4, Lm.G_set hi5 _ (by omega) (by omega), by simp [hi6], by rw [Lm.drop_set _ _ (by omega), Lm.V_cons, show i - 1 + 1 = i by omega]; exact Lm.div_acc hP1 hi7 hz7⟩, rfl, (by kernel_rfl)⟩
 ·
  have h1' := of_decide_eq_false h1
  refine Z3 ?_
  refine sh 2 [tv 4 (.own 63 1), tv 5 (Xj (Lm.dg (Lm.trim (u.take y.length)).length (Lm.V (Lm.trim (u.take y.length)) / s))), ov 63 (Xj q)] (oS (oT 2 (oO (aI (aI (rfl : 0 = 0) (aI (show ((y.length : Nat) : Int) = ((y.length : Nat) : Int) by omega) (aI (rfl : y.length = y.length) (aI (show 0 ≤ y.length by omega) (show y.length ≤ (uw u).length by simp only [J1]; omega))))) (Xii _ _ : (uw (u.take y.length)) = ((uw u).take y.length).drop 0)) (oO (Xar _ (by rw [List.length_take]; omega) : CS Tryz.prog 278 [Xj (u.take y.length)] (Xj (Lm.trim (u.take y.length)))) (oT 1 (oO (Xhw _ s (Lm.G_trim (Lm.G_take hi2 _)) hs0 hs1 (by have := Lm.trim_len (u.take y.length); rw [List.length_take] at this; omega) : CS Tryz.prog 298 [Xj (Lm.trim (u.take y.length)), kw s] (.tup [Xj (Lm.dg (Lm.trim (u.take y.length)).length (Lm.V (Lm.trim (u.take y.length)) / s)), Xj [Lm.V (Lm.trim (u.take y.length)) % s]])) (oT 5 oN)))))) (oS (oT 4 (oA [.tup [.sl 1 (uw (u.take y.length))], ki ((0 : Nat) : Int), ki ((y.length : Nat) : Int), Xj (Lm.trim (u.take y.length)), .tup [Xj (Lm.dg (Lm.trim (u.take y.length)).length (Lm.V (Lm.trim (u.take y.length)) / s)), Xj [Lm.V (Lm.trim (u.take y.length)) % s]]] oN)) oN)) ?_
  refine Xio [.own 63 1] [tv 4 (.own 63 1), tv 5 (Xj (Lm.dg (Lm.trim (u.take y.length)).length (Lm.V (Lm.trim (u.take y.length)) / s))), (.o 63, ⟨1, false, Xj q⟩)] (by kernel_rfl) (by kernel_rfl) ?_
  refine Xg ?_
  have hz : i = 0 := by omega
  subst hz
  simp only [List.drop_zero, Lm.P_zero, Int.one_mul, Int.mul_one] at hi4 hi7
  obtain ⟨hq, hr⟩ := Lm.div_end gv lv hi2 hi4 hi7 vv hs0 (by omega) (by omega)
  exact X7i ((.tup [Xj q, Xj (Lm.dg (Lm.trim (u.take y.length)).length (Lm.V (Lm.trim (u.take y.length)) / s))])) (by rw [Lm.eq_dg hi5 hi6 hq, hr.1, hr.2, vx, vy])
open Go Go.RowKit
theorem Xpu (a b : List Int) (ga : Lm.G a) (gb : Lm.G b) (hs : a.length + b.length ≤ 4398046511104 := by omega) : CS Tryz.prog 263 [Xj a, Xj b] (Xj (Lm.dg (max a.length b.length + 1) (Lm.V a + Lm.V b))) := by
 refine cO 53 Tryz.func263 ?_
 refine rt [tv 0 (Xj a), tv 1 (Xj b), tv 4 .nil] (oT 1 oN) ?_
 refine Xe ?_
 refine rt [tv 0 (Xj a), tv 1 (Xj b), tv 4 .nil, tv 13 (.bool (decide (((a.length : Nat) : Int) < ((b.length : Nat) : Int))))] (oT 1 (oO (aI trivial (Yx _ : ((a.length : Nat) : Int) = (((uw a).length : Nat) : Int))) (oT 1 (oO (aI trivial (Yx _ : ((b.length : Nat) : Int) = (((uw b).length : Nat) : Int))) (oO (oB (decide (((a.length : Nat) : Int) < ((b.length : Nat) : Int)))) (oA [.tup [ki ((a.length : Nat) : Int)], .tup [ki ((b.length : Nat) : Int)], cT (decide (((a.length : Nat) : Int) < ((b.length : Nat) : Int)))] oN)))))) ?_
 refine cB (decide (((a.length : Nat) : Int) < ((b.length : Nat) : Int))) (fun h1 => ?_) (fun h1 => ?_)
 ·
  have h1' := of_decide_eq_true h1
  refine rh [tv 0 (Xj b), tv 1 (Xj a), tv 4 .nil] (oT 4 oN) ?_
  refine sh 2 [tv 0 (Xj b), tv 1 (Xj a), tv 4 .nil, tv 5 (.own 19 1), tv 6 (kw 0), ov 19 (Xj [])] (oS (oT 1 (oO (aI trivial (Yx _ : ((b.length : Nat) : Int) = (((uw b).length : Nat) : Int))) (oO (X3 (x := ((b.length : Nat) : Int)) (y := 1) (by omega) (by omega)) (oO (aI (show (0 : Int) ≤ 0 ∧ (0 : Int) ≤ ((b.length + 1 : Nat) : Int) ∧ 4 * Int.toNat ((b.length + 1 : Nat) : Int) ≤ 281474976710656 by omega) (rfl : (uw ([])) = List.replicate (Int.toNat 0) (kw 0))) (oT 1 oN))))) (oS (oT 1 (oA [.tup [ki ((b.length : Nat) : Int)], ki ((b.length + 1 : Nat) : Int), .tup [.sl 1 (uw ([]))]] oN)) oN)) ?_
  refine Xe ?_
  refine rt [tv 1 (Xj a), tv 4 .nil, tv 5 (.own 19 1), tv 6 (kw 0), tv 20 (Xj b), tv 21 (ki ((b.length : Nat) : Int)), tv 22 (ki 0), ov 19 (Xj [])] (oT 1 (oO (aI trivial (Yx _ : ((b.length : Nat) : Int) = (((uw b).length : Nat) : Int))) (oT 1 (oA [.tup [ki ((b.length : Nat) : Int)]] oN)))) ?_
  refine X6 ?_
  have hle : a.length ≤ b.length := by omega
  refine Z0 (fun n0 l0 => ∃ (i : Nat) (c : Int) (out : List Int), (i ≤ b.length ∧ 0 ≤ c ∧ c ≤ 1 ∧ Lm.G out ∧ out.length = i ∧ Lm.V out + Lm.P i * c = Lm.V (b.take i) + Lm.V (a.take i)) ∧ (b.length - i) = n0 ∧ l0 = [tv 1 (Xj a), tv 4 .nil, tv 5 (.own 19 1), tv 6 (kw c), tv 20 (Xj b), tv 21 (ki ((b.length : Nat) : Int)), tv 22 (ki ((i : Nat) : Int)), ov 19 (Xj out)]) (n := (b.length - 0)) (by kernel_rfl) ⟨0, 0, [], ⟨by omega, by omega, by omega, Lm.G_nil, rfl, by simp [Lm.V]⟩, rfl, (by kernel_rfl)⟩ ?_
  rintro n0 l0 ⟨i, c, out, ⟨hi1, hi2, hi3, hi4, hi5, hi6⟩, rfl, rfl⟩
  have hx := Lm.G_get gb i
  have hy := Lm.G_get ga i
  have hy0 := Lm.getD_out a (i := i)
  refine rt [tv 1 (Xj a), tv 4 .nil, tv 5 (.own 19 1), tv 6 (kw c), tv 20 (Xj b), tv 21 (ki ((b.length : Nat) : Int)), tv 22 (ki ((i : Nat) : Int)), tv 23 (.bool (decide (((i : Nat) : Int) < ((b.length : Nat) : Int)))), ov 19 (Xj out)] (oO (oB (decide (((i : Nat) : Int) < ((b.length : Nat) : Int)))) (oA [cT (decide (((i : Nat) : Int) < ((b.length : Nat) : Int)))] oN)) ?_
  refine Xe (cB (decide (((i : Nat) : Int) < ((b.length : Nat) : Int))) (fun h2 => ?_) (fun h2 => ?_))
  ·
   have h2' := of_decide_eq_true h2
   refine Xn ?_
   refine Xe ?_
   refine X6 ?_
   refine sh 2 [tv 1 (Xj a), tv 4 .nil, tv 5 (.own 19 1), tv 6 (kw c), tv 7 (ki ((i : Nat) : Int)), tv 8 (kw (b.getD i 0 + c)), tv 20 (Xj b), tv 21 (ki ((b.length : Nat) : Int)), tv 22 (ki ((i : Nat) : Int)), ov 19 (Xj out)] (oS (oT 1 (oO (J0 i (by omega) (Zj (by (try simp only [List.length_set, List.length_append, List.length_cons, List.length_nil, List.length_replicate]); omega)) : (0 : Int) ≤ ((i : Nat) : Int) ∧ (uw b)[Int.toNat ((i : Nat) : Int)]? = some (kw (b.getD i 0))) (oT 3 oN))) (oS (oT 2 (oO (Xa4 (x := (b.getD i 0)) (y := c) (by omega) (by omega)) (oT 1 (oA [kw (b.getD i 0), kw (b.getD i 0 + c)] oN)))) oN)) ?_
   refine Xe ?_
   refine rt [tv 1 (Xj a), tv 4 .nil, tv 5 (.own 19 1), tv 6 (kw c), tv 7 (ki ((i : Nat) : Int)), tv 8 (kw (b.getD i 0 + c)), tv 20 (Xj b), tv 21 (ki ((b.length : Nat) : Int)), tv 22 (ki ((i : Nat) : Int)), tv 33 (.bool (decide (((i : Nat) : Int) < ((a.length : Nat) : Int)))), ov 19 (Xj out)] (oT 2 (oO (aI trivial (Yx _ : ((a.length : Nat) : Int) = (((uw a).length : Nat) : Int))) (oO (oB (decide (((i : Nat) : Int) < ((a.length : Nat) : Int)))) (oA [.tup [ki ((a.length : Nat) : Int)], cT (decide (((i : Nat) : Int) < ((a.length : Nat) : Int)))] oN)))) ?_
   refine cB (decide (((i : Nat) : Int) < ((a.length : Nat) : Int))) (fun h3 => ?_) (fun h3 => ?_)
   ·
    have h3' := of_decide_eq_true h3
    refine rh [tv 1 (Xj a), tv 4 .nil, tv 5 (.own 19 1), tv 6 (kw c), tv 8 (kw ((b.getD i 0 + c) + a.getD i 0)), tv 20 (Xj b), tv 21 (ki ((b.length : Nat) : Int)), tv 22 (ki ((i : Nat) : Int)), ov 19 (Xj out)] (oT 3 (oO (J0 i (by omega) (Zj (by (try simp only [List.length_set, List.length_append, List.length_cons, List.length_nil, List.length_replicate]); omega)) : (0 : Int) ≤ ((i : Nat) : Int) ∧ (uw a)[Int.toNat ((i : Nat) : Int)]? = some (kw (a.getD i 0))) (oT 1 (oO (Xa4 (x := (b.getD i 0 + c)) (y := (a.getD i 0)) (by omega) (by omega)) (oT 1 (oA [kw (a.getD i 0), kw ((b.getD i 0 + c) + a.getD i 0)] oN)))))) ?_
    refine rt [tv 1 (Xj a), tv 4 .nil, tv 5 (.own 19 1), tv 6 (kw 0), tv 8 (kw ((b.getD i 0 + c) + a.getD i 0)), tv 20 (Xj b), tv 21 (ki ((b.length : Nat) : Int)), tv 22 (ki ((i : Nat) : Int)), ov 19 (Xj out)] (oT 1 oN) ?_
    refine Xe ?_
    refine rt [tv 1 (Xj a), tv 4 .nil, tv 5 (.own 19 1), tv 6 (kw 0), tv 8 (kw ((b.getD i 0 + c) + a.getD i 0)), tv 20 (Xj b), tv 21 (ki ((b.length : Nat) : Int)), tv 22 (ki ((i : Nat) : Int)), tv 41 (.bool (decide (1000000000 ≤ ((b.getD i 0 + c) + a.getD i 0)))), ov 19 (Xj out)] (oT 1 (oO (oB (decide (1000000000 ≤ ((b.getD i 0 + c) + a.getD i 0)))) (oA [cT (decide (1000000000 ≤ ((b.getD i 0 + c) + a.getD i 0)))] oN))) ?_
    refine cB (decide (1000000000 ≤ ((b.getD i 0 + c) + a.getD i 0))) (fun h4 => ?_) (fun h4 => ?_)
    ·
     have h4' := of_decide_eq_true h4
     refine rh [tv 1 (Xj a), tv 4 .nil, tv 5 (.own 19 1), tv 6 (kw 1), tv 8 (kw (((b.getD i 0 + c) + a.getD i 0) - 1000000000)), tv 20 (Xj b), tv 21 (ki ((b.length : Nat) : Int)), tv 22 (ki ((i : Nat) : Int)), ov 19 (Xj out)] (oT 1 (oO (Xa6 (x := ((b.getD i 0 + c) + a.getD i 0)) (y := 1000000000) (by omega) (by omega)) (oT 2 (oA [kw (((b.getD i 0 + c) + a.getD i 0) - 1000000000)] oN)))) ?_
     refine rh [tv 1 (Xj a), tv 4 .nil, tv 5 (.own 19 2), tv 6 (kw 1), tv 20 (Xj b), tv 21 (ki ((b.length : Nat) : Int)), tv 22 (ki ((i : Nat) : Int)), (.o 19, ⟨2, true, Xj (out ++ [((b.getD i 0 + c) + a.getD i 0) - 1000000000])⟩)] (oT 3 (oO (aI (show ((uw out).length + (uw ([((b.getD i 0 + c) + a.getD i 0) - 1000000000])).length) * 4 ≤ 35184372088832 by simp only [J1]; (try simp only [List.length_set, List.length_append, List.length_cons, List.length_nil, List.length_replicate]); omega) (Xcb _ _ : (uw (out ++ [((b.getD i 0 + c) + a.getD i 0) - 1000000000])) = uw out ++ uw ([((b.getD i 0 + c) + a.getD i 0) - 1000000000]))) (oT 1 (oA [.tup [.sl 1 (uw (out ++ [((b.getD i 0 + c) + a.getD i 0) - 1000000000]))]] oN)))) ?_
     refine rh [tv 1 (Xj a), tv 4 .nil, tv 5 (.own 19 2), tv 6 (kw 1), tv 20 (Xj b), tv 21 (ki ((b.length : Nat) : Int)), tv 22 (ki ((i + 1 : Nat) : Int)), (.o 19, ⟨2, true, Xj (out ++ [((b.getD i 0 + c) + a.getD i 0) - 1000000000])⟩)] (oO (X3 (x := ((i : Nat) : Int)) (y := 1) (by omega) (by omega)) (oT 1 (oA [ki ((i + 1 : Nat) : Int)] oN))) ?_
     exact ⟨b.length - (i + 1), [tv 1 (Xj a), tv 4 .nil, tv 5 (.own 19 2), tv 6 (kw 1), tv 20 (Xj b), tv 21 (ki ((b.length : Nat) : Int)), tv 22 (ki ((i + 1 : Nat) : Int)), (.o 19, ⟨2, true, Xj (out ++ [((b.getD i 0 + c) + a.getD i 0) - 1000000000])⟩)], (by omega), rfl, (by kernel_rfl), i + 1, 1, out ++ [((b.getD i 0 + c) + a.getD i 0) - 1000000000], ⟨by omega, by omega, by omega, Lm.G_snoc hi4 (by omega) (by omega), by simp [hi5], by rw [Lm.P_succ, Lm.V_take_next, Lm.V_take_next]; exact Lm.add_step hi6 (by omega) (Lm.V_snoc _ hi5)⟩, rfl, (by kernel_rfl)⟩
    ·
     have h4' := of_decide_eq_false h4
     refine Xn ?_
     refine rh [tv 1 (Xj a), tv 4 .nil, tv 5 (.own 19 2), tv 6 (kw 0), tv 20 (Xj b), tv 21 (ki ((b.length : Nat) : Int)), tv 22 (ki ((i : Nat) : Int)), (.o 19, ⟨2, true, Xj (out ++ [(b.getD i 0 + c) + a.getD i 0])⟩)] (oT 3 (oO (aI (show ((uw out).length + (uw ([(b.getD i 0 + c) + a.getD i 0])).length) * 4 ≤ 35184372088832 by simp only [J1]; (try simp only [List.length_set, List.length_append, List.length_cons, List.length_nil, List.length_replicate]); omega) (Xcb _ _ : (uw (out ++ [(b.getD i 0 + c) + a.getD i 0])) = uw out ++ uw ([(b.getD i 0 + c) + a.getD i 0]))) (oT 1 (oA [.tup [.sl 1 (uw (out ++ [(b.getD i 0 + c) + a.getD i 0]))]] oN)))) ?_
     refine rh [tv 1 (Xj a), tv 4 .nil, tv 5 (.own 19 2), tv 6 (kw 0), tv 20 (Xj b), tv 21 (ki ((b.length : Nat) : Int)), tv 22 (ki ((i + 1 : Nat) : Int)), (.o 19, ⟨2, true, Xj (out ++ [(b.getD i 0 + c) + a.getD i 0])⟩)] (oO (X3 (x := ((i : Nat) : Int)) (y := 1) (by omega) (by omega)) (oT 1 (oA [ki ((i + 1 : Nat) : Int)] oN))) ?_
     exact ⟨b.length - (i + 1), [tv 1 (Xj a), tv 4 .nil, tv 5 (.own 19 2), tv 6 (kw 0), tv 20 (Xj b), tv 21 (ki ((b.length : Nat) : Int)), tv 22 (ki ((i + 1 : Nat) : Int)), (.o 19, ⟨2, true, Xj (out ++ [(b.getD i 0 + c) + a.getD i 0])⟩)], (by omega), rfl, (by kernel_rfl), i + 1, 0, out ++ [(b.getD i 0 + c) + a.getD i 0], ⟨by omega, by omega, by omega, Lm.G_snoc hi4 (by omega) (by omega), by simp [hi5], by rw [Lm.P_succ, Lm.V_take_next, Lm.V_take_next]; exact Lm.add_step hi6 (by omega) (Lm.V_snoc _ hi5)⟩, rfl, (by kernel_rfl)⟩
   ·
    have h3' := of_decide_eq_false h3
    refine Xn ?_
    refine rt [tv 1 (Xj a), tv 4 .nil, tv 5 (.own 19 1), tv 6 (kw 0), tv 8 (kw (b.getD i 0 + c)), tv 20 (Xj b), tv 21 (ki ((b.length : Nat) : Int)), tv 22 (ki ((i : Nat) : Int)), ov 19 (Xj out)] (oT 1 oN) ?_
    refine Xe ?_
    refine rt [tv 1 (Xj a), tv 4 .nil, tv 5 (.own 19 1), tv 6 (kw 0), tv 8 (kw (b.getD i 0 + c)), tv 20 (Xj b), tv 21 (ki ((b.length : Nat) : Int)), tv 22 (ki ((i : Nat) : Int)), tv 41 (.bool (decide (1000000000 ≤ (b.getD i 0 + c)))), ov 19 (Xj out)] (oT 1 (oO (oB (decide (1000000000 ≤ (b.getD i 0 + c)))) (oA [cT (decide (1000000000 ≤ (b.getD i 0 + c)))] oN))) ?_
    refine cB (decide (1000000000 ≤ (b.getD i 0 + c))) (fun h5 => ?_) (fun h5 => ?_)
    ·
     have h5' := of_decide_eq_true h5
     refine rh [tv 1 (Xj a), tv 4 .nil, tv 5 (.own 19 1), tv 6 (kw 1), tv 8 (kw ((b.getD i 0 + c) - 1000000000)), tv 20 (Xj b), tv 21 (ki ((b.length : Nat) : Int)), tv 22 (ki ((i : Nat) : Int)), ov 19 (Xj out)] (oT 1 (oO (Xa6 (x := (b.getD i 0 + c)) (y := 1000000000) (by omega) (by omega)) (oT 2 (oA [kw ((b.getD i 0 + c) - 1000000000)] oN)))) ?_
     refine rh [tv 1 (Xj a), tv 4 .nil, tv 5 (.own 19 2), tv 6 (kw 1), tv 20 (Xj b), tv 21 (ki ((b.length : Nat) : Int)), tv 22 (ki ((i : Nat) : Int)), (.o 19, ⟨2, true, Xj (out ++ [(b.getD i 0 + c) - 1000000000])⟩)] (oT 3 (oO (aI (show ((uw out).length + (uw ([(b.getD i 0 + c) - 1000000000])).length) * 4 ≤ 35184372088832 by simp only [J1]; (try simp only [List.length_set, List.length_append, List.length_cons, List.length_nil, List.length_replicate]); omega) (Xcb _ _ : (uw (out ++ [(b.getD i 0 + c) - 1000000000])) = uw out ++ uw ([(b.getD i 0 + c) - 1000000000]))) (oT 1 (oA [.tup [.sl 1 (uw (out ++ [(b.getD i 0 + c) - 1000000000]))]] oN)))) ?_
     refine rh [tv 1 (Xj a), tv 4 .nil, tv 5 (.own 19 2), tv 6 (kw 1), tv 20 (Xj b), tv 21 (ki ((b.length : Nat) : Int)), tv 22 (ki ((i + 1 : Nat) : Int)), (.o 19, ⟨2, true, Xj (out ++ [(b.getD i 0 + c) - 1000000000])⟩)] (oO (X3 (x := ((i : Nat) : Int)) (y := 1) (by omega) (by omega)) (oT 1 (oA [ki ((i + 1 : Nat) : Int)] oN))) ?_
     exact ⟨b.length - (i + 1), [tv 1 (Xj a), tv 4 .nil, tv 5 (.own 19 2), tv 6 (kw 1), tv 20 (Xj b), tv 21 (ki ((b.length : Nat) : Int)), tv 22 (ki ((i + 1 : Nat) : Int)), (.o 19, ⟨2, true, Xj (out ++ [(b.getD i 0 + c) - 1000000000])⟩)], (by omega), rfl, (by kernel_rfl), i + 1, 1, out ++ [(b.getD i 0 + c) - 1000000000], ⟨by omega, by omega, by omega, Lm.G_snoc hi4 (by omega) (by omega), by simp [hi5], by rw [Lm.P_succ, Lm.V_take_next, Lm.V_take_next]; exact Lm.add_step hi6 (by omega) (Lm.V_snoc _ hi5)⟩, rfl, (by kernel_rfl)⟩
    ·
     have h5' := of_decide_eq_false h5
     refine Xn ?_
     refine rh [tv 1 (Xj a), tv 4 .nil, tv 5 (.own 19 2), tv 6 (kw 0), tv 20 (Xj b), tv 21 (ki ((b.length : Nat) : Int)), tv 22 (ki ((i : Nat) : Int)), (.o 19, ⟨2, true, Xj (out ++ [b.getD i 0 + c])⟩)] (oT 3 (oO (aI (show ((uw out).length + (uw ([b.getD i 0 + c])).length) * 4 ≤ 35184372088832 by simp only [J1]; (try simp only [List.length_set, List.length_append, List.length_cons, List.length_nil, List.length_replicate]); omega) (Xcb _ _ : (uw (out ++ [b.getD i 0 + c])) = uw out ++ uw ([b.getD i 0 + c]))) (oT 1 (oA [.tup [.sl 1 (uw (out ++ [b.getD i 0 + c]))]] oN)))) ?_
     refine rh [tv 1 (Xj a), tv 4 .nil, tv 5 (.own 19 2), tv 6 (kw 0), tv 20 (Xj b), tv 21 (ki ((b.length : Nat) : Int)), tv 22 (ki ((i + 1 : Nat) : Int)), (.o 19, ⟨2, true, Xj (out ++ [b.getD i 0 + c])⟩)] (oO (X3 (x := ((i : Nat) : Int)) (y := 1) (by omega) (by omega)) (oT 1 (oA [ki ((i + 1 : Nat) : Int)] oN))) ?_
     exact ⟨b.length - (i + 1), [tv 1 (Xj a), tv 4 .nil, tv 5 (.own 19 2), tv 6 (kw 0), tv 20 (Xj b), tv 21 (ki ((b.length : Nat) : Int)), tv 22 (ki ((i + 1 : Nat) : Int)), (.o 19, ⟨2, true, Xj (out ++ [b.getD i 0 + c])⟩)], (by omega), rfl, (by kernel_rfl), i + 1, 0, out ++ [b.getD i 0 + c], ⟨by omega, by omega, by omega, Lm.G_snoc hi4 (by omega) (by omega), by simp [hi5], by rw [Lm.P_succ, Lm.V_take_next, Lm.V_take_next]; exact Lm.add_step hi6 (by omega) (Lm.V_snoc _ hi5)⟩, rfl, (by kernel_rfl)⟩
  ·
   have h2' := of_decide_eq_false h2
   refine Z3 ?_
   refine rt [tv 4 (.own 19 2), (.o 19, ⟨2, true, Xj (out ++ [c])⟩)] (oT 3 (oO (aI (show ((uw out).length + (uw ([c])).length) * 4 ≤ 35184372088832 by simp only [J1]; (try simp only [List.length_set, List.length_append, List.length_cons, List.length_nil, List.length_replicate]); omega) (Xcb _ _ : (uw (out ++ [c])) = uw out ++ uw ([c]))) (oT 1 (oA [.tup [.sl 1 (uw (out ++ [c]))]] oN)))) ?_
   refine Xio [.own 19 2] [tv 4 (.own 19 2), (.o 19, ⟨2, false, Xj (out ++ [c])⟩)] (by kernel_rfl) (by kernel_rfl) ?_
   refine Xg ?_
   have hil : i = b.length := by omega
   rw [Lm.V_take_all b (by omega), Lm.V_take_all a (by omega)] at hi6
   exact X7i ((Xj (out ++ [c]))) (congrArg Xj (Lm.eq_dg (Lm.G_snoc hi4 (by omega) (by omega)) (by simp only [List.length_append, List.length_cons, List.length_nil]; omega) (by rw [Lm.V_snoc _ hi5]; omega)))
 ·
  have h1' := of_decide_eq_false h1
  refine Xn ?_
  refine sh 2 [tv 0 (Xj a), tv 1 (Xj b), tv 4 .nil, tv 5 (.own 19 1), tv 6 (kw 0), ov 19 (Xj [])] (oS (oT 1 (oO (aI trivial (Yx _ : ((a.length : Nat) : Int) = (((uw a).length : Nat) : Int))) (oO (X3 (x := ((a.length : Nat) : Int)) (y := 1) (by omega) (by omega)) (oO (aI (show (0 : Int) ≤ 0 ∧ (0 : Int) ≤ ((a.length + 1 : Nat) : Int) ∧ 4 * Int.toNat ((a.length + 1 : Nat) : Int) ≤ 281474976710656 by omega) (rfl : (uw ([])) = List.replicate (Int.toNat 0) (kw 0))) (oT 1 oN))))) (oS (oT 1 (oA [.tup [ki ((a.length : Nat) : Int)], ki ((a.length + 1 : Nat) : Int), .tup [.sl 1 (uw ([]))]] oN)) oN)) ?_
  refine Xe ?_
  refine rt [tv 1 (Xj b), tv 4 .nil, tv 5 (.own 19 1), tv 6 (kw 0), tv 20 (Xj a), tv 21 (ki ((a.length : Nat) : Int)), tv 22 (ki 0), ov 19 (Xj [])] (oT 1 (oO (aI trivial (Yx _ : ((a.length : Nat) : Int) = (((uw a).length : Nat) : Int))) (oT 1 (oA [.tup [ki ((a.length : Nat) : Int)]] oN)))) ?_
  refine X6 ?_
  have hle : b.length ≤ a.length := by omega
  refine Z0 (fun n0 l0 => ∃ (i : Nat) (c : Int) (out : List Int), (i ≤ a.length ∧ 0 ≤ c ∧ c ≤ 1 ∧ Lm.G out ∧ out.length = i ∧ Lm.V out + Lm.P i * c = Lm.V (a.take i) + Lm.V (b.take i)) ∧ (a.length - i) = n0 ∧ l0 = [tv 1 (Xj b), tv 4 .nil, tv 5 (.own 19 1), tv 6 (kw c), tv 20 (Xj a), tv 21 (ki ((a.length : Nat) : Int)), tv 22 (ki ((i : Nat) : Int)), ov 19 (Xj out)]) (n := (a.length - 0)) (by kernel_rfl) ⟨0, 0, [], ⟨by omega, by omega, by omega, Lm.G_nil, rfl, by simp [Lm.V]⟩, rfl, (by kernel_rfl)⟩ ?_
  rintro n0 l0 ⟨i, c, out, ⟨hi1, hi2, hi3, hi4, hi5, hi6⟩, rfl, rfl⟩
  have hx := Lm.G_get ga i
  have hy := Lm.G_get gb i
  have hy0 := Lm.getD_out b (i := i)
  refine rt [tv 1 (Xj b), tv 4 .nil, tv 5 (.own 19 1), tv 6 (kw c), tv 20 (Xj a), tv 21 (ki ((a.length : Nat) : Int)), tv 22 (ki ((i : Nat) : Int)), tv 23 (.bool (decide (((i : Nat) : Int) < ((a.length : Nat) : Int)))), ov 19 (Xj out)] (oO (oB (decide (((i : Nat) : Int) < ((a.length : Nat) : Int)))) (oA [cT (decide (((i : Nat) : Int) < ((a.length : Nat) : Int)))] oN)) ?_
  refine Xe (cB (decide (((i : Nat) : Int) < ((a.length : Nat) : Int))) (fun h6 => ?_) (fun h6 => ?_))
  ·
   have h6' := of_decide_eq_true h6
   refine Xn ?_
   refine Xe ?_
   refine X6 ?_
   refine sh 2 [tv 1 (Xj b), tv 4 .nil, tv 5 (.own 19 1), tv 6 (kw c), tv 7 (ki ((i : Nat) : Int)), tv 8 (kw (a.getD i 0 + c)), tv 20 (Xj a), tv 21 (ki ((a.length : Nat) : Int)), tv 22 (ki ((i : Nat) : Int)), ov 19 (Xj out)] (oS (oT 1 (oO (J0 i (by omega) (Zj (by (try simp only [List.length_set, List.length_append, List.length_cons, List.length_nil, List.length_replicate]); omega)) : (0 : Int) ≤ ((i : Nat) : Int) ∧ (uw a)[Int.toNat ((i : Nat) : Int)]? = some (kw (a.getD i 0))) (oT 3 oN))) (oS (oT 2 (oO (Xa4 (x := (a.getD i 0)) (y := c) (by omega) (by omega)) (oT 1 (oA [kw (a.getD i 0), kw (a.getD i 0 + c)] oN)))) oN)) ?_
   refine Xe ?_
   refine rt [tv 1 (Xj b), tv 4 .nil, tv 5 (.own 19 1), tv 6 (kw c), tv 7 (ki ((i : Nat) : Int)), tv 8 (kw (a.getD i 0 + c)), tv 20 (Xj a), tv 21 (ki ((a.length : Nat) : Int)), tv 22 (ki ((i : Nat) : Int)), tv 33 (.bool (decide (((i : Nat) : Int) < ((b.length : Nat) : Int)))), ov 19 (Xj out)] (oT 2 (oO (aI trivial (Yx _ : ((b.length : Nat) : Int) = (((uw b).length : Nat) : Int))) (oO (oB (decide (((i : Nat) : Int) < ((b.length : Nat) : Int)))) (oA [.tup [ki ((b.length : Nat) : Int)], cT (decide (((i : Nat) : Int) < ((b.length : Nat) : Int)))] oN)))) ?_
   refine cB (decide (((i : Nat) : Int) < ((b.length : Nat) : Int))) (fun h7 => ?_) (fun h7 => ?_)
   ·
    have h7' := of_decide_eq_true h7
    refine rh [tv 1 (Xj b), tv 4 .nil, tv 5 (.own 19 1), tv 6 (kw c), tv 8 (kw ((a.getD i 0 + c) + b.getD i 0)), tv 20 (Xj a), tv 21 (ki ((a.length : Nat) : Int)), tv 22 (ki ((i : Nat) : Int)), ov 19 (Xj out)] (oT 3 (oO (J0 i (by omega) (Zj (by (try simp only [List.length_set, List.length_append, List.length_cons, List.length_nil, List.length_replicate]); omega)) : (0 : Int) ≤ ((i : Nat) : Int) ∧ (uw b)[Int.toNat ((i : Nat) : Int)]? = some (kw (b.getD i 0))) (oT 1 (oO (Xa4 (x := (a.getD i 0 + c)) (y := (b.getD i 0)) (by omega) (by omega)) (oT 1 (oA [kw (b.getD i 0), kw ((a.getD i 0 + c) + b.getD i 0)] oN)))))) ?_
    refine rt [tv 1 (Xj b), tv 4 .nil, tv 5 (.own 19 1), tv 6 (kw 0), tv 8 (kw ((a.getD i 0 + c) + b.getD i 0)), tv 20 (Xj a), tv 21 (ki ((a.length : Nat) : Int)), tv 22 (ki ((i : Nat) : Int)), ov 19 (Xj out)] (oT 1 oN) ?_
    refine Xe ?_
    refine rt [tv 1 (Xj b), tv 4 .nil, tv 5 (.own 19 1), tv 6 (kw 0), tv 8 (kw ((a.getD i 0 + c) + b.getD i 0)), tv 20 (Xj a), tv 21 (ki ((a.length : Nat) : Int)), tv 22 (ki ((i : Nat) : Int)), tv 41 (.bool (decide (1000000000 ≤ ((a.getD i 0 + c) + b.getD i 0)))), ov 19 (Xj out)] (oT 1 (oO (oB (decide (1000000000 ≤ ((a.getD i 0 + c) + b.getD i 0)))) (oA [cT (decide (1000000000 ≤ ((a.getD i 0 + c) + b.getD i 0)))] oN))) ?_
    refine cB (decide (1000000000 ≤ ((a.getD i 0 + c) + b.getD i 0))) (fun h8 => ?_) (fun h8 => ?_)
    ·
     have h8' := of_decide_eq_true h8
     refine rh [tv 1 (Xj b), tv 4 .nil, tv 5 (.own 19 1), tv 6 (kw 1), tv 8 (kw (((a.getD i 0 + c) + b.getD i 0) - 1000000000)), tv 20 (Xj a), tv 21 (ki ((a.length : Nat) : Int)), tv 22 (ki ((i : Nat) : Int)), ov 19 (Xj out)] (oT 1 (oO (Xa6 (x := ((a.getD i 0 + c) + b.getD i 0)) (y := 1000000000) (by omega) (by omega)) (oT 2 (oA [kw (((a.getD i 0 + c) + b.getD i 0) - 1000000000)] oN)))) ?_
     refine rh [tv 1 (Xj b), tv 4 .nil, tv 5 (.own 19 2), tv 6 (kw 1), tv 20 (Xj a), tv 21 (ki ((a.length : Nat) : Int)), tv 22 (ki ((i : Nat) : Int)), (.o 19, ⟨2, true, Xj (out ++ [((a.getD i 0 + c) + b.getD i 0) - 1000000000])⟩)] (oT 3 (oO (aI (show ((uw out).length + (uw ([((a.getD i 0 + c) + b.getD i 0) - 1000000000])).length) * 4 ≤ 35184372088832 by simp only [J1]; (try simp only [List.length_set, List.length_append, List.length_cons, List.length_nil, List.length_replicate]); omega) (Xcb _ _ : (uw (out ++ [((a.getD i 0 + c) + b.getD i 0) - 1000000000])) = uw out ++ uw ([((a.getD i 0 + c) + b.getD i 0) - 1000000000]))) (oT 1 (oA [.tup [.sl 1 (uw (out ++ [((a.getD i 0 + c) + b.getD i 0) - 1000000000]))]] oN)))) ?_
     refine rh [tv 1 (Xj b), tv 4 .nil, tv 5 (.own 19 2), tv 6 (kw 1), tv 20 (Xj a), tv 21 (ki ((a.length : Nat) : Int)), tv 22 (ki ((i + 1 : Nat) : Int)), (.o 19, ⟨2, true, Xj (out ++ [((a.getD i 0 + c) + b.getD i 0) - 1000000000])⟩)] (oO (X3 (x := ((i : Nat) : Int)) (y := 1) (by omega) (by omega)) (oT 1 (oA [ki ((i + 1 : Nat) : Int)] oN))) ?_
     exact ⟨a.length - (i + 1), [tv 1 (Xj b), tv 4 .nil, tv 5 (.own 19 2), tv 6 (kw 1), tv 20 (Xj a), tv 21 (ki ((a.length : Nat) : Int)), tv 22 (ki ((i + 1 : Nat) : Int)), (.o 19, ⟨2, true, Xj (out ++ [((a.getD i 0 + c) + b.getD i 0) - 1000000000])⟩)], (by omega), rfl, (by kernel_rfl), i + 1, 1, out ++ [((a.getD i 0 + c) + b.getD i 0) - 1000000000], ⟨by omega, by omega, by omega, Lm.G_snoc hi4 (by omega) (by omega), by simp [hi5], by rw [Lm.P_succ, Lm.V_take_next, Lm.V_take_next]; exact Lm.add_step hi6 (by omega) (Lm.V_snoc _ hi5)⟩, rfl, (by kernel_rfl)⟩
    ·
     have h8' := of_decide_eq_false h8
     refine Xn ?_
     refine rh [tv 1 (Xj b), tv 4 .nil, tv 5 (.own 19 2), tv 6 (kw 0), tv 20 (Xj a), tv 21 (ki ((a.length : Nat) : Int)), tv 22 (ki ((i : Nat) : Int)), (.o 19, ⟨2, true, Xj (out ++ [(a.getD i 0 + c) + b.getD i 0])⟩)] (oT 3 (oO (aI (show ((uw out).length + (uw ([(a.getD i 0 + c) + b.getD i 0])).length) * 4 ≤ 35184372088832 by simp only [J1]; (try simp only [List.length_set, List.length_append, List.length_cons, List.length_nil, List.length_replicate]); omega) (Xcb _ _ : (uw (out ++ [(a.getD i 0 + c) + b.getD i 0])) = uw out ++ uw ([(a.getD i 0 + c) + b.getD i 0]))) (oT 1 (oA [.tup [.sl 1 (uw (out ++ [(a.getD i 0 + c) + b.getD i 0]))]] oN)))) ?_
     refine rh [tv 1 (Xj b), tv 4 .nil, tv 5 (.own 19 2), tv 6 (kw 0), tv 20 (Xj a), tv 21 (ki ((a.length : Nat) : Int)), tv 22 (ki ((i + 1 : Nat) : Int)), (.o 19, ⟨2, true, Xj (out ++ [(a.getD i 0 + c) + b.getD i 0])⟩)] (oO (X3 (x := ((i : Nat) : Int)) (y := 1) (by omega) (by omega)) (oT 1 (oA [ki ((i + 1 : Nat) : Int)] oN))) ?_
     exact ⟨a.length - (i + 1), [tv 1 (Xj b), tv 4 .nil, tv 5 (.own 19 2), tv 6 (kw 0), tv 20 (Xj a), tv 21 (ki ((a.length : Nat) : Int)), tv 22 (ki ((i + 1 : Nat) : Int)), (.o 19, ⟨2, true, Xj (out ++ [(a.getD i 0 + c) + b.getD i 0])⟩)], (by omega), rfl, (by kernel_rfl), i + 1, 0, out ++ [(a.getD i 0 + c) + b.getD i 0], ⟨by omega, by omega, by omega, Lm.G_snoc hi4 (by omega) (by omega), by simp [hi5], by rw [Lm.P_succ, Lm.V_take_next, Lm.V_take_next]; exact Lm.add_step hi6 (by omega) (Lm.V_snoc _ hi5)⟩, rfl, (by kernel_rfl)⟩
   ·
    have h7' := of_decide_eq_false h7
    refine Xn ?_
    refine rt [tv 1 (Xj b), tv 4 .nil, tv 5 (.own 19 1), tv 6 (kw 0), tv 8 (kw (a.getD i 0 + c)), tv 20 (Xj a), tv 21 (ki ((a.length : Nat) : Int)), tv 22 (ki ((i : Nat) : Int)), ov 19 (Xj out)] (oT 1 oN) ?_
    refine Xe ?_
    refine rt [tv 1 (Xj b), tv 4 .nil, tv 5 (.own 19 1), tv 6 (kw 0), tv 8 (kw (a.getD i 0 + c)), tv 20 (Xj a), tv 21 (ki ((a.length : Nat) : Int)), tv 22 (ki ((i : Nat) : Int)), tv 41 (.bool (decide (1000000000 ≤ (a.getD i 0 + c)))), ov 19 (Xj out)] (oT 1 (oO (oB (decide (1000000000 ≤ (a.getD i 0 + c)))) (oA [cT (decide (1000000000 ≤ (a.getD i 0 + c)))] oN))) ?_
    refine cB (decide (1000000000 ≤ (a.getD i 0 + c))) (fun h9 => ?_) (fun h9 => ?_)
    ·
     have h9' := of_decide_eq_true h9
     refine rh [tv 1 (Xj b), tv 4 .nil, tv 5 (.own 19 1), tv 6 (kw 1), tv 8 (kw ((a.getD i 0 + c) - 1000000000)), tv 20 (Xj a), tv 21 (ki ((a.length : Nat) : Int)), tv 22 (ki ((i : Nat) : Int)), ov 19 (Xj out)] (oT 1 (oO (Xa6 (x := (a.getD i 0 + c)) (y := 1000000000) (by omega) (by omega)) (oT 2 (oA [kw ((a.getD i 0 + c) - 1000000000)] oN)))) ?_
     refine rh [tv 1 (Xj b), tv 4 .nil, tv 5 (.own 19 2), tv 6 (kw 1), tv 20 (Xj a), tv 21 (ki ((a.length : Nat) : Int)), tv 22 (ki ((i : Nat) : Int)), (.o 19, ⟨2, true, Xj (out ++ [(a.getD i 0 + c) - 1000000000])⟩)] (oT 3 (oO (aI (show ((uw out).length + (uw ([(a.getD i 0 + c) - 1000000000])).length) * 4 ≤ 35184372088832 by simp only [J1]; (try simp only [List.length_set, List.length_append, List.length_cons, List.length_nil, List.length_replicate]); omega) (Xcb _ _ : (uw (out ++ [(a.getD i 0 + c) - 1000000000])) = uw out ++ uw ([(a.getD i 0 + c) - 1000000000]))) (oT 1 (oA [.tup [.sl 1 (uw (out ++ [(a.getD i 0 + c) - 1000000000]))]] oN)))) ?_
     refine rh [tv 1 (Xj b), tv 4 .nil, tv 5 (.own 19 2), tv 6 (kw 1), tv 20 (Xj a), tv 21 (ki ((a.length : Nat) : Int)), tv 22 (ki ((i + 1 : Nat) : Int)), (.o 19, ⟨2, true, Xj (out ++ [(a.getD i 0 + c) - 1000000000])⟩)] (oO (X3 (x := ((i : Nat) : Int)) (y := 1) (by omega) (by omega)) (oT 1 (oA [ki ((i + 1 : Nat) : Int)] oN))) ?_
     exact ⟨a.length - (i + 1), [tv 1 (Xj b), tv 4 .nil, tv 5 (.own 19 2), tv 6 (kw 1), tv 20 (Xj a), tv 21 (ki ((a.length : Nat) : Int)), tv 22 (ki ((i + 1 : Nat) : Int)), (.o 19, ⟨2, true, Xj (out ++ [(a.getD i 0 + c) - 1000000000])⟩)], (by omega), rfl, (by kernel_rfl), i + 1, 1, out ++ [(a.getD i 0 + c) - 1000000000], ⟨by omega, by omega, by omega, Lm.G_snoc hi4 (by omega) (by omega), by simp [hi5], by rw [Lm.P_succ, Lm.V_take_next, Lm.V_take_next]; exact Lm.add_step hi6 (by omega) (Lm.V_snoc _ hi5)⟩, rfl, (by kernel_rfl)⟩
    ·
     have h9' := of_decide_eq_false h9
     refine Xn ?_
     refine rh [tv 1 (Xj b), tv 4 .nil, tv 5 (.own 19 2), tv 6 (kw 0), tv 20 (Xj a), tv 21 (ki ((a.length : Nat) : Int)), tv 22 (ki ((i : Nat) : Int)), (.o 19, ⟨2, true, Xj (out ++ [a.getD i 0 + c])⟩)] (oT 3 (oO (aI (show ((uw out).length + (uw ([a.getD i 0 + c])).length) * 4 ≤ 35184372088832 by simp only [J1]; (try simp only [List.length_set, List.length_append, List.length_cons, List.length_nil, List.length_replicate]); omega) (Xcb _ _ : (uw (out ++ [a.getD i 0 + c])) = uw out ++ uw ([a.getD i 0 + c]))) (oT 1 (oA [.tup [.sl 1 (uw (out ++ [a.getD i 0 + c]))]] oN)))) ?_
     refine rh [tv 1 (Xj b), tv 4 .nil, tv 5 (.own 19 2), tv 6 (kw 0), tv 20 (Xj a), tv 21 (ki ((a.length : Nat) : Int)), tv 22 (ki ((i + 1 : Nat) : Int)), (.o 19, ⟨2, true, Xj (out ++ [a.getD i 0 + c])⟩)] (oO (X3 (x := ((i : Nat) : Int)) (y := 1) (by omega) (by omega)) (oT 1 (oA [ki ((i + 1 : Nat) : Int)] oN))) ?_
     exact ⟨a.length - (i + 1), [tv 1 (Xj b), tv 4 .nil, tv 5 (.own 19 2), tv 6 (kw 0), tv 20 (Xj a), tv 21 (ki ((a.length : Nat) : Int)), tv 22 (ki ((i + 1 : Nat) : Int)), (.o 19, ⟨2, true, Xj (out ++ [a.getD i 0 + c])⟩)], (by omega), rfl, (by kernel_rfl), i + 1, 0, out ++ [a.getD i 0 + c], ⟨by omega, by omega, by omega, Lm.G_snoc hi4 (by omega) (by omega), by simp [hi5], by rw [Lm.P_succ, Lm.V_take_next, Lm.V_take_next]; exact Lm.add_step hi6 (by omega) (Lm.V_snoc _ hi5)⟩, rfl, (by kernel_rfl)⟩
  ·
   have h6' := of_decide_eq_false h6
   refine Z3 ?_
   refine rt [tv 4 (.own 19 2), (.o 19, ⟨2, true, Xj (out ++ [c])⟩)] (oT 3 (oO (aI (show ((uw out).length + (uw ([c])).length) * 4 ≤ 35184372088832 by simp only [J1]; (try simp only [List.length_set, List.length_append, List.length_cons, List.length_nil, List.length_replicate]); omega) (Xcb _ _ : (uw (out ++ [c])) = uw out ++ uw ([c]))) (oT 1 (oA [.tup [.sl 1 (uw (out ++ [c]))]] oN)))) ?_
   refine Xio [.own 19 2] [tv 4 (.own 19 2), (.o 19, ⟨2, false, Xj (out ++ [c])⟩)] (by kernel_rfl) (by kernel_rfl) ?_
   refine Xg ?_
   have hil : i = a.length := by omega
   rw [Lm.V_take_all a (by omega), Lm.V_take_all b (by omega)] at hi6
   exact X7i ((Xj (out ++ [c]))) (congrArg Xj (Lm.eq_dg (Lm.G_snoc hi4 (by omega) (by omega)) (by simp only [List.length_append, List.length_cons, List.length_nil]; omega) (by rw [Lm.V_snoc _ hi5]; omega)))
theorem Jz (n : Int) (h0 : -9223372036854775808 ≤ n := by omega) (h1 : n < 9223372036854775808 := by omega) : CS Tryz.prog 160 [ki n] (Xf n) := by
 refine cO 15 Tryz.func160 ?_
 refine sh 2 [tv 0 (ki n), tv 2 (pb 2), tv 3 (ku (n % 18446744073709551616)), bv 2 zI] (oS (oT 1 oN) (oS (oT 1 (oO (Xlp n : (n % 18446744073709551616) = IntKind.u64.wrap n) (oT 1 (oA [ku (n % 18446744073709551616)] oN)))) oN)) ?_
 refine Xe ?_
 refine rt [tv 0 (ki n), tv 2 (pb 2), tv 3 (ku (n % 18446744073709551616)), tv 7 (.bool (decide (n < 0))), bv 2 zI] (oT 1 (oO (oB (decide (n < 0))) (oA [cT (decide (n < 0))] oN))) ?_
 refine cB (decide (n < 0)) (fun h1 => ?_) (fun h1 => ?_)
 ·
  have h1' := of_decide_eq_true h1
  refine rh [tv 0 (ki n), tv 2 (pb 2), tv 3 (ku (-n)), bv 2 zI] (oT 1 (oO (Xuy h0 (by omega) : (-n) = IntKind.u64.wrap (0 - (n % 18446744073709551616))) (oT 1 (oA [ku (-n)] oN)))) ?_
  refine rt [tv 2 (pb 2), bv 2 (Xf (Js true (Lm.V (Lm.dg 3 (-n)))))] (oT 1 (oO (aI trivial (h1 : (decide (n < 0)) = true)) (oT 1 (oA [cT true] (oC (Xgi (-n)) (oO (Z9 true (Lm.dg 3 (-n)) (by first | exact Lm.G_dg _ _ | exact Lm.G_digs _ | assumption) (by (try simp only [Lm.dg_len, Yj]); omega) : CS Tryz.prog 226 [.bool true, Xj (Lm.dg 3 (-n))] (Xf (Js true (Lm.V (Lm.dg 3 (-n)))))) (oT 1 (oA [Xf (Js true (Lm.V (Lm.dg 3 (-n))))] oN)))))))) ?_
  refine Xg ?_
  exact X7i ((Xf (Js true (Lm.V (Lm.dg 3 (-n)))))) (congrArg Xf (by rw [Lm.V_dg (by omega) (by rw [Xsi]; omega)]; simp only [Js, cond_true, cond_false]; omega))
 ·
  have h1' := of_decide_eq_false h1
  refine Xn ?_
  refine rt [tv 2 (pb 2), bv 2 (Xf (Js false (Lm.V (Lm.dg 3 (n % 18446744073709551616)))))] (oT 1 (oO (aI trivial (h1 : (decide (n < 0)) = false)) (oT 1 (oA [cT false] (oC (Xgi (n % 18446744073709551616)) (oO (Z9 false (Lm.dg 3 (n % 18446744073709551616)) (by first | exact Lm.G_dg _ _ | exact Lm.G_digs _ | assumption) (by (try simp only [Lm.dg_len, Yj]); omega) : CS Tryz.prog 226 [.bool false, Xj (Lm.dg 3 (n % 18446744073709551616))] (Xf (Js false (Lm.V (Lm.dg 3 (n % 18446744073709551616)))))) (oT 1 (oA [Xf (Js false (Lm.V (Lm.dg 3 (n % 18446744073709551616))))] oN)))))))) ?_
  refine Xg ?_
  exact X7i ((Xf (Js false (Lm.V (Lm.dg 3 (n % 18446744073709551616)))))) (congrArg Xf (by rw [Lm.V_dg (by omega) (by rw [Xsi]; omega)]; simp only [Js, cond_true, cond_false]; omega))
theorem Xjs (a : Int) : CS Tryz.prog 168 [Xf a] (.int .i64 (Int.sign a)) := by
 refine cO 11 Tryz.func168 ?_
 refine rt [tv 1 (pb 1), tv 2 (ki 0), bv 1 (Xf a)] (oT 2 oN) ?_
 refine Xe ?_
 refine X6 ?_
 refine rt [tv 1 (pb 1), tv 2 (ki 0), tv 3 (.bool (decide (a < 0))), bv 1 (Xf a)] (oT 1 (oO (oB (decide (a < 0))) (oT 1 (oA [.rptr (.bool (decide (a < 0)))] oN)))) ?_
 refine cB (decide (a < 0)) (fun h1 => ?_) (fun h1 => ?_)
 ·
  have h1' := of_decide_eq_true h1
  refine rt [tv 2 (ki (-1))] (oT 1 oN) ?_
  refine Xg ?_
  exact X7i ((ki (-1))) (congrArg (AV.int .i64) (Lm.sign_neg (by omega)))
 ·
  have h1' := of_decide_eq_false h1
  refine rt [tv 2 (ki 0), tv 6 (.bool (decide (0 < (((Lm.digs (Int.natAbs a)).length : Nat) : Int))))] (oT 2 (oO (aI trivial (Yx _ : (((Lm.digs (Int.natAbs a)).length : Nat) : Int) = (((uw (Lm.digs (Int.natAbs a))).length : Nat) : Int))) (oO (oB (decide (0 < (((Lm.digs (Int.natAbs a)).length : Nat) : Int)))) (oT 1 (oA [.tup [ki (((Lm.digs (Int.natAbs a)).length : Nat) : Int)], cT (decide (0 < (((Lm.digs (Int.natAbs a)).length : Nat) : Int)))] oN))))) ?_
  refine cB (decide (0 < (((Lm.digs (Int.natAbs a)).length : Nat) : Int))) (fun h2 => ?_) (fun h2 => ?_)
  ·
   have h2' := of_decide_eq_true h2
   refine rt [tv 2 (ki 1)] (oT 1 oN) ?_
   refine Xg ?_
   exact X7i ((ki 1)) (congrArg (AV.int .i64) (Lm.sign_pos (by have := (Xbi (a := a)).1 (by rw [← Yj]; omega); omega)))
  ·
   have h2' := of_decide_eq_false h2
   refine Xn ?_
   refine rt [tv 2 (ki 0)] (oT 1 oN) ?_
   refine Xg ?_
   exact X7i ((ki 0)) (congrArg (AV.int .i64) (by have := (Xbi (a := a)).2; rw [← Yj] at this; rw [show a = 0 by omega]; rfl))
theorem Ky (a b : Int) (hs : X66 a + X66 b ≤ 1099511627776 := by omega) : CS Tryz.prog 183 [Xf a, Xf b] (.int .i64 (Int.sign (a - b))) := by
 refine cO 24 Tryz.func183 ?_
 refine rt [tv 2 (pb 2), tv 3 (pb 3), tv 4 (ki 0), bv 2 (Xf a), bv 3 (Xf b)] (oT 3 oN) ?_
 refine Xe ?_
 refine rt [tv 2 (pb 2), tv 3 (pb 3), tv 4 (ki 0), tv 9 (.bool (!(decide (a < 0) == decide (b < 0)))), bv 2 (Xf a), bv 3 (Xf b)] (oT 1 (oO (oB (decide (a < 0))) (oT 1 (oO (oB (decide (b < 0))) (oO (oB (!(decide (a < 0) == decide (b < 0)))) (oA [.rptr (.bool (decide (a < 0))), .rptr (.bool (decide (b < 0))), cT (!(decide (a < 0) == decide (b < 0)))] oN)))))) ?_
 refine cB ((!(decide (a < 0) == decide (b < 0)))) (fun h1 => ?_) (fun h1 => ?_)
 ·
  have h1' := Xgt (Xdt h1)
  refine Xe ?_
  refine rt [tv 2 (pb 2), tv 3 (pb 3), tv 4 (ki 0), tv 11 (.bool (decide (a < 0))), bv 2 (Xf a), bv 3 (Xf b)] (oT 1 (oO (oB (decide (a < 0))) (oA [.rptr (.bool (decide (a < 0)))] oN))) ?_
  refine cB (decide (a < 0)) (fun h2 => ?_) (fun h2 => ?_)
  ·
   have h2' := of_decide_eq_true h2
   refine rt [tv 2 (pb 2), tv 3 (pb 3), tv 4 (ki (-1)), bv 2 (Xf a), bv 3 (Xf b)] (oT 1 oN) ?_
   refine Xg ?_
   exact X7i ((ki (-1))) (congrArg (AV.int .i64) (Lm.sign_neg (show a - b < 0 by omega)))
  ·
   have h2' := of_decide_eq_false h2
   refine Xn ?_
   refine rt [tv 2 (pb 2), tv 3 (pb 3), tv 4 (ki 1), bv 2 (Xf a), bv 3 (Xf b)] (oT 1 oN) ?_
   refine Xg ?_
   exact X7i ((ki 1)) (congrArg (AV.int .i64) (Lm.sign_pos (show 0 < a - b by omega)))
 ·
  have h1' := Xg0 (Xas h1)
  refine Xn ?_
  refine Xe ?_
  refine rt [tv 2 (pb 2), tv 3 (pb 3), tv 4 (ki 0), tv 13 (.bool (decide (a < 0))), bv 2 (Xf a), bv 3 (Xf b)] (oT 1 (oO (oB (decide (a < 0))) (oA [.rptr (.bool (decide (a < 0)))] oN))) ?_
  refine cB (decide (a < 0)) (fun h3 => ?_) (fun h3 => ?_)
  ·
   have h3' := of_decide_eq_true h3
   refine rt [tv 2 (pb 2), tv 3 (pb 3), tv 4 (ki (Int.sign (Lm.V (Lm.digs (Int.natAbs b)) - Lm.V (Lm.digs (Int.natAbs a))))), bv 2 (Xf a), bv 3 (Xf b)] (oT 4 (oO (Xct (Lm.digs (Int.natAbs b)) (Lm.digs (Int.natAbs a)) (Xa2 _) (Xa2 _) (by (try simp only [Lm.dg_len, Yj]); omega) : CS Tryz.prog 247 [Xj (Lm.digs (Int.natAbs b)), Xj (Lm.digs (Int.natAbs a))] (ki (Int.sign (Lm.V (Lm.digs (Int.natAbs b)) - Lm.V (Lm.digs (Int.natAbs a)))))) (oT 1 (oA [ki (Int.sign (Lm.V (Lm.digs (Int.natAbs b)) - Lm.V (Lm.digs (Int.natAbs a))))] oN)))) ?_
   refine Xg ?_
   exact X7i ((ki (Int.sign (Lm.V (Lm.digs (Int.natAbs b)) - Lm.V (Lm.digs (Int.natAbs a)))))) (congrArg (AV.int .i64) (Xp8 (by omega) (by omega)))
  ·
   have h3' := of_decide_eq_false h3
   refine Xn ?_
   refine rt [tv 4 (ki (Int.sign (Lm.V (Lm.digs (Int.natAbs a)) - Lm.V (Lm.digs (Int.natAbs b)))))] (oT 4 (oO (Xct (Lm.digs (Int.natAbs a)) (Lm.digs (Int.natAbs b)) (Xa2 _) (Xa2 _) (by (try simp only [Lm.dg_len, Yj]); omega) : CS Tryz.prog 247 [Xj (Lm.digs (Int.natAbs a)), Xj (Lm.digs (Int.natAbs b))] (ki (Int.sign (Lm.V (Lm.digs (Int.natAbs a)) - Lm.V (Lm.digs (Int.natAbs b)))))) (oT 1 (oA [ki (Int.sign (Lm.V (Lm.digs (Int.natAbs a)) - Lm.V (Lm.digs (Int.natAbs b))))] oN)))) ?_
   refine Xg ?_
   exact X7i ((ki (Int.sign (Lm.V (Lm.digs (Int.natAbs a)) - Lm.V (Lm.digs (Int.natAbs b)))))) (congrArg (AV.int .i64) (Xp1 (by omega) (by omega)))
theorem Xdp (a b : Int) (hs : X66 a + X66 b ≤ 1099511627776 := by omega) : CS Tryz.prog 222 [Xf a, Xf b] (Xf (a + b)) := by
 refine cO 34 Tryz.func222 ?_
 refine rt [tv 2 (pb 2), tv 3 (pb 3), tv 4 (pb 4), bv 2 (Xf a), bv 3 (Xf b), bv 4 zI] (oT 3 oN) ?_
 refine Xe ?_
 refine rt [tv 2 (pb 2), tv 3 (pb 3), tv 4 (pb 4), tv 9 (.bool (decide (a < 0) == decide (b < 0))), bv 2 (Xf a), bv 3 (Xf b), bv 4 zI] (oT 1 (oO (oB (decide (a < 0))) (oT 1 (oO (oB (decide (b < 0))) (oO (oB (decide (a < 0) == decide (b < 0))) (oA [.rptr (.bool (decide (a < 0))), .rptr (.bool (decide (b < 0))), cT (decide (a < 0) == decide (b < 0))] oN)))))) ?_
 refine cB (decide (a < 0) == decide (b < 0)) (fun h1 => ?_) (fun h1 => ?_)
 ·
  have h1' := Xg0 h1
  refine rt [tv 2 (pb 2), tv 3 (pb 3), tv 4 (pb 4), bv 2 (Xf a), bv 3 (Xf b), bv 4 (Xf (Js (decide (a < 0)) (Lm.V (Lm.dg (max (Lm.digs (Int.natAbs a)).length (Lm.digs (Int.natAbs b)).length + 1) (Lm.V (Lm.digs (Int.natAbs a)) + Lm.V (Lm.digs (Int.natAbs b)))))))] (oT 1 (oO (oB (decide (a < 0))) (oT 4 (oO (Xpu (Lm.digs (Int.natAbs a)) (Lm.digs (Int.natAbs b)) (Xa2 _) (Xa2 _) (by (try simp only [Lm.dg_len, Yj]); omega) : CS Tryz.prog 263 [Xj (Lm.digs (Int.natAbs a)), Xj (Lm.digs (Int.natAbs b))] (Xj (Lm.dg (max (Lm.digs (Int.natAbs a)).length (Lm.digs (Int.natAbs b)).length + 1) (Lm.V (Lm.digs (Int.natAbs a)) + Lm.V (Lm.digs (Int.natAbs b)))))) (oO (Z9 (decide (a < 0)) (Lm.dg (max (Lm.digs (Int.natAbs a)).length (Lm.digs (Int.natAbs b)).length + 1) (Lm.V (Lm.digs (Int.natAbs a)) + Lm.V (Lm.digs (Int.natAbs b)))) (by first | exact Lm.G_dg _ _ | exact Lm.G_digs _ | assumption) (by (try simp only [Lm.dg_len, Yj]); omega) : CS Tryz.prog 226 [.bool (decide (a < 0)), Xj (Lm.dg (max (Lm.digs (Int.natAbs a)).length (Lm.digs (Int.natAbs b)).length + 1) (Lm.V (Lm.digs (Int.natAbs a)) + Lm.V (Lm.digs (Int.natAbs b))))] (Xf (Js (decide (a < 0)) (Lm.V (Lm.dg (max (Lm.digs (Int.natAbs a)).length (Lm.digs (Int.natAbs b)).length + 1) (Lm.V (Lm.digs (Int.natAbs a)) + Lm.V (Lm.digs (Int.natAbs b)))))))) (oT 1 (oA [.rptr (.bool (decide (a < 0))), Xj (Lm.dg (max (Lm.digs (Int.natAbs a)).length (Lm.digs (Int.natAbs b)).length + 1) (Lm.V (Lm.digs (Int.natAbs a)) + Lm.V (Lm.digs (Int.natAbs b)))), Xf (Js (decide (a < 0)) (Lm.V (Lm.dg (max (Lm.digs (Int.natAbs a)).length (Lm.digs (Int.natAbs b)).length + 1) (Lm.V (Lm.digs (Int.natAbs a)) + Lm.V (Lm.digs (Int.natAbs b))))))] oN))))))) ?_
  refine Xg ?_
  exact X7i ((Xf (Js (decide (a < 0)) (Lm.V (Lm.dg (max (Lm.digs (Int.natAbs a)).length (Lm.digs (Int.natAbs b)).length + 1) (Lm.V (Lm.digs (Int.natAbs a)) + Lm.V (Lm.digs (Int.natAbs b)))))))) (congrArg Xf (by rw [X45]; unfold Js; by_cases ha : a < 0 <;> by_cases hb : b < 0 <;> simp only [ha, hb, decide_true, decide_false, cond_true, cond_false] <;> omega))
 ·
  have h1' := Xgt h1
  refine Xn ?_
  refine Xe ?_
  refine rt [tv 2 (pb 2), tv 3 (pb 3), tv 4 (pb 4), tv 23 (.bool (decide (Int.sign (Lm.V (Lm.digs (Int.natAbs a)) - Lm.V (Lm.digs (Int.natAbs b))) < 0))), bv 2 (Xf a), bv 3 (Xf b), bv 4 zI] (oT 4 (oO (Xct (Lm.digs (Int.natAbs a)) (Lm.digs (Int.natAbs b)) (Xa2 _) (Xa2 _) (by (try simp only [Lm.dg_len, Yj]); omega) : CS Tryz.prog 247 [Xj (Lm.digs (Int.natAbs a)), Xj (Lm.digs (Int.natAbs b))] (ki (Int.sign (Lm.V (Lm.digs (Int.natAbs a)) - Lm.V (Lm.digs (Int.natAbs b)))))) (oO (oB (decide (Int.sign (Lm.V (Lm.digs (Int.natAbs a)) - Lm.V (Lm.digs (Int.natAbs b))) < 0))) (oA [ki (Int.sign (Lm.V (Lm.digs (Int.natAbs a)) - Lm.V (Lm.digs (Int.natAbs b)))), cT (decide (Int.sign (Lm.V (Lm.digs (Int.natAbs a)) - Lm.V (Lm.digs (Int.natAbs b))) < 0))] oN)))) ?_
  refine cB (decide (Int.sign (Lm.V (Lm.digs (Int.natAbs a)) - Lm.V (Lm.digs (Int.natAbs b))) < 0)) (fun h2 => ?_) (fun h2 => ?_)
  ·
   have h2' := of_decide_eq_true h2
   refine rh [tv 2 (pb 2), tv 3 (pb 3), tv 4 (pb 4), bv 2 (Xf b), bv 3 (Xf a), bv 4 zI] (oT 4 oN) ?_
   refine Xe ?_
   rw [Kq, Kq, Xho] at h2'
   have hle : a.natAbs ≤ b.natAbs := by omega
   refine rh [tv 4 (pb 4), bv 4 (Xf (Js (decide (b < 0)) (Lm.V (Lm.dg (Lm.digs (Int.natAbs b)).length (Lm.V (Lm.digs (Int.natAbs b)) - Lm.V (Lm.digs (Int.natAbs a)))))))] (oT 1 (oO (oB (decide (b < 0))) (oT 4 (oO (Xi8 (Lm.digs (Int.natAbs b)) (Lm.digs (Int.natAbs a)) (Xa2 _) (Xa2 _) (Xki hle) (by rw [Kq, Kq]; omega) (by (try simp only [Lm.dg_len, Yj]); omega) : CS Tryz.prog 264 [Xj (Lm.digs (Int.natAbs b)), Xj (Lm.digs (Int.natAbs a))] (Xj (Lm.dg (Lm.digs (Int.natAbs b)).length (Lm.V (Lm.digs (Int.natAbs b)) - Lm.V (Lm.digs (Int.natAbs a)))))) (oO (Z9 (decide (b < 0)) (Lm.dg (Lm.digs (Int.natAbs b)).length (Lm.V (Lm.digs (Int.natAbs b)) - Lm.V (Lm.digs (Int.natAbs a)))) (by first | exact Lm.G_dg _ _ | exact Lm.G_digs _ | assumption) (by (try simp only [Lm.dg_len, Yj]); omega) : CS Tryz.prog 226 [.bool (decide (b < 0)), Xj (Lm.dg (Lm.digs (Int.natAbs b)).length (Lm.V (Lm.digs (Int.natAbs b)) - Lm.V (Lm.digs (Int.natAbs a))))] (Xf (Js (decide (b < 0)) (Lm.V (Lm.dg (Lm.digs (Int.natAbs b)).length (Lm.V (Lm.digs (Int.natAbs b)) - Lm.V (Lm.digs (Int.natAbs a)))))))) (oT 1 (oA [.rptr (.bool (decide (b < 0))), Xj (Lm.dg (Lm.digs (Int.natAbs b)).length (Lm.V (Lm.digs (Int.natAbs b)) - Lm.V (Lm.digs (Int.natAbs a)))), Xf (Js (decide (b < 0)) (Lm.V (Lm.dg (Lm.digs (Int.natAbs b)).length (Lm.V (Lm.digs (Int.natAbs b)) - Lm.V (Lm.digs (Int.natAbs a))))))] oN))))))) ?_
   refine Xg ?_
   exact X7i ((Xf (Js (decide (b < 0)) (Lm.V (Lm.dg (Lm.digs (Int.natAbs b)).length (Lm.V (Lm.digs (Int.natAbs b)) - Lm.V (Lm.digs (Int.natAbs a)))))))) (congrArg Xf (by rw [Xyu (by omega)]; unfold Js; by_cases ha : a < 0 <;> by_cases hb : b < 0 <;> simp only [ha, hb, decide_true, decide_false, cond_true, cond_false] <;> omega))
  ·
   have h2' := of_decide_eq_false h2
   refine Xn ?_
   refine Xe ?_
   rw [Kq, Kq, Xho] at h2'
   have hle : b.natAbs ≤ a.natAbs := by omega
   refine rh [tv 4 (pb 4), bv 4 (Xf (Js (decide (a < 0)) (Lm.V (Lm.dg (Lm.digs (Int.natAbs a)).length (Lm.V (Lm.digs (Int.natAbs a)) - Lm.V (Lm.digs (Int.natAbs b)))))))] (oT 1 (oO (oB (decide (a < 0))) (oT 4 (oO (Xi8 (Lm.digs (Int.natAbs a)) (Lm.digs (Int.natAbs b)) (Xa2 _) (Xa2 _) (Xki hle) (by rw [Kq, Kq]; omega) (by (try simp only [Lm.dg_len, Yj]); omega) : CS Tryz.prog 264 [Xj (Lm.digs (Int.natAbs a)), Xj (Lm.digs (Int.natAbs b))] (Xj (Lm.dg (Lm.digs (Int.natAbs a)).length (Lm.V (Lm.digs (Int.natAbs a)) - Lm.V (Lm.digs (Int.natAbs b)))))) (oO (Z9 (decide (a < 0)) (Lm.dg (Lm.digs (Int.natAbs a)).length (Lm.V (Lm.digs (Int.natAbs a)) - Lm.V (Lm.digs (Int.natAbs b)))) (by first | exact Lm.G_dg _ _ | exact Lm.G_digs _ | assumption) (by (try simp only [Lm.dg_len, Yj]); omega) : CS Tryz.prog 226 [.bool (decide (a < 0)), Xj (Lm.dg (Lm.digs (Int.natAbs a)).length (Lm.V (Lm.digs (Int.natAbs a)) - Lm.V (Lm.digs (Int.natAbs b))))] (Xf (Js (decide (a < 0)) (Lm.V (Lm.dg (Lm.digs (Int.natAbs a)).length (Lm.V (Lm.digs (Int.natAbs a)) - Lm.V (Lm.digs (Int.natAbs b)))))))) (oT 1 (oA [.rptr (.bool (decide (a < 0))), Xj (Lm.dg (Lm.digs (Int.natAbs a)).length (Lm.V (Lm.digs (Int.natAbs a)) - Lm.V (Lm.digs (Int.natAbs b)))), Xf (Js (decide (a < 0)) (Lm.V (Lm.dg (Lm.digs (Int.natAbs a)).length (Lm.V (Lm.digs (Int.natAbs a)) - Lm.V (Lm.digs (Int.natAbs b))))))] oN))))))) ?_
   refine Xg ?_
   exact X7i ((Xf (Js (decide (a < 0)) (Lm.V (Lm.dg (Lm.digs (Int.natAbs a)).length (Lm.V (Lm.digs (Int.natAbs a)) - Lm.V (Lm.digs (Int.natAbs b)))))))) (congrArg Xf (by rw [Xyu (by omega)]; unfold Js; by_cases ha : a < 0 <;> by_cases hb : b < 0 <;> simp only [ha, hb, decide_true, decide_false, cond_true, cond_false] <;> omega))
theorem Xqx (a b : Int) (hs : X66 a + X66 b ≤ 1099511627776 := by omega) : CS Tryz.prog 301 [Xf a, Xf b] (Xf (a - b)) := by
 refine cO 18 Tryz.func301 ?_
 refine rt [tv 2 (pb 2), tv 3 (pb 3), tv 4 (pb 4), bv 2 (Xf a), bv 3 (Xf b), bv 4 zI] (oT 3 oN) ?_
 refine Xe ?_
 rcases X7 (!(decide (b < 0))) with h1 | h1
 ·
  have h1' := of_decide_eq_false (Xdt h1)
  refine rh [tv 2 (pb 2), tv 3 (pb 3), tv 4 (pb 4), bv 2 (Xf a), bv 3 (.st [.bool (decide (0 < (((Lm.digs (Int.natAbs b)).length : Nat) : Int))), Xj (Lm.digs (Int.natAbs b))]), bv 4 zI] (oT 1 (oO (aI trivial (Xdt h1 : (decide (b < 0)) = false)) (oO (oB true) (oT 1 (oO (Xh 1 trivial) (oO (Xh 1 trivial) (oO (Xh 1 (aI trivial (Yx _ : (((Lm.digs (Int.natAbs b)).length : Nat) : Int) = (((uw (Lm.digs (Int.natAbs b))).length : Nat) : Int)))) (oO (Xh 1 (oB (decide (0 < (((Lm.digs (Int.natAbs b)).length : Nat) : Int))))) (oT 3 (oA [.rptr (.bool false), .rptr (.bool true), .tup [ki (((Lm.digs (Int.natAbs b)).length : Nat) : Int)], cT (decide (0 < (((Lm.digs (Int.natAbs b)).length : Nat) : Int)))] oN)))))))))) ?_
  refine rt [tv 4 (pb 4), bv 4 (Xf (a + -b))] (oT 2 (oO (show CS Tryz.prog 222 [Xf a, .st [.bool (decide (0 < (((Lm.digs (Int.natAbs b)).length : Nat) : Int))), Xj (Lm.digs (Int.natAbs b))]] (Xf (a + -b)) by rw [show (.st [.bool (decide (0 < (((Lm.digs (Int.natAbs b)).length : Nat) : Int))), Xj (Lm.digs (Int.natAbs b))]) = Xf (-b) from Xuj b _ (by first | exact (decide_eq_false (by omega)).symm | exact decide_eq_decide.2 (by have hz := Xbi (a := b); have := Yj b; omega) | (have hz := Xbi (a := b); have := Yj b; first | exact (decide_eq_true (by omega)).symm | exact (decide_eq_false (by omega)).symm))]; exact Xdp a (-b) (by rw [Xff]; omega)) (oT 1 (oA [Xf (a + -b)] oN)))) ?_
  refine Xg ?_
  exact X7i ((Xf (a + -b))) (congrArg Xf Int.sub_eq_add_neg.symm)
 ·
  have h1' := of_decide_eq_true (Xas h1)
  refine rh [tv 2 (pb 2), tv 3 (pb 3), tv 4 (pb 4), bv 2 (Xf a), bv 3 (.st [.bool false, Xj (Lm.digs (Int.natAbs b))]), bv 4 zI] (oT 1 (oO (aI trivial (Xas h1 : (decide (b < 0)) = true)) (oO (oB false) (oT 1 (oO (gn [false]) (oO (gn [true]) (oO (gn [true]) (oO (gn [true]) (oT 3 (oA [.rptr (.bool true), .rptr (.bool false), .tup [ki (((Lm.digs (Int.natAbs b)).length : Nat) : Int)], cT (decide (0 < (((Lm.digs (Int.natAbs b)).length : Nat) : Int)))] oN)))))))))) ?_
  refine rt [tv 4 (pb 4), bv 4 (Xf (a + -b))] (oT 2 (oO (show CS Tryz.prog 222 [Xf a, .st [.bool false, Xj (Lm.digs (Int.natAbs b))]] (Xf (a + -b)) by rw [show (.st [.bool false, Xj (Lm.digs (Int.natAbs b))]) = Xf (-b) from Xuj b _ (by first | exact (decide_eq_false (by omega)).symm | exact decide_eq_decide.2 (by have hz := Xbi (a := b); have := Yj b; omega) | (have hz := Xbi (a := b); have := Yj b; first | exact (decide_eq_true (by omega)).symm | exact (decide_eq_false (by omega)).symm))]; exact Xdp a (-b) (by rw [Xff]; omega)) (oT 1 (oA [Xf (a + -b)] oN)))) ?_
  refine Xg ?_
  exact X7i ((Xf (a + -b))) (congrArg Xf Int.sub_eq_add_neg.symm)
theorem Xf3 (a : Int) (hs : X66 a ≤ 1099511627776 := by omega) : CS Tryz.prog 254 [Xf a] (Xf (-a)) := by
 have hla := Yj a
 refine cO 10 Tryz.func254 ?_
 refine sh 2 [tv 2 (pb 2), bv 2 (Xf (Js (!(decide (a < 0))) (Lm.V (Lm.digs (Int.natAbs a)))))] (oS (oT 2 oN) (oS (oT 1 (oO (oB (decide (a < 0))) (oO (oB (!(decide (a < 0)))) (oT 2 (oO (aI (show (uw (Lm.digs (Int.natAbs a))).length * 4 ≤ 35184372088832 by simp only [J1]; (try simp only [List.length_set, List.length_append, List.length_cons, List.length_nil, List.length_replicate]); omega) (rfl : (uw (Lm.digs (Int.natAbs a))) = uw (Lm.digs (Int.natAbs a)))) (oO (Z9 (!(decide (a < 0))) (Lm.digs (Int.natAbs a)) (by first | exact Lm.G_dg _ _ | exact Lm.G_digs _ | assumption) (by (try simp only [Lm.dg_len, Yj]); omega) : CS Tryz.prog 226 [.bool (!(decide (a < 0))), Xj (Lm.digs (Int.natAbs a))] (Xf (Js (!(decide (a < 0))) (Lm.V (Lm.digs (Int.natAbs a)))))) (oT 1 (oA [.rptr (.bool (decide (a < 0))), .rptr (.bool (!(decide (a < 0)))), .tup [.sl 1 (uw (Lm.digs (Int.natAbs a)))], Xf (Js (!(decide (a < 0))) (Lm.V (Lm.digs (Int.natAbs a))))] oN)))))))) oN)) ?_
 refine Xg ?_
 exact X7i ((Xf (Js (!(decide (a < 0))) (Lm.V (Lm.digs (Int.natAbs a)))))) (congrArg Xf (by rw [Kq]; unfold Js; by_cases ha : a < 0 <;> simp only [ha, decide_true, decide_false, Bool.not_true, Bool.not_false, cond_true, cond_false] <;> omega))
theorem Kz (a b : Int) (hs : X66 a + X66 b ≤ 1099511627776 := by omega) : CS Tryz.prog 184 [Xf a, Xf b] (Xf (a * b)) := by
 refine cO 16 Tryz.func184 ?_
 refine sh 2 [tv 4 (pb 4), bv 4 (Xf (Js (!(decide (a < 0) == decide (b < 0))) (Lm.V (Lm.dg ((Lm.digs (Int.natAbs a)).length + (Lm.digs (Int.natAbs b)).length) (Lm.V (Lm.digs (Int.natAbs a)) * Lm.V (Lm.digs (Int.natAbs b)))))))] (oS (oT 3 oN) (oS (oT 1 (oO (oB (decide (a < 0))) (oT 1 (oO (oB (decide (b < 0))) (oO (oB (!(decide (a < 0) == decide (b < 0)))) (oT 4 (oO (Xja (Lm.digs (Int.natAbs a)) (Lm.digs (Int.natAbs b)) (Xa2 _) (Xa2 _) (by (try simp only [Lm.dg_len, Yj]); omega) : CS Tryz.prog 248 [Xj (Lm.digs (Int.natAbs a)), Xj (Lm.digs (Int.natAbs b))] (Xj (Lm.dg ((Lm.digs (Int.natAbs a)).length + (Lm.digs (Int.natAbs b)).length) (Lm.V (Lm.digs (Int.natAbs a)) * Lm.V (Lm.digs (Int.natAbs b)))))) (oO (Z9 (!(decide (a < 0) == decide (b < 0))) (Lm.dg ((Lm.digs (Int.natAbs a)).length + (Lm.digs (Int.natAbs b)).length) (Lm.V (Lm.digs (Int.natAbs a)) * Lm.V (Lm.digs (Int.natAbs b)))) (by first | exact Lm.G_dg _ _ | exact Lm.G_digs _ | assumption) (by (try simp only [Lm.dg_len, Yj]); omega) : CS Tryz.prog 226 [.bool (!(decide (a < 0) == decide (b < 0))), Xj (Lm.dg ((Lm.digs (Int.natAbs a)).length + (Lm.digs (Int.natAbs b)).length) (Lm.V (Lm.digs (Int.natAbs a)) * Lm.V (Lm.digs (Int.natAbs b))))] (Xf (Js (!(decide (a < 0) == decide (b < 0))) (Lm.V (Lm.dg ((Lm.digs (Int.natAbs a)).length + (Lm.digs (Int.natAbs b)).length) (Lm.V (Lm.digs (Int.natAbs a)) * Lm.V (Lm.digs (Int.natAbs b)))))))) (oT 1 (oA [.rptr (.bool (decide (a < 0))), .rptr (.bool (decide (b < 0))), cT (!(decide (a < 0) == decide (b < 0))), Xj (Lm.dg ((Lm.digs (Int.natAbs a)).length + (Lm.digs (Int.natAbs b)).length) (Lm.V (Lm.digs (Int.natAbs a)) * Lm.V (Lm.digs (Int.natAbs b)))), Xf (Js (!(decide (a < 0) == decide (b < 0))) (Lm.V (Lm.dg ((Lm.digs (Int.natAbs a)).length + (Lm.digs (Int.natAbs b)).length) (Lm.V (Lm.digs (Int.natAbs a)) * Lm.V (Lm.digs (Int.natAbs b))))))] oN)))))))))) oN)) ?_
 refine Xg ?_
 exact X7i ((Xf (Js (!(decide (a < 0) == decide (b < 0))) (Lm.V (Lm.dg ((Lm.digs (Int.natAbs a)).length + (Lm.digs (Int.natAbs b)).length) (Lm.V (Lm.digs (Int.natAbs a)) * Lm.V (Lm.digs (Int.natAbs b)))))))) (congrArg Xf (by rw [X2u, ← Int.natCast_mul, ← Int.natAbs_mul]; exact Xym a b))
theorem Xqk (a : Int) : X66 (-a) ≤ 1 * X66 a + 0 := by rw [Xff]; omega
open Go Go.RowKit
theorem Xd6 (a b : List Int) (ga : Lm.G a) (gb : Lm.G b) (hb : 0 < Lm.V b := by omega) (hs : a.length + b.length ≤ 1099511627776 := by omega) : ∃ q r, Lm.G q ∧ Lm.G r ∧ Lm.V q = Lm.V a / Lm.V b ∧ Lm.V r = Lm.V a % Lm.V b ∧ q.length ≤ a.length + 2 ∧ r.length ≤ a.length + b.length + 1 ∧ CS Tryz.prog 286 [Xj a, Xj b] (.tup [Xj q, Xj r]) := by
  have gx := Lm.G_trim ga
  have gy := Lm.G_trim gb
  have ny := Lm.trim_Nz b
  have lx := Lm.trim_len a
  have ly := Lm.trim_len b
  have vx := Lm.V_trim a
  have vy := Lm.V_trim b
  have hA := Lm.V_bound ga
  have hm0 := Lm.V_bound gb
  have hq0 : 0 ≤ Lm.V a / Lm.V b := Int.ediv_nonneg hA.1 (by omega)
  have hq1 : Lm.V a / Lm.V b ≤ Lm.V a := Int.ediv_le_self _ hA.1
  have hr0 : 0 ≤ Lm.V a % Lm.V b := Int.emod_nonneg _ (by omega)
  have hr1 : Lm.V a % Lm.V b < Lm.V b := Int.emod_lt_of_pos _ hb
  have hxb := Lm.V_bound gx
  by_cases h1 : (Lm.trim b).length = 1
  · have hB : Lm.V b < 1000000000 := by
      have := (Lm.V_bound gy).2
      rw [h1] at this; simp [Lm.P] at this; omega
    refine ⟨_, _, Lm.G_dg _ _, Lm.G_cons.2 ⟨⟨hr0, by omega⟩, Lm.G_nil⟩, Lm.V_dg hq0 (by omega), by simp [Lm.V_cons], by rw [Lm.dg_len]; omega, by simp, Xl0 a b ga gb hb h1 hs⟩
  · by_cases h2 : Lm.V a < Lm.V b
    · refine ⟨[], Lm.trim a, Lm.G_nil, gx, ?_, ?_, by simp, by omega, X2n 1 (Xlv a b ga gb hb h1 h2 hs)⟩
      · rw [Int.ediv_eq_zero_of_lt hA.1 h2]; rfl
      · rw [vx, Int.emod_eq_of_lt hA.1 h2]
    · have hyp : 0 < (Lm.trim b).length := by
        by_cases hc : 0 < (Lm.trim b).length
        · exact hc
        · have : Lm.trim b = [] := List.length_eq_zero_iff.1 (by omega)
          rw [this] at vy; simp at vy; omega
      have hll := Lm.len_le gx gy ny hyp (by omega)
      obtain ⟨m, hm⟩ : ∃ m, m + (Lm.trim b).length = (Lm.trim a).length + 2 := ⟨(Lm.trim a).length + 2 - (Lm.trim b).length, by omega⟩
      have hyt := Lm.G_get gy ((Lm.trim b).length - 1)
      have hyt0 := Lm.top_pos gy ny hyp
      obtain ⟨s, hsd⟩ : ∃ s, s = 1000000000 / ((Lm.trim b).getD ((Lm.trim b).length - 1) 0 + 1) := ⟨_, rfl⟩
      obtain ⟨hs0, hs1, hs2⟩ := Lm.scale_ok hyt0 hyt.2 hsd
      have hqm : Lm.V a / Lm.V b < Lm.P m := by
        have k1 := Lm.Nz_pos gy ny (fun hc => by rw [hc] at hyp; simp at hyp)
        have k2 : Lm.P (Lm.trim a).length ≤ Lm.P m * Lm.V b := by
          have k3 : Lm.P (m + ((Lm.trim b).length - 1)) ≤ Lm.P m * Lm.V b := by
            rw [Lm.P_add]; exact Int.mul_le_mul_of_nonneg_left (by omega) (Int.le_of_lt (Lm.P_pos m))
          have := Lm.P_mono (m := (Lm.trim a).length) (n := m + ((Lm.trim b).length - 1)) (by omega)
          omega
        exact Int.ediv_lt_of_lt_mul hb (by omega)
      have hsb : 0 ≤ Lm.V a * s % (Lm.V b * s) ∧ Lm.V a * s % (Lm.V b * s) < Lm.V b * s := ⟨Int.emod_nonneg _ (by have := Int.mul_pos hb hs0; omega), Int.emod_lt_of_pos _ (Int.mul_pos hb hs0)⟩
      have hrm : Lm.V a * s % (Lm.V b * s) = (Lm.V a % Lm.V b) * s := by rw [Int.mul_comm (Lm.V a) s, Int.mul_comm (Lm.V b) s, Int.mul_emod_mul_of_pos _ _ hs0, Int.mul_comm]
      have hrl : (Lm.digs (Lm.V a * s % (Lm.V b * s)).natAbs).length ≤ b.length + 1 := by
        refine Lm.digs_len ?_
        have := Lm.mul_lt (x := Lm.V b) (m := Lm.P b.length) (y := s) (n := 1000000000) (by omega) hm0.2 (by omega) hs1
        rw [Lm.P_succ]; omega
      have hrv : Lm.V a % Lm.V b < Lm.P (Lm.digs (Lm.V a * s % (Lm.V b * s)).natAbs).length := by
        have := Lm.digs_lt (Lm.V a * s % (Lm.V b * s)).natAbs
        have k : (Lm.V a % Lm.V b) * 1 ≤ (Lm.V a % Lm.V b) * s := Int.mul_le_mul_of_nonneg_left (by omega) hr0
        omega
      exact ⟨_, _, Lm.G_dg _ _, Lm.G_dg _ _, Lm.V_dg hq0 hqm, Lm.V_dg hr0 hrv, by rw [Lm.dg_len]; omega, by rw [Lm.dg_len]; omega, Xlr a b ga gb hb h1 (by omega) m s hm hsd hs⟩
theorem Xd8 (a b : Int) (hb : 0 < b := by omega) (hs : X66 a + X66 b ≤ 274877906944 := by omega) : CS Tryz.prog 287 [Xf a, Xf b] (.tup [Xf (a / b), Xf (a % b), .int .i64 0]) := by
 have hbn : decide (b < 0) = false := decide_eq_false (by omega)
 have hz0 := (Xbi (a := b)).2 (by omega)
 have hzb : decide ((((Lm.digs (Int.natAbs b)).length : Nat) : Int) = 0) = false := decide_eq_false (by rw [Yj]; omega)
 obtain ⟨q0, r0, gq0, gr0, vq0, vr0, lq0, lr0, cq0⟩ := Xd6 (Lm.digs (Int.natAbs a)) (Lm.digs (Int.natAbs b)) (Xa2 _) (Xa2 _) (by rw [Kq]; omega) (by rw [Yj, Yj]; omega)
 rw [Kq, Kq] at vq0 vr0
 rw [Yj] at lq0
 rw [Yj, Yj] at lr0
 refine cO 55 Tryz.func287 ?_
 refine rt [tv 2 (pb 2), tv 3 (pb 3), tv 4 (pb 4), tv 5 (pb 5), tv 6 (ki 0), bv 2 (Xf a), bv 3 (Xf b), bv 4 zI, bv 5 zI] (oT 5 oN) ?_
 refine Xe ?_
 refine rt [tv 2 (pb 2), tv 3 (pb 3), tv 4 (pb 4), tv 5 (pb 5), tv 6 (ki 0), tv 14 (.bool false), bv 2 (Xf a), bv 3 (Xf b), bv 4 zI, bv 5 zI] (oT 2 (oO (aI trivial (Yx _ : (((Lm.digs (Int.natAbs b)).length : Nat) : Int) = (((uw (Lm.digs (Int.natAbs b))).length : Nat) : Int))) (oO (aI trivial (hzb : (decide ((((Lm.digs (Int.natAbs b)).length : Nat) : Int) = 0)) = false)) (oA [.tup [ki (((Lm.digs (Int.natAbs b)).length : Nat) : Int)], cT false] oN)))) ?_
 refine cB (false) (fun h => Bool.noConfusion h) (fun _ => ?_)
 refine Xn ?_
 refine sh 2 [tv 3 (pb 3), tv 4 (pb 4), tv 5 (pb 5), tv 6 (ki 0), tv 9 (pb 9), tv 10 (pb 10), bv 3 (Xf b), bv 4 zI, bv 5 zI, bv 9 (Xf (Js (!(decide (a < 0) == false)) (Lm.V q0))), bv 10 (Xf (Js (decide (a < 0)) (Lm.V r0)))] (oS (oT 4 (oO (cq0 : CS Tryz.prog 286 [Xj (Lm.digs (Int.natAbs a)), Xj (Lm.digs (Int.natAbs b))] (.tup [Xj q0, Xj r0])) (oT 5 oN))) (oS (oT 1 (oO (oB (decide (a < 0))) (oT 1 (oO (aI trivial (hbn : (decide (b < 0)) = false)) (oO (oB (!(decide (a < 0) == false))) (oT 1 (oO (Z9 (!(decide (a < 0) == false)) q0 (by first | exact Lm.G_dg _ _ | exact Lm.G_digs _ | assumption) (by (try simp only [Lm.dg_len, Yj]); omega) : CS Tryz.prog 226 [.bool (!(decide (a < 0) == false)), Xj q0] (Xf (Js (!(decide (a < 0) == false)) (Lm.V q0)))) (oT 1 (oO (oB (decide (a < 0))) (oT 1 (oO (Z9 (decide (a < 0)) r0 (by first | exact Lm.G_dg _ _ | exact Lm.G_digs _ | assumption) (by (try simp only [Lm.dg_len, Yj]); omega) : CS Tryz.prog 226 [.bool (decide (a < 0)), Xj r0] (Xf (Js (decide (a < 0)) (Lm.V r0)))) (oT 4 (oA [.tup [Xj q0, Xj r0], .rptr (.bool (decide (a < 0))), .rptr (.bool false), cT (!(decide (a < 0) == false)), Xf (Js (!(decide (a < 0) == false)) (Lm.V q0)), .rptr (.bool (decide (a < 0))), Xf (Js (decide (a < 0)) (Lm.V r0))] oN))))))))))))) oN)) ?_
 refine Xe ?_
 refine Xe ?_
 rcases X7 (decide (0 < (((Lm.digs (Int.natAbs (Js (decide (a < 0)) (Lm.V r0)))).length : Nat) : Int))) with h1 | h1
 ·
  have h1' := of_decide_eq_true h1
  refine rh [tv 3 (pb 3), tv 4 (pb 4), tv 5 (pb 5), tv 6 (ki 0), tv 9 (pb 9), tv 10 (pb 10), tv 46 (.bool (!(decide (Js (decide (a < 0)) (Lm.V r0) < 0) == false))), bv 3 (Xf b), bv 4 zI, bv 5 zI, bv 9 (Xf (Js (!(decide (a < 0) == false)) (Lm.V q0))), bv 10 (Xf (Js (decide (a < 0)) (Lm.V r0)))] (oT 2 (oO (aI trivial (Yx _ : (((Lm.digs (Int.natAbs (Js (decide (a < 0)) (Lm.V r0)))).length : Nat) : Int) = (((uw (Lm.digs (Int.natAbs (Js (decide (a < 0)) (Lm.V r0))))).length : Nat) : Int))) (oO (aI trivial (h1 : (decide (0 < (((Lm.digs (Int.natAbs (Js (decide (a < 0)) (Lm.V r0)))).length : Nat) : Int))) = true)) (oT 1 (oO (Xh 1 trivial) (oO (Xh 1 (oB (decide (Js (decide (a < 0)) (Lm.V r0) < 0)))) (oO (Xh 1 trivial) (oO (Xh 1 (aI trivial (hbn : (decide (b < 0)) = false))) (oO (Xh 2 (oB (!(decide (Js (decide (a < 0)) (Lm.V r0) < 0) == false)))) (oT 1 (oA [.tup [ki (((Lm.digs (Int.natAbs (Js (decide (a < 0)) (Lm.V r0)))).length : Nat) : Int)], cT true, .rptr (.bool (decide (Js (decide (a < 0)) (Lm.V r0) < 0))), .rptr (.bool false), cT (!(decide (Js (decide (a < 0)) (Lm.V r0) < 0) == false))] oN))))))))))) ?_
  refine cB ((!(decide (Js (decide (a < 0)) (Lm.V r0) < 0) == false))) (fun h2 => ?_) (fun h2 => ?_)
  ·
   have h2' := of_decide_eq_true (Xys (Xdt h2))
   refine rh [tv 4 (pb 4), tv 5 (pb 5), tv 6 (ki 0), tv 9 (pb 9), tv 10 (pb 10), bv 4 zI, bv 5 zI, bv 9 (Xf (Js (!(decide (a < 0) == false)) (Lm.V q0) - 1)), bv 10 (Xf (Js (decide (a < 0)) (Lm.V r0) + b))] (oT 1 (oC (Jz 1 (by decide) (by decide)) (oC (Xqx (Js (!(decide (a < 0) == false)) (Lm.V q0)) 1 (by have := Xit (decide (a < 0)) gr0; have := Xit (!(decide (a < 0) == decide (b < 0))) gq0; have := Xdq 1 (by decide); first | omega | (rw [hbn] at *; omega))) (oT 2 (oC (Xdp (Js (decide (a < 0)) (Lm.V r0)) b (by have := Xit (decide (a < 0)) gr0; omega)) (oT 2 oN)))))) ?_
   refine rt [tv 4 (pb 4), tv 5 (pb 5), tv 6 (ki 0), bv 4 (Xf (Js (!(decide (a < 0) == false)) (Lm.V q0) - 1)), bv 5 (Xf (Js (decide (a < 0)) (Lm.V r0) + b))] (oT 5 oN) ?_
   refine Xg ?_
   have hz := Xbi (a := Js (decide (a < 0)) (Lm.V r0))
   rw [← Yj] at hz
   exact X7i ((.tup [Xf (Js (!(decide (a < 0) == false)) (Lm.V q0) - 1), Xf (Js (decide (a < 0)) (Lm.V r0) + b), ki 0])) (by have hfin := X54 hb vq0 vr0 (by omega); rw [hfin.1, hfin.2])
  ·
   have h2' := of_decide_eq_false (Xz5 (Xas h2))
   refine Xn ?_
   refine rt [tv 4 (pb 4), tv 5 (pb 5), tv 6 (ki 0), bv 4 (Xf (Js (!(decide (a < 0) == false)) (Lm.V q0))), bv 5 (Xf (Js (decide (a < 0)) (Lm.V r0)))] (oT 5 oN) ?_
   refine Xg ?_
   have hz := Xbi (a := Js (decide (a < 0)) (Lm.V r0))
   rw [← Yj] at hz
   exact X7i ((.tup [Xf (Js (!(decide (a < 0) == false)) (Lm.V q0)), Xf (Js (decide (a < 0)) (Lm.V r0)), ki 0])) (by have hfin := X51 hb vq0 vr0 (by omega); rw [hfin.1, hfin.2])
 ·
  have h1' := of_decide_eq_false h1
  refine rh [tv 3 (pb 3), tv 4 (pb 4), tv 5 (pb 5), tv 6 (ki 0), tv 9 (pb 9), tv 10 (pb 10), tv 46 (.bool false), bv 3 (Xf b), bv 4 zI, bv 5 zI, bv 9 (Xf (Js (!(decide (a < 0) == false)) (Lm.V q0))), bv 10 (Xf (Js (decide (a < 0)) (Lm.V r0)))] (oT 2 (oO (aI trivial (Yx _ : (((Lm.digs (Int.natAbs (Js (decide (a < 0)) (Lm.V r0)))).length : Nat) : Int) = (((uw (Lm.digs (Int.natAbs (Js (decide (a < 0)) (Lm.V r0))))).length : Nat) : Int))) (oO (aI trivial (h1 : (decide (0 < (((Lm.digs (Int.natAbs (Js (decide (a < 0)) (Lm.V r0)))).length : Nat) : Int))) = false)) (oT 1 (oO (gn [false]) (oO (gn [true]) (oO (gn [false]) (oO (gn [true]) (oO (gn [true, true]) (oT 1 (oA [.tup [ki (((Lm.digs (Int.natAbs (Js (decide (a < 0)) (Lm.V r0)))).length : Nat) : Int)], cT false, .rptr (.bool (decide (Js (decide (a < 0)) (Lm.V r0) < 0))), .rptr (.bool false), cT (!(decide (Js (decide (a < 0)) (Lm.V r0) < 0) == false))] oN))))))))))) ?_
  refine cB (false) (fun h => Bool.noConfusion h) (fun _ => ?_)
  refine Xn ?_
  refine rt [tv 4 (pb 4), tv 5 (pb 5), tv 6 (ki 0), bv 4 (Xf (Js (!(decide (a < 0) == false)) (Lm.V q0))), bv 5 (Xf (Js (decide (a < 0)) (Lm.V r0)))] (oT 5 oN) ?_
  refine Xg ?_
  have hz := Xbi (a := Js (decide (a < 0)) (Lm.V r0))
  rw [← Yj] at hz
  exact X7i ((.tup [Xf (Js (!(decide (a < 0) == false)) (Lm.V q0)), Xf (Js (decide (a < 0)) (Lm.V r0)), ki 0])) (by have hfin := X53 hb vq0 vr0 (by omega); rw [hfin.1, hfin.2])
theorem Xla (a b : Int) (hs : X66 a + X66 b ≤ 137438953472 := by omega) : CS Tryz.prog 261 [Xf a, Xf b] (Xf (Int.gcd a b : Int)) := by
 refine cO 61 Tryz.func261 ?_
 refine sh 2 [tv 4 (pb 4), tv 5 (pb 5), tv 6 (pb 6), bv 4 zI, bv 5 (Xf (Js false (Lm.V (Lm.digs (Int.natAbs a))))), bv 6 (Xf (Js false (Lm.V (Lm.digs (Int.natAbs b)))))] (oS (oT 3 oN) (oS (oT 2 (oO (Z9 false (Lm.digs (Int.natAbs a)) (by first | exact Xa2 _ | exact Lm.G_dg _ _ | assumption) (by first | (simp only [Lm.dg_len]; done) | (rw [Yj]; omega) | (simp only [Lm.dg_len]; omega) | omega) : CS Tryz.prog 226 [.bool false, Xj (Lm.digs (Int.natAbs a))] (Xf (Js false (Lm.V (Lm.digs (Int.natAbs a)))))) (oT 2 (oO (Z9 false (Lm.digs (Int.natAbs b)) (by first | exact Xa2 _ | exact Lm.G_dg _ _ | assumption) (by first | (simp only [Lm.dg_len]; done) | (rw [Yj]; omega) | (simp only [Lm.dg_len]; omega) | omega) : CS Tryz.prog 226 [.bool false, Xj (Lm.digs (Int.natAbs b))] (Xf (Js false (Lm.V (Lm.digs (Int.natAbs b)))))) (oT 4 (oA [Xf (Js false (Lm.V (Lm.digs (Int.natAbs a)))), Xf (Js false (Lm.V (Lm.digs (Int.natAbs b))))] oN)))))) oN)) ?_
 refine Xe ?_
 refine X6 ?_
 refine Z0 (fun n0 l0 => ∃ (x : Int) (y : Int), (0 ≤ x ∧ 0 ≤ y ∧ Int.gcd x y = Int.gcd a b ∧ X66 x ≤ X66 a + X66 b ∧ X66 y ≤ X66 a + X66 b) ∧ y.toNat = n0 ∧ l0 = [tv 4 (pb 4), tv 5 (pb 5), tv 6 (pb 6), bv 4 zI, bv 5 (Xf x), bv 6 (Xf y)]) (n := (Js false (Lm.V (Lm.digs (Int.natAbs b)))).toNat) (by kernel_rfl) ⟨Js false (Lm.V (Lm.digs (Int.natAbs a))), Js false (Lm.V (Lm.digs (Int.natAbs b))), ⟨by rw [Kq]; simp only [Js, cond_false]; omega, by rw [Kq]; simp only [Js, cond_false]; omega, by rw [Kq, Kq]; exact Xvb a b, by have := Xit false (Xa2 a); rw [Yj] at this; omega, by have := Xit false (Xa2 b); rw [Yj] at this; omega⟩, rfl, (by kernel_rfl)⟩ ?_
 rintro n0 l0 ⟨x, y, ⟨hx0, hy0, hg, hsx, hsy⟩, rfl, rfl⟩
 refine Xe ?_
 refine rt [tv 4 (pb 4), tv 5 (pb 5), tv 6 (pb 6), tv 22 (.bool (decide (0 < (((Lm.digs (Int.natAbs y)).length : Nat) : Int)))), bv 4 zI, bv 5 (Xf x), bv 6 (Xf y)] (oT 2 (oO (aI trivial (Yx _ : (((Lm.digs (Int.natAbs y)).length : Nat) : Int) = (((uw (Lm.digs (Int.natAbs y))).length : Nat) : Int))) (oO (oB (decide (0 < (((Lm.digs (Int.natAbs y)).length : Nat) : Int)))) (oA [.tup [ki (((Lm.digs (Int.natAbs y)).length : Nat) : Int)], cT (decide (0 < (((Lm.digs (Int.natAbs y)).length : Nat) : Int)))] oN)))) ?_
 refine cB (decide (0 < (((Lm.digs (Int.natAbs y)).length : Nat) : Int))) (fun h1 => ?_) (fun h1 => ?_)
 ·
  have h1' := of_decide_eq_true h1
  refine Xn ?_
  refine X6 ?_
  refine Xe ?_
  rcases X7 (decide (X66 x ≤ 2)) with h2 | h2
  ·
   have h2' := of_decide_eq_true h2
   refine rh [tv 4 (pb 4), tv 5 (pb 5), tv 6 (pb 6), tv 7 (ku ((Int.natAbs x : Nat) : Int)), tv 8 (.bool true), bv 4 zI, bv 5 (Xf x), bv 6 (Xf y)] (oT 1 (oC (Xgz x (of_decide_eq_true h2)) (oT 2 (oO (oB true) (oT 2 (oA [.rptr (.bool true)] oN)))))) ?_
   refine Xe ?_
   rcases X7 (decide (X66 y ≤ 2)) with h3 | h3
   ·
    have h3' := of_decide_eq_true h3
    refine rh [tv 4 (pb 4), tv 5 (pb 5), tv 6 (pb 6), tv 7 (ku ((Int.natAbs x : Nat) : Int)), tv 8 (.bool true), tv 9 (ku ((Int.natAbs y : Nat) : Int)), tv 10 (.bool true), bv 4 zI, bv 5 (Xf x), bv 6 (Xf y)] (oT 1 (oC (Xgz y (of_decide_eq_true h3)) (oT 2 (oO (oB true) (oT 2 (oA [.rptr (.bool true)] oN)))))) ?_
    refine Xe ?_
    refine rt [tv 4 (pb 4), tv 5 (pb 5), tv 6 (pb 6), tv 7 (ku ((Int.natAbs x : Nat) : Int)), tv 9 (ku ((Int.natAbs y : Nat) : Int)), tv 36 (.bool true), bv 4 zI, bv 5 (Xf x), bv 6 (Xf y)] (oT 2 (oO (Xh 1 trivial) (oT 1 oN))) ?_
    refine cB (true) (fun _ => ?_) (fun h => Bool.noConfusion h)
    refine Xe ?_
    refine X6 ?_
    refine Xcz (live := [tv 4 (pb 4), tv 5 (pb 5), tv 6 (pb 6), tv 7 (ku ((Int.natAbs x : Nat) : Int)), tv 9 (ku ((Int.natAbs y : Nat) : Int)), bv 4 zI, bv 5 (Xf x), bv 6 (Xf y)]) (by kernel_rfl) (by kernel_rfl) ?_
    have hwx := Xh3 (a := x) (m := 2) (by omega)
    have hwy := Xh3 (a := y) (m := 2) (by omega)
    rw [X04] at hwx hwy
    refine Z0 (fun n0 l0 => ∃ (u : Int) (v : Int), (0 ≤ u ∧ u < 1000000000000000000 ∧ 0 ≤ v ∧ v < 1000000000000000000 ∧ Int.gcd u v = Int.gcd a b) ∧ v.toNat = n0 ∧ l0 = [tv 4 (pb 4), tv 5 (pb 5), tv 6 (pb 6), tv 7 (ku u), tv 9 (ku v), bv 4 zI, bv 5 (Xf x), bv 6 (Xf y)]) (n := ((Int.natAbs y : Nat) : Int).toNat) (by kernel_rfl) ⟨((Int.natAbs x : Nat) : Int), ((Int.natAbs y : Nat) : Int), ⟨by omega, by omega, by omega, by omega, by rw [Xvb]; exact hg⟩, rfl, (by kernel_rfl)⟩ ?_
    rintro n0 l0 ⟨u, v, ⟨hu0, hu1, hv0, hv1, hgu⟩, rfl, rfl⟩
    refine Xe ?_
    refine rt [tv 4 (pb 4), tv 5 (pb 5), tv 6 (pb 6), tv 7 (ku u), tv 9 (ku v), tv 38 (.bool (decide (0 < v))), bv 4 zI, bv 5 (Xf x), bv 6 (Xf y)] (oT 1 (oO (oB (decide (0 < v))) (oA [cT (decide (0 < v))] oN))) ?_
    refine cB (decide (0 < v)) (fun h4 => ?_) (fun h4 => ?_)
    ·
     have h4' := of_decide_eq_true h4
     refine Xn ?_
     refine X6 ?_
     refine rh [tv 4 (pb 4), tv 5 (pb 5), tv 6 (pb 6), tv 7 (ku v), tv 9 (ku (u % v)), bv 4 zI, bv 5 (Xf x), bv 6 (Xf y)] (oT 3 (oO (Xa0 (x := u) (y := v) (by omega) (by omega) trivial) (oT 2 (oA [ku (u % v)] oN)))) ?_
     have hrl := Int.emod_lt_of_pos u (show 0 < v by omega)
     have hrn := Int.emod_nonneg u (show v ≠ 0 by omega)
     exact ⟨(u % v).toNat, [tv 4 (pb 4), tv 5 (pb 5), tv 6 (pb 6), tv 7 (ku v), tv 9 (ku (u % v)), bv 4 zI, bv 5 (Xf x), bv 6 (Xf y)], (by omega), rfl, (by kernel_rfl), v, u % v, ⟨hv0, hv1, hrn, by omega, by rw [Xiy hu0 (by omega)]; exact hgu⟩, rfl, (by kernel_rfl)⟩
    ·
     have h4' := of_decide_eq_false h4
     refine Z3 ?_
     refine rt [tv 4 (pb 4), tv 5 (pb 5), tv 6 (pb 6), bv 4 (Xf (Js false (Lm.V (Lm.dg 3 u)))), bv 5 (Xf x), bv 6 (Xf y)] (oT 1 (oC (Xgi u) (oO (Z9 false (Lm.dg 3 u) (by first | exact Xa2 _ | exact Lm.G_dg _ _ | assumption) (by first | (simp only [Lm.dg_len]; done) | (rw [Yj]; omega) | (simp only [Lm.dg_len]; omega) | omega) : CS Tryz.prog 226 [.bool false, Xj (Lm.dg 3 u)] (Xf (Js false (Lm.V (Lm.dg 3 u))))) (oT 1 (oA [Xf (Js false (Lm.V (Lm.dg 3 u)))] oN))))) ?_
     refine Xg ?_
     have hv : v = 0 := by omega
     subst hv
     exact X7i ((Xf (Js false (Lm.V (Lm.dg 3 u))))) (congrArg Xf (by rw [← hgu, Lm.V_dg hu0 (by rw [Xsi]; omega), Int.gcd_zero_right]; simp only [Js, cond_false]; omega))
   ·
    have h3' := of_decide_eq_false h3
    refine rh [tv 4 (pb 4), tv 5 (pb 5), tv 6 (pb 6), tv 7 (ku ((Int.natAbs x : Nat) : Int)), tv 8 (.bool true), tv 9 (ku 0), tv 10 (.bool false), bv 4 zI, bv 5 (Xf x), bv 6 (Xf y)] (oT 1 (oC (Xeu y (by have := of_decide_eq_false h3; omega)) (oT 2 (oO (oB false) (oT 2 (oA [.rptr (.bool false)] oN)))))) ?_
    refine Xe ?_
    refine rt [tv 4 (pb 4), tv 5 (pb 5), tv 6 (pb 6), tv 7 (ku ((Int.natAbs x : Nat) : Int)), tv 9 (ku 0), tv 36 (.bool false), bv 4 zI, bv 5 (Xf x), bv 6 (Xf y)] (oT 2 (oO (Xh 1 trivial) (oT 1 oN))) ?_
    refine cB (false) (fun h => Bool.noConfusion h) (fun _ => ?_)
    refine Xn ?_
    refine Xe ?_
    have hyp : 0 < y := by have := Xbi (a := y); rw [← Yj] at this; omega
    obtain ⟨q0, r0, gq0, gr0, vq0, vr0, lq0, lr0, cq0⟩ := Xd6 (Lm.digs (Int.natAbs x)) (Lm.digs (Int.natAbs y)) (Xa2 _) (Xa2 _) (by rw [Kq]; omega) (by rw [Yj, Yj]; omega)
    rw [Kq, Kq] at vq0 vr0
    rw [Yj] at lq0
    rw [Yj, Yj] at lr0
    refine rh [tv 4 (pb 4), tv 5 (pb 5), tv 6 (pb 6), tv 12 (Xj r0), bv 4 zI, bv 5 (Xf x), bv 6 (Xf y)] (oT 4 (oO (cq0 : CS Tryz.prog 286 [Xj (Lm.digs (Int.natAbs x)), Xj (Lm.digs (Int.natAbs y))] (.tup [Xj q0, Xj r0])) (oT 5 (oA [.tup [Xj q0, Xj r0]] oN)))) ?_
    refine rh [tv 4 (pb 4), tv 5 (pb 5), tv 6 (pb 6), bv 4 zI, bv 5 (Xf y), bv 6 (Xf (Js false (Lm.V r0)))] (oT 2 (oO (Z9 false r0 (by first | exact Xa2 _ | exact Lm.G_dg _ _ | assumption) (by first | (simp only [Lm.dg_len]; done) | (rw [Yj]; omega) | (simp only [Lm.dg_len]; omega) | omega) : CS Tryz.prog 226 [.bool false, Xj r0] (Xf (Js false (Lm.V r0)))) (oT 2 (oA [Xf (Js false (Lm.V r0))] oN)))) ?_
    have hrr : Js false (Lm.V r0) = x % y := by
     simp only [Js, cond_false]; rw [vr0, (Xrh hx0 (show 0 < y by omega)).2]
    have hrl := Int.emod_lt_of_pos x (show 0 < y by omega)
    have hrm := Xna (a := x) (show 0 < y by omega)
    exact ⟨(Js false (Lm.V r0)).toNat, [tv 4 (pb 4), tv 5 (pb 5), tv 6 (pb 6), bv 4 zI, bv 5 (Xf y), bv 6 (Xf (Js false (Lm.V r0)))], (by rw [hrr]; omega), rfl, (by kernel_rfl), y, Js false (Lm.V r0), ⟨hy0, by rw [hrr]; exact Int.emod_nonneg _ (by omega), by rw [hrr, Xiy hx0 (by omega)]; exact hg, hsy, by rw [hrr]; omega⟩, rfl, (by kernel_rfl)⟩
  ·
   have h2' := of_decide_eq_false h2
   refine rh [tv 4 (pb 4), tv 5 (pb 5), tv 6 (pb 6), tv 7 (ku 0), tv 8 (.bool false), bv 4 zI, bv 5 (Xf x), bv 6 (Xf y)] (oT 1 (oC (Xeu x (by have := of_decide_eq_false h2; omega)) (oT 2 (oO (oB false) (oT 2 (oA [.rptr (.bool false)] oN)))))) ?_
   refine Xe ?_
   rcases X7 (decide (X66 y ≤ 2)) with h5 | h5
   ·
    have h5' := of_decide_eq_true h5
    refine rh [tv 4 (pb 4), tv 5 (pb 5), tv 6 (pb 6), tv 7 (ku 0), tv 8 (.bool false), tv 9 (ku ((Int.natAbs y : Nat) : Int)), tv 10 (.bool true), bv 4 zI, bv 5 (Xf x), bv 6 (Xf y)] (oT 1 (oC (Xgz y (of_decide_eq_true h5)) (oT 2 (oO (oB true) (oT 2 (oA [.rptr (.bool true)] oN)))))) ?_
    refine Xe ?_
    refine rt [tv 4 (pb 4), tv 5 (pb 5), tv 6 (pb 6), tv 7 (ku 0), tv 9 (ku ((Int.natAbs y : Nat) : Int)), tv 36 (.bool false), bv 4 zI, bv 5 (Xf x), bv 6 (Xf y)] (oT 2 (oO (gn [false]) (oT 1 oN))) ?_
    refine cB (false) (fun h => Bool.noConfusion h) (fun _ => ?_)
    refine Xn ?_
    refine Xe ?_
    have hyp : 0 < y := by have := Xbi (a := y); rw [← Yj] at this; omega
    obtain ⟨q0, r0, gq0, gr0, vq0, vr0, lq0, lr0, cq0⟩ := Xd6 (Lm.digs (Int.natAbs x)) (Lm.digs (Int.natAbs y)) (Xa2 _) (Xa2 _) (by rw [Kq]; omega) (by rw [Yj, Yj]; omega)
    rw [Kq, Kq] at vq0 vr0
    rw [Yj] at lq0
    rw [Yj, Yj] at lr0
    refine rh [tv 4 (pb 4), tv 5 (pb 5), tv 6 (pb 6), tv 12 (Xj r0), bv 4 zI, bv 5 (Xf x), bv 6 (Xf y)] (oT 4 (oO (cq0 : CS Tryz.prog 286 [Xj (Lm.digs (Int.natAbs x)), Xj (Lm.digs (Int.natAbs y))] (.tup [Xj q0, Xj r0])) (oT 5 (oA [.tup [Xj q0, Xj r0]] oN)))) ?_
    refine rh [tv 4 (pb 4), tv 5 (pb 5), tv 6 (pb 6), bv 4 zI, bv 5 (Xf y), bv 6 (Xf (Js false (Lm.V r0)))] (oT 2 (oO (Z9 false r0 (by first | exact Xa2 _ | exact Lm.G_dg _ _ | assumption) (by first | (simp only [Lm.dg_len]; done) | (rw [Yj]; omega) | (simp only [Lm.dg_len]; omega) | omega) : CS Tryz.prog 226 [.bool false, Xj r0] (Xf (Js false (Lm.V r0)))) (oT 2 (oA [Xf (Js false (Lm.V r0))] oN)))) ?_
    have hrr : Js false (Lm.V r0) = x % y := by
     simp only [Js, cond_false]; rw [vr0, (Xrh hx0 (show 0 < y by omega)).2]
    have hrl := Int.emod_lt_of_pos x (show 0 < y by omega)
    have hrm := Xna (a := x) (show 0 < y by omega)
    exact ⟨(Js false (Lm.V r0)).toNat, [tv 4 (pb 4), tv 5 (pb 5), tv 6 (pb 6), bv 4 zI, bv 5 (Xf y), bv 6 (Xf (Js false (Lm.V r0)))], (by rw [hrr]; omega), rfl, (by kernel_rfl), y, Js false (Lm.V r0), ⟨hy0, by rw [hrr]; exact Int.emod_nonneg _ (by omega), by rw [hrr, Xiy hx0 (by omega)]; exact hg, hsy, by rw [hrr]; omega⟩, rfl, (by kernel_rfl)⟩
   ·
    have h5' := of_decide_eq_false h5
    refine rh [tv 4 (pb 4), tv 5 (pb 5), tv 6 (pb 6), tv 7 (ku 0), tv 8 (.bool false), tv 9 (ku 0), tv 10 (.bool false), bv 4 zI, bv 5 (Xf x), bv 6 (Xf y)] (oT 1 (oC (Xeu y (by have := of_decide_eq_false h5; omega)) (oT 2 (oO (oB false) (oT 2 (oA [.rptr (.bool false)] oN)))))) ?_
    refine Xe ?_
    refine rt [tv 4 (pb 4), tv 5 (pb 5), tv 6 (pb 6), tv 7 (ku 0), tv 9 (ku 0), tv 36 (.bool false), bv 4 zI, bv 5 (Xf x), bv 6 (Xf y)] (oT 2 (oO (gn [false]) (oT 1 oN))) ?_
    refine cB (false) (fun h => Bool.noConfusion h) (fun _ => ?_)
    refine Xn ?_
    refine Xe ?_
    have hyp : 0 < y := by have := Xbi (a := y); rw [← Yj] at this; omega
    obtain ⟨q0, r0, gq0, gr0, vq0, vr0, lq0, lr0, cq0⟩ := Xd6 (Lm.digs (Int.natAbs x)) (Lm.digs (Int.natAbs y)) (Xa2 _) (Xa2 _) (by rw [Kq]; omega) (by rw [Yj, Yj]; omega)
    rw [Kq, Kq] at vq0 vr0
    rw [Yj] at lq0
    rw [Yj, Yj] at lr0
    refine rh [tv 4 (pb 4), tv 5 (pb 5), tv 6 (pb 6), tv 12 (Xj r0), bv 4 zI, bv 5 (Xf x), bv 6 (Xf y)] (oT 4 (oO (cq0 : CS Tryz.prog 286 [Xj (Lm.digs (Int.natAbs x)), Xj (Lm.digs (Int.natAbs y))] (.tup [Xj q0, Xj r0])) (oT 5 (oA [.tup [Xj q0, Xj r0]] oN)))) ?_
    refine rh [tv 4 (pb 4), tv 5 (pb 5), tv 6 (pb 6), bv 4 zI, bv 5 (Xf y), bv 6 (Xf (Js false (Lm.V r0)))] (oT 2 (oO (Z9 false r0 (by first | exact Xa2 _ | exact Lm.G_dg _ _ | assumption) (by first | (simp only [Lm.dg_len]; done) | (rw [Yj]; omega) | (simp only [Lm.dg_len]; omega) | omega) : CS Tryz.prog 226 [.bool false, Xj r0] (Xf (Js false (Lm.V r0)))) (oT 2 (oA [Xf (Js false (Lm.V r0))] oN)))) ?_
    have hrr : Js false (Lm.V r0) = x % y := by
     simp only [Js, cond_false]; rw [vr0, (Xrh hx0 (show 0 < y by omega)).2]
    have hrl := Int.emod_lt_of_pos x (show 0 < y by omega)
    have hrm := Xna (a := x) (show 0 < y by omega)
    exact ⟨(Js false (Lm.V r0)).toNat, [tv 4 (pb 4), tv 5 (pb 5), tv 6 (pb 6), bv 4 zI, bv 5 (Xf y), bv 6 (Xf (Js false (Lm.V r0)))], (by rw [hrr]; omega), rfl, (by kernel_rfl), y, Js false (Lm.V r0), ⟨hy0, by rw [hrr]; exact Int.emod_nonneg _ (by omega), by rw [hrr, Xiy hx0 (by omega)]; exact hg, hsy, by rw [hrr]; omega⟩, rfl, (by kernel_rfl)⟩
 ·
  have h1' := of_decide_eq_false h1
  refine Z3 ?_
  refine Xe ?_
  have hlx := Yj x
  refine rh [tv 4 (pb 4), bv 4 (Xf (Js false (Lm.V (Lm.digs (Int.natAbs x)))))] (oT 2 (oO (aI (show (uw (Lm.digs (Int.natAbs x))).length * 4 ≤ 35184372088832 by simp only [J1]; (try simp only [List.length_set, List.length_append, List.length_cons, List.length_nil, List.length_replicate]); omega) (rfl : (uw (Lm.digs (Int.natAbs x))) = uw (Lm.digs (Int.natAbs x)))) (oO (Z9 false (Lm.digs (Int.natAbs x)) (by first | exact Xa2 _ | exact Lm.G_dg _ _ | assumption) (by first | (simp only [Lm.dg_len]; done) | (rw [Yj]; omega) | (simp only [Lm.dg_len]; omega) | omega) : CS Tryz.prog 226 [.bool false, Xj (Lm.digs (Int.natAbs x))] (Xf (Js false (Lm.V (Lm.digs (Int.natAbs x)))))) (oT 1 (oA [.tup [.sl 1 (uw (Lm.digs (Int.natAbs x)))], Xf (Js false (Lm.V (Lm.digs (Int.natAbs x))))] oN))))) ?_
  refine Xg ?_
  have hy : y = 0 := by have := Xbi (a := y); rw [← Yj] at this; omega
  subst hy
  exact X7i ((Xf (Js false (Lm.V (Lm.digs (Int.natAbs x)))))) (congrArg Xf (by rw [← hg, Kq, Int.gcd_zero_right]; rfl))
open Go Go.RowKit
theorem Xgx (a : Int) (hs : X66 a ≤ 34359738368 := by omega) : CS Tryz.prog 288 [Xf a] (.tup [Xf (Y1 a), ki (bif (decide (a < 0)) then 7 else 0)]) := by
 have hz := Xbi (a := a)
 have hla := Yj a
 obtain ⟨k, hk⟩ : ∃ k, k = (X66 a + 1) / 2 := ⟨_, rfl⟩
 refine cO 54 Tryz.func288 ?_
 refine rt [tv 1 (pb 1), tv 2 (pb 2), tv 3 (ki 0), bv 1 (Xf a), bv 2 zI] (oT 3 oN) ?_
 refine Xe ?_
 refine rt [tv 1 (pb 1), tv 2 (pb 2), tv 3 (ki 0), tv 14 (.bool (decide (a < 0))), bv 1 (Xf a), bv 2 zI] (oT 1 (oO (oB (decide (a < 0))) (oA [.rptr (.bool (decide (a < 0)))] oN))) ?_
 refine cB (decide (a < 0)) (fun h1 => ?_) (fun h1 => ?_)
 ·
  have h1' := of_decide_eq_true h1
  refine rt [tv 1 (pb 1), tv 2 (pb 2), tv 3 (ki 7), bv 1 (Xf a), bv 2 zI] (oT 3 oN) ?_
  refine Xg ?_
  exact X7i ((.tup [zI, ki 7])) (by rw [Xmk (show a < 0 by omega), decide_eq_true (show a < 0 by omega), Xi2]; rfl)
 ·
  have h1' := of_decide_eq_false h1
  refine Xn ?_
  refine Xe ?_
  refine rt [tv 1 (pb 1), tv 2 (pb 2), tv 3 (ki 0), tv 19 (.bool (decide ((((Lm.digs (Int.natAbs a)).length : Nat) : Int) = 0))), bv 1 (Xf a), bv 2 zI] (oT 2 (oO (aI trivial (Yx _ : (((Lm.digs (Int.natAbs a)).length : Nat) : Int) = (((uw (Lm.digs (Int.natAbs a))).length : Nat) : Int))) (oO (oB (decide ((((Lm.digs (Int.natAbs a)).length : Nat) : Int) = 0))) (oA [.tup [ki (((Lm.digs (Int.natAbs a)).length : Nat) : Int)], cT (decide ((((Lm.digs (Int.natAbs a)).length : Nat) : Int) = 0))] oN)))) ?_
  refine cB (decide ((((Lm.digs (Int.natAbs a)).length : Nat) : Int) = 0)) (fun h2 => ?_) (fun h2 => ?_)
  ·
   have h2' := of_decide_eq_true h2
   refine rt [tv 1 (pb 1), tv 2 (pb 2), tv 3 (ki 0), bv 1 (Xf a), bv 2 zI] (oT 3 oN) ?_
   refine Xg ?_
   exact X7i ((.tup [zI, ki 0])) (by rw [show a = 0 by omega, show Y1 0 = 0 from by decide, Xi2]; rfl)
  ·
   have h2' := of_decide_eq_false h2
   refine Xn ?_
   refine sh 3 [tv 1 (pb 1), tv 2 (pb 2), tv 3 (ki 0), tv 5 (pb 5), tv 6 (pb 6), bv 1 (Xf a), bv 2 zI, bv 5 (Xf (Js false (Lm.V (List.replicate k 0 ++ [1])))), bv 6 (Xf 2)] (oS (oT 2 (oO (aI trivial (Yx _ : (((Lm.digs (Int.natAbs a)).length : Nat) : Int) = (((uw (Lm.digs (Int.natAbs a))).length : Nat) : Int))) (oO (X3 (x := (((Lm.digs (Int.natAbs a)).length : Nat) : Int)) (y := 1) (by omega) (by omega)) (oO (Xax (Xp4 (by omega) (by omega) (by omega)) (by omega) : Jx .quo .i64 (((Lm.digs (Int.natAbs a)).length + 1 : Nat) : Int) 2 = some ((k : Nat) : Int) ∧ ((BinOp.quo = .quo ∨ BinOp.quo = .rem) → 2 ≠ (0 : Int))) (oT 1 oN))))) (oS (oT 1 (oO (aI (show (0 : Int) ≤ ((k : Nat) : Int) ∧ (((k : Nat) : Int) : Int) ≤ ((k : Nat) : Int) ∧ 4 * Int.toNat ((k : Nat) : Int) ≤ 281474976710656 by omega) (Xic k (by omega) : (uw (List.replicate k 0)) = List.replicate (Int.toNat ((k : Nat) : Int)) (kw 0))) (oT 1 (oO (aI (show ((uw (List.replicate k 0)).length + (uw ([1])).length) * 4 ≤ 35184372088832 by simp only [J1]; (try simp only [List.length_set, List.length_append, List.length_cons, List.length_nil, List.length_replicate]); omega) (Xcb _ _ : (uw (List.replicate k 0 ++ [1])) = uw (List.replicate k 0) ++ uw ([1]))) (oA [.tup [ki (((Lm.digs (Int.natAbs a)).length : Nat) : Int)], ki (((Lm.digs (Int.natAbs a)).length + 1 : Nat) : Int), ki ((k : Nat) : Int), .tup [.sl 1 (uw (List.replicate k 0))], .tup [.sl 1 (uw (List.replicate k 0 ++ [1]))]] (oC (Z9 false (List.replicate k 0 ++ [1]) (Lm.G_append.2 ⟨Lm.G_zeros _, Lm.G_cons.2 ⟨by omega, Lm.G_nil⟩⟩) (by simp only [List.length_append, List.length_replicate, List.length_cons, List.length_nil]; omega)) (oT 2 oN))))))) (oS (oC (Jz 2 (by decide) (by decide)) (oT 2 oN)) oN))) ?_
   refine X6 ?_
   have hap : 0 < a := by omega
   refine Z0 (fun n0 l0 => ∃ (x : Int), (0 < x ∧ a < (x + 1) * (x + 1) ∧ X66 x ≤ X66 a + 1) ∧ x.toNat = n0 ∧ l0 = [tv 1 (pb 1), tv 2 (pb 2), tv 3 (ki 0), tv 5 (pb 5), tv 6 (pb 6), bv 1 (Xf a), bv 2 zI, bv 5 (Xf x), bv 6 (Xf 2)]) (n := (Js false (Lm.V (List.replicate k 0 ++ [1]))).toNat) (by kernel_rfl) ⟨Js false (Lm.V (List.replicate k 0 ++ [1])), (by rw [X4r]; exact Xst hap hk), rfl, (by kernel_rfl)⟩ ?_
   rintro n0 l0 ⟨x, ⟨hx0, hx1, hx2⟩, rfl, rfl⟩
   obtain ⟨n1, n2, n3, n4⟩ := X12 (a := a) hx0 hap rfl rfl
   have hq1 := Xhl a x
   have hq2 := Xfc x (a / x)
   have hq3 := Xhl (x + a / x) 2
   have hl2 := Xdq 2 (by decide)
   refine X6 ?_
   refine sh 2 [tv 1 (pb 1), tv 2 (pb 2), tv 3 (ki 0), tv 5 (pb 5), tv 6 (pb 6), tv 10 (pb 10), bv 1 (Xf a), bv 2 zI, bv 5 (Xf x), bv 6 (Xf 2), bv 10 (Xf ((x + (a / x)) / 2))] (oS (oT 2 (oC (Xd8 a x) (oT 9 oN))) (oS (oT 2 (oC (Xdp x (a / x)) (oT 1 (oC (Xd8 (x + (a / x)) 2) (oT 9 oN))))) oN)) ?_
   refine Xe ?_
   refine rt [tv 1 (pb 1), tv 2 (pb 2), tv 3 (ki 0), tv 5 (pb 5), tv 6 (pb 6), tv 10 (pb 10), tv 51 (.bool (decide (0 ≤ Int.sign (((x + (a / x)) / 2) - x)))), bv 1 (Xf a), bv 2 zI, bv 5 (Xf x), bv 6 (Xf 2), bv 10 (Xf ((x + (a / x)) / 2))] (oT 2 (oC (Ky ((x + (a / x)) / 2) x) (oO (oB (decide (0 ≤ Int.sign (((x + (a / x)) / 2) - x)))) (oA [cT (decide (0 ≤ Int.sign (((x + (a / x)) / 2) - x)))] oN)))) ?_
   refine cB (decide (0 ≤ Int.sign (((x + (a / x)) / 2) - x))) (fun h3 => ?_) (fun h3 => ?_)
   ·
    have h3' := of_decide_eq_true h3
    refine rt [tv 1 (pb 1), tv 2 (pb 2), tv 3 (ki 0), tv 5 (pb 5), tv 6 (pb 6), tv 10 (pb 10), bv 1 (Xf a), bv 2 (Xf x), bv 5 (Xf x), bv 6 (Xf 2), bv 10 (Xf ((x + (a / x)) / 2))] (oT 3 oN) ?_
    refine Xg ?_
    have hxn := Xni.1 (show 0 ≤ Int.sign ((x + a / x) / 2 - x) by assumption)
    exact X7i ((.tup [Xf x, ki 0])) (by rw [← Xih (by omega) (n2 (by omega)) hx1, decide_eq_false (show ¬ a < 0 by omega)]; rfl)
   ·
    have h3' := of_decide_eq_false h3
    refine Xn ?_
    refine rh [tv 1 (pb 1), tv 2 (pb 2), tv 3 (ki 0), tv 5 (pb 5), tv 6 (pb 6), bv 1 (Xf a), bv 2 zI, bv 5 (Xf ((x + (a / x)) / 2)), bv 6 (Xf 2)] (oT 2 oN) ?_
    have hxn : ¬ x ≤ (x + a / x) / 2 := fun hc => absurd (Xni.2 (show 0 ≤ (x + a / x) / 2 - x by omega)) (by assumption)
    have hnb := Xdn (a := (x + a / x) / 2) (b := x) (by have := n3 hxn; omega)
    exact ⟨((x + (a / x)) / 2).toNat, [tv 1 (pb 1), tv 2 (pb 2), tv 3 (ki 0), tv 5 (pb 5), tv 6 (pb 6), bv 1 (Xf a), bv 2 zI, bv 5 (Xf ((x + (a / x)) / 2)), bv 6 (Xf 2)], (by omega), rfl, (by kernel_rfl), (x + (a / x)) / 2, ⟨n3 hxn, n1, by omega⟩, rfl, (by kernel_rfl)⟩
theorem Xli (a : Int) (hs : X66 a ≤ 34359738368 := by omega) (h : a < (-9223372036854775808) := by omega) : CS Tryz.prog 295 [Xf a] (.tup [ki (Xfo a).1, .bool (Xfo a).2]) := by
 have hl1 := Xfi (n := (-9223372036854775808)) (by decide) (by decide)
 have hl2 := Xfi (n := 9223372036854775807) (by decide) (by decide)
 have hla := Yj a
 have hga := Xa2 a
 have hva := Kq a
 have q1 : (decide (Int.sign (a - (-9223372036854775808)) < 0)) = true := decide_eq_true (Xho.2 (by omega))
 refine cO 39 Tryz.func295 ?_
 refine rt [tv 1 (pb 1), tv 2 (ki 0), tv 3 (.bool false), bv 1 (Xf a)] (oT 3 oN) ?_
 refine Xe ?_
 refine rt [tv 1 (pb 1), tv 2 (ki 0), tv 3 (.bool false), tv 15 (.bool true), bv 1 (Xf a)] (oT 1 (oC (Jz (-9223372036854775808) (by decide) (by decide)) (oC (Ky a (-9223372036854775808)) (oO (aI trivial (q1 : (decide (Int.sign (a - (-9223372036854775808)) < 0)) = true)) (oT 1 (oO (gn [false]) (oO (gn []) (oO (gn [true, true]) (oO (gn [true]) (oT 1 (oA [cT true, Xf 9223372036854775807, ki (Int.sign (a - 9223372036854775807)), cT (decide (0 < Int.sign (a - 9223372036854775807)))] oN))))))))))) ?_
 refine cB (true) (fun _ => ?_) (fun h => Bool.noConfusion h)
 refine rt [tv 1 (pb 1), tv 2 (ki 0), tv 3 (.bool false), bv 1 (Xf a)] (oT 2 oN) ?_
 refine Xg ?_
 exact X7i ((.tup [ki 0, .bool false])) (by rw [Xw0 (by omega)])
theorem Xlj (a : Int) (hs : X66 a ≤ 34359738368 := by omega) (h : 9223372036854775807 < a := by omega) : CS Tryz.prog 295 [Xf a] (.tup [ki (Xfo a).1, .bool (Xfo a).2]) := by
 have hl1 := Xfi (n := (-9223372036854775808)) (by decide) (by decide)
 have hl2 := Xfi (n := 9223372036854775807) (by decide) (by decide)
 have hla := Yj a
 have hga := Xa2 a
 have hva := Kq a
 have q1 : (decide (Int.sign (a - (-9223372036854775808)) < 0)) = false := decide_eq_false (fun h => by have := Xho.1 h; omega)
 have q2 : (decide (0 < Int.sign (a - 9223372036854775807))) = true := decide_eq_true (Xm0.2 (by omega))
 refine cO 39 Tryz.func295 ?_
 refine rt [tv 1 (pb 1), tv 2 (ki 0), tv 3 (.bool false), bv 1 (Xf a)] (oT 3 oN) ?_
 refine Xe ?_
 refine rt [tv 1 (pb 1), tv 2 (ki 0), tv 3 (.bool false), tv 15 (.bool true), bv 1 (Xf a)] (oT 1 (oC (Jz (-9223372036854775808) (by decide) (by decide)) (oC (Ky a (-9223372036854775808)) (oO (aI trivial (q1 : (decide (Int.sign (a - (-9223372036854775808)) < 0)) = false)) (oT 1 (oO (Xh 1 trivial) (oO (Xh 0 (Jz 9223372036854775807 (by decide) (by decide))) (oO (Xh 2 (Ky a 9223372036854775807)) (oO (Xh 1 (aI trivial (q2 : (decide (0 < Int.sign (a - 9223372036854775807))) = true))) (oT 1 (oA [cT false, Xf 9223372036854775807, ki (Int.sign (a - 9223372036854775807)), cT true] oN))))))))))) ?_
 refine cB (true) (fun _ => ?_) (fun h => Bool.noConfusion h)
 refine rt [tv 1 (pb 1), tv 2 (ki 0), tv 3 (.bool false), bv 1 (Xf a)] (oT 2 oN) ?_
 refine Xg ?_
 exact X7i ((.tup [ki 0, .bool false])) (by rw [Xw0 (by omega)])
theorem Xlg (a : Int) (hs : X66 a ≤ 34359738368 := by omega) (hA1 : (-9223372036854775808) ≤ a := by omega) (hA2 : a ≤ 9223372036854775807 := by omega) : CS Tryz.prog 295 [Xf a] (.tup [ki (Xfo a).1, .bool (Xfo a).2]) := by
 have hl1 := Xfi (n := (-9223372036854775808)) (by decide) (by decide)
 have hl2 := Xfi (n := 9223372036854775807) (by decide) (by decide)
 have hla := Yj a
 have hga := Xa2 a
 have hva := Kq a
 have q1 : (decide (Int.sign (a - (-9223372036854775808)) < 0)) = false := decide_eq_false (fun h => by have := Xho.1 h; omega)
 have q2 : (decide (0 < Int.sign (a - 9223372036854775807))) = false := decide_eq_false (fun h => by have := Xm0.1 h; omega)
 refine cO 39 Tryz.func295 ?_
 refine rt [tv 1 (pb 1), tv 2 (ki 0), tv 3 (.bool false), bv 1 (Xf a)] (oT 3 oN) ?_
 refine Xe ?_
 refine rt [tv 1 (pb 1), tv 2 (ki 0), tv 3 (.bool false), tv 15 (.bool false), bv 1 (Xf a)] (oT 1 (oC (Jz (-9223372036854775808) (by decide) (by decide)) (oC (Ky a (-9223372036854775808)) (oO (aI trivial (q1 : (decide (Int.sign (a - (-9223372036854775808)) < 0)) = false)) (oT 1 (oO (Xh 1 trivial) (oO (Xh 0 (Jz 9223372036854775807 (by decide) (by decide))) (oO (Xh 2 (Ky a 9223372036854775807)) (oO (Xh 1 (aI trivial (q2 : (decide (0 < Int.sign (a - 9223372036854775807))) = false))) (oT 1 (oA [cT false, Xf 9223372036854775807, ki (Int.sign (a - 9223372036854775807)), cT false] oN))))))))))) ?_
 refine cB (false) (fun h => Bool.noConfusion h) (fun _ => ?_)
 refine Xn ?_
 refine rt [tv 1 (pb 1), tv 2 (ki 0), tv 3 (.bool false), tv 4 (ku 0), bv 1 (Xf a)] (oT 1 oN) ?_
 refine Xe ?_
 refine rt [tv 1 (pb 1), tv 2 (ki 0), tv 3 (.bool false), tv 4 (ku 0), tv 5 (ki ((((Lm.digs (Int.natAbs a)).length : Nat) : Int) - 1)), bv 1 (Xf a)] (oT 2 (oO (aI trivial (Yx _ : (((Lm.digs (Int.natAbs a)).length : Nat) : Int) = (((uw (Lm.digs (Int.natAbs a))).length : Nat) : Int))) (oO (Yw (x := (((Lm.digs (Int.natAbs a)).length : Nat) : Int)) (y := 1) (by omega) (by omega)) (oT 1 (oA [.tup [ki (((Lm.digs (Int.natAbs a)).length : Nat) : Int)], ki ((((Lm.digs (Int.natAbs a)).length : Nat) : Int) - 1)] oN))))) ?_
 refine X6 ?_
 refine Z0 (fun n0 l0 => ∃ (i : Nat) (u : Int), (i ≤ (Lm.digs (Int.natAbs a)).length ∧ u = Lm.V ((Lm.digs (Int.natAbs a)).drop i)) ∧ i = n0 ∧ l0 = [tv 1 (pb 1), tv 2 (ki 0), tv 3 (.bool false), tv 4 (ku u), tv 5 (ki (((i : Nat) : Int) - 1)), bv 1 (Xf a)]) (n := ((Lm.digs (Int.natAbs a)).length)) (by kernel_rfl) ⟨(Lm.digs (Int.natAbs a)).length, 0, ⟨Nat.le_refl _, by rw [List.drop_length]; rfl⟩, rfl, (by kernel_rfl)⟩ ?_
 rintro n0 l0 ⟨i, u, ⟨hi1, hi2⟩, rfl, rfl⟩
 refine Xe ?_
 refine rt [tv 1 (pb 1), tv 2 (ki 0), tv 3 (.bool false), tv 4 (ku u), tv 5 (ki (((i : Nat) : Int) - 1)), tv 21 (.bool (decide (0 ≤ (((i : Nat) : Int) - 1)))), bv 1 (Xf a)] (oT 1 (oO (oB (decide (0 ≤ (((i : Nat) : Int) - 1)))) (oA [cT (decide (0 ≤ (((i : Nat) : Int) - 1)))] oN))) ?_
 refine cB (decide (0 ≤ (((i : Nat) : Int) - 1))) (fun h1 => ?_) (fun h1 => ?_)
 ·
  have h1' := of_decide_eq_true h1
  refine Xn ?_
  refine Xe ?_
  refine X6 ?_
  have hdr : Lm.V ((Lm.digs (Int.natAbs a)).drop (i - 1)) = (Lm.digs (Int.natAbs a)).getD (i - 1) 0 + 1000000000 * Lm.V ((Lm.digs (Int.natAbs a)).drop i) := by rw [Lm.getD_drop _ _ (show i - 1 < (Lm.digs (Int.natAbs a)).length by omega), Lm.V_cons, show i - 1 + 1 = i by omega]
  have hdl := Lm.V_drop_le hga (i - 1)
  have hdx := Lm.G_get hga (i - 1)
  have hd0 := (Lm.V_bound (Lm.G_drop hga i)).1
  refine rh [tv 1 (pb 1), tv 2 (ki 0), tv 3 (.bool false), tv 4 (ku ((u * 1000000000) + ((Lm.digs (Int.natAbs a)).getD (i - 1) 0))), tv 5 (ki (((i : Nat) : Int) - 1)), bv 1 (Xf a)] (oT 1 (oO (Xaf (x := u) (y := 1000000000) (by omega) (by omega)) (oT 3 (oO (J0 (i - 1) (by omega) (Zj (by (try simp only [List.length_set, List.length_append, List.length_cons, List.length_nil, List.length_replicate]); omega)) : (0 : Int) ≤ (((i : Nat) : Int) - 1) ∧ (uw (Lm.digs (Int.natAbs a)))[Int.toNat (((i : Nat) : Int) - 1)]? = some (kw ((Lm.digs (Int.natAbs a)).getD (i - 1) 0))) (oT 1 (oO ((Jj (by omega) (by omega)).symm : ((Lm.digs (Int.natAbs a)).getD (i - 1) 0) = IntKind.u64.wrap ((Lm.digs (Int.natAbs a)).getD (i - 1) 0)) (oO (Jp (x := (u * 1000000000)) (y := ((Lm.digs (Int.natAbs a)).getD (i - 1) 0)) (by omega) (by omega)) (oT 1 (oA [ku (u * 1000000000), kw ((Lm.digs (Int.natAbs a)).getD (i - 1) 0), ku ((Lm.digs (Int.natAbs a)).getD (i - 1) 0), ku ((u * 1000000000) + ((Lm.digs (Int.natAbs a)).getD (i - 1) 0))] oN))))))))) ?_
  refine rh [tv 1 (pb 1), tv 2 (ki 0), tv 3 (.bool false), tv 4 (ku ((u * 1000000000) + ((Lm.digs (Int.natAbs a)).getD (i - 1) 0))), tv 5 (ki ((((i - 1) : Nat) : Int) - 1)), bv 1 (Xf a)] (oT 1 (oO (Xax (Yw (by omega) (by omega)) (by omega) : Jx .sub .i64 (((i : Nat) : Int) - 1) 1 = some ((((i - 1) : Nat) : Int) - 1) ∧ ((BinOp.sub = .quo ∨ BinOp.sub = .rem) → 1 ≠ (0 : Int))) (oT 1 (oA [ki ((((i - 1) : Nat) : Int) - 1)] oN)))) ?_
  exact ⟨i - 1, [tv 1 (pb 1), tv 2 (ki 0), tv 3 (.bool false), tv 4 (ku ((u * 1000000000) + ((Lm.digs (Int.natAbs a)).getD (i - 1) 0))), tv 5 (ki ((((i - 1) : Nat) : Int) - 1)), bv 1 (Xf a)], (by omega), rfl, (by kernel_rfl), i - 1, (u * 1000000000) + ((Lm.digs (Int.natAbs a)).getD (i - 1) 0), ⟨by omega, by rw [hdr, hi2]; omega⟩, rfl, (by kernel_rfl)⟩
 ·
  have h1' := of_decide_eq_false h1
  refine Z3 ?_
  refine Xe ?_
  refine Xe ?_
  have hz : i = 0 := by omega
  have hu : u = (a.natAbs : Int) := by rw [hi2, hz, List.drop_zero, hva]
  refine rh [tv 2 (ki 0), tv 3 (.bool false), tv 4 (ku u), tv 34 (.bool (decide (a < 0)))] (oT 1 (oO (oB (decide (a < 0))) (oA [.rptr (.bool (decide (a < 0)))] oN))) ?_
  refine cB (decide (a < 0)) (fun h2 => ?_) (fun h2 => ?_)
  ·
   have h2' := of_decide_eq_true h2
   refine rh [tv 2 (ki 0), tv 3 (.bool false), tv 4 (ku ((-u) % 18446744073709551616))] (oT 1 (oO (X1l : ((-u) % 18446744073709551616) = IntKind.u64.wrap (0 - u)) (oT 1 (oA [ku ((-u) % 18446744073709551616)] oN)))) ?_
   refine rt [tv 2 (ki a), tv 3 (.bool true)] (oT 1 (oO (Xv6 hA1 (by omega) (by omega) : a = IntKind.i64.wrap ((-u) % 18446744073709551616)) (oT 2 (oA [ki a] oN)))) ?_
   refine Xg ?_
   exact X7i ((.tup [ki a, .bool true])) (by rw [Xuo (by omega) (by omega)])
  ·
   have h2' := of_decide_eq_false h2
   refine Xn ?_
   refine rt [tv 2 (ki a), tv 3 (.bool true)] (oT 1 (oO (Xv6 hA1 (by omega) (by omega) : a = IntKind.i64.wrap u) (oT 2 (oA [ki a] oN)))) ?_
   refine Xg ?_
   exact X7i ((.tup [ki a, .bool true])) (by rw [Xuo (by omega) (by omega)])
theorem Xgg (a : Int) (hs : X66 a ≤ 34359738368 := by omega) : CS Tryz.prog 295 [Xf a] (.tup [ki (Xfo a).1, .bool (Xfo a).2]) := by
  by_cases h1 : a < -9223372036854775808
  · exact Xli a hs h1
  · by_cases h2 : 9223372036854775807 < a
    · exact Xlj a hs h2
    · exact Xlg a hs (by omega) (by omega)
open Go Go.RowKit
theorem Xe3 (l : List Int) (gl : Lm.G l) (hv : Lm.V l < 18446744073709551616 := by omega) (hs : l.length ≤ 4398046511104 := by omega) : CS Tryz.prog 189 [Xj l] (.int .u64 (Lm.V l)) := by
 refine cO 21 Tryz.func189 ?_
 refine sh 2 [tv 0 (Xj l), tv 2 (ku 0), tv 3 (ku 0)] (oS (oT 1 oN) (oS (oT 1 oN) oN)) ?_
 refine Xe ?_
 refine rt [tv 0 (Xj l), tv 2 (ku 0), tv 3 (ku 0), tv 4 (ki (((l.length : Nat) : Int) - 1))] (oT 1 (oO (aI trivial (Yx _ : ((l.length : Nat) : Int) = (((uw l).length : Nat) : Int))) (oO (Yw (x := ((l.length : Nat) : Int)) (y := 1) (by omega) (by omega)) (oT 1 (oA [.tup [ki ((l.length : Nat) : Int)], ki (((l.length : Nat) : Int) - 1)] oN))))) ?_
 refine X6 ?_
 refine Z0 (fun n0 l0 => ∃ (i : Nat) (u : Int), (i ≤ l.length ∧ u = Lm.V (l.drop i)) ∧ i = n0 ∧ l0 = [tv 0 (Xj l), tv 2 (ku 0), tv 3 (ku u), tv 4 (ki (((i : Nat) : Int) - 1))]) (n := l.length) (by kernel_rfl) ⟨l.length, 0, ⟨Nat.le_refl _, by rw [List.drop_length]; rfl⟩, rfl, (by kernel_rfl)⟩ ?_
 rintro n0 l0 ⟨i, u, ⟨hi1, hi2⟩, rfl, rfl⟩
 refine Xe ?_
 refine rt [tv 0 (Xj l), tv 2 (ku 0), tv 3 (ku u), tv 4 (ki (((i : Nat) : Int) - 1)), tv 9 (.bool (decide (0 ≤ (((i : Nat) : Int) - 1))))] (oT 1 (oO (oB (decide (0 ≤ (((i : Nat) : Int) - 1)))) (oA [cT (decide (0 ≤ (((i : Nat) : Int) - 1)))] oN))) ?_
 refine cB (decide (0 ≤ (((i : Nat) : Int) - 1))) (fun h1 => ?_) (fun h1 => ?_)
 ·
  have h1' := of_decide_eq_true h1
  refine Xn ?_
  refine Xe ?_
  refine X6 ?_
  have hdr : Lm.V (l.drop (i - 1)) = l.getD (i - 1) 0 + 1000000000 * Lm.V (l.drop i) := by rw [Lm.getD_drop _ _ (show i - 1 < l.length by omega), Lm.V_cons, show i - 1 + 1 = i by omega]
  have hdl := Lm.V_drop_le gl (i - 1)
  have hdx := Lm.G_get gl (i - 1)
  have hd0 := (Lm.V_bound (Lm.G_drop gl i)).1
  refine rh [tv 0 (Xj l), tv 2 (ku 0), tv 3 (ku ((u * 1000000000) + l.getD (i - 1) 0)), tv 4 (ki (((i : Nat) : Int) - 1))] (oT 1 (oO (Xaf (x := u) (y := 1000000000) (by omega) (by omega)) (oT 2 (oO (J0 (i - 1) (by omega) (Zj (by (try simp only [List.length_set, List.length_append, List.length_cons, List.length_nil, List.length_replicate]); omega)) : (0 : Int) ≤ (((i : Nat) : Int) - 1) ∧ (uw l)[Int.toNat (((i : Nat) : Int) - 1)]? = some (kw (l.getD (i - 1) 0))) (oT 1 (oO ((Jj (by omega) (by omega)).symm : (l.getD (i - 1) 0) = IntKind.u64.wrap (l.getD (i - 1) 0)) (oO (Jp (x := (u * 1000000000)) (y := (l.getD (i - 1) 0)) (by omega) (by omega)) (oT 1 (oA [ku (u * 1000000000), kw (l.getD (i - 1) 0), ku (l.getD (i - 1) 0), ku ((u * 1000000000) + l.getD (i - 1) 0)] oN))))))))) ?_
  refine rh [tv 0 (Xj l), tv 2 (ku 0), tv 3 (ku ((u * 1000000000) + l.getD (i - 1) 0)), tv 4 (ki ((((i - 1) : Nat) : Int) - 1))] (oT 1 (oO (Xax (Yw (by omega) (by omega)) (by omega) : Jx .sub .i64 (((i : Nat) : Int) - 1) 1 = some ((((i - 1) : Nat) : Int) - 1) ∧ ((BinOp.sub = .quo ∨ BinOp.sub = .rem) → 1 ≠ (0 : Int))) (oT 1 (oA [ki ((((i - 1) : Nat) : Int) - 1)] oN)))) ?_
  exact ⟨i - 1, [tv 0 (Xj l), tv 2 (ku 0), tv 3 (ku ((u * 1000000000) + l.getD (i - 1) 0)), tv 4 (ki ((((i - 1) : Nat) : Int) - 1))], (by omega), rfl, (by kernel_rfl), i - 1, (u * 1000000000) + l.getD (i - 1) 0, ⟨by omega, by rw [hdr, hi2]; omega⟩, rfl, (by kernel_rfl)⟩
 ·
  have h1' := of_decide_eq_false h1
  refine Z3 ?_
  refine rt [tv 2 (ku u)] (oT 2 oN) ?_
  refine Xg ?_
  have hz : i = 0 := by omega
  exact X7i ((ku u)) (by rw [hi2, hz, List.drop_zero])
theorem Xd0 (n : Int) (h0 : 0 ≤ n := by omega) (h1 : n < 18446744073709551616 := by omega) : CS Tryz.prog 190 [ku n] (Xj (Lm.digs n.natAbs)) := by
 refine cO 15 Tryz.func190 ?_
 refine sh 2 [tv 0 (ku n), tv 2 .nil, tv 3 .nil] (oS (oT 1 oN) (oS (oT 1 oN) oN)) ?_
 refine Xe ?_
 refine X6 ?_
 refine Xyw 3 11 1 [tv 0 (ku n), tv 2 .nil, tv 3 (.own 11 1), ov 11 (Xj [])] (by kernel_rfl) (by kernel_rfl) (by kernel_rfl) ?_
 refine Z0 (fun n0 l0 => ∃ (m : Int) (o : List Int), (0 ≤ m ∧ m ≤ n ∧ Lm.digs n.natAbs = o ++ Lm.digs m.natAbs ∧ o.length + (Lm.digs m.natAbs).length ≤ 3) ∧ m.toNat = n0 ∧ l0 = [tv 0 (ku m), tv 2 .nil, tv 3 (.own 11 1), ov 11 (Xj o)]) (n := n.toNat) (by kernel_rfl) ⟨n, [], ⟨h0, Int.le_refl _, by simp, by have := Xfi (n := n) (by omega) (by omega); rw [← Yj] at this; simp only [List.length_nil]; omega⟩, rfl, (by kernel_rfl)⟩ ?_
 rintro n0 l0 ⟨m, o, ⟨hm0, hm1, hm2, hm3⟩, rfl, rfl⟩
 refine Xe ?_
 refine rt [tv 0 (ku m), tv 2 .nil, tv 3 (.own 11 1), tv 5 (.bool (decide (0 < m))), ov 11 (Xj o)] (oT 1 (oO (oB (decide (0 < m))) (oA [cT (decide (0 < m))] oN))) ?_
 refine cB (decide (0 < m)) (fun h1 => ?_) (fun h1 => ?_)
 ·
  have h1' := of_decide_eq_true h1
  refine Xn ?_
  refine X6 ?_
  refine rt [tv 0 (ku m), tv 2 .nil, tv 3 (.own 11 2), (.o 11, ⟨2, true, Xj (o ++ [m % 1000000000])⟩)] (oT 2 (oO (Xa0 (x := m) (y := 1000000000) (by omega) (by omega) trivial) (oO ((K6 (by omega) (by omega)).symm : (m % 1000000000) = IntKind.u32.wrap (m % 1000000000)) (oT 1 (oO (aI (show ((uw o).length + (uw ([m % 1000000000])).length) * 4 ≤ 35184372088832 by simp only [J1]; (try simp only [List.length_set, List.length_append, List.length_cons, List.length_nil, List.length_replicate]); omega) (Xcb _ _ : (uw (o ++ [m % 1000000000])) = uw o ++ uw ([m % 1000000000]))) (oT 1 (oA [ku (m % 1000000000), kw (m % 1000000000), .tup [.sl 1 (uw (o ++ [m % 1000000000]))]] oN))))))) ?_
  refine rh [tv 0 (ku (m / 1000000000)), tv 2 .nil, tv 3 (.own 11 2), (.o 11, ⟨2, true, Xj (o ++ [m % 1000000000])⟩)] (oT 1 (oO (Xae (x := m) (y := 1000000000) (by omega) (by omega) (by omega)) (oT 1 (oA [ku (m / 1000000000)] oN)))) ?_
  have hd := Lm.digs_step hm0 (show 0 < m by omega)
  have hdl := congrArg List.length hd
  simp only [List.length_cons] at hdl
  exact ⟨(m / 1000000000).toNat, [tv 0 (ku (m / 1000000000)), tv 2 .nil, tv 3 (.own 11 2), (.o 11, ⟨2, true, Xj (o ++ [m % 1000000000])⟩)], (by omega), rfl, (by kernel_rfl), m / 1000000000, o ++ [m % 1000000000], ⟨by omega, by omega, by rw [hm2, hd, List.append_assoc]; rfl, by simp only [List.length_append, List.length_cons, List.length_nil]; omega⟩, rfl, (by kernel_rfl)⟩
 ·
  have h1' := of_decide_eq_false h1
  refine Z3 ?_
  refine rt [tv 2 (.own 11 1), ov 11 (Xj o)] (oT 2 oN) ?_
  refine Xio [.own 11 1] [tv 2 (.own 11 1), (.o 11, ⟨1, false, Xj o⟩)] (by kernel_rfl) (by kernel_rfl) ?_
  refine Xg ?_
  have hz : m = 0 := by omega
  subst hz
  exact X7i ((Xj o)) (congrArg Xj (by rw [hm2]; simp [Lm.digs_zero]))
theorem Xju (l : List Int) (n : Int) (gl : Lm.G l) (h0 : 0 ≤ n := by omega) (h1 : n < 1000000000 := by omega) (hs : l.length ≤ 2199023255552 := by omega) : CS Tryz.prog 249 [Xj l, kw n] (Xj (Lm.digs (Lm.V l * n).natAbs)) := by
 have gn : Lm.G [n] := Lm.G_cons.2 ⟨⟨h0, h1⟩, Lm.G_nil⟩
 have hv : Lm.V (Lm.trim [n]) = n := by rw [Lm.V_trim]; simp [Lm.V_cons]
 have hl := Lm.trim_len [n]
 simp only [List.length_cons, List.length_nil] at hl
 refine cO 10 Tryz.func249 ?_
 refine sh 2 [tv 4 (Xj (Lm.digs (Lm.V l * Lm.V (Lm.trim ([n]))).natAbs))] (oS (oT 1 oN) (oS (oT 3 (oC (Xbn ([n]) (by simp)) (oC (Xn0 l (Lm.trim ([n])) gl (Lm.G_trim gn) (by omega)) (oT 1 oN)))) oN)) ?_
 refine Xg ?_
 exact X7i ((Xj (Lm.digs (Lm.V l * Lm.V (Lm.trim ([n]))).natAbs))) (congrArg Xj (by rw [hv]))
open Go Go.RowKit
set_option maxHeartbeats 2000000 in
theorem Xr0 (a b : Int) (ha0 : 0 < a := by omega) (hb : 0 < b := by omega) (hs : X66 a + X66 b ≤ 1099511627776 := by omega) : CS Tryz.prog 187 [Xj (Lm.digs (Int.natAbs a)), Xj (Lm.digs (Int.natAbs b))] (.tup [Xj (Lm.digs (a / b).natAbs), Xj (Lm.digs (a % b).natAbs)]) := by
  have ha : 0 ≤ a := by omega
  have hla := Yj a
  have hlb := Yj b
  have va := Kq a
  have vb := Kq b
  have ga := Xa2 a
  have gb := Xa2 b
  have nb := Xj9 b
  have hab := Xej a
  have hbb := Xej b
  have hlb0 : 0 < X66 b := Xbi.2 (by omega)
  have ht := Lm.G_get gb ((Lm.digs (Int.natAbs b)).length - 1)
  have ht0 := Lm.top_pos gb nb (by omega)
  obtain ⟨s, hsd⟩ : ∃ s, s = 1000000000 / (((Lm.digs (Int.natAbs b)).getD ((Lm.digs (Int.natAbs b)).length - 1) 0) + 1) := ⟨_, rfl⟩
  obtain ⟨hs0, hs1, hs2⟩ := Lm.scale_ok ht0 ht.2 hsd
  obtain ⟨v, hv⟩ : ∃ v, v = Lm.digs (Int.natAbs (Lm.V (Lm.digs (Int.natAbs b)) * s)) := ⟨_, rfl⟩
  obtain ⟨gv, nv, lv, vv⟩ := Lm.scaled_digs gb nb (by omega) hs0 hs1 hs2 hv
  obtain ⟨u, hu⟩ : ∃ u, u = Lm.digs (Int.natAbs (Lm.V (Lm.digs (Int.natAbs a)) * s)) := ⟨_, rfl⟩
  have gu : Lm.G u := by rw [hu]; exact Lm.G_digs _
  have vu : Lm.V u = a * s := by
    have := Int.mul_nonneg ha (Int.le_of_lt hs0)
    rw [hu, Lm.V_digs, va]; rw [show (a.natAbs : Int) = a by omega]; omega
  have lu : u.length ≤ (Lm.digs (Int.natAbs a)).length + 1 := by
    rw [hu]; refine Lm.digs_len ?_
    have := Lm.mul_lt (x := a) (m := Lm.P (X66 a)) (y := s) (n := 1000000000) ha (by omega) (by omega) hs1
    have := Int.mul_nonneg ha (Int.le_of_lt hs0)
    rw [va, show (a.natAbs : Int) = a by omega, Lm.P_succ, Yj]; omega
  have vvb : Lm.V v = b * s := by rw [vv, vb]; congr 1; omega
  have hvp : 0 < Lm.V v := by rw [vvb]; exact Int.mul_pos hb hs0
  have hvt0 := Lm.top_pos gv nv (by omega)
  have hvt := Lm.G_get gv (v.length - 1)
  have hvl := Lm.V_last (l := v) (by omega)
  have hvl0 := (Lm.V_bound (Lm.G_take gv (v.length - 1))).1
  have hvb := (Lm.V_bound gv).2
  have hu0 : 0 < u.length := by
    by_cases hc : 0 < u.length
    · exact hc
    · have h0 : u = [] := List.length_eq_zero_iff.1 (by omega)
      have := Int.mul_pos ha0 hs0
      rw [h0] at vu; simp at vu; omega
  refine cO 173 Tryz.func187 ?_
  refine rt [tv 0 (Xj (Lm.digs (Int.natAbs a))), tv 1 (Xj (Lm.digs (Int.natAbs b))), tv 4 .nil, tv 5 .nil] (oT 2 oN) ?_
  refine Xhh (fun l0 => (True) ∧ l0 = [tv 0 (Xj (Lm.digs (Int.natAbs a))), tv 1 (Xj (Lm.digs (Int.natAbs b))), tv 4 .nil, tv 5 .nil]) ?_ ?_
  ·
    refine Xe ?_
    rcases X7 (decide ((((Lm.digs (Int.natAbs a)).length : Nat) : Int) ≤ 2)) with h1 | h1
    ·
      have h1' := of_decide_eq_true h1
      refine rh [tv 0 (Xj (Lm.digs (Int.natAbs a))), tv 1 (Xj (Lm.digs (Int.natAbs b))), tv 4 .nil, tv 5 .nil, tv 28 (.bool (decide ((((Lm.digs (Int.natAbs b)).length : Nat) : Int) ≤ 2)))] (oT 1 (oO (aI trivial (Yx _ : (((Lm.digs (Int.natAbs a)).length : Nat) : Int) = (((uw (Lm.digs (Int.natAbs a))).length : Nat) : Int))) (oO (aI trivial (h1 : (decide ((((Lm.digs (Int.natAbs a)).length : Nat) : Int) ≤ 2)) = true)) (oT 1 (oO (Xh 1 trivial) (oO (Xh 1 (aI trivial (Yx _ : (((Lm.digs (Int.natAbs b)).length : Nat) : Int) = (((uw (Lm.digs (Int.natAbs b))).length : Nat) : Int)))) (oO (Xh 1 (oB (decide ((((Lm.digs (Int.natAbs b)).length : Nat) : Int) ≤ 2)))) (oT 1 (oA [.tup [ki (((Lm.digs (Int.natAbs a)).length : Nat) : Int)], cT true, .tup [ki (((Lm.digs (Int.natAbs b)).length : Nat) : Int)], cT (decide ((((Lm.digs (Int.natAbs b)).length : Nat) : Int) ≤ 2))] oN))))))))) ?_
      refine cB (decide ((((Lm.digs (Int.natAbs b)).length : Nat) : Int) ≤ 2)) (fun h2 => ?_) (fun h2 => ?_)
      ·
        have h2' := of_decide_eq_true h2
        have k1 := Lm.P_mono (show X66 a ≤ 2 by omega)
        have k2 := Lm.P_mono (show X66 b ≤ 2 by omega)
        rw [X04] at k1 k2
        have hdm := Lm.div_le_self2 ha hb
        refine sh 2 [tv 0 (Xj (Lm.digs (Int.natAbs a))), tv 1 (Xj (Lm.digs (Int.natAbs b))), tv 4 (Xj (Lm.digs (Int.natAbs (a / b)))), tv 5 (Xj (Lm.digs (Int.natAbs (a % b))))] (oS (oT 1 (oO (Jl (Xe3 _ ga (by omega) (by omega)) (by rw [va]; congr 1; omega) : CS Tryz.prog 189 [Xj (Lm.digs (Int.natAbs a))] (ku a)) (oT 1 (oO (Jl (Xe3 _ gb (by omega) (by omega)) (by rw [vb]; congr 1; omega) : CS Tryz.prog 189 [Xj (Lm.digs (Int.natAbs b))] (ku b)) (oT 2 oN))))) (oS (oT 2 (oO (Xae (x := a) (y := b) (by omega) (by omega) (by omega)) (oA [ku a, ku b, ku (a / b)] (oC (Xd0 (a / b)) (oT 2 (oO (Xa0 (x := a) (y := b) (by omega) (by omega) trivial) (oA [ku (a % b)] (oC (Xd0 (a % b)) (oT 2 oN))))))))) oN)) ?_
        refine Xg ?_
        exact X7i ((.tup [Xj (Lm.digs (Int.natAbs (a / b))), Xj (Lm.digs (Int.natAbs (a % b)))])) (rfl)
      ·
        have h2' := of_decide_eq_false h2
        refine Xcz (live := [tv 0 (Xj (Lm.digs (Int.natAbs a))), tv 1 (Xj (Lm.digs (Int.natAbs b))), tv 4 .nil, tv 5 .nil]) (by kernel_rfl) (by kernel_rfl) ?_
        refine Xn ?_
        exact ⟨_, rfl, trivial, (by kernel_rfl)⟩
    ·
      have h1' := of_decide_eq_false h1
      refine rh [tv 0 (Xj (Lm.digs (Int.natAbs a))), tv 1 (Xj (Lm.digs (Int.natAbs b))), tv 4 .nil, tv 5 .nil, tv 28 (.bool false)] (oT 1 (oO (aI trivial (Yx _ : (((Lm.digs (Int.natAbs a)).length : Nat) : Int) = (((uw (Lm.digs (Int.natAbs a))).length : Nat) : Int))) (oO (aI trivial (h1 : (decide ((((Lm.digs (Int.natAbs a)).length : Nat) : Int) ≤ 2)) = false)) (oT 1 (oO (gn [false]) (oO (gn [true]) (oO (gn [true]) (oT 1 (oA [.tup [ki (((Lm.digs (Int.natAbs a)).length : Nat) : Int)], cT false, .tup [ki (((Lm.digs (Int.natAbs b)).length : Nat) : Int)], cT (decide ((((Lm.digs (Int.natAbs b)).length : Nat) : Int) ≤ 2))] oN))))))))) ?_
      refine cB (false) (fun h => Bool.noConfusion h) (fun _ => ?_)
      refine Xcz (live := [tv 0 (Xj (Lm.digs (Int.natAbs a))), tv 1 (Xj (Lm.digs (Int.natAbs b))), tv 4 .nil, tv 5 .nil]) (by kernel_rfl) (by kernel_rfl) ?_
      refine Xn ?_
      exact ⟨_, rfl, trivial, (by kernel_rfl)⟩
  rintro l0 ⟨_, rfl⟩
  refine sh 7 [tv 4 .nil, tv 5 .nil, tv 8 (kw s), tv 9 (Xj v), tv 10 (ku (v.getD (v.length - 1) 0)), tv 11 .nil, tv 12 (.win 64 1 1 0 u.length), tv 13 (Xj u), ov 64 (Xj (List.replicate ((Lm.digs (Int.natAbs a)).length + 1) 0))] (oS (oT 2 (oO (aI trivial (Yx _ : (((Lm.digs (Int.natAbs b)).length : Nat) : Int) = (((uw (Lm.digs (Int.natAbs b))).length : Nat) : Int))) (oO (Xax (Yw (by omega) (by omega)) (by omega) : Jx .sub .i64 (((Lm.digs (Int.natAbs b)).length : Nat) : Int) 1 = some (((Lm.digs (Int.natAbs b)).length - 1 : Nat) : Int) ∧ ((BinOp.sub = .quo ∨ BinOp.sub = .rem) → 1 ≠ (0 : Int))) (oO (J0 ((Lm.digs (Int.natAbs b)).length - 1) (by omega) (Zj (by (try simp only [List.length_set, List.length_append, List.length_cons, List.length_nil, List.length_replicate]); omega)) : (0 : Int) ≤ (((Lm.digs (Int.natAbs b)).length - 1 : Nat) : Int) ∧ (uw (Lm.digs (Int.natAbs b)))[Int.toNat (((Lm.digs (Int.natAbs b)).length - 1 : Nat) : Int)]? = some (kw ((Lm.digs (Int.natAbs b)).getD ((Lm.digs (Int.natAbs b)).length - 1) 0))) (oT 1 (oO ((Jj (by omega) (by omega)).symm : ((Lm.digs (Int.natAbs b)).getD ((Lm.digs (Int.natAbs b)).length - 1) 0) = IntKind.u64.wrap ((Lm.digs (Int.natAbs b)).getD ((Lm.digs (Int.natAbs b)).length - 1) 0)) (oO (Jp (x := ((Lm.digs (Int.natAbs b)).getD ((Lm.digs (Int.natAbs b)).length - 1) 0)) (y := 1) (by omega) (by omega)) (oO (Xae (x := 1000000000) (y := (((Lm.digs (Int.natAbs b)).getD ((Lm.digs (Int.natAbs b)).length - 1) 0) + 1)) (by omega) (by omega) (by omega)) (oO (show s = IntKind.u32.wrap (1000000000 / (((Lm.digs (Int.natAbs b)).getD ((Lm.digs (Int.natAbs b)).length - 1) 0) + 1)) by rw [← hsd]; exact (K6 (by omega) (by omega)).symm) (oT 1 oN)))))))))) (oS (oT 2 (oO (show CS Tryz.prog 249 [Xj (Lm.digs (Int.natAbs b)), kw s] (Xj v) by rw [hv]; exact Xju _ s gb (by omega) hs1 (by omega)) (oT 1 oN))) (oS (oT 2 (oO (aI trivial (Yx _ : ((v.length : Nat) : Int) = (((uw v).length : Nat) : Int))) (oO (Xax (Yw (by omega) (by omega)) (by omega) : Jx .sub .i64 ((v.length : Nat) : Int) 1 = some ((v.length - 1 : Nat) : Int) ∧ ((BinOp.sub = .quo ∨ BinOp.sub = .rem) → 1 ≠ (0 : Int))) (oO (J0 (v.length - 1) (by omega) (Zj (by (try simp only [List.length_set, List.length_append, List.length_cons, List.length_nil, List.length_replicate]); omega)) : (0 : Int) ≤ ((v.length - 1 : Nat) : Int) ∧ (uw v)[Int.toNat ((v.length - 1 : Nat) : Int)]? = some (kw (v.getD (v.length - 1) 0))) (oT 1 (oO ((Jj (by omega) (by omega)).symm : (v.getD (v.length - 1) 0) = IntKind.u64.wrap (v.getD (v.length - 1) 0)) (oT 1 oN))))))) (oS (oT 1 oN) (oS (oT 1 (oO (aI trivial (Yx _ : (((Lm.digs (Int.natAbs a)).length : Nat) : Int) = (((uw (Lm.digs (Int.natAbs a))).length : Nat) : Int))) (oO (X3 (x := (((Lm.digs (Int.natAbs a)).length : Nat) : Int)) (y := 1) (by omega) (by omega)) (oO (aI (show (0 : Int) ≤ (((Lm.digs (Int.natAbs a)).length + 1 : Nat) : Int) ∧ ((((Lm.digs (Int.natAbs a)).length + 1 : Nat) : Int) : Int) ≤ (((Lm.digs (Int.natAbs a)).length + 1 : Nat) : Int) ∧ 4 * Int.toNat (((Lm.digs (Int.natAbs a)).length + 1 : Nat) : Int) ≤ 281474976710656 by omega) (Xic ((Lm.digs (Int.natAbs a)).length + 1) (by omega) : (uw (List.replicate ((Lm.digs (Int.natAbs a)).length + 1) 0)) = List.replicate (Int.toNat (((Lm.digs (Int.natAbs a)).length + 1 : Nat) : Int)) (kw 0))) (oT 1 oN))))) (oS (oT 2 (oO (show CS Tryz.prog 249 [Xj (Lm.digs (Int.natAbs a)), kw s] (Xj u) by rw [hu]; exact Xju _ s ga (by omega) hs1 (by omega)) (oT 1 oN))) (oS (oT 2 (oO (aI trivial (Yx _ : ((u.length : Nat) : Int) = (((uw u).length : Nat) : Int))) (oO (aI (rfl : 0 = 0) (aI (show ((u.length : Nat) : Int) = ((0 + u.length : Nat) : Int) by omega) (aI (show 0 < u.length by omega) (show 0 + u.length ≤ (uw (List.replicate ((Lm.digs (Int.natAbs a)).length + 1) 0)).length by simp only [J1]; (try simp only [List.length_set, List.length_append, List.length_cons, List.length_nil, List.length_replicate]); omega)))) (oT 1 (oA [.tup [ki (((Lm.digs (Int.natAbs b)).length : Nat) : Int)], ki (((Lm.digs (Int.natAbs b)).length - 1 : Nat) : Int), kw ((Lm.digs (Int.natAbs b)).getD ((Lm.digs (Int.natAbs b)).length - 1) 0), ku ((Lm.digs (Int.natAbs b)).getD ((Lm.digs (Int.natAbs b)).length - 1) 0), ku (((Lm.digs (Int.natAbs b)).getD ((Lm.digs (Int.natAbs b)).length - 1) 0) + 1), ku (1000000000 / (((Lm.digs (Int.natAbs b)).getD ((Lm.digs (Int.natAbs b)).length - 1) 0) + 1)), kw s, Xj v, .tup [ki ((v.length : Nat) : Int)], ki ((v.length - 1 : Nat) : Int), kw (v.getD (v.length - 1) 0), ku (v.getD (v.length - 1) 0), .tup [ki (((Lm.digs (Int.natAbs a)).length : Nat) : Int)], ki (((Lm.digs (Int.natAbs a)).length + 1 : Nat) : Int), .tup [.sl 1 (uw (List.replicate ((Lm.digs (Int.natAbs a)).length + 1) 0))], Xj u, .tup [ki ((u.length : Nat) : Int)], .rptr .none, .win 0 0 0 0 u.length] oN))))) oN))))))) ?_
  refine Xe ?_
  refine rt [tv 4 .nil, tv 5 .nil, tv 8 (kw s), tv 9 (Xj v), tv 10 (ku (v.getD (v.length - 1) 0)), tv 11 .nil, tv 12 (.win 64 1 1 0 u.length), tv 13 (Xj u), tv 14 (ki (((u.length : Nat) : Int) - 1)), ov 64 (Xj (List.replicate ((Lm.digs (Int.natAbs a)).length + 1) 0))] (oT 1 (oO (aI trivial (Yx _ : ((u.length : Nat) : Int) = (((uw u).length : Nat) : Int))) (oO (Yw (x := ((u.length : Nat) : Int)) (y := 1) (by omega) (by omega)) (oT 1 (oA [.tup [ki ((u.length : Nat) : Int)], ki (((u.length : Nat) : Int) - 1)] oN))))) ?_
  refine X6 ?_
  refine Xvw 11 1 [tv 4 .nil, tv 5 .nil, tv 8 (kw s), tv 9 (Xj v), tv 10 (ku (v.getD (v.length - 1) 0)), tv 11 (Xj []), tv 12 (.win 64 1 1 0 u.length), tv 13 (Xj u), tv 14 (ki (((u.length : Nat) : Int) - 1)), ov 64 (Xj (List.replicate ((Lm.digs (Int.natAbs a)).length + 1) 0))] (by kernel_rfl) (by kernel_rfl) (by kernel_rfl) ?_
  refine Z0 (fun n0 l0 => ∃ (i : Nat) (rl : List Int) (o : List Int), (i ≤ u.length ∧ Lm.G rl ∧ Lm.Nz rl ∧ Lm.V rl < Lm.V v ∧ Lm.G o ∧ o.length = (Lm.digs (Int.natAbs a)).length + 1 ∧ Lm.V (o.drop u.length) = 0 ∧ Lm.V (u.drop i) = Lm.V (o.drop i) * Lm.V v + Lm.V rl) ∧ i = n0 ∧ l0 = [tv 4 .nil, tv 5 .nil, tv 8 (kw s), tv 9 (Xj v), tv 10 (ku (v.getD (v.length - 1) 0)), tv 11 (Xj rl), tv 12 (.win 64 1 1 0 u.length), tv 13 (Xj u), tv 14 (ki (((i : Nat) : Int) - 1)), ov 64 (Xj o)]) (n := u.length) (by kernel_rfl) ⟨u.length, [], List.replicate ((Lm.digs (Int.natAbs a)).length + 1) 0, ⟨Nat.le_refl _, Lm.G_nil, fun h => absurd rfl h, by simpa using hvp, Lm.G_zeros _, by simp, by rw [List.drop_replicate]; exact Lm.V_zeros _, by rw [List.drop_replicate, Lm.V_zeros, List.drop_length]; simp⟩, rfl, (by kernel_rfl)⟩ ?_
  rintro n0 l0 ⟨i, rl, o, ⟨hi1, hi2, hi3, hi4, hi5, hi6, hi7, hi8⟩, rfl, rfl⟩
  refine Xe ?_
  refine rt [tv 4 .nil, tv 5 .nil, tv 8 (kw s), tv 9 (Xj v), tv 10 (ku (v.getD (v.length - 1) 0)), tv 11 (Xj rl), tv 12 (.win 64 1 1 0 u.length), tv 13 (Xj u), tv 14 (ki (((i : Nat) : Int) - 1)), tv 76 (.bool (decide (0 ≤ (((i : Nat) : Int) - 1)))), ov 64 (Xj o)] (oT 1 (oO (oB (decide (0 ≤ (((i : Nat) : Int) - 1)))) (oA [cT (decide (0 ≤ (((i : Nat) : Int) - 1)))] oN))) ?_
  refine cB (decide (0 ≤ (((i : Nat) : Int) - 1))) (fun h3 => ?_) (fun h3 => ?_)
  ·
    have h3' := of_decide_eq_true h3
    refine Xn ?_
    refine Xe ?_
    refine X6 ?_
    have hi0 : 1 ≤ i := by omega
    have hux := Lm.G_get gu (i - 1)
    have lr0 := Lm.len_of_lt hi2 hi3 hi4 hvb
    obtain ⟨r, hr⟩ : ∃ r, r = Lm.trim ([u.getD (i - 1) 0] ++ rl) := ⟨_, rfl⟩
    have gr0 : Lm.G ([u.getD (i - 1) 0] ++ rl) := Lm.G_append.2 ⟨Lm.G_cons.2 ⟨hux, Lm.G_nil⟩, hi2⟩
    have gr : Lm.G r := by rw [hr]; exact Lm.G_trim gr0
    have nr : Lm.Nz r := by rw [hr]; exact Lm.trim_Nz _
    have rv : Lm.V r = u.getD (i - 1) 0 + 1000000000 * Lm.V rl := by rw [hr, Lm.V_trim]; rfl
    have rb : Lm.V r < 1000000000 * Lm.V v := by omega
    have lr : r.length ≤ v.length + 1 := Lm.len_of_lt gr nr rb (by rw [Lm.P_succ]; omega)
    have hud := Lm.drop_val u (show 1 ≤ i by omega) hi1
    have hr0 := Lm.G_get gr v.length
    have hr1 := Lm.G_get gr (v.length - 1)
    have hro := Lm.getD_out r (i := v.length)
    have hro1 := Lm.getD_out r (i := v.length - 1)
    have hrd := Lm.V_top_le gr (show 0 < v.length by omega) lr
    refine sh 2 [tv 4 .nil, tv 5 .nil, tv 8 (kw s), tv 9 (Xj v), tv 10 (ku (v.getD (v.length - 1) 0)), tv 11 (Xj r), tv 12 (.win 64 1 1 0 u.length), tv 13 (Xj u), tv 14 (ki (((i : Nat) : Int) - 1)), tv 15 (ku 0), ov 64 (Xj o)] (oS (oT 2 (oO (J0 (i - 1) (by omega) (Zj (by (try simp only [List.length_set, List.length_append, List.length_cons, List.length_nil, List.length_replicate]); omega)) : (0 : Int) ≤ (((i : Nat) : Int) - 1) ∧ (uw u)[Int.toNat (((i : Nat) : Int) - 1)]? = some (kw (u.getD (i - 1) 0))) (oT 3 (oO (aI (show ((uw ([u.getD (i - 1) 0])).length + (uw rl).length) * 4 ≤ 35184372088832 by simp only [J1]; (try simp only [List.length_set, List.length_append, List.length_cons, List.length_nil, List.length_replicate]); omega) (Xcb _ _ : (uw ([u.getD (i - 1) 0] ++ rl)) = uw ([u.getD (i - 1) 0]) ++ uw rl)) (oO (show CS Tryz.prog 185 [Xj ([u.getD (i - 1) 0] ++ rl)] (Xj r) by rw [hr]; exact Xbn _ (by simp only [List.length_append, List.length_cons, List.length_nil]; omega)) (oT 1 oN)))))) (oS (oT 1 (oA [kw (u.getD (i - 1) 0), .tup [.sl 1 (uw ([u.getD (i - 1) 0] ++ rl))], Xj r] oN)) oN)) ?_
    refine Xhh (fun l0 => ∃ (h : Int), (h = 1000000000 * r.getD v.length 0) ∧ l0 = [tv 4 .nil, tv 5 .nil, tv 8 (kw s), tv 9 (Xj v), tv 10 (ku (v.getD (v.length - 1) 0)), tv 11 (Xj r), tv 12 (.win 64 1 1 0 u.length), tv 13 (Xj u), tv 14 (ki (((i : Nat) : Int) - 1)), tv 15 (ku h), ov 64 (Xj o)]) ?_ ?_
    ·
      refine rt [tv 4 .nil, tv 5 .nil, tv 8 (kw s), tv 9 (Xj v), tv 10 (ku (v.getD (v.length - 1) 0)), tv 11 (Xj r), tv 12 (.win 64 1 1 0 u.length), tv 13 (Xj u), tv 14 (ki (((i : Nat) : Int) - 1)), tv 15 (ku 0), tv 91 (.bool (decide (((v.length : Nat) : Int) < ((r.length : Nat) : Int)))), ov 64 (Xj o)] (oT 1 (oO (aI trivial (Yx _ : ((r.length : Nat) : Int) = (((uw r).length : Nat) : Int))) (oT 1 (oO (aI trivial (Yx _ : ((v.length : Nat) : Int) = (((uw v).length : Nat) : Int))) (oO (oB (decide (((v.length : Nat) : Int) < ((r.length : Nat) : Int)))) (oA [.tup [ki ((r.length : Nat) : Int)], .tup [ki ((v.length : Nat) : Int)], cT (decide (((v.length : Nat) : Int) < ((r.length : Nat) : Int)))] oN)))))) ?_
      refine cB (decide (((v.length : Nat) : Int) < ((r.length : Nat) : Int))) (fun h4 => ?_) (fun h4 => ?_)
      ·
        have h4' := of_decide_eq_true h4
        refine rh [tv 4 .nil, tv 5 .nil, tv 8 (kw s), tv 9 (Xj v), tv 10 (ku (v.getD (v.length - 1) 0)), tv 11 (Xj r), tv 12 (.win 64 1 1 0 u.length), tv 13 (Xj u), tv 14 (ki (((i : Nat) : Int) - 1)), tv 15 (ku (r.getD v.length 0 * 1000000000)), ov 64 (Xj o)] (oT 2 (oO (aI trivial (Yx _ : ((v.length : Nat) : Int) = (((uw v).length : Nat) : Int))) (oO (J0 v.length (by omega) (Zj (by (try simp only [List.length_set, List.length_append, List.length_cons, List.length_nil, List.length_replicate]); omega)) : (0 : Int) ≤ ((v.length : Nat) : Int) ∧ (uw r)[Int.toNat ((v.length : Nat) : Int)]? = some (kw (r.getD v.length 0))) (oT 1 (oO ((Jj (by omega) (by omega)).symm : (r.getD v.length 0) = IntKind.u64.wrap (r.getD v.length 0)) (oO (Xaf (x := (r.getD v.length 0)) (y := 1000000000) (by omega) (by omega)) (oT 1 (oA [.tup [ki ((v.length : Nat) : Int)], kw (r.getD v.length 0), ku (r.getD v.length 0), ku (r.getD v.length 0 * 1000000000)] oN)))))))) ?_
        exact ⟨_, rfl, r.getD v.length 0 * 1000000000, (by omega), (by kernel_rfl)⟩
      ·
        have h4' := of_decide_eq_false h4
        refine Xcz (live := [tv 4 .nil, tv 5 .nil, tv 8 (kw s), tv 9 (Xj v), tv 10 (ku (v.getD (v.length - 1) 0)), tv 11 (Xj r), tv 12 (.win 64 1 1 0 u.length), tv 13 (Xj u), tv 14 (ki (((i : Nat) : Int) - 1)), tv 15 (ku 0), ov 64 (Xj o)]) (by kernel_rfl) (by kernel_rfl) ?_
        refine Xn ?_
        exact ⟨_, rfl, 0, (by omega), (by kernel_rfl)⟩
    rintro l0 ⟨h, hh, rfl⟩
    refine Xhh (fun l0 => ∃ (h2 : Int), (h2 = (1000000000 * r.getD v.length 0 + r.getD (v.length - 1) 0)) ∧ l0 = [tv 4 .nil, tv 5 .nil, tv 8 (kw s), tv 9 (Xj v), tv 10 (ku (v.getD (v.length - 1) 0)), tv 11 (Xj r), tv 12 (.win 64 1 1 0 u.length), tv 13 (Xj u), tv 14 (ki (((i : Nat) : Int) - 1)), tv 15 (ku h2), ov 64 (Xj o)]) ?_ ?_
    ·
      refine rt [tv 4 .nil, tv 5 .nil, tv 8 (kw s), tv 9 (Xj v), tv 10 (ku (v.getD (v.length - 1) 0)), tv 11 (Xj r), tv 12 (.win 64 1 1 0 u.length), tv 13 (Xj u), tv 14 (ki (((i : Nat) : Int) - 1)), tv 15 (ku h), tv 103 (.bool (decide (((v.length : Nat) : Int) ≤ ((r.length : Nat) : Int)))), ov 64 (Xj o)] (oT 1 (oO (aI trivial (Yx _ : ((r.length : Nat) : Int) = (((uw r).length : Nat) : Int))) (oT 1 (oO (aI trivial (Yx _ : ((v.length : Nat) : Int) = (((uw v).length : Nat) : Int))) (oO (oB (decide (((v.length : Nat) : Int) ≤ ((r.length : Nat) : Int)))) (oA [.tup [ki ((r.length : Nat) : Int)], .tup [ki ((v.length : Nat) : Int)], cT (decide (((v.length : Nat) : Int) ≤ ((r.length : Nat) : Int)))] oN)))))) ?_
      refine cB (decide (((v.length : Nat) : Int) ≤ ((r.length : Nat) : Int))) (fun h5 => ?_) (fun h5 => ?_)
      ·
        have h5' := of_decide_eq_true h5
        refine rh [tv 4 .nil, tv 5 .nil, tv 8 (kw s), tv 9 (Xj v), tv 10 (ku (v.getD (v.length - 1) 0)), tv 11 (Xj r), tv 12 (.win 64 1 1 0 u.length), tv 13 (Xj u), tv 14 (ki (((i : Nat) : Int) - 1)), tv 15 (ku (h + r.getD (v.length - 1) 0)), ov 64 (Xj o)] (oT 3 (oO (aI trivial (Yx _ : ((v.length : Nat) : Int) = (((uw v).length : Nat) : Int))) (oO (Xax (Yw (by omega) (by omega)) (by omega) : Jx .sub .i64 ((v.length : Nat) : Int) 1 = some ((v.length - 1 : Nat) : Int) ∧ ((BinOp.sub = .quo ∨ BinOp.sub = .rem) → 1 ≠ (0 : Int))) (oO (J0 (v.length - 1) (by omega) (Zj (by (try simp only [List.length_set, List.length_append, List.length_cons, List.length_nil, List.length_replicate]); omega)) : (0 : Int) ≤ ((v.length - 1 : Nat) : Int) ∧ (uw r)[Int.toNat ((v.length - 1 : Nat) : Int)]? = some (kw (r.getD (v.length - 1) 0))) (oT 1 (oO ((Jj (by omega) (by omega)).symm : (r.getD (v.length - 1) 0) = IntKind.u64.wrap (r.getD (v.length - 1) 0)) (oO (Jp (x := h) (y := (r.getD (v.length - 1) 0)) (by omega) (by omega)) (oT 1 (oA [.tup [ki ((v.length : Nat) : Int)], ki ((v.length - 1 : Nat) : Int), kw (r.getD (v.length - 1) 0), ku (r.getD (v.length - 1) 0), ku (h + r.getD (v.length - 1) 0)] oN))))))))) ?_
        exact ⟨_, rfl, h + r.getD (v.length - 1) 0, (by omega), (by kernel_rfl)⟩
      ·
        have h5' := of_decide_eq_false h5
        refine Xcz (live := [tv 4 .nil, tv 5 .nil, tv 8 (kw s), tv 9 (Xj v), tv 10 (ku (v.getD (v.length - 1) 0)), tv 11 (Xj r), tv 12 (.win 64 1 1 0 u.length), tv 13 (Xj u), tv 14 (ki (((i : Nat) : Int) - 1)), tv 15 (ku h), ov 64 (Xj o)]) (by kernel_rfl) (by kernel_rfl) ?_
        refine Xn ?_
        exact ⟨_, rfl, h, (by omega), (by kernel_rfl)⟩
    rintro l0 ⟨h2, hh2, rfl⟩
    have hqd := Lm.ref_digit hvt0 hrd hvl hvl0 hh2 (by omega)
    have hq0 : 0 ≤ h2 / v.getD (v.length - 1) 0 := Int.ediv_nonneg (by omega) (by omega)
    refine rt [tv 4 .nil, tv 5 .nil, tv 8 (kw s), tv 9 (Xj v), tv 10 (ku (v.getD (v.length - 1) 0)), tv 11 (Xj r), tv 12 (.win 64 1 1 0 u.length), tv 13 (Xj u), tv 14 (ki (((i : Nat) : Int) - 1)), tv 16 (ku (h2 / v.getD (v.length - 1) 0)), ov 64 (Xj o)] (oT 2 (oO (Xae (x := h2) (y := (v.getD (v.length - 1) 0)) (by omega) (by omega) (by omega)) (oT 1 (oA [ku (h2 / v.getD (v.length - 1) 0)] oN)))) ?_
    refine Xhh (fun l0 => ∃ (d0 : Int), (0 ≤ d0 ∧ d0 < 1000000000 ∧ Lm.V r < (d0 + 1) * Lm.V v) ∧ l0 = [tv 4 .nil, tv 5 .nil, tv 8 (kw s), tv 9 (Xj v), tv 10 (ku (v.getD (v.length - 1) 0)), tv 11 (Xj r), tv 12 (.win 64 1 1 0 u.length), tv 13 (Xj u), tv 14 (ki (((i : Nat) : Int) - 1)), tv 16 (ku d0), ov 64 (Xj o)]) ?_ ?_
    ·
      refine rt [tv 4 .nil, tv 5 .nil, tv 8 (kw s), tv 9 (Xj v), tv 10 (ku (v.getD (v.length - 1) 0)), tv 11 (Xj r), tv 12 (.win 64 1 1 0 u.length), tv 13 (Xj u), tv 14 (ki (((i : Nat) : Int) - 1)), tv 16 (ku (h2 / v.getD (v.length - 1) 0)), tv 117 (.bool (decide (999999999 < (h2 / v.getD (v.length - 1) 0)))), ov 64 (Xj o)] (oT 1 (oO (oB (decide (999999999 < (h2 / v.getD (v.length - 1) 0)))) (oA [cT (decide (999999999 < (h2 / v.getD (v.length - 1) 0)))] oN))) ?_
      refine cB (decide (999999999 < (h2 / v.getD (v.length - 1) 0))) (fun h6 => ?_) (fun h6 => ?_)
      ·
        have h6' := of_decide_eq_true h6
        refine rh [tv 4 .nil, tv 5 .nil, tv 8 (kw s), tv 9 (Xj v), tv 10 (ku (v.getD (v.length - 1) 0)), tv 11 (Xj r), tv 12 (.win 64 1 1 0 u.length), tv 13 (Xj u), tv 14 (ki (((i : Nat) : Int) - 1)), tv 16 (ku 999999999), ov 64 (Xj o)] (oT 1 oN) ?_
        exact ⟨_, rfl, 999999999, ⟨by omega, by omega, by first | exact hqd | omega⟩, (by kernel_rfl)⟩
      ·
        have h6' := of_decide_eq_false h6
        refine Xcz (live := [tv 4 .nil, tv 5 .nil, tv 8 (kw s), tv 9 (Xj v), tv 10 (ku (v.getD (v.length - 1) 0)), tv 11 (Xj r), tv 12 (.win 64 1 1 0 u.length), tv 13 (Xj u), tv 14 (ki (((i : Nat) : Int) - 1)), tv 16 (ku (h2 / v.getD (v.length - 1) 0)), ov 64 (Xj o)]) (by kernel_rfl) (by kernel_rfl) ?_
        refine Xn ?_
        exact ⟨_, rfl, h2 / v.getD (v.length - 1) 0, ⟨by omega, by omega, by first | exact hqd | omega⟩, (by kernel_rfl)⟩
    rintro l0 ⟨d0, ⟨hd0, hd1, hd2⟩, rfl⟩
    refine Xe ?_
    obtain ⟨p, hp⟩ : ∃ p, p = Lm.digs (Int.natAbs (Lm.V v * d0)) := ⟨_, rfl⟩
    obtain ⟨gp, np, vp⟩ := Lm.prod_digs (x := Lm.V v) (d := d0) (by omega) (by omega) hp
    have lp := Lm.prod_len gv (d := d0) (by omega) (by omega) hp
    refine rh [tv 4 .nil, tv 5 .nil, tv 8 (kw s), tv 9 (Xj v), tv 10 (ku (v.getD (v.length - 1) 0)), tv 11 (Xj r), tv 12 (.win 64 1 1 0 u.length), tv 13 (Xj u), tv 14 (ki (((i : Nat) : Int) - 1)), tv 16 (ku d0), tv 17 (Xj p), ov 64 (Xj o)] (oT 2 (oO ((K6 (by omega) (by omega)).symm : d0 = IntKind.u32.wrap d0) (oO (show CS Tryz.prog 249 [Xj v, kw d0] (Xj p) by rw [hp]; exact Xju v d0 gv (by omega) (by omega) (by omega)) (oT 1 (oA [kw d0, Xj p] oN))))) ?_
    refine Xe ?_
    refine X6 ?_
    refine Z0 (fun n0 l0 => ∃ (d : Int) (p : List Int), (0 ≤ d ∧ d < 1000000000 ∧ Lm.V r < (d + 1) * Lm.V v ∧ Lm.G p ∧ Lm.Nz p ∧ Lm.V p = Lm.V v * d ∧ p.length ≤ v.length + 1) ∧ d.toNat = n0 ∧ l0 = [tv 4 .nil, tv 5 .nil, tv 8 (kw s), tv 9 (Xj v), tv 10 (ku (v.getD (v.length - 1) 0)), tv 11 (Xj r), tv 12 (.win 64 1 1 0 u.length), tv 13 (Xj u), tv 14 (ki (((i : Nat) : Int) - 1)), tv 16 (ku d), tv 17 (Xj p), ov 64 (Xj o)]) (n := d0.toNat) (by kernel_rfl) ⟨d0, p, ⟨hd0, hd1, hd2, gp, np, vp, lp⟩, rfl, (by kernel_rfl)⟩ ?_
    rintro n0 l0 ⟨d, p, ⟨hd0, hd1, hd2, gp, np, vp, lp⟩, rfl, rfl⟩
    refine Xe ?_
    refine rt [tv 4 .nil, tv 5 .nil, tv 8 (kw s), tv 9 (Xj v), tv 10 (ku (v.getD (v.length - 1) 0)), tv 11 (Xj r), tv 12 (.win 64 1 1 0 u.length), tv 13 (Xj u), tv 14 (ki (((i : Nat) : Int) - 1)), tv 16 (ku d), tv 17 (Xj p), tv 125 (.bool (decide (0 < Int.sign (Lm.V p - Lm.V r)))), ov 64 (Xj o)] (oT 2 (oC (Xen p r gp gr np nr) (oO (oB (decide (0 < Int.sign (Lm.V p - Lm.V r)))) (oA [cT (decide (0 < Int.sign (Lm.V p - Lm.V r)))] oN)))) ?_
    refine cB (decide (0 < Int.sign (Lm.V p - Lm.V r))) (fun h7 => ?_) (fun h7 => ?_)
    ·
      have h7' := of_decide_eq_true h7
      refine Xn ?_
      refine X6 ?_
      refine Xe ?_
      have hpr : 0 < Lm.V p - Lm.V r := Xm0.1 (by assumption)
      have hdp : 0 < d := Lm.pos_of_prod (Lm.V_bound gr).1 (show Lm.V r < Lm.V v * d by omega) hvp
      have hpv : Lm.V v ≤ Lm.V p := by
        rw [vp]; have : Lm.V v * 1 ≤ Lm.V v * d := Int.mul_le_mul_of_nonneg_left (by omega) (by omega)
        omega
      refine rh [tv 4 .nil, tv 5 .nil, tv 8 (kw s), tv 9 (Xj v), tv 10 (ku (v.getD (v.length - 1) 0)), tv 11 (Xj r), tv 12 (.win 64 1 1 0 u.length), tv 13 (Xj u), tv 14 (ki (((i : Nat) : Int) - 1)), tv 16 (ku (d - 1)), tv 17 (Xj p), ov 64 (Xj o)] (oT 1 (oO (Xcw (x := d) (y := 1) (by omega) (by omega)) (oT 1 (oA [ku (d - 1)] oN)))) ?_
      refine rh [tv 4 .nil, tv 5 .nil, tv 8 (kw s), tv 9 (Xj v), tv 10 (ku (v.getD (v.length - 1) 0)), tv 11 (Xj r), tv 12 (.win 64 1 1 0 u.length), tv 13 (Xj u), tv 14 (ki (((i : Nat) : Int) - 1)), tv 16 (ku (d - 1)), tv 17 (Xj (Lm.digs (Int.natAbs (Lm.V p - Lm.V v)))), ov 64 (Xj o)] (oT 2 (oC (Xhd p v gp gv (Lm.len_le gp gv nv (by omega) hpv) hpv) (oT 1 oN))) ?_
      exact ⟨(d - 1).toNat, [tv 4 .nil, tv 5 .nil, tv 8 (kw s), tv 9 (Xj v), tv 10 (ku (v.getD (v.length - 1) 0)), tv 11 (Xj r), tv 12 (.win 64 1 1 0 u.length), tv 13 (Xj u), tv 14 (ki (((i : Nat) : Int) - 1)), tv 16 (ku (d - 1)), tv 17 (Xj (Lm.digs (Int.natAbs (Lm.V p - Lm.V v)))), ov 64 (Xj o)], (by omega), rfl, (by kernel_rfl), d - 1, Lm.digs (Int.natAbs (Lm.V p - Lm.V v)), ⟨by omega, by omega, by rw [Int.sub_add_cancel, Int.mul_comm]; omega, Lm.G_digs _, (Lm.digs_spec _).2.2, by rw [Lm.V_digs, Int.mul_sub, Int.mul_one, vp]; omega, by have := Lm.digs_mono (Lm.V p - Lm.V v) gp np (by omega) (by omega); omega⟩, rfl, (by kernel_rfl)⟩
    ·
      have h7' := of_decide_eq_false h7
      refine Z3 ?_
      refine Xe ?_
      have hrp : Lm.V p ≤ Lm.V r := by
        by_cases hc : 0 < Lm.V p - Lm.V r
        · exact absurd (Xm0.2 hc) (by assumption)
        · omega
      have hlp : p.length ≤ r.length := Lm.len_le' gr gp np hrp
      have hdv : (d + 1) * Lm.V v = Lm.V v * d + Lm.V v := by rw [Int.add_mul, Int.mul_comm]; omega
      have hnv : Lm.V (Lm.digs (Int.natAbs (Lm.V r - Lm.V p))) = Lm.V r - Lm.V v * d := by rw [Lm.V_digs]; omega
      refine rh [tv 4 .nil, tv 5 .nil, tv 8 (kw s), tv 9 (Xj v), tv 10 (ku (v.getD (v.length - 1) 0)), tv 11 (Xj (Lm.digs (Int.natAbs (Lm.V r - Lm.V p)))), tv 12 (.win 64 1 1 0 u.length), tv 13 (Xj u), tv 14 (ki (((i : Nat) : Int) - 1)), tv 16 (ku d), ov 64 (Xj o)] (oT 2 (oC (Xhd r p gr gp hlp hrp) (oT 1 oN))) ?_
      refine rh [tv 4 .nil, tv 5 .nil, tv 8 (kw s), tv 9 (Xj v), tv 10 (ku (v.getD (v.length - 1) 0)), tv 11 (Xj (Lm.digs (Int.natAbs (Lm.V r - Lm.V p)))), tv 12 (.win 64 1 1 0 u.length), tv 13 (Xj u), tv 14 (ki (((i : Nat) : Int) - 1)), ov 64 (Xj (o.set (0 + (i - 1)) d))] (oT 3 (oO ((K6 (by omega) (by omega)).symm : d = IntKind.u32.wrap d) (oO (Xb9 (i - 1) (by omega) (by omega) : (0 : Int) ≤ (((i : Nat) : Int) - 1) ∧ Int.toNat (((i : Nat) : Int) - 1) < u.length) (oO (aI (X4w (i - 1) (by omega) (Zj (by (try simp only [List.length_set, List.length_append, List.length_cons, List.length_nil, List.length_replicate]); omega)) : (uw o)[0 + Int.toNat (((i : Nat) : Int) - 1)]? = some (kw (o.getD (0 + (i - 1)) 0))) (X22 (i - 1) (by omega) (Xbt _ _ _) : (uw (o.set (0 + (i - 1)) d)) = (uw o).set (0 + Int.toNat (((i : Nat) : Int) - 1)) (kw d))) (oA [kw d, .rptr .none, .tup [.sl 1 (uw (o.set (0 + (i - 1)) d))], kw (o.getD (0 + (i - 1)) 0)] oN))))) ?_
      refine rh [tv 4 .nil, tv 5 .nil, tv 8 (kw s), tv 9 (Xj v), tv 10 (ku (v.getD (v.length - 1) 0)), tv 11 (Xj (Lm.digs (Int.natAbs (Lm.V r - Lm.V p)))), tv 12 (.win 64 1 1 0 u.length), tv 13 (Xj u), tv 14 (ki ((((i - 1) : Nat) : Int) - 1)), ov 64 (Xj (o.set (0 + (i - 1)) d))] (oT 1 (oO (Xax (Yw (by omega) (by omega)) (by omega) : Jx .sub .i64 (((i : Nat) : Int) - 1) 1 = some ((((i - 1) : Nat) : Int) - 1) ∧ ((BinOp.sub = .quo ∨ BinOp.sub = .rem) → 1 ≠ (0 : Int))) (oT 1 (oA [ki ((((i - 1) : Nat) : Int) - 1)] oN)))) ?_
      exact ⟨i - 1, [tv 4 .nil, tv 5 .nil, tv 8 (kw s), tv 9 (Xj v), tv 10 (ku (v.getD (v.length - 1) 0)), tv 11 (Xj (Lm.digs (Int.natAbs (Lm.V r - Lm.V p)))), tv 12 (.win 64 1 1 0 u.length), tv 13 (Xj u), tv 14 (ki ((((i - 1) : Nat) : Int) - 1)), ov 64 (Xj (o.set (0 + (i - 1)) d))], (by omega), rfl, (by kernel_rfl), i - 1, Lm.digs (Int.natAbs (Lm.V r - Lm.V p)), o.set (0 + (i - 1)) d, ⟨by omega, Lm.G_digs _, (Lm.digs_spec _).2.2, by rw [hnv]; omega, Lm.G_set hi5 _ (by omega) (by omega), by simp [hi6], by rw [List.drop_set_of_lt (by omega)]; exact hi7, by rw [hnv, Nat.zero_add]; exact Lm.ref_acc hud (by omega) (by omega) hi8 rv⟩, rfl, (by kernel_rfl)⟩
  ·
    have h3' := of_decide_eq_false h3
    refine Z3 ?_
    have lr9 := Lm.len_of_lt hi2 hi3 hi4 hvb
    refine sh 2 [tv 4 .nil, tv 5 .nil, tv 8 (kw s), tv 11 (Xj rl), tv 12 (.win 64 1 1 0 u.length), tv 18 (ku 0), tv 19 (.own 141 1), ov 64 (Xj o), ov 141 (Xj (List.replicate rl.length 0))] (oS (oT 1 oN) (oS (oT 1 (oO (aI trivial (Yx _ : ((rl.length : Nat) : Int) = (((uw rl).length : Nat) : Int))) (oO (aI (show (0 : Int) ≤ ((rl.length : Nat) : Int) ∧ (((rl.length : Nat) : Int) : Int) ≤ ((rl.length : Nat) : Int) ∧ 4 * Int.toNat ((rl.length : Nat) : Int) ≤ 281474976710656 by omega) (Xic rl.length (by omega) : (uw (List.replicate rl.length 0)) = List.replicate (Int.toNat ((rl.length : Nat) : Int)) (kw 0))) (oT 1 (oA [.tup [ki ((rl.length : Nat) : Int)], .tup [.sl 1 (uw (List.replicate rl.length 0))]] oN))))) oN)) ?_
    refine Xe ?_
    refine rt [tv 4 .nil, tv 5 .nil, tv 8 (kw s), tv 11 (Xj rl), tv 12 (.win 64 1 1 0 u.length), tv 18 (ku 0), tv 19 (.own 141 1), tv 20 (ki (((rl.length : Nat) : Int) - 1)), ov 64 (Xj o), ov 141 (Xj (List.replicate rl.length 0))] (oT 1 (oO (aI trivial (Yx _ : ((rl.length : Nat) : Int) = (((uw rl).length : Nat) : Int))) (oO (Yw (x := ((rl.length : Nat) : Int)) (y := 1) (by omega) (by omega)) (oT 1 (oA [.tup [ki ((rl.length : Nat) : Int)], ki (((rl.length : Nat) : Int) - 1)] oN))))) ?_
    refine X6 ?_
    have hz : i = 0 := by omega
    subst hz
    refine Z0 (fun n0 l0 => ∃ (k : Nat) (c : Int) (la : List Int), (k ≤ rl.length ∧ Lm.G la ∧ la.length = rl.length ∧ 0 ≤ c ∧ c < s ∧ Lm.V (rl.drop k) = Lm.V (la.drop k) * s + c) ∧ k = n0 ∧ l0 = [tv 4 .nil, tv 5 .nil, tv 8 (kw s), tv 11 (Xj rl), tv 12 (.win 64 1 1 0 u.length), tv 18 (ku c), tv 19 (.own 141 1), tv 20 (ki (((k : Nat) : Int) - 1)), ov 64 (Xj o), ov 141 (Xj la)]) (n := rl.length) (by kernel_rfl) ⟨rl.length, 0, List.replicate rl.length 0, ⟨Nat.le_refl _, Lm.G_zeros _, by simp, by omega, by omega, by rw [List.drop_length, List.drop_of_length_le (by simp)]; simp⟩, rfl, (by kernel_rfl)⟩ ?_
    rintro n0 l0 ⟨k, c, la, ⟨hk1, hk2, hk3, hk4, hk5, hk6⟩, rfl, rfl⟩
    have hx := Lm.G_get hi2 (k - 1)
    have hd := Lm.div_small hk4 hk5 hx.1 hx.2 rfl
    refine Xe ?_
    refine rt [tv 4 .nil, tv 5 .nil, tv 8 (kw s), tv 11 (Xj rl), tv 12 (.win 64 1 1 0 u.length), tv 18 (ku c), tv 19 (.own 141 1), tv 20 (ki (((k : Nat) : Int) - 1)), tv 146 (.bool (decide (0 ≤ (((k : Nat) : Int) - 1)))), ov 64 (Xj o), ov 141 (Xj la)] (oT 1 (oO (oB (decide (0 ≤ (((k : Nat) : Int) - 1)))) (oA [cT (decide (0 ≤ (((k : Nat) : Int) - 1)))] oN))) ?_
    refine cB (decide (0 ≤ (((k : Nat) : Int) - 1))) (fun h8 => ?_) (fun h8 => ?_)
    ·
      have h8' := of_decide_eq_true h8
      refine Xn ?_
      refine Xe ?_
      refine X6 ?_
      refine sh 2 [tv 4 .nil, tv 5 .nil, tv 8 (kw s), tv 11 (Xj rl), tv 12 (.win 64 1 1 0 u.length), tv 18 (ku ((c * 1000000000) + rl.getD (k - 1) 0)), tv 19 (.own 141 1), tv 20 (ki (((k : Nat) : Int) - 1)), ov 64 (Xj o), ov 141 (Xj (la.set (k - 1) (((c * 1000000000) + rl.getD (k - 1) 0) / s)))] (oS (oT 1 (oO (Xaf (x := c) (y := 1000000000) (by omega) (by omega)) (oT 2 (oO (J0 (k - 1) (by omega) (Zj (by (try simp only [List.length_set, List.length_append, List.length_cons, List.length_nil, List.length_replicate]); omega)) : (0 : Int) ≤ (((k : Nat) : Int) - 1) ∧ (uw rl)[Int.toNat (((k : Nat) : Int) - 1)]? = some (kw (rl.getD (k - 1) 0))) (oT 1 (oO ((Jj (by omega) (by omega)).symm : (rl.getD (k - 1) 0) = IntKind.u64.wrap (rl.getD (k - 1) 0)) (oO (Jp (x := (c * 1000000000)) (y := (rl.getD (k - 1) 0)) (by omega) (by omega)) (oT 1 oN)))))))) (oS (oT 4 (oO ((Jj (by omega) (by omega)).symm : s = IntKind.u64.wrap s) (oO (Xae (x := ((c * 1000000000) + rl.getD (k - 1) 0)) (y := s) (by omega) (by omega) (by omega)) (oO ((K6 (by omega) (by omega)).symm : (((c * 1000000000) + rl.getD (k - 1) 0) / s) = IntKind.u32.wrap (((c * 1000000000) + rl.getD (k - 1) 0) / s)) (oO (Xb9 (k - 1) (by omega) (by simp only [J1]; (try simp only [List.length_set, List.length_append, List.length_cons, List.length_nil, List.length_replicate]); omega) : (0 : Int) ≤ (((k : Nat) : Int) - 1) ∧ Int.toNat (((k : Nat) : Int) - 1) < (uw la).length) (oO (aI (Xns (k - 1) (by omega) (Zj (by (try simp only [List.length_set, List.length_append, List.length_cons, List.length_nil, List.length_replicate]); omega)) : (uw la)[Int.toNat (((k : Nat) : Int) - 1)]? = some (kw (la.getD (k - 1) 0))) (Xj6 (k - 1) (by omega) (Xbt _ _ _) : (uw (la.set (k - 1) (((c * 1000000000) + rl.getD (k - 1) 0) / s))) = (uw la).set (Int.toNat (((k : Nat) : Int) - 1)) (kw (((c * 1000000000) + rl.getD (k - 1) 0) / s)))) (oA [ku (c * 1000000000), kw (rl.getD (k - 1) 0), ku (rl.getD (k - 1) 0), ku ((c * 1000000000) + rl.getD (k - 1) 0), ku s, ku (((c * 1000000000) + rl.getD (k - 1) 0) / s), kw (((c * 1000000000) + rl.getD (k - 1) 0) / s), .tup [.sl 1 (uw (la.set (k - 1) (((c * 1000000000) + rl.getD (k - 1) 0) / s)))], kw (la.getD (k - 1) 0)] oN))))))) oN)) ?_
      refine rh [tv 4 .nil, tv 5 .nil, tv 8 (kw s), tv 11 (Xj rl), tv 12 (.win 64 1 1 0 u.length), tv 18 (ku (((c * 1000000000) + rl.getD (k - 1) 0) % s)), tv 19 (.own 141 1), tv 20 (ki (((k : Nat) : Int) - 1)), ov 64 (Xj o), ov 141 (Xj (la.set (k - 1) (((c * 1000000000) + rl.getD (k - 1) 0) / s)))] (oT 2 (oO ((Jj (by omega) (by omega)).symm : s = IntKind.u64.wrap s) (oO (Xa0 (x := ((c * 1000000000) + rl.getD (k - 1) 0)) (y := s) (by omega) (by omega) trivial) (oT 1 (oA [ku s, ku (((c * 1000000000) + rl.getD (k - 1) 0) % s)] oN))))) ?_
      refine rh [tv 4 .nil, tv 5 .nil, tv 8 (kw s), tv 11 (Xj rl), tv 12 (.win 64 1 1 0 u.length), tv 18 (ku (((c * 1000000000) + rl.getD (k - 1) 0) % s)), tv 19 (.own 141 1), tv 20 (ki ((((k - 1) : Nat) : Int) - 1)), ov 64 (Xj o), ov 141 (Xj (la.set (k - 1) (((c * 1000000000) + rl.getD (k - 1) 0) / s)))] (oT 1 (oO (Xax (Yw (by omega) (by omega)) (by omega) : Jx .sub .i64 (((k : Nat) : Int) - 1) 1 = some ((((k - 1) : Nat) : Int) - 1) ∧ ((BinOp.sub = .quo ∨ BinOp.sub = .rem) → 1 ≠ (0 : Int))) (oT 1 (oA [ki ((((k - 1) : Nat) : Int) - 1)] oN)))) ?_
      have hst := Lm.bw_step hk6 rfl (v := Lm.V (rl.drop (k - 1))) (x := rl.getD (k - 1) 0) (by rw [Lm.getD_drop rl (k - 1) (by omega), Lm.V_cons, show k - 1 + 1 = k by omega])
      exact ⟨k - 1, [tv 4 .nil, tv 5 .nil, tv 8 (kw s), tv 11 (Xj rl), tv 12 (.win 64 1 1 0 u.length), tv 18 (ku (((c * 1000000000) + rl.getD (k - 1) 0) % s)), tv 19 (.own 141 1), tv 20 (ki ((((k - 1) : Nat) : Int) - 1)), ov 64 (Xj o), ov 141 (Xj (la.set (k - 1) (((c * 1000000000) + rl.getD (k - 1) 0) / s)))], (by omega), rfl, (by kernel_rfl), k - 1, ((c * 1000000000) + rl.getD (k - 1) 0) % s, la.set (k - 1) (((c * 1000000000) + rl.getD (k - 1) 0) / s), ⟨by omega, Lm.G_set hk2 _ (by omega) (by omega), by simp [hk3], by omega, by omega, by rw [Lm.drop_set _ _ (by omega), Lm.V_cons, show k - 1 + 1 = k by omega]; exact hst⟩, rfl, (by kernel_rfl)⟩
    ·
      have h8' := of_decide_eq_false h8
      refine Z3 ?_
      have hvo : Lm.V (o.take u.length) = Lm.V o := by
        have := Lm.V_split o u.length (by omega)
        rw [hi7] at this; omega
      refine Xyh 12 64 1 1 0 u.length (uw o) (uw (o.take u.length)) [tv 4 .nil, tv 5 .nil, tv 8 (kw s), tv 11 (Xj rl), tv 12 (Xj (o.take u.length)), tv 18 (ku c), tv 19 (.own 141 1), tv 20 (ki (((k : Nat) : Int) - 1)), tv 146 (.bool (decide (0 ≤ (((k : Nat) : Int) - 1)))), (.o 64, ⟨1, false, Xj o⟩), ov 141 (Xj la)] (by rw [Nat.zero_add]; exact Xii _ _) (by kernel_rfl) (by kernel_rfl) (by simp only [J1]; omega) (by kernel_rfl) (by kernel_rfl) ?_
      refine rt [tv 4 (Xj (Lm.trim (o.take u.length))), tv 5 (Xj (Lm.trim la))] (oT 1 (oO (Xbn _ (by (try simp only [List.length_take, List.length_nil]); omega) : CS Tryz.prog 185 [Xj (o.take u.length)] (Xj (Lm.trim (o.take u.length)))) (oT 1 (oO (Xbn _ (by (try simp only [List.length_take, List.length_nil]); omega) : CS Tryz.prog 185 [Xj la] (Xj (Lm.trim la))) (oT 2 (oA [Xj (Lm.trim (o.take u.length)), Xj (Lm.trim la)] oN)))))) ?_
      refine Xg ?_
      have hz2 : k = 0 := by omega
      subst hz2
      simp only [List.drop_zero] at hk6 hi8
      have hfin := Lm.ref_fin hi2 hi4 (show Lm.V u = Lm.V o * Lm.V v + Lm.V rl by omega) vu vvb hs0 hk6 hk4 hk5
      exact X7i ((.tup [Xj (Lm.trim (o.take u.length)), Xj (Lm.trim la)])) (by rw [Lm.trim_digs (Lm.G_take hi5 _), Lm.trim_digs hk2, hfin.2, hvo, hfin.1])
set_option maxHeartbeats 2000000 in
theorem Xru (a b : Int) (ha0 : a = 0) (hb : 0 < b := by omega) (hs : X66 a + X66 b ≤ 1099511627776 := by omega) : CS Tryz.prog 187 [Xj (Lm.digs (Int.natAbs a)), Xj (Lm.digs (Int.natAbs b))] (.tup [Xj (Lm.digs (a / b).natAbs), Xj (Lm.digs (a % b).natAbs)]) := by
 have ha : 0 ≤ a := by omega
 have hla := Yj a
 have hlb := Yj b
 have va := Kq a
 have vb := Kq b
 have ga := Xa2 a
 have gb := Xa2 b
 have nb := Xj9 b
 have hab := Xej a
 have hbb := Xej b
 have hlb0 : 0 < X66 b := Xbi.2 (by omega)
 have ht := Lm.G_get gb ((Lm.digs (Int.natAbs b)).length - 1)
 have ht0 := Lm.top_pos gb nb (by omega)
 obtain ⟨s, hsd⟩ : ∃ s, s = 1000000000 / (((Lm.digs (Int.natAbs b)).getD ((Lm.digs (Int.natAbs b)).length - 1) 0) + 1) := ⟨_, rfl⟩
 obtain ⟨hs0, hs1, hs2⟩ := Lm.scale_ok ht0 ht.2 hsd
 obtain ⟨v, hv⟩ : ∃ v, v = Lm.digs (Int.natAbs (Lm.V (Lm.digs (Int.natAbs b)) * s)) := ⟨_, rfl⟩
 obtain ⟨gv, nv, lv, vv⟩ := Lm.scaled_digs gb nb (by omega) hs0 hs1 hs2 hv
 obtain ⟨u, hu⟩ : ∃ u, u = Lm.digs (Int.natAbs (Lm.V (Lm.digs (Int.natAbs a)) * s)) := ⟨_, rfl⟩
 have gu : Lm.G u := by rw [hu]; exact Lm.G_digs _
 have vu : Lm.V u = a * s := by
  have := Int.mul_nonneg ha (Int.le_of_lt hs0)
  rw [hu, Lm.V_digs, va]; rw [show (a.natAbs : Int) = a by omega]; omega
 have lu : u.length ≤ (Lm.digs (Int.natAbs a)).length + 1 := by
  rw [hu]; refine Lm.digs_len ?_
  have := Lm.mul_lt (x := a) (m := Lm.P (X66 a)) (y := s) (n := 1000000000) ha (by omega) (by omega) hs1
  have := Int.mul_nonneg ha (Int.le_of_lt hs0)
  rw [va, show (a.natAbs : Int) = a by omega, Lm.P_succ, Yj]; omega
 have vvb : Lm.V v = b * s := by rw [vv, vb]; congr 1; omega
 have hvp : 0 < Lm.V v := by rw [vvb]; exact Int.mul_pos hb hs0
 have hvt0 := Lm.top_pos gv nv (by omega)
 have hvt := Lm.G_get gv (v.length - 1)
 have hvl := Lm.V_last (l := v) (by omega)
 have hvl0 := (Lm.V_bound (Lm.G_take gv (v.length - 1))).1
 have hvb := (Lm.V_bound gv).2
 have hu0 : u.length = 0 := by
  rw [hu, ha0]; simp [Lm.digs_zero]
 have hq : (decide (0 ≤ (((u.length : Nat) : Int) - 1))) = false := decide_eq_false (by omega)
 have haz : a / b = 0 := by rw [ha0]; simp
 have haz2 : a % b = 0 := by rw [ha0]; simp
 refine cO 173 Tryz.func187 ?_
 refine rt [tv 0 (Xj (Lm.digs (Int.natAbs a))), tv 1 (Xj (Lm.digs (Int.natAbs b))), tv 4 .nil, tv 5 .nil] (oT 2 oN) ?_
 refine Xhh (fun l0 => (True) ∧ l0 = [tv 0 (Xj (Lm.digs (Int.natAbs a))), tv 1 (Xj (Lm.digs (Int.natAbs b))), tv 4 .nil, tv 5 .nil]) ?_ ?_
 ·
  refine Xe ?_
  rcases X7 (decide ((((Lm.digs (Int.natAbs a)).length : Nat) : Int) ≤ 2)) with h1 | h1
  ·
   have h1' := of_decide_eq_true h1
   refine rh [tv 0 (Xj (Lm.digs (Int.natAbs a))), tv 1 (Xj (Lm.digs (Int.natAbs b))), tv 4 .nil, tv 5 .nil, tv 28 (.bool (decide ((((Lm.digs (Int.natAbs b)).length : Nat) : Int) ≤ 2)))] (oT 1 (oO (aI trivial (Yx _ : (((Lm.digs (Int.natAbs a)).length : Nat) : Int) = (((uw (Lm.digs (Int.natAbs a))).length : Nat) : Int))) (oO (aI trivial (h1 : (decide ((((Lm.digs (Int.natAbs a)).length : Nat) : Int) ≤ 2)) = true)) (oT 1 (oO (Xh 1 trivial) (oO (Xh 1 (aI trivial (Yx _ : (((Lm.digs (Int.natAbs b)).length : Nat) : Int) = (((uw (Lm.digs (Int.natAbs b))).length : Nat) : Int)))) (oO (Xh 1 (oB (decide ((((Lm.digs (Int.natAbs b)).length : Nat) : Int) ≤ 2)))) (oT 1 (oA [.tup [ki (((Lm.digs (Int.natAbs a)).length : Nat) : Int)], cT true, .tup [ki (((Lm.digs (Int.natAbs b)).length : Nat) : Int)], cT (decide ((((Lm.digs (Int.natAbs b)).length : Nat) : Int) ≤ 2))] oN))))))))) ?_
   refine cB (decide ((((Lm.digs (Int.natAbs b)).length : Nat) : Int) ≤ 2)) (fun h2 => ?_) (fun h2 => ?_)
   ·
    have h2' := of_decide_eq_true h2
    have k1 := Lm.P_mono (show X66 a ≤ 2 by omega)
    have k2 := Lm.P_mono (show X66 b ≤ 2 by omega)
    rw [X04] at k1 k2
    have hdm := Lm.div_le_self2 ha hb
    refine sh 2 [tv 0 (Xj (Lm.digs (Int.natAbs a))), tv 1 (Xj (Lm.digs (Int.natAbs b))), tv 4 (Xj (Lm.digs (Int.natAbs (a / b)))), tv 5 (Xj (Lm.digs (Int.natAbs (a % b))))] (oS (oT 1 (oO (Jl (Xe3 _ ga (by omega) (by omega)) (by rw [va]; congr 1; omega) : CS Tryz.prog 189 [Xj (Lm.digs (Int.natAbs a))] (ku a)) (oT 1 (oO (Jl (Xe3 _ gb (by omega) (by omega)) (by rw [vb]; congr 1; omega) : CS Tryz.prog 189 [Xj (Lm.digs (Int.natAbs b))] (ku b)) (oT 2 oN))))) (oS (oT 2 (oO (Xae (x := a) (y := b) (by omega) (by omega) (by omega)) (oA [ku a, ku b, ku (a / b)] (oC (Xd0 (a / b)) (oT 2 (oO (Xa0 (x := a) (y := b) (by omega) (by omega) trivial) (oA [ku (a % b)] (oC (Xd0 (a % b)) (oT 2 oN))))))))) oN)) ?_
    refine Xg ?_
    exact X7i ((.tup [Xj (Lm.digs (Int.natAbs (a / b))), Xj (Lm.digs (Int.natAbs (a % b)))])) (rfl)
   ·
    have h2' := of_decide_eq_false h2
    refine Xcz (live := [tv 0 (Xj (Lm.digs (Int.natAbs a))), tv 1 (Xj (Lm.digs (Int.natAbs b))), tv 4 .nil, tv 5 .nil]) (by kernel_rfl) (by kernel_rfl) ?_
    refine Xn ?_
    exact ⟨_, rfl, trivial, (by kernel_rfl)⟩
  ·
   have h1' := of_decide_eq_false h1
   refine rh [tv 0 (Xj (Lm.digs (Int.natAbs a))), tv 1 (Xj (Lm.digs (Int.natAbs b))), tv 4 .nil, tv 5 .nil, tv 28 (.bool false)] (oT 1 (oO (aI trivial (Yx _ : (((Lm.digs (Int.natAbs a)).length : Nat) : Int) = (((uw (Lm.digs (Int.natAbs a))).length : Nat) : Int))) (oO (aI trivial (h1 : (decide ((((Lm.digs (Int.natAbs a)).length : Nat) : Int) ≤ 2)) = false)) (oT 1 (oO (gn [false]) (oO (gn [true]) (oO (gn [true]) (oT 1 (oA [.tup [ki (((Lm.digs (Int.natAbs a)).length : Nat) : Int)], cT false, .tup [ki (((Lm.digs (Int.natAbs b)).length : Nat) : Int)], cT (decide ((((Lm.digs (Int.natAbs b)).length : Nat) : Int) ≤ 2))] oN))))))))) ?_
   refine cB (false) (fun h => Bool.noConfusion h) (fun _ => ?_)
   refine Xcz (live := [tv 0 (Xj (Lm.digs (Int.natAbs a))), tv 1 (Xj (Lm.digs (Int.natAbs b))), tv 4 .nil, tv 5 .nil]) (by kernel_rfl) (by kernel_rfl) ?_
   refine Xn ?_
   exact ⟨_, rfl, trivial, (by kernel_rfl)⟩
 rintro l0 ⟨_, rfl⟩
 refine sh 7 [tv 4 .nil, tv 5 .nil, tv 8 (kw s), tv 9 (Xj v), tv 10 (ku (v.getD (v.length - 1) 0)), tv 11 .nil, tv 12 (Xj ((List.replicate ((Lm.digs (Int.natAbs a)).length + 1) 0).take u.length)), tv 13 (Xj u)] (oS (oT 2 (oO (aI trivial (Yx _ : (((Lm.digs (Int.natAbs b)).length : Nat) : Int) = (((uw (Lm.digs (Int.natAbs b))).length : Nat) : Int))) (oO (Xax (Yw (by omega) (by omega)) (by omega) : Jx .sub .i64 (((Lm.digs (Int.natAbs b)).length : Nat) : Int) 1 = some (((Lm.digs (Int.natAbs b)).length - 1 : Nat) : Int) ∧ ((BinOp.sub = .quo ∨ BinOp.sub = .rem) → 1 ≠ (0 : Int))) (oO (J0 ((Lm.digs (Int.natAbs b)).length - 1) (by omega) (Zj (by (try simp only [List.length_set, List.length_append, List.length_cons, List.length_nil, List.length_replicate]); omega)) : (0 : Int) ≤ (((Lm.digs (Int.natAbs b)).length - 1 : Nat) : Int) ∧ (uw (Lm.digs (Int.natAbs b)))[Int.toNat (((Lm.digs (Int.natAbs b)).length - 1 : Nat) : Int)]? = some (kw ((Lm.digs (Int.natAbs b)).getD ((Lm.digs (Int.natAbs b)).length - 1) 0))) (oT 1 (oO ((Jj (by omega) (by omega)).symm : ((Lm.digs (Int.natAbs b)).getD ((Lm.digs (Int.natAbs b)).length - 1) 0) = IntKind.u64.wrap ((Lm.digs (Int.natAbs b)).getD ((Lm.digs (Int.natAbs b)).length - 1) 0)) (oO (Jp (x := ((Lm.digs (Int.natAbs b)).getD ((Lm.digs (Int.natAbs b)).length - 1) 0)) (y := 1) (by omega) (by omega)) (oO (Xae (x := 1000000000) (y := (((Lm.digs (Int.natAbs b)).getD ((Lm.digs (Int.natAbs b)).length - 1) 0) + 1)) (by omega) (by omega) (by omega)) (oO (show s = IntKind.u32.wrap (1000000000 / (((Lm.digs (Int.natAbs b)).getD ((Lm.digs (Int.natAbs b)).length - 1) 0) + 1)) by rw [← hsd]; exact (K6 (by omega) (by omega)).symm) (oT 1 oN)))))))))) (oS (oT 2 (oO (show CS Tryz.prog 249 [Xj (Lm.digs (Int.natAbs b)), kw s] (Xj v) by rw [hv]; exact Xju _ s gb (by omega) hs1 (by omega)) (oT 1 oN))) (oS (oT 2 (oO (aI trivial (Yx _ : ((v.length : Nat) : Int) = (((uw v).length : Nat) : Int))) (oO (Xax (Yw (by omega) (by omega)) (by omega) : Jx .sub .i64 ((v.length : Nat) : Int) 1 = some ((v.length - 1 : Nat) : Int) ∧ ((BinOp.sub = .quo ∨ BinOp.sub = .rem) → 1 ≠ (0 : Int))) (oO (J0 (v.length - 1) (by omega) (Zj (by (try simp only [List.length_set, List.length_append, List.length_cons, List.length_nil, List.length_replicate]); omega)) : (0 : Int) ≤ ((v.length - 1 : Nat) : Int) ∧ (uw v)[Int.toNat ((v.length - 1 : Nat) : Int)]? = some (kw (v.getD (v.length - 1) 0))) (oT 1 (oO ((Jj (by omega) (by omega)).symm : (v.getD (v.length - 1) 0) = IntKind.u64.wrap (v.getD (v.length - 1) 0)) (oT 1 oN))))))) (oS (oT 1 oN) (oS (oT 1 (oO (aI trivial (Yx _ : (((Lm.digs (Int.natAbs a)).length : Nat) : Int) = (((uw (Lm.digs (Int.natAbs a))).length : Nat) : Int))) (oO (X3 (x := (((Lm.digs (Int.natAbs a)).length : Nat) : Int)) (y := 1) (by omega) (by omega)) (oO (aI (show (0 : Int) ≤ (((Lm.digs (Int.natAbs a)).length + 1 : Nat) : Int) ∧ ((((Lm.digs (Int.natAbs a)).length + 1 : Nat) : Int) : Int) ≤ (((Lm.digs (Int.natAbs a)).length + 1 : Nat) : Int) ∧ 4 * Int.toNat (((Lm.digs (Int.natAbs a)).length + 1 : Nat) : Int) ≤ 281474976710656 by omega) (Xic ((Lm.digs (Int.natAbs a)).length + 1) (by omega) : (uw (List.replicate ((Lm.digs (Int.natAbs a)).length + 1) 0)) = List.replicate (Int.toNat (((Lm.digs (Int.natAbs a)).length + 1 : Nat) : Int)) (kw 0))) (oT 1 oN))))) (oS (oT 2 (oO (show CS Tryz.prog 249 [Xj (Lm.digs (Int.natAbs a)), kw s] (Xj u) by rw [hu]; exact Xju _ s ga (by omega) hs1 (by omega)) (oT 1 oN))) (oS (oT 2 (oO (aI trivial (Yx _ : ((u.length : Nat) : Int) = (((uw u).length : Nat) : Int))) (oO (aI (aI (rfl : 0 = 0) (aI (show ((u.length : Nat) : Int) = ((u.length : Nat) : Int) by omega) (aI (rfl : u.length = u.length) (aI (show 0 ≤ u.length by omega) (show u.length ≤ (uw (List.replicate ((Lm.digs (Int.natAbs a)).length + 1) 0)).length by simp only [J1]; omega))))) (Xii _ _ : (uw ((List.replicate ((Lm.digs (Int.natAbs a)).length + 1) 0).take u.length)) = ((uw (List.replicate ((Lm.digs (Int.natAbs a)).length + 1) 0)).take u.length).drop 0)) (oT 1 (oA [.tup [ki (((Lm.digs (Int.natAbs b)).length : Nat) : Int)], ki (((Lm.digs (Int.natAbs b)).length - 1 : Nat) : Int), kw ((Lm.digs (Int.natAbs b)).getD ((Lm.digs (Int.natAbs b)).length - 1) 0), ku ((Lm.digs (Int.natAbs b)).getD ((Lm.digs (Int.natAbs b)).length - 1) 0), ku (((Lm.digs (Int.natAbs b)).getD ((Lm.digs (Int.natAbs b)).length - 1) 0) + 1), ku (1000000000 / (((Lm.digs (Int.natAbs b)).getD ((Lm.digs (Int.natAbs b)).length - 1) 0) + 1)), kw s, Xj v, .tup [ki ((v.length : Nat) : Int)], ki ((v.length - 1 : Nat) : Int), kw (v.getD (v.length - 1) 0), ku (v.getD (v.length - 1) 0), .tup [ki (((Lm.digs (Int.natAbs a)).length : Nat) : Int)], ki (((Lm.digs (Int.natAbs a)).length + 1 : Nat) : Int), .tup [.sl 1 (uw (List.replicate ((Lm.digs (Int.natAbs a)).length + 1) 0))], Xj u, .tup [ki ((u.length : Nat) : Int)], .tup [.sl 1 (uw ((List.replicate ((Lm.digs (Int.natAbs a)).length + 1) 0).take u.length))], ki ((0 : Nat) : Int), ki ((u.length : Nat) : Int)] oN))))) oN))))))) ?_
 refine Xe ?_
 refine rt [tv 4 .nil, tv 5 .nil, tv 8 (kw s), tv 9 (Xj v), tv 10 (ku (v.getD (v.length - 1) 0)), tv 11 .nil, tv 12 (Xj ((List.replicate ((Lm.digs (Int.natAbs a)).length + 1) 0).take u.length)), tv 13 (Xj u), tv 14 (ki (((u.length : Nat) : Int) - 1))] (oT 1 (oO (aI trivial (Yx _ : ((u.length : Nat) : Int) = (((uw u).length : Nat) : Int))) (oO (Yw (x := ((u.length : Nat) : Int)) (y := 1) (by omega) (by omega)) (oT 1 (oA [.tup [ki ((u.length : Nat) : Int)], ki (((u.length : Nat) : Int) - 1)] oN))))) ?_
 refine X6 ?_
 refine Z0 (fun n0 l0 => (True) ∧ 0 = n0 ∧ l0 = [tv 4 .nil, tv 5 .nil, tv 8 (kw s), tv 9 (Xj v), tv 10 (ku (v.getD (v.length - 1) 0)), tv 11 .nil, tv 12 (Xj ((List.replicate ((Lm.digs (Int.natAbs a)).length + 1) 0).take u.length)), tv 13 (Xj u), tv 14 (ki (((u.length : Nat) : Int) - 1))]) (n := 0) (by kernel_rfl) ⟨trivial, rfl, (by kernel_rfl)⟩ ?_
 rintro n0 l0 ⟨_, rfl, rfl⟩
 refine Xe ?_
 refine rt [tv 4 .nil, tv 5 .nil, tv 8 (kw s), tv 9 (Xj v), tv 10 (ku (v.getD (v.length - 1) 0)), tv 11 .nil, tv 12 (Xj ((List.replicate ((Lm.digs (Int.natAbs a)).length + 1) 0).take u.length)), tv 13 (Xj u), tv 14 (ki (((u.length : Nat) : Int) - 1)), tv 76 (.bool false)] (oT 1 (oO (aI trivial (hq : (decide (0 ≤ (((u.length : Nat) : Int) - 1))) = false)) (oA [cT false] oN))) ?_
 refine cB (false) (fun h => Bool.noConfusion h) (fun _ => ?_)
 refine Z3 ?_
 refine sh 2 [tv 4 .nil, tv 5 .nil, tv 8 (kw s), tv 11 .nil, tv 12 (Xj ((List.replicate ((Lm.digs (Int.natAbs a)).length + 1) 0).take u.length)), tv 18 (ku 0), tv 19 (.own 141 1), ov 141 (Xj [])] (oS (oT 1 oN) (oS (oT 1 (oO (aI trivial (rfl : (0 : Int) = ((0 : Nat) : Int))) (oO (aI (show (0 : Int) ≤ 0 ∧ (0 : Int) ≤ 0 ∧ 4 * Int.toNat 0 ≤ 281474976710656 by omega) (rfl : (uw ([])) = List.replicate (Int.toNat 0) (kw 0))) (oT 1 (oA [.tup [ki 0], .tup [.sl 1 (uw ([]))]] oN))))) oN)) ?_
 refine Xe ?_
 refine rt [tv 4 .nil, tv 5 .nil, tv 8 (kw s), tv 11 .nil, tv 12 (Xj ((List.replicate ((Lm.digs (Int.natAbs a)).length + 1) 0).take u.length)), tv 18 (ku 0), tv 19 (.own 141 1), tv 20 (ki (-1)), ov 141 (Xj [])] (oT 1 (oO (aI trivial (rfl : (0 : Int) = ((0 : Nat) : Int))) (oO (aI (by decide : Jx .sub .i64 0 1 = some (-1)) (by decide : (BinOp.sub = .quo ∨ BinOp.sub = .rem) → 1 ≠ (0 : Int))) (oT 1 (oA [.tup [ki 0], ki (-1)] oN))))) ?_
 refine X6 ?_
 refine Z0 (fun n0 l0 => (True) ∧ 0 = n0 ∧ l0 = [tv 4 .nil, tv 5 .nil, tv 8 (kw s), tv 11 .nil, tv 12 (Xj ((List.replicate ((Lm.digs (Int.natAbs a)).length + 1) 0).take u.length)), tv 18 (ku 0), tv 19 (.own 141 1), tv 20 (ki (-1)), ov 141 (Xj [])]) (n := 0) (by kernel_rfl) ⟨trivial, rfl, (by kernel_rfl)⟩ ?_
 rintro n0 l0 ⟨_, rfl, rfl⟩
 refine Xe ?_
 refine rt [tv 4 .nil, tv 5 .nil, tv 8 (kw s), tv 11 .nil, tv 12 (Xj ((List.replicate ((Lm.digs (Int.natAbs a)).length + 1) 0).take u.length)), tv 18 (ku 0), tv 19 (.own 141 1), tv 20 (ki (-1)), tv 146 (.bool false), ov 141 (Xj [])] (oT 1 (oO (aI trivial (by decide : (decide ((0 : Int) ≤ (-1))) = false)) (oA [cT false] oN))) ?_
 refine cB (false) (fun h => Bool.noConfusion h) (fun _ => ?_)
 refine Z3 ?_
 refine rt [tv 4 (Xj (Lm.trim ((List.replicate ((Lm.digs (Int.natAbs a)).length + 1) 0).take u.length))), tv 5 (Xj (Lm.trim ([])))] (oT 1 (oO (Xbn _ (by (try simp only [List.length_take, List.length_nil]); omega) : CS Tryz.prog 185 [Xj ((List.replicate ((Lm.digs (Int.natAbs a)).length + 1) 0).take u.length)] (Xj (Lm.trim ((List.replicate ((Lm.digs (Int.natAbs a)).length + 1) 0).take u.length)))) (oT 1 (oO (Xbn _ (by (try simp only [List.length_take, List.length_nil]); omega) : CS Tryz.prog 185 [Xj []] (Xj (Lm.trim ([])))) (oT 2 (oA [Xj (Lm.trim ((List.replicate ((Lm.digs (Int.natAbs a)).length + 1) 0).take u.length)), Xj (Lm.trim ([]))] oN)))))) ?_
 refine Xg ?_
 exact X7i ((.tup [Xj (Lm.trim ((List.replicate ((Lm.digs (Int.natAbs a)).length + 1) 0).take u.length)), Xj (Lm.trim ([]))])) (by rw [haz, haz2, hu0]; simp [Lm.digs_zero, Lm.trim])
theorem Xj4 (a b : Int) (ha : 0 ≤ a := by omega) (hb : 0 < b := by omega) (hs : X66 a + X66 b ≤ 1099511627776 := by omega) : CS Tryz.prog 187 [Xj (Lm.digs (Int.natAbs a)), Xj (Lm.digs (Int.natAbs b))] (.tup [Xj (Lm.digs (a / b).natAbs), Xj (Lm.digs (a % b).natAbs)]) := by
  by_cases h : a = 0
  · exact Xru a b h hb hs
  · exact Xr0 a b (by omega) hb hs
end Am
end Go.Proofs.YtmlgfablnbbceaaGreat

